/- Lemmas for the law: an abstract machine, and what the functions do on it. No condition. -/
import Derived.Test.YtdcbkjgoaknmkaaGreatGT7
import Derived.Test.YtdcbkjgoaknmkaaGreatProg
set_option linter.all false
open Go.Value renaming int → qk2, pointer → qk8, slice → qll, bool → ql1, agg → ql4
open Go.IntKind renaming wrap → qk3, bits → ql3
open Go.Addr renaming add → qk4
open List renaming getElem?_eq_getElem → qk5, getD_eq_getElem?_getD → qk6, getElem?_eq_none → qlb, getElem?_eq_some_iff → qld, length → qlh, length_cons → qli, getElem_mem → qlk, getElem?_set_ne → qls, ext_getElem? → qlt, toArray → qlF, length_eq_zero_iff → qlG, all → qlH, getElem?_set_self → qlL, range → qlN, flatMap_cons → qlR, getElem?_take → qlT, getElem?_drop → qlU, map_cons → ql6, range_succ → qme, map_append → qmm
open Int renaming toNat_natCast → qk9, toNat → qla, eq_ofNat_of_zero_le → qlr, tdiv_eq_ediv_of_nonneg → qlP, tmod → ql5, tdiv → qmr
open Nat renaming le_refl → qlc, zero_add → qlo, lt_of_lt_of_le → qmh
open Bool renaming false_eq_true → qle, not_eq_true' → qmg
open Option renaming isSome_none → qln, isNone → qlA, getD_some → qlE, toList_some → qmv
open Go.Abs renaming Rows → qlu
open BitVec renaming ofInt → qlS
namespace Go.Proofs.YtdcbkjgoaknmkaaGreat
open Go Go.Abs
set_option linter.unusedVariables false
set_option maxRecDepth 100000
def tyL : List (Nat × TyE) := [
 (3, { k := .int .i64, sub := .none, size := 1, bytes := 8, zero := [(qk2 .i64 (0 : Int))], eqs := false }),
 (4, { k := .bool, sub := .none, size := 1, bytes := 1, zero := [(ql1 false)], eqs := false }),
 (5, { k := .int .u8, sub := .none, size := 1, bytes := 1, zero := [(qk2 .u8 (0 : Int))], eqs := false }),
 (9, { k := .str, sub := .none, size := 1, bytes := 16, zero := [(Value.string ⟨#[]⟩)], eqs := false }),
 (23, { k := .agg, sub := (.fields [(0, 3), (1, 3), (2, 3), (3, 3)]), size := 4, bytes := 32, zero := [(qk2 .i64 (0 : Int)), (qk2 .i64 (0 : Int)), (qk2 .i64 (0 : Int)), (qk2 .i64 (0 : Int))], eqs := true }),
 (24, { k := .sl, sub := (.elem 3), size := 1, bytes := 24, zero := [(qll none 0 0)], eqs := false }),
 (26, { k := .int .u64, sub := .none, size := 1, bytes := 8, zero := [(qk2 .u64 (0 : Int))], eqs := false }),
 (28, { k := .ptr, sub := (.elem 78), size := 1, bytes := 8, zero := [(qk8 none)], eqs := false }),
 (31, { k := .int .i64, sub := .none, size := 1, bytes := 8, zero := [(qk2 .i64 (0 : Int))], eqs := false }),
 (33, { k := .ptr, sub := (.elem 96), size := 1, bytes := 8, zero := [(qk8 none)], eqs := false }),
 (36, { k := .sl, sub := (.elem 5), size := 1, bytes := 24, zero := [(qll none 0 0)], eqs := false }),
 (38, { k := .agg, sub := (.fields [(0, 31), (1, 3), (2, 36)]), size := 3, bytes := 40, zero := [(qk2 .i64 (0 : Int)), (qk2 .i64 (0 : Int)), (qll none 0 0)], eqs := false }),
 (41, { k := .agg, sub := (.fields [(0, 3), (1, 3), (2, 3), (3, 3), (4, 36)]), size := 5, bytes := 56, zero := [(qk2 .i64 (0 : Int)), (qk2 .i64 (0 : Int)), (qk2 .i64 (0 : Int)), (qk2 .i64 (0 : Int)), (qll none 0 0)], eqs := false }),
 (44, { k := .sl, sub := (.elem 38), size := 1, bytes := 24, zero := [(qll none 0 0)], eqs := false }),
 (47, { k := .sl, sub := (.elem 41), size := 1, bytes := 24, zero := [(qll none 0 0)], eqs := false }),
 (51, { k := .ptr, sub := (.elem 106), size := 1, bytes := 8, zero := [(qk8 none)], eqs := false }),
 (64, { k := .ptr, sub := (.elem 115), size := 1, bytes := 8, zero := [(qk8 none)], eqs := false }),
 (67, { k := .sl, sub := (.elem 26), size := 1, bytes := 24, zero := [(qll none 0 0)], eqs := false }),
 (70, { k := .sl, sub := (.elem 121), size := 1, bytes := 24, zero := [(qll none 0 0)], eqs := false }),
 (75, { k := .sl, sub := (.elem 82), size := 1, bytes := 24, zero := [(qll none 0 0)], eqs := false }),
 (76, { k := .agg, sub := (.arr 35 26), size := 35, bytes := 280, zero := [(qk2 .u64 (0 : Int)), (qk2 .u64 (0 : Int)), (qk2 .u64 (0 : Int)), (qk2 .u64 (0 : Int)), (qk2 .u64 (0 : Int)), (qk2 .u64 (0 : Int)), (qk2 .u64 (0 : Int)), (qk2 .u64 (0 : Int)), (qk2 .u64 (0 : Int)), (qk2 .u64 (0 : Int)), (qk2 .u64 (0 : Int)), (qk2 .u64 (0 : Int)), (qk2 .u64 (0 : Int)), (qk2 .u64 (0 : Int)), (qk2 .u64 (0 : Int)), (qk2 .u64 (0 : Int)), (qk2 .u64 (0 : Int)), (qk2 .u64 (0 : Int)), (qk2 .u64 (0 : Int)), (qk2 .u64 (0 : Int)), (qk2 .u64 (0 : Int)), (qk2 .u64 (0 : Int)), (qk2 .u64 (0 : Int)), (qk2 .u64 (0 : Int)), (qk2 .u64 (0 : Int)), (qk2 .u64 (0 : Int)), (qk2 .u64 (0 : Int)), (qk2 .u64 (0 : Int)), (qk2 .u64 (0 : Int)), (qk2 .u64 (0 : Int)), (qk2 .u64 (0 : Int)), (qk2 .u64 (0 : Int)), (qk2 .u64 (0 : Int)), (qk2 .u64 (0 : Int)), (qk2 .u64 (0 : Int))], eqs := true }),
 (78, { k := .agg, sub := (.fields [(0, 75), (1, 76), (36, 3), (37, 3), (38, 3), (39, 4)]), size := 40, bytes := 336, zero := [(qll none 0 0), (qk2 .u64 (0 : Int)), (qk2 .u64 (0 : Int)), (qk2 .u64 (0 : Int)), (qk2 .u64 (0 : Int)), (qk2 .u64 (0 : Int)), (qk2 .u64 (0 : Int)), (qk2 .u64 (0 : Int)), (qk2 .u64 (0 : Int)), (qk2 .u64 (0 : Int)), (qk2 .u64 (0 : Int)), (qk2 .u64 (0 : Int)), (qk2 .u64 (0 : Int)), (qk2 .u64 (0 : Int)), (qk2 .u64 (0 : Int)), (qk2 .u64 (0 : Int)), (qk2 .u64 (0 : Int)), (qk2 .u64 (0 : Int)), (qk2 .u64 (0 : Int)), (qk2 .u64 (0 : Int)), (qk2 .u64 (0 : Int)), (qk2 .u64 (0 : Int)), (qk2 .u64 (0 : Int)), (qk2 .u64 (0 : Int)), (qk2 .u64 (0 : Int)), (qk2 .u64 (0 : Int)), (qk2 .u64 (0 : Int)), (qk2 .u64 (0 : Int)), (qk2 .u64 (0 : Int)), (qk2 .u64 (0 : Int)), (qk2 .u64 (0 : Int)), (qk2 .u64 (0 : Int)), (qk2 .u64 (0 : Int)), (qk2 .u64 (0 : Int)), (qk2 .u64 (0 : Int)), (qk2 .u64 (0 : Int)), (qk2 .i64 (0 : Int)), (qk2 .i64 (0 : Int)), (qk2 .i64 (0 : Int)), (ql1 false)], eqs := false }),
 (80, { k := .agg, sub := (.arr 8 26), size := 8, bytes := 64, zero := [(qk2 .u64 (0 : Int)), (qk2 .u64 (0 : Int)), (qk2 .u64 (0 : Int)), (qk2 .u64 (0 : Int)), (qk2 .u64 (0 : Int)), (qk2 .u64 (0 : Int)), (qk2 .u64 (0 : Int)), (qk2 .u64 (0 : Int))], eqs := true }),
 (82, { k := .agg, sub := (.fields [(0, 80), (8, 3), (9, 3)]), size := 10, bytes := 80, zero := [(qk2 .u64 (0 : Int)), (qk2 .u64 (0 : Int)), (qk2 .u64 (0 : Int)), (qk2 .u64 (0 : Int)), (qk2 .u64 (0 : Int)), (qk2 .u64 (0 : Int)), (qk2 .u64 (0 : Int)), (qk2 .u64 (0 : Int)), (qk2 .i64 (0 : Int)), (qk2 .i64 (0 : Int))], eqs := false }),
 (85, { k := .ptr, sub := (.elem 128), size := 1, bytes := 8, zero := [(qk8 none)], eqs := false }),
 (93, { k := .ptr, sub := (.elem 131), size := 1, bytes := 8, zero := [(qk8 none)], eqs := false }),
 (94, { k := .ptr, sub := (.elem 140), size := 1, bytes := 8, zero := [(qk8 none)], eqs := false }),
 (96, { k := .agg, sub := (.fields [(0, 28), (1, 23), (5, 85), (6, 93), (7, 94), (8, 4)]), size := 9, bytes := 72, zero := [(qk8 none), (qk2 .i64 (0 : Int)), (qk2 .i64 (0 : Int)), (qk2 .i64 (0 : Int)), (qk2 .i64 (0 : Int)), (qk8 none), (qk8 none), (qk8 none), (ql1 false)], eqs := false }),
 (106, { k := .agg, sub := (.fields [(0, 23), (4, 28), (5, 33), (6, 3)]), size := 7, bytes := 56, zero := [(qk2 .i64 (0 : Int)), (qk2 .i64 (0 : Int)), (qk2 .i64 (0 : Int)), (qk2 .i64 (0 : Int)), (qk8 none), (qk8 none), (qk2 .i64 (0 : Int))], eqs := false }),
 (112, { k := .ptr, sub := (.elem 156), size := 1, bytes := 8, zero := [(qk8 none)], eqs := false }),
 (115, { k := .agg, sub := (.fields [(0, 112), (1, 4)]), size := 2, bytes := 16, zero := [(qk8 none), (ql1 false)], eqs := false }),
 (121, { k := .agg, sub := (.fields [(0, 3), (1, 3), (2, 4)]), size := 3, bytes := 24, zero := [(qk2 .i64 (0 : Int)), (qk2 .i64 (0 : Int)), (ql1 false)], eqs := true }),
 (126, { k := .ptr, sub := (.elem 173), size := 1, bytes := 8, zero := [(qk8 none)], eqs := false }),
 (128, { k := .agg, sub := (.fields [(0, 28), (1, 126), (2, 3), (3, 3), (4, 3)]), size := 5, bytes := 40, zero := [(qk8 none), (qk8 none), (qk2 .i64 (0 : Int)), (qk2 .i64 (0 : Int)), (qk2 .i64 (0 : Int))], eqs := false }),
 (131, { k := .agg, sub := (.fields [(0, 28), (1, 85)]), size := 2, bytes := 16, zero := [(qk8 none), (qk8 none)], eqs := false }),
 (132, { k := .sl, sub := (.elem 164), size := 1, bytes := 24, zero := [(qll none 0 0)], eqs := false }),
 (140, { k := .agg, sub := (.fields [(0, 3), (1, 24), (2, 24)]), size := 3, bytes := 56, zero := [(qk2 .i64 (0 : Int)), (qll none 0 0), (qll none 0 0)], eqs := false }),
 (142, { k := .sl, sub := (.elem 190), size := 1, bytes := 24, zero := [(qll none 0 0)], eqs := false }),
 (154, { k := .sl, sub := (.elem 168), size := 1, bytes := 24, zero := [(qll none 0 0)], eqs := false }),
 (156, { k := .agg, sub := (.fields [(0, 3), (1, 154), (2, 3)]), size := 3, bytes := 40, zero := [(qk2 .i64 (0 : Int)), (qll none 0 0), (qk2 .i64 (0 : Int))], eqs := false }),
 (164, { k := .agg, sub := (.fields [(0, 3), (1, 80)]), size := 9, bytes := 72, zero := [(qk2 .i64 (0 : Int)), (qk2 .u64 (0 : Int)), (qk2 .u64 (0 : Int)), (qk2 .u64 (0 : Int)), (qk2 .u64 (0 : Int)), (qk2 .u64 (0 : Int)), (qk2 .u64 (0 : Int)), (qk2 .u64 (0 : Int)), (qk2 .u64 (0 : Int))], eqs := false }),
 (168, { k := .agg, sub := (.fields [(0, 3), (1, 3), (2, 36)]), size := 3, bytes := 40, zero := [(qk2 .i64 (0 : Int)), (qk2 .i64 (0 : Int)), (qll none 0 0)], eqs := false }),
 (173, { k := .agg, sub := (.fields [(0, 28), (1, 3), (2, 3)]), size := 3, bytes := 24, zero := [(qk8 none), (qk2 .i64 (0 : Int)), (qk2 .i64 (0 : Int))], eqs := false }),
 (181, { k := .any, sub := .none, size := 1, bytes := 8, zero := [Value.nilFunc], eqs := false }),
 (190, { k := .agg, sub := (.fields [(0, 3), (1, 26)]), size := 2, bytes := 16, zero := [(qk2 .i64 (0 : Int)), (qk2 .u64 (0 : Int))], eqs := true }),
 (211, { k := .sl, sub := (.elem 80), size := 1, bytes := 24, zero := [(qll none 0 0)], eqs := false }),
 (225, { k := .any, sub := .none, size := 1, bytes := 8, zero := [Value.nilFunc], eqs := false }),
 (0, { k := .bad, sub := .tup [], size := 0, bytes := 0, zero := [], eqs := false }),
 (34, { k := .bad, sub := .tup [33, 31], size := 0, bytes := 0, zero := [], eqs := false }),
 (45, { k := .bad, sub := .tup [44, 31], size := 0, bytes := 0, zero := [], eqs := false }),
 (52, { k := .bad, sub := .tup [51, 31], size := 0, bytes := 0, zero := [], eqs := false }),
 (68, { k := .bad, sub := .tup [67, 31], size := 0, bytes := 0, zero := [], eqs := false }),
 (71, { k := .bad, sub := .tup [70, 4], size := 0, bytes := 0, zero := [], eqs := false }),
 (83, { k := .bad, sub := .tup [26, 31], size := 0, bytes := 0, zero := [], eqs := false }),
 (88, { k := .bad, sub := .tup [80, 31], size := 0, bytes := 0, zero := [], eqs := false }),
 (110, { k := .bad, sub := .tup [41, 4], size := 0, bytes := 0, zero := [], eqs := false }),
 (116, { k := .bad, sub := .tup [36, 31], size := 0, bytes := 0, zero := [], eqs := false }),
 (118, { k := .bad, sub := .tup [3, 4, 4], size := 0, bytes := 0, zero := [], eqs := false }),
 (133, { k := .bad, sub := .tup [132, 31], size := 0, bytes := 0, zero := [], eqs := false }),
 (137, { k := .bad, sub := .tup [70, 3], size := 0, bytes := 0, zero := [], eqs := false }),
 (143, { k := .bad, sub := .tup [142, 3, 31], size := 0, bytes := 0, zero := [], eqs := false }),
 (148, { k := .bad, sub := .tup [142, 31], size := 0, bytes := 0, zero := [], eqs := false }),
 (170, { k := .bad, sub := .tup [3, 67, 31], size := 0, bytes := 0, zero := [], eqs := false }),
 (174, { k := .bad, sub := .tup [3, 3], size := 0, bytes := 0, zero := [], eqs := false }),
 (187, { k := .bad, sub := .tup [3, 4], size := 0, bytes := 0, zero := [], eqs := false }),
 (191, { k := .bad, sub := .tup [190, 4], size := 0, bytes := 0, zero := [], eqs := false }),
 (194, { k := .bad, sub := .tup [36, 4], size := 0, bytes := 0, zero := [], eqs := false }),
 (196, { k := .bad, sub := .tup [142, 4], size := 0, bytes := 0, zero := [], eqs := false }),
 (212, { k := .bad, sub := .tup [3, 3, 4], size := 0, bytes := 0, zero := [], eqs := false })]
def T : Nat → TyE := tyLook tyL
theorem hT : qO Tryz.prog T := qjO (by kernel_rfl)
theorem hm : Tryz.prog.follows .mixedOrders = true := by kernel_rfl
def pan (f : Nat) : Bool := ([63, 64, 65, 66, 67, 68, 69, 108, 110, 113, 114] : List Nat).contains f
def log_May (x0 : Int) (x1 : Sl) (H : AH) (k : Bool → AH → Prop) : Prop :=
 qg Tryz.prog 104 [(qk2 .i64 x0), (Sl.val x1)] H fun e H' => in1 .bool e qm (fun r0 => k r0 H')
def qt (x0 : Option Addr) (x1 : List Value) (H : AH) (k : List Value → AH → Prop) : Prop :=
 qg Tryz.prog 18 [(qk8 x0), (ql4 (qlF x1))] H fun e H' => in1 .agg e qm (fun r0 => k r0 H')
def qci (x0 : Sl) (H : AH) (k : AH → Prop) : Prop :=
 qg Tryz.prog 176 [(Sl.val x0)] H fun e H' => in0  e qm (k H')
def qbX (x0 : Sl) (H : AH) (k : Sl → AH → Prop) : Prop :=
 qg Tryz.prog 177 [(Sl.val x0)] H fun e H' => in1 .sl e qm (fun r0 => k r0 H')
def qq (x0 : Sl) (x1b0 : Option Addr) (x1b1 : Option Addr) (H : AH) (k : Int → AH → Prop) : Prop :=
 qg Tryz.prog 142 [(Sl.val x0), (Value.func (.func 193) #[] #[(qk8 x1b0), (qk8 x1b1)])] H fun e H' => in1 (.int .i64) e qm (fun r0 => k r0 H')
def qH (x0 : Sl) (x1b0 : Option Addr) (x1b1 : Option Addr) (H : AH) (k : Bool → AH → Prop) : Prop :=
 qg Tryz.prog 192 [(Sl.val x0), (Value.func (.func 193) #[] #[(qk8 x1b0), (qk8 x1b1)])] H fun e H' => in1 .bool e qm (fun r0 => k r0 H')
def qv (x0 : Sl) (x1b0 : Option Addr) (H : AH) (k : Int → AH → Prop) : Prop :=
 qg Tryz.prog 142 [(Sl.val x0), (Value.func (.func 143) #[] #[(qk8 x1b0)])] H fun e H' => in1 (.int .i64) e qm (fun r0 => k r0 H')
def qaP (x0 : Int) (x1 : Int) (x2 : Int) (x3 : Int) (H : AH) (k : List Value → AH → Prop) : Prop :=
 qg Tryz.prog 36 [(qk2 .i64 x0), (qk2 .i64 x1), (qk2 .i64 x2), (qk2 .i64 x3)] H fun e H' => in1 .agg e qm (fun r0 => k r0 H')
def qaS (x0 : List Value) (H : AH) (k : Bool → AH → Prop) : Prop :=
 qg Tryz.prog 48 [(ql4 (qlF x0))] H fun e H' => in1 .bool e qm (fun r0 => k r0 H')
def qbe (x0 : List Value) (H : AH) (k : Int → AH → Prop) : Prop :=
 qg Tryz.prog 49 [(ql4 (qlF x0))] H fun e H' => in1 (.int .i64) e qm (fun r0 => k r0 H')
def qa5 (x0 : List Value) (H : AH) (k : Int → AH → Prop) : Prop :=
 qg Tryz.prog 15 [(ql4 (qlF x0))] H fun e H' => in1 (.int .i64) e qm (fun r0 => k r0 H')
def nvm_New (x0 : Int) (x1 : Sl) (H : AH) (k : Option Addr → AH → Prop) : Prop :=
 qg Tryz.prog 14 [(qk2 .i64 x0), (Sl.val x1)] H fun e H' => in1 .ptr e qm (fun r0 => k r0 H')
def qT (x0 : Option Addr) (H : AH) (k : Int → AH → Prop) : Prop :=
 qg Tryz.prog 91 [(qk8 x0)] H fun e H' => in1 (.int .i64) e qm (fun r0 => k r0 H')
def qP (x0 : Option Addr) (H : AH) (k : Bool → AH → Prop) : Prop :=
 qg Tryz.prog 38 [(qk8 x0)] H fun e H' => in1 .bool e qm (fun r0 => k r0 H')
def qbn (x0 : Option Addr) (x1 : List Value) (H : AH) (k : Int → AH → Prop) : Prop :=
 qg Tryz.prog 50 [(qk8 x0), (ql4 (qlF x1))] H fun e H' => in1 (.int .i64) e qm (fun r0 => k r0 H')
def qas (x0 : Option Addr) (x1 : Int) (H : AH) (k : Bool → AH → Prop) : Prop :=
 qg Tryz.prog 92 [(qk8 x0), (qk2 .i64 x1)] H fun e H' => in1 .bool e qm (fun r0 => k r0 H')
def qF (x0 : Option Addr) (x1 : Int) (H : AH) (k : Int → Int → AH → Prop) : Prop :=
 qg Tryz.prog 51 [(qk8 x0), (qk2 .i64 x1)] H fun e H' => in2 (.int .u64) (.int .i64) e qm (fun r0 r1 => k r0 r1 H')
def qD (x0 : Option Addr) (H : AH) (k : Sl → Int → AH → Prop) : Prop :=
 qg Tryz.prog 158 [(qk8 x0)] H fun e H' => in2 .sl (.int .i64) e qm (fun r0 r1 => k r0 r1 H')
def qbT (x0 : Int) (H : AH) (k : Int → AH → Prop) : Prop :=
 qg Tryz.prog 140 [(qk2 .i64 x0)] H fun e H' => in1 (.int .u64) e qm (fun r0 => k r0 H')
def qaG (x0 : Sl) (x1 : Int) (H : AH) (k : Bool → AH → Prop) : Prop :=
 qg Tryz.prog 169 [(Sl.val x0), (qk2 .i64 x1)] H fun e H' => in1 .bool e qm (fun r0 => k r0 H')
def qaB (x0 : Option Addr) (x1 : Int) (x2 : Int) (H : AH) (k : Option Addr → AH → Prop) : Prop :=
 qg Tryz.prog 131 [(qk8 x0), (qk2 .i64 x1), (qk2 .i64 x2)] H fun e H' => in1 .ptr e qm (fun r0 => k r0 H')
def qaR (x0 : Option Addr) (x1 : Int) (x2 : Int) (x3 : Int) (H : AH) (k : Option Addr → AH → Prop) : Prop :=
 qg Tryz.prog 93 [(qk8 x0), (qk2 .i64 x1), (qk2 .i64 x2), (qk2 .i64 x3)] H fun e H' => in1 .ptr e qm (fun r0 => k r0 H')
def qbu (x0 : Option Addr) (x1 : List Value) (H : AH) (k : Option Addr → AH → Prop) : Prop :=
 qg Tryz.prog 52 [(qk8 x0), (ql4 (qlF x1))] H fun e H' => in1 .ptr e qm (fun r0 => k r0 H')
def qcf (x0 : List Value) (H : AH) (k : Int → AH → Prop) : Prop :=
 qg Tryz.prog 42 [(ql4 (qlF x0))] H fun e H' => in1 (.int .i64) e qm (fun r0 => k r0 H')
def qaU (x0 : Int) (H : AH) (k : Bool → AH → Prop) : Prop :=
 qg Tryz.prog 94 [(qk2 .i64 x0)] H fun e H' => in1 .bool e qm (fun r0 => k r0 H')
def qaY (x0 : Int) (H : AH) (k : Bool → AH → Prop) : Prop :=
 qg Tryz.prog 129 [(qk2 .i64 x0)] H fun e H' => in1 .bool e qm (fun r0 => k r0 H')
def qbq (x0 : Int) (x1 : Bool) (H : AH) (k : Int → AH → Prop) : Prop :=
 qg Tryz.prog 95 [(qk2 .i64 x0), (ql1 x1)] H fun e H' => in1 (.int .u64) e qm (fun r0 => k r0 H')
def qb3 (x0 : Int) (H : AH) (k : Sl → AH → Prop) : Prop :=
 qg Tryz.prog 53 [(qk2 .i64 x0)] H fun e H' => in1 .sl e qm (fun r0 => k r0 H')
def qba (x0 : List Value) (x1 : Int) (H : AH) (k : Int → AH → Prop) : Prop :=
 qg Tryz.prog 55 [(ql4 (qlF x0)), (qk2 .i64 x1)] H fun e H' => in1 (.int .i64) e qm (fun r0 => k r0 H')
def qaI (x0 : Option Addr) (x1 : Int) (H : AH) (k : Int → AH → Prop) : Prop :=
 qg Tryz.prog 96 [(qk8 x0), (qk2 .i64 x1)] H fun e H' => in1 (.int .i64) e qm (fun r0 => k r0 H')
def qa8 (x0 : Option Addr) (H : AH) (k : Int → AH → Prop) : Prop :=
 qg Tryz.prog 99 [(qk8 x0)] H fun e H' => in1 (.int .i64) e qm (fun r0 => k r0 H')
def gap_may (x0 : Int) (x1 : Int) (H : AH) (k : Bool → AH → Prop) : Prop :=
 qg Tryz.prog 134 [(qk2 .i64 x0), (qk2 .i64 x1)] H fun e H' => in1 .bool e qm (fun r0 => k r0 H')
def qcg (x0 : Int) (x1 : Int) (H : AH) (k : Int → AH → Prop) : Prop :=
 qg Tryz.prog 135 [(qk2 .i64 x0), (qk2 .i64 x1)] H fun e H' => in1 (.int .i64) e qm (fun r0 => k r0 H')
def gap_Gap (x0 : Int) (x1 : Int) (H : AH) (k : Int → AH → Prop) : Prop :=
 qg Tryz.prog 136 [(qk2 .i64 x0), (qk2 .i64 x1)] H fun e H' => in1 (.int .i64) e qm (fun r0 => k r0 H')
def qbA (x0 : Int) (x1 : Int) (x2 : Int) (H : AH) (k : Int → AH → Prop) : Prop :=
 qg Tryz.prog 98 [(qk2 .i64 x0), (qk2 .i64 x1), (qk2 .i64 x2)] H fun e H' => in1 (.int .i64) e qm (fun r0 => k r0 H')
def qan (x0 : Sl) (x1 : Int) (x2 : Int) (H : AH) (k : Int → AH → Prop) : Prop :=
 qg Tryz.prog 170 [(Sl.val x0), (qk2 .i64 x1), (qk2 .i64 x2)] H fun e H' => in1 (.int .i64) e qm (fun r0 => k r0 H')
def qad (x0 : Option Addr) (x1 : Int) (H : AH) (k : Int → Sl → Int → AH → Prop) : Prop :=
 qg Tryz.prog 132 [(qk8 x0), (qk2 .i64 x1)] H fun e H' => in3 (.int .i64) .sl (.int .i64) e qm (fun r0 r1 r2 => k r0 r1 r2 H')
def qaT (x0 : Option Addr) (x1 : Int) (H : AH) (k : Bool → AH → Prop) : Prop :=
 qg Tryz.prog 171 [(qk8 x0), (qk2 .i64 x1)] H fun e H' => in1 .bool e qm (fun r0 => k r0 H')
def qbg (x0 : Option Addr) (x1 : Int) (H : AH) (k : List Value → Int → AH → Prop) : Prop :=
 qg Tryz.prog 133 [(qk8 x0), (qk2 .i64 x1)] H fun e H' => in2 .agg (.int .i64) e qm (fun r0 r1 => k r0 r1 H')
def qbt (x0 : Option Addr) (x1 : Int) (H : AH) (k : List Value → Int → AH → Prop) : Prop :=
 qg Tryz.prog 97 [(qk8 x0), (qk2 .i64 x1)] H fun e H' => in2 .agg (.int .i64) e qm (fun r0 r1 => k r0 r1 H')
def qaK (x0 : Option Addr) (x1 : Int) (H : AH) (k : List Value → Int → AH → Prop) : Prop :=
 qg Tryz.prog 54 [(qk8 x0), (qk2 .i64 x1)] H fun e H' => in2 .agg (.int .i64) e qm (fun r0 r1 => k r0 r1 H')
def qaZ (x0 : Sl) (x1 : Int) (H : AH) (k : List Value → AH → Prop) : Prop :=
 qg Tryz.prog 56 [(Sl.val x0), (qk2 .i64 x1)] H fun e H' => in1 .agg e qm (fun r0 => k r0 H')
def qcw (x0 : Int) (x1 : Int) (H : AH) (k : Int → Int → AH → Prop) : Prop :=
 qg Tryz.prog 137 [(qk2 .i64 x0), (qk2 .i64 x1)] H fun e H' => in2 (.int .i64) (.int .i64) e qm (fun r0 r1 => k r0 r1 H')
def qaA (x0 : Option Addr) (H : AH) (k : Int → AH → Prop) : Prop :=
 qg Tryz.prog 156 [(qk8 x0)] H fun e H' => in1 (.int .i64) e qm (fun r0 => k r0 H')
def qbp (x0 : List Value) (x1 : List Value) (x2 : Int) (H : AH) (k : List Value → AH → Prop) : Prop :=
 qg Tryz.prog 172 [(ql4 (qlF x0)), (ql4 (qlF x1)), (qk2 .i64 x2)] H fun e H' => in1 .agg e qm (fun r0 => k r0 H')
def qaq (x0 : Option Addr) (x1 : Bool) (H : AH) (k : Int → AH → Prop) : Prop :=
 qg Tryz.prog 157 [(qk8 x0), (ql1 x1)] H fun e H' => in1 (.int .i64) e qm (fun r0 => k r0 H')
def qK (x0 : Option Addr) (x1 : Int) (x2 : List Value) (H : AH) (k : Int → AH → Prop) : Prop :=
 qg Tryz.prog 138 [(qk8 x0), (qk2 .i64 x1), (ql4 (qlF x2))] H fun e H' => in1 (.int .i64) e qm (fun r0 => k r0 H')
def qbd (x0 : Sl) (H : AH) (k : Int → AH → Prop) : Prop :=
 qg Tryz.prog 139 [(Sl.val x0)] H fun e H' => in1 (.int .i64) e qm (fun r0 => k r0 H')
def qB (x0 : Option Addr) (x1 : Int) (x2 : Int) (H : AH) (k : Int → AH → Prop) : Prop :=
 qg Tryz.prog 118 [(qk8 x0), (qk2 .i64 x1), (qk2 .u64 x2)] H fun e H' => in1 (.int .i64) e qm (fun r0 => k r0 H')
def qaj (x0 : Option Addr) (x1 : Int) (x2 : List Value) (H : AH) (k : Int → AH → Prop) : Prop :=
 qg Tryz.prog 101 [(qk8 x0), (qk2 .i64 x1), (ql4 (qlF x2))] H fun e H' => in1 (.int .i64) e qm (fun r0 => k r0 H')
def qbi (x0 : Option Addr) (H : AH) (k : Int → AH → Prop) : Prop :=
 qg Tryz.prog 100 [(qk8 x0)] H fun e H' => in1 (.int .i64) e qm (fun r0 => k r0 H')
def qam (x0 : Option Addr) (x1 : Int) (x2 : List Value) (H : AH) (k : Int → AH → Prop) : Prop :=
 qg Tryz.prog 57 [(qk8 x0), (qk2 .i64 x1), (ql4 (qlF x2))] H fun e H' => in1 (.int .i64) e qm (fun r0 => k r0 H')
def qG (x0 : Option Addr) (x1 : List Value) (H : AH) (k : Int → AH → Prop) : Prop :=
 qg Tryz.prog 16 [(qk8 x0), (ql4 (qlF x1))] H fun e H' => in1 (.int .i64) e qm (fun r0 => k r0 H')
def qax (x0 : Option Addr) (H : AH) (k : Int → AH → Prop) : Prop :=
 qg Tryz.prog 102 [(qk8 x0)] H fun e H' => in1 (.int .i64) e qm (fun r0 => k r0 H')
def log_New (x0 : Option Addr) (x1 : Option Addr) (H : AH) (k : Option Addr → AH → Prop) : Prop :=
 qg Tryz.prog 58 [(qk8 x0), (qk8 x1)] H fun e H' => in1 .ptr e qm (fun r0 => k r0 H')
def qb6 (x0 : Int) (H : AH) (k : Int → AH → Prop) : Prop :=
 qg Tryz.prog 141 [(qk2 .i64 x0)] H fun e H' => in1 (.int .i64) e qm (fun r0 => k r0 H')
def qab (x0 : Option Addr) (H : AH) (k : Sl → Int → AH → Prop) : Prop :=
 qg Tryz.prog 103 [(qk8 x0)] H fun e H' => in2 .sl (.int .i64) e qm (fun r0 r1 => k r0 r1 H')
def qag (x0 : Option Addr) (x1 : Sl) (H : AH) (k : Int → AH → Prop) : Prop :=
 qg Tryz.prog 105 [(qk8 x0), (Sl.val x1)] H fun e H' => in1 (.int .i64) e qm (fun r0 => k r0 H')
def qbN (x0 : Option Addr) (H : AH) (k : Int → AH → Prop) : Prop :=
 qg Tryz.prog 59 [(qk8 x0)] H fun e H' => in1 (.int .i64) e qm (fun r0 => k r0 H')
def qZ (x0 : Option Addr) (x1 : Int) (H : AH) (k : List Value → Int → AH → Prop) : Prop :=
 qg Tryz.prog 87 [(qk8 x0), (qk2 .i64 x1)] H fun e H' => in2 .agg (.int .i64) e qm (fun r0 r1 => k r0 r1 H')
def qV (x0 : Option Addr) (H : AH) (k : Sl → Int → AH → Prop) : Prop :=
 qg Tryz.prog 44 [(qk8 x0)] H fun e H' => in2 .sl (.int .i64) e qm (fun r0 r1 => k r0 r1 H')
def qa6 (x0 : Int) (H : AH) (k : Int → Bool → Bool → AH → Prop) : Prop :=
 qg Tryz.prog 88 [(qk2 .u64 x0)] H fun e H' => in3 (.int .i64) .bool .bool e qm (fun r0 r1 r2 => k r0 r1 r2 H')
def qS (x0 : Sl) (x1 : Int) (H : AH) (k : Bool → AH → Prop) : Prop :=
 qg Tryz.prog 89 [(Sl.val x0), (qk2 .i64 x1)] H fun e H' => in1 .bool e qm (fun r0 => k r0 H')
def qL (x0 : Sl) (H : AH) (k : Sl → Bool → AH → Prop) : Prop :=
 qg Tryz.prog 45 [(Sl.val x0)] H fun e H' => in2 .sl .bool e qm (fun r0 r1 => k r0 r1 H')
def qa0 (x0 : List Value) (H : AH) (k : Int → AH → Prop) : Prop :=
 qg Tryz.prog 144 [(ql4 (qlF x0))] H fun e H' => in1 (.int .i64) e qm (fun r0 => k r0 H')
def qbf (x0 : List Value) (x1 : Option Addr) (H : AH) (k : Bool → AH → Prop) : Prop :=
 qg Tryz.prog 143 [(ql4 (qlF x0)), (qk8 x1)] H fun e H' => in1 .bool e qm (fun r0 => k r0 H')
def qbU (x0 : Sl) (x1 : Int) (H : AH) (k : Sl → Int → AH → Prop) : Prop :=
 qg Tryz.prog 106 [(Sl.val x0), (qk2 .i64 x1)] H fun e H' => in2 .sl (.int .i64) e qm (fun r0 r1 => k r0 r1 H')
def qb9 (x0 : Sl) (x1 : Int) (H : AH) (k : Bool → AH → Prop) : Prop :=
 qg Tryz.prog 60 [(Sl.val x0), (qk2 .i64 x1)] H fun e H' => in1 .bool e qm (fun r0 => k r0 H')
def qb5 (x0 : Int) (H : AH) (k : Int → AH → Prop) : Prop :=
 qg Tryz.prog 107 [(qk2 .i64 x0)] H fun e H' => in1 (.int .i64) e qm (fun r0 => k r0 H')
def qce (x0 : List Value) (H : AH) (k : Int → AH → Prop) : Prop :=
 qg Tryz.prog 61 [(ql4 (qlF x0))] H fun e H' => in1 (.int .i64) e qm (fun r0 => k r0 H')
def qaN (x0 : Int) (x1 : Sl) (H : AH) (k : Option Addr → AH → Prop) : Prop :=
 qg Tryz.prog 62 [(qk2 .i64 x0), (Sl.val x1)] H fun e H' => in1 .ptr e qm (fun r0 => k r0 H')
def qU (x0 : Option Addr) (x1 : List Value) (H : AH) (k : Option Addr → Int → AH → Prop) : Prop :=
 qg Tryz.prog 17 [(qk8 x0), (ql4 (qlF x1))] H fun e H' => in2 .ptr (.int .i64) e qm (fun r0 r1 => k r0 r1 H')
def qaM (x0 : Option Addr) (H : AH) (k : Int → AH → Prop) : Prop :=
 qg Tryz.prog 72 [(qk8 x0)] H fun e H' => in1 (.int .i64) e qm (fun r0 => k r0 H')
def qbQ (x0 : List Value) (x1 : Sl) (H : AH) (k : Option Addr → Int → AH → Prop) : Prop :=
 qg Tryz.prog 24 [(ql4 (qlF x0)), (Sl.val x1)] H fun e H' => in2 .ptr (.int .i64) e qm (fun r0 r1 => k r0 r1 H')
def qR (x0 : Option Addr) (H : AH) (k : Int → AH → Prop) : Prop :=
 qg Tryz.prog 26 [(qk8 x0)] H fun e H' => in1 (.int .i64) e qm (fun r0 => k r0 H')
def qaH (x0 : Option Addr) (x1 : Int) (x2 : Int) (H : AH) (k : AH → Prop) : Prop :=
 qg Tryz.prog 120 [(qk8 x0), (qk2 .i64 x1), (qk2 .i64 x2)] H fun e H' => in0  e qm (k H')
def qar (x0 : Option Addr) (H : AH) (k : AH → Prop) : Prop :=
 qg Tryz.prog 121 [(qk8 x0)] H fun e H' => in0  e qm (k H')
def qaX (x0 : Option Addr) (x1 : List Value) (H : AH) (k : List Value → AH → Prop) : Prop :=
 qg Tryz.prog 73 [(qk8 x0), (ql4 (qlF x1))] H fun e H' => in1 .agg e qm (fun r0 => k r0 H')
def qbG (x0 : Option Addr) (x1 : List Value) (H : AH) (k : List Value → AH → Prop) : Prop :=
 qg Tryz.prog 28 [(qk8 x0), (ql4 (qlF x1))] H fun e H' => in1 .agg e qm (fun r0 => k r0 H')
def qa2 (x0 : Sl) (H : AH) (k : Int → AH → Prop) : Prop :=
 qg Tryz.prog 159 [(Sl.val x0)] H fun e H' => in1 (.int .i64) e qm (fun r0 => k r0 H')
def qbC (x0 : Option Addr) (H : AH) (k : Int → AH → Prop) : Prop :=
 qg Tryz.prog 119 [(qk8 x0)] H fun e H' => in1 (.int .i64) e qm (fun r0 => k r0 H')
def qbJ (x0 : Option Addr) (H : AH) (k : Int → AH → Prop) : Prop :=
 qg Tryz.prog 70 [(qk8 x0)] H fun e H' => in1 (.int .i64) e qm (fun r0 => k r0 H')
def qbI (x0 : Option Addr) (H : AH) (k : Int → AH → Prop) : Prop :=
 qg Tryz.prog 19 [(qk8 x0)] H fun e H' => in1 (.int .i64) e qm (fun r0 => k r0 H')
def qbs (x0 : Option Addr) (H : AH) (k : Bool → AH → Prop) : Prop :=
 qg Tryz.prog 71 [(qk8 x0)] H fun e H' => in1 .bool e qm (fun r0 => k r0 H')
def qbZ (x0 : Option Addr) (H : AH) (k : Bool → AH → Prop) : Prop :=
 qg Tryz.prog 20 [(qk8 x0)] H fun e H' => in1 .bool e qm (fun r0 => k r0 H')
def qJ (x0 : Sl) (H : AH) (k : List Value → Bool → AH → Prop) : Prop :=
 qg Tryz.prog 77 [(Sl.val x0)] H fun e H' => in2 .agg .bool e qm (fun r0 r1 => k r0 r1 H')
def qap (x0 : Sl) (H : AH) (k : Sl → AH → Prop) : Prop :=
 qg Tryz.prog 34 [(Sl.val x0)] H fun e H' => in1 .sl e qm (fun r0 => k r0 H')
def qbj (x0 : List Value) (x1 : Sl) (x2 : Sl) (H : AH) (k : Sl → Int → AH → Prop) : Prop :=
 qg Tryz.prog 21 [(ql4 (qlF x0)), (Sl.val x1), (Sl.val x2)] H fun e H' => in2 .sl (.int .i64) e qm (fun r0 r1 => k r0 r1 H')
def qu (x0 : Sl) (x1 : Sl) (H : AH) (k : Int → AH → Prop) : Prop :=
 qg Tryz.prog 23 [(Sl.val x0), (Sl.val x1)] H fun e H' => in1 (.int .i64) e qm (fun r0 => k r0 H')
def qaE (x0 : Option Addr) (H : AH) (k : Option Addr → AH → Prop) : Prop :=
 qg Tryz.prog 25 [(qk8 x0)] H fun e H' => in1 .ptr e qm (fun r0 => k r0 H')
def qbz (x0 : Option Addr) (H : AH) (k : Int → AH → Prop) : Prop :=
 qg Tryz.prog 29 [(qk8 x0)] H fun e H' => in1 (.int .i64) e qm (fun r0 => k r0 H')
def qcy (x0 : Int) (H : AH) (k : Bool → AH → Prop) : Prop :=
 qg Tryz.prog 74 [(qk2 .i64 x0)] H fun e H' => in1 .bool e qm (fun r0 => k r0 H')
def cost_of (x0 : Int) (x1 : Int) (H : AH) (k : Int → AH → Prop) : Prop :=
 qg Tryz.prog 75 [(qk2 .i64 x0), (qk2 .i64 x1)] H fun e H' => in1 (.int .i64) e qm (fun r0 => k r0 H')
def qbw (x0 : List Value) (H : AH) (k : Int → AH → Prop) : Prop :=
 qg Tryz.prog 76 [(ql4 (qlF x0))] H fun e H' => in1 (.int .i64) e qm (fun r0 => k r0 H')
def cost_Op (x0 : List Value) (x1 : Int) (H : AH) (k : Int → AH → Prop) : Prop :=
 qg Tryz.prog 31 [(ql4 (qlF x0)), (qk2 .i64 x1)] H fun e H' => in1 (.int .i64) e qm (fun r0 => k r0 H')
def qaD  (H : AH) (k : Bool → AH → Prop) : Prop :=
 qg Tryz.prog 32 [] H fun e H' => in1 .bool e qm (fun r0 => k r0 H')
def qaW (x0 : Option Addr) (H : AH) (k : Option Addr → AH → Prop) : Prop :=
 qg Tryz.prog 37 [(qk8 x0)] H fun e H' => in1 .ptr e qm (fun r0 => k r0 H')
def qau (x0 : Int) (H : AH) (k : Bool → AH → Prop) : Prop :=
 qg Tryz.prog 78 [(qk2 .i64 x0)] H fun e H' => in1 .bool e qm (fun r0 => k r0 H')
def qaf (x0 : Int) (H : AH) (k : Int → AH → Prop) : Prop :=
 qg Tryz.prog 39 [(qk2 .i64 x0)] H fun e H' => in1 (.int .i64) e qm (fun r0 => k r0 H')
def qf (x0 : List Value) (x1 : Sl) (x2 : Sl) (H : AH) (k : Bool → AH → Prop) : Prop :=
 qg Tryz.prog 9 [(ql4 (qlF x0)), (Sl.val x1), (Sl.val x2)] H fun e H' => in1 .bool e qm (fun r0 => k r0 H')
def qbK (x0 : Int) (H : AH) (k : Int → AH → Prop) : Prop :=
 qg Tryz.prog 109 [(qk2 .i64 x0)] H fun e H' => in1 (.int .i64) e qm (fun r0 => k r0 H')
def qQ (x0 : Sl) (x1 : Int) (H : AH) (k : Sl → AH → Prop) : Prop :=
 qg Tryz.prog 164 [(Sl.val x0), (qk2 .i64 x1)] H fun e H' => in1 .sl e qm (fun r0 => k r0 H')
def qbO (x0 : Int) (x1 : Int) (H : AH) (k : Int → AH → Prop) : Prop :=
 qg Tryz.prog 162 [(qk2 .i64 x0), (qk2 .i64 x1)] H fun e H' => in1 (.int .i64) e qm (fun r0 => k r0 H')
def qaa (x0 : Int) (H : AH) (pk : Value → AH → Prop) (k : AH → Prop) : Prop :=
 qg Tryz.prog 113 [(qk2 .i64 x0)] H fun e H' => in0  e (fun v => pk v H') (k H')
def qaJ (x0 : Option Addr) (H : AH) (pk : Value → AH → Prop) (k : Sl → AH → Prop) : Prop :=
 qg Tryz.prog 108 [(qk8 x0)] H fun e H' => in1 .sl e (fun v => pk v H') (fun r0 => k r0 H')
def qah (x0 : Option Addr) (H : AH) (pk : Value → AH → Prop) (k : AH → Prop) : Prop :=
 qg Tryz.prog 110 [(qk8 x0)] H fun e H' => in0  e (fun v => pk v H') (k H')
def qaz (x0 : Sl) (H : AH) (k : Sl → AH → Prop) : Prop :=
 qg Tryz.prog 147 [(Sl.val x0)] H fun e H' => in1 .sl e qm (fun r0 => k r0 H')
def qbL (x0 : Option Addr) (H : AH) (k : Sl → AH → Prop) : Prop :=
 qg Tryz.prog 112 [(qk8 x0)] H fun e H' => in1 .sl e qm (fun r0 => k r0 H')
def qbk (x0 : List Value) (x1 : Sl) (H : AH) (k : Int → AH → Prop) : Prop :=
 qg Tryz.prog 173 [(ql4 (qlF x0)), (Sl.val x1)] H fun e H' => in1 (.int .i64) e qm (fun r0 => k r0 H')
def qav (x0 : Sl) (x1 : Int) (x2 : Sl) (H : AH) (k : Int → AH → Prop) : Prop :=
 qg Tryz.prog 145 [(Sl.val x0), (qk2 .i64 x1), (Sl.val x2)] H fun e H' => in1 (.int .i64) e qm (fun r0 => k r0 H')
def qat (x0 : Sl) (H : AH) (k : Int → AH → Prop) : Prop :=
 qg Tryz.prog 189 [(Sl.val x0)] H fun e H' => in1 (.int .i64) e qm (fun r0 => k r0 H')
def qaQ (x0 : Sl) (x1 : Int) (x2 : Int) (H : AH) (k : Sl → AH → Prop) : Prop :=
 qg Tryz.prog 174 [(Sl.val x0), (qk2 .i64 x1), (qk2 .i64 x2)] H fun e H' => in1 .sl e qm (fun r0 => k r0 H')
def qX (x0 : Sl) (x1 : Int) (x2 : Int) (H : AH) (k : Sl → AH → Prop) : Prop :=
 qg Tryz.prog 146 [(Sl.val x0), (qk2 .i64 x1), (qk2 .i64 x2)] H fun e H' => in1 .sl e qm (fun r0 => k r0 H')
def qbF (x0 : Sl) (x1 : Int) (x2 : Sl) (H : AH) (k : Sl → Int → Int → AH → Prop) : Prop :=
 qg Tryz.prog 111 [(Sl.val x0), (qk2 .i64 x1), (Sl.val x2)] H fun e H' => in3 .sl (.int .i64) (.int .i64) e qm (fun r0 r1 r2 => k r0 r1 r2 H')
def qW (x0 : Sl) (H : AH) (k : Sl → AH → Prop) : Prop :=
 qg Tryz.prog 175 [(Sl.val x0)] H fun e H' => in1 .sl e qm (fun r0 => k r0 H')
def qaC (x0 : Sl) (x1 : Sl) (H : AH) (k : Sl → AH → Prop) : Prop :=
 qg Tryz.prog 148 [(Sl.val x0), (Sl.val x1)] H fun e H' => in1 .sl e qm (fun r0 => k r0 H')
def qay (x0 : Sl) (H : AH) (k : Sl → AH → Prop) : Prop :=
 qg Tryz.prog 149 [(Sl.val x0)] H fun e H' => in1 .sl e qm (fun r0 => k r0 H')
def qM (x0 : Option Addr) (x1 : Sl) (H : AH) (k : Int → AH → Prop) : Prop :=
 qg Tryz.prog 150 [(qk8 x0), (Sl.val x1)] H fun e H' => in1 (.int .i64) e qm (fun r0 => k r0 H')
def qbr (x0 : Option Addr) (x1 : Int) (H : AH) (k : Bool → AH → Prop) : Prop :=
 qg Tryz.prog 178 [(qk8 x0), (qk2 .i64 x1)] H fun e H' => in1 .bool e qm (fun r0 => k r0 H')
def qa4 (x0 : Option Addr) (x1 : Int) (H : AH) (k : Int → AH → Prop) : Prop :=
 qg Tryz.prog 179 [(qk8 x0), (qk2 .i64 x1)] H fun e H' => in1 (.int .i64) e qm (fun r0 => k r0 H')
def qac (x0 : Option Addr) (x1 : Int) (H : AH) (k : Int → Bool → AH → Prop) : Prop :=
 qg Tryz.prog 151 [(qk8 x0), (qk2 .i64 x1)] H fun e H' => in2 (.int .i64) .bool e qm (fun r0 r1 => k r0 r1 H')
def qA (x0 : Option Addr) (x1 : Sl) (x2 : Sl) (H : AH) (pk : Value → AH → Prop) (k : AH → Prop) : Prop :=
 qg Tryz.prog 114 [(qk8 x0), (Sl.val x1), (Sl.val x2)] H fun e H' => in0  e (fun v => pk v H') (k H')
def qbM (x0 : Option Addr) (x1 : Int) (H : AH) (pk : Value → AH → Prop) (k : Int → AH → Prop) : Prop :=
 qg Tryz.prog 64 [(qk8 x0), (qk2 .i64 x1)] H fun e H' => in1 (.int .i64) e (fun v => pk v H') (fun r0 => k r0 H')
def qae (x0 : Sl) (H : AH) (k : Int → AH → Prop) : Prop :=
 qg Tryz.prog 181 [(Sl.val x0)] H fun e H' => in1 (.int .i64) e qm (fun r0 => k r0 H')
def qz (x0 : Sl) (x1 : Int) (H : AH) (k : Int → Int → Bool → AH → Prop) : Prop :=
 qg Tryz.prog 180 [(Sl.val x0), (qk2 .i64 x1)] H fun e H' => in3 (.int .i64) (.int .i64) .bool e qm (fun r0 r1 r2 => k r0 r1 r2 H')
def qaV (x0 : Sl) (x1 : Int) (H : AH) (k : List Value → Bool → AH → Prop) : Prop :=
 qg Tryz.prog 152 [(Sl.val x0), (qk2 .i64 x1)] H fun e H' => in2 .agg .bool e qm (fun r0 r1 => k r0 r1 H')
def qcd (x0 : Sl) (x1 : Int) (H : AH) (k : Sl → Int → AH → Prop) : Prop :=
 qg Tryz.prog 115 [(Sl.val x0), (qk2 .i64 x1)] H fun e H' => in2 .sl (.int .i64) e qm (fun r0 r1 => k r0 r1 H')
def qbh (x0 : Option Addr) (H : AH) (pk : Value → AH → Prop) (k : Int → AH → Prop) : Prop :=
 qg Tryz.prog 69 [(qk8 x0)] H fun e H' => in1 (.int .i64) e (fun v => pk v H') (fun r0 => k r0 H')
def qb0 (x0 : Option Addr) (x1 : Int) (H : AH) (pk : Value → AH → Prop) (k : AH → Prop) : Prop :=
 qg Tryz.prog 65 [(qk8 x0), (qk2 .i64 x1)] H fun e H' => in0  e (fun v => pk v H') (k H')
def qa3 (x0 : List Value) (x1 : Option Addr) (x2 : Option Addr) (H : AH) (k : Bool → AH → Prop) : Prop :=
 qg Tryz.prog 193 [(ql4 (qlF x0)), (qk8 x1), (qk8 x2)] H fun e H' => in1 .bool e qm (fun r0 => k r0 H')
def qa9 (x0 : Sl) (x1 : Int) (x2 : Int) (H : AH) (k : Bool → AH → Prop) : Prop :=
 qg Tryz.prog 182 [(Sl.val x0), (qk2 .i64 x1), (qk2 .i64 x2)] H fun e H' => in1 .bool e qm (fun r0 => k r0 H')
def qbE (x0 : Sl) (x1 : Int) (x2 : Int) (H : AH) (k : Int → AH → Prop) : Prop :=
 qg Tryz.prog 153 [(Sl.val x0), (qk2 .i64 x1), (qk2 .i64 x2)] H fun e H' => in1 (.int .i64) e qm (fun r0 => k r0 H')
def qbD (x0 : Sl) (x1 : Int) (x2 : Int) (H : AH) (k : Bool → AH → Prop) : Prop :=
 qg Tryz.prog 183 [(Sl.val x0), (qk2 .i64 x1), (qk2 .i64 x2)] H fun e H' => in1 .bool e qm (fun r0 => k r0 H')
def qbB (x0 : Sl) (x1 : Int) (x2 : Int) (H : AH) (k : Sl → Bool → AH → Prop) : Prop :=
 qg Tryz.prog 154 [(Sl.val x0), (qk2 .i64 x1), (qk2 .i64 x2)] H fun e H' => in2 .sl .bool e qm (fun r0 r1 => k r0 r1 H')
def qcb (x0 : Sl) (x1 : Int) (x2 : Int) (H : AH) (k : Sl → Int → AH → Prop) : Prop :=
 qg Tryz.prog 116 [(Sl.val x0), (qk2 .i64 x1), (qk2 .i64 x2)] H fun e H' => in2 .sl (.int .i64) e qm (fun r0 r1 => k r0 r1 H')
def qbY (x0 : Option Addr) (x1 : Int) (x2 : Int) (H : AH) (pk : Value → AH → Prop) (k : Sl → AH → Prop) : Prop :=
 qg Tryz.prog 66 [(qk8 x0), (qk2 .i64 x1), (qk2 .i64 x2)] H fun e H' => in1 .sl e (fun v => pk v H') (fun r0 => k r0 H')
def qY (x0 : Sl) (x1 : Int) (x2 : Sl) (H : AH) (k : Sl → Bool → AH → Prop) : Prop :=
 qg Tryz.prog 155 [(Sl.val x0), (qk2 .i64 x1), (Sl.val x2)] H fun e H' => in2 .sl .bool e qm (fun r0 r1 => k r0 r1 H')
def qb2 (x0 : Sl) (x1 : Int) (x2 : Sl) (H : AH) (k : Sl → Int → AH → Prop) : Prop :=
 qg Tryz.prog 117 [(Sl.val x0), (qk2 .i64 x1), (Sl.val x2)] H fun e H' => in2 .sl (.int .i64) e qm (fun r0 r1 => k r0 r1 H')
def qbP (x0 : Option Addr) (x1 : Int) (x2 : Sl) (H : AH) (pk : Value → AH → Prop) (k : AH → Prop) : Prop :=
 qg Tryz.prog 67 [(qk8 x0), (qk2 .i64 x1), (Sl.val x2)] H fun e H' => in0  e (fun v => pk v H') (k H')
def qak (x0 : Option Addr) (x1 : Int) (H : AH) (pk : Value → AH → Prop) (k : AH → Prop) : Prop :=
 qg Tryz.prog 68 [(qk8 x0), (qk2 .i64 x1)] H fun e H' => in0  e (fun v => pk v H') (k H')
def qq.l1 (x0 : Sl) (x1b0 : Option Addr) (x1b1 : Option Addr) (k : Int → AH → Prop) (t2 : Int × Int) (HL2 : AH) (it2 : (Int × Int) → AH → Prop) : Prop :=
 bcase (decide ((t2.2 : Int) < ((x0.n : Nat) : Int))) ((0 ≤ t2.2 ∧ t2.2 < ((x0.n : Nat) : Int)) ∧ onPtr x0.a fun a14 => ldA HL2 (qk4 a14 (qla t2.2 * 3)) 3 fun c15 => qa3 c15 x1b0 x1b1 HL2 fun b16 H16 => bcase b16 (k t2.2 H16) (it2 (t2.1, (qk3 .i64 (t2.2 + (1 : Int)))) H16)) (k (-1 : Int) HL2)
def qq.b (x0 : Sl) (x1b0 : Option Addr) (x1b1 : Option Addr) (H : AH) (k : Int → AH → Prop) : Prop :=
 loopT (qq.l1 x0 x1b0 x1b1 k) (((0 : Int), (0 : Int)) : Int × Int) H
def qq.ann : Ann := { keep := fun r => match r with | 2 => [(4, .int .i64), (8, .int .i64)] | _ => [], ord := fun r => match r with  | _ => [] }
theorem qq.link {x0 : Sl} {x1b0 : Option Addr} {x1b1 : Option Addr} {H : AH} {k : Int → AH → Prop} (h : qq.b x0 x1b0 x1b1 H k) : qq x0 x1b0 x1b1 H k := lk1 pan hT hm Tryz.func142 (by kernel_rfl) (A := qq.ann) (by kernel_rfl) (by simp) (by kernel_rfl) h
def qH.b (x0 : Sl) (x1b0 : Option Addr) (x1b1 : Option Addr) (H : AH) (k : Bool → AH → Prop) : Prop :=
 qq x0 x1b0 x1b1 H fun n7 H7 => k (decide ((n7 : Int) ≥ (0 : Int))) H7
theorem qH.link {x0 : Sl} {x1b0 : Option Addr} {x1b1 : Option Addr} {H : AH} {k : Bool → AH → Prop} (h : qH.b x0 x1b0 x1b1 H k) : qH x0 x1b0 x1b1 H k := lk1 pan hT hm Tryz.func192 (by kernel_rfl) (A := ann0) (by kernel_rfl) (by simp) (by kernel_rfl) h
def qv.l1 (x0 : Sl) (x1b0 : Option Addr) (k : Int → AH → Prop) (t2 : Int × Int) (HL2 : AH) (it2 : (Int × Int) → AH → Prop) : Prop :=
 bcase (decide ((t2.2 : Int) < ((x0.n : Nat) : Int))) ((0 ≤ t2.2 ∧ t2.2 < ((x0.n : Nat) : Int)) ∧ onPtr x0.a fun a14 => ldA HL2 (qk4 a14 (qla t2.2 * 3)) 3 fun c15 => qbf c15 x1b0 HL2 fun b16 H16 => bcase b16 (k t2.2 H16) (it2 (t2.1, (qk3 .i64 (t2.2 + (1 : Int)))) H16)) (k (-1 : Int) HL2)
def qv.b (x0 : Sl) (x1b0 : Option Addr) (H : AH) (k : Int → AH → Prop) : Prop :=
 loopT (qv.l1 x0 x1b0 k) (((0 : Int), (0 : Int)) : Int × Int) H
def qv.ann : Ann := { keep := fun r => match r with | 2 => [(4, .int .i64), (8, .int .i64)] | _ => [], ord := fun r => match r with  | _ => [] }
theorem qv.link {x0 : Sl} {x1b0 : Option Addr} {H : AH} {k : Int → AH → Prop} (h : qv.b x0 x1b0 H k) : qv x0 x1b0 H k := lk1 pan hT hm Tryz.func142 (by kernel_rfl) (A := qv.ann) (by kernel_rfl) (by simp) (by kernel_rfl) h
def qaP.b (x0 : Int) (x1 : Int) (x2 : Int) (x3 : Int) (H : AH) (k : List Value → AH → Prop) : Prop :=
 newC H ⟨[(qk2 .i64 (0 : Int)), (qk2 .i64 (0 : Int)), (qk2 .i64 (0 : Int)), (qk2 .i64 (0 : Int))], .rw, 0⟩ fun o8 H8 => ((24 : Int) : Int) ≠ 0 ∧ ((17 : Int) : Int) ≠ 0 ∧ ((30 : Int) : Int) ≠ 0 ∧ ((10 : Int) : Int) ≠ 0 ∧ (qlh [(qk2 .i64 (qk3 .i64 ((1 : Int) + (qk3 .i64 (ql5 (qk3 .u64 x0) (24 : Int)))))), (qk2 .i64 (qk3 .i64 (ql5 (qk3 .u64 x1) (17 : Int)))), (qk2 .i64 (qk3 .i64 ((1 : Int) + (qk3 .i64 (ql5 (qk3 .u64 x2) (30 : Int)))))), (qk2 .i64 (qk3 .i64 ((1 : Int) + (qk3 .i64 (ql5 (qk3 .u64 x3) (10 : Int))))))] = 4 ∧ qlH [(qk2 .i64 (qk3 .i64 ((1 : Int) + (qk3 .i64 (ql5 (qk3 .u64 x0) (24 : Int)))))), (qk2 .i64 (qk3 .i64 (ql5 (qk3 .u64 x1) (17 : Int)))), (qk2 .i64 (qk3 .i64 ((1 : Int) + (qk3 .i64 (ql5 (qk3 .u64 x2) (30 : Int)))))), (qk2 .i64 (qk3 .i64 ((1 : Int) + (qk3 .i64 (ql5 (qk3 .u64 x3) (10 : Int))))))] qn = true) ∧ stC H8 ⟨o8, 0, none⟩ [(qk2 .i64 (qk3 .i64 ((1 : Int) + (qk3 .i64 (ql5 (qk3 .u64 x0) (24 : Int)))))), (qk2 .i64 (qk3 .i64 (ql5 (qk3 .u64 x1) (17 : Int)))), (qk2 .i64 (qk3 .i64 ((1 : Int) + (qk3 .i64 (ql5 (qk3 .u64 x2) (30 : Int)))))), (qk2 .i64 (qk3 .i64 ((1 : Int) + (qk3 .i64 (ql5 (qk3 .u64 x3) (10 : Int))))))] fun Hs2 => ldA Hs2 ⟨o8, 0, none⟩ 4 fun r0 => k r0 Hs2
theorem qaP.link {x0 : Int} {x1 : Int} {x2 : Int} {x3 : Int} {H : AH} {k : List Value → AH → Prop} (h : qaP.b x0 x1 x2 x3 H k) : qaP x0 x1 x2 x3 H k := lk1 pan hT hm Tryz.func36 (by kernel_rfl) (A := ann0) (by kernel_rfl) (by simp) (by kernel_rfl) h
def qaS.b (x0 : List Value) (H : AH) (k : Bool → AH → Prop) : Prop :=
 newC H ⟨x0, .rw, 0⟩ fun o1 H1 => elI .i64 (AH.cell? H1 (qk4 ⟨o1, 0, none⟩ 0)) fun n4 => bcase (decide ((n4 : Int) ≥ (1 : Int))) (elI .i64 (AH.cell? H1 (qk4 ⟨o1, 0, none⟩ 0)) fun n8 => bcase (decide ((n8 : Int) ≤ (64 : Int))) (elI .i64 (AH.cell? H1 (qk4 ⟨o1, 0, none⟩ 1)) fun n13 => bcase (decide ((n13 : Int) ≥ (0 : Int))) (elI .i64 (AH.cell? H1 (qk4 ⟨o1, 0, none⟩ 1)) fun n18 => bcase (decide ((n18 : Int) ≤ (16 : Int))) (elI .i64 (AH.cell? H1 (qk4 ⟨o1, 0, none⟩ 2)) fun n23 => bcase (decide ((n23 : Int) ≥ (1 : Int))) (elI .i64 (AH.cell? H1 (qk4 ⟨o1, 0, none⟩ 2)) fun n28 => bcase (decide ((n28 : Int) ≤ (1000 : Int))) (elI .i64 (AH.cell? H1 (qk4 ⟨o1, 0, none⟩ 3)) fun n33 => bcase (decide ((n33 : Int) ≥ (1 : Int))) (elI .i64 (AH.cell? H1 (qk4 ⟨o1, 0, none⟩ 3)) fun n38 => k (decide ((n38 : Int) ≤ (100 : Int))) H1) (k false H1)) (k false H1)) (k false H1)) (k false H1)) (k false H1)) (k false H1)) (k false H1)
theorem qaS.link {x0 : List Value} {H : AH} {k : Bool → AH → Prop} (h : qaS.b x0 H k) : qaS x0 H k := lk1 pan hT hm Tryz.func48 (by kernel_rfl) (A := ann0) (by kernel_rfl) (by simp) (by kernel_rfl) h
def qbe.b (x0 : List Value) (H : AH) (k : Int → AH → Prop) : Prop :=
 newC H ⟨x0, .rw, 0⟩ fun o1 H1 => ldA H1 ⟨o1, 0, none⟩ 4 fun c3 => qaS c3 H1 fun b4 H4 => bcase (!b4) (k (0 : Int) H4) (elI .i64 (AH.cell? H4 (qk4 ⟨o1, 0, none⟩ 0)) fun n7 => k (qk3 .i64 ((16 : Int) + n7)) H4)
theorem qbe.link {x0 : List Value} {H : AH} {k : Int → AH → Prop} (h : qbe.b x0 H k) : qbe x0 H k := lk1 pan hT hm Tryz.func49 (by kernel_rfl) (A := ann0) (by kernel_rfl) (by simp) (by kernel_rfl) h
def qa5.b (x0 : List Value) (H : AH) (k : Int → AH → Prop) : Prop :=
 newC H ⟨x0, .rw, 0⟩ fun o1 H1 => ldA H1 ⟨o1, 0, none⟩ 4 fun c3 => qaS c3 H1 fun b4 H4 => bcase (!b4) (k (0 : Int) H4) (ldA H4 ⟨o1, 0, none⟩ 4 fun c6 => elI .i64 (AH.cell? H4 (qk4 ⟨o1, 0, none⟩ 1)) fun n10 => qbe c6 H4 fun n7 H7 => AH.cell? H7 (qk4 ⟨o1, 0, none⟩ 1) = some (qk2 .i64 n10) ∧ k (qk3 .i64 ((qk3 .i64 (n7 + (1 : Int))) + n10)) H7)
def qa5.ann : Ann := { keep := fun r => match r with  | _ => [], ord := fun r => match r with | 3 => [0, 3, 4, 1, 2, 5, 6] | _ => [] }
theorem qa5.link {x0 : List Value} {H : AH} {k : Int → AH → Prop} (h : qa5.b x0 H k) : qa5 x0 H k := lk1 pan hT hm Tryz.func15 (by kernel_rfl) (A := qa5.ann) (by kernel_rfl) (by simp) (by kernel_rfl) h
def nvm_New.l1 (x1 : Sl) (k : Option Addr → AH → Prop) (o16 : Nat) (s20 : Sl) (t5 : Int) (HL5 : AH) (it5 : (Int) → AH → Prop) : Prop :=
 bcase (decide ((t5 : Int) < ((s20.n : Nat) : Int))) (elL (AH.cell? HL5 (qk4 ⟨o16, 0, none⟩ 0)) fun s28 => (0 ≤ t5 ∧ t5 < ((s28.n : Nat) : Int)) ∧ onPtr s28.a fun a30 => stC HL5 (qk4 (qk4 a30 (qla t5 * 10)) 9) [(qk2 .i64 (-1 : Int))] fun Hs2 => bcase (decide ((t5 : Int) < ((x1.n : Nat) : Int))) (elL (AH.cell? Hs2 (qk4 ⟨o16, 0, none⟩ 0)) fun s39 => (0 ≤ t5 ∧ t5 < ((x1.n : Nat) : Int)) ∧ onPtr x1.a fun a43 => elI .i64 (AH.cell? Hs2 (qk4 a43 (qla t5 * 1))) fun n44 => (0 ≤ t5 ∧ t5 < ((s39.n : Nat) : Int)) ∧ onPtr s39.a fun a45 => stC Hs2 (qk4 (qk4 a45 (qla t5 * 10)) 9) [(qk2 .i64 n44)] fun Hs4 => it5 (qk3 .i64 (t5 + (1 : Int))) Hs4) (it5 (qk3 .i64 (t5 + (1 : Int))) Hs2)) (k (some ⟨o16, 0, none⟩) HL5)
def nvm_New.j2 (x0 : Int) (x1 : Sl) (H : AH) (k : Option Addr → AH → Prop) (x12 : Bool) : Prop :=
 bcase x12 (k none H) ((0 ≤ x0 ∧ x0 ≤ x0 ∧ x0 ≤ (lim : Int)) ∧ newC H ⟨zerosOf (qla x0) [(qk2 .u64 (0 : Int)), (qk2 .u64 (0 : Int)), (qk2 .u64 (0 : Int)), (qk2 .u64 (0 : Int)), (qk2 .u64 (0 : Int)), (qk2 .u64 (0 : Int)), (qk2 .u64 (0 : Int)), (qk2 .u64 (0 : Int)), (qk2 .i64 (0 : Int)), (qk2 .i64 (0 : Int))], .rw, 10⟩ fun o14 H14 => newC H14 ⟨[(qll (some ⟨o14, 0, none⟩) (qla x0) 1), (qk2 .u64 (0 : Int)), (qk2 .u64 (0 : Int)), (qk2 .u64 (0 : Int)), (qk2 .u64 (0 : Int)), (qk2 .u64 (0 : Int)), (qk2 .u64 (0 : Int)), (qk2 .u64 (0 : Int)), (qk2 .u64 (0 : Int)), (qk2 .u64 (0 : Int)), (qk2 .u64 (0 : Int)), (qk2 .u64 (0 : Int)), (qk2 .u64 (0 : Int)), (qk2 .u64 (0 : Int)), (qk2 .u64 (0 : Int)), (qk2 .u64 (0 : Int)), (qk2 .u64 (0 : Int)), (qk2 .u64 (0 : Int)), (qk2 .u64 (0 : Int)), (qk2 .u64 (0 : Int)), (qk2 .u64 (0 : Int)), (qk2 .u64 (0 : Int)), (qk2 .u64 (0 : Int)), (qk2 .u64 (0 : Int)), (qk2 .u64 (0 : Int)), (qk2 .u64 (0 : Int)), (qk2 .u64 (0 : Int)), (qk2 .u64 (0 : Int)), (qk2 .u64 (0 : Int)), (qk2 .u64 (0 : Int)), (qk2 .u64 (0 : Int)), (qk2 .u64 (0 : Int)), (qk2 .u64 (0 : Int)), (qk2 .u64 (0 : Int)), (qk2 .u64 (0 : Int)), (qk2 .u64 (0 : Int)), (qk2 .i64 (0 : Int)), (qk2 .i64 (-1 : Int)), (qk2 .i64 (0 : Int)), (ql1 false)], .rw, 0⟩ fun o16 H16 => elL (AH.cell? H16 (qk4 ⟨o16, 0, none⟩ 0)) fun s20 => loopT (nvm_New.l1 x1 k o16 s20) (((0 : Int)) : Int) H16)
def nvm_New.b (x0 : Int) (x1 : Sl) (H : AH) (k : Option Addr → AH → Prop) : Prop :=
 bcase (decide ((x0 : Int) < (1 : Int))) (nvm_New.j2 x0 x1 H k true) (nvm_New.j2 x0 x1 H k (decide ((x0 : Int) > (200 : Int))))
def nvm_New.ann : Ann := { keep := fun r => match r with | 5 => [(22, .int .i64)] | _ => [], ord := fun r => match r with | 9 => [0, 1, 2, 3, 4, 5, 6, 7, 8, 9, 10, 11] | _ => [] }
theorem nvm_New.link {x0 : Int} {x1 : Sl} {H : AH} {k : Option Addr → AH → Prop} (h : nvm_New.b x0 x1 H k) : nvm_New x0 x1 H k := lk1 pan hT hm Tryz.func14 (by kernel_rfl) (A := nvm_New.ann) (by kernel_rfl) (by simp) (by kernel_rfl) h
def qT.b (x0 : Option Addr) (H : AH) (k : Int → AH → Prop) : Prop :=
 bcase (qlA x0) (k (0 : Int) H) (onPtr x0 fun a6 => elL (AH.cell? H (qk4 a6 0)) fun s8 => k ((s8.n : Nat) : Int) H)
theorem qT.link {x0 : Option Addr} {H : AH} {k : Int → AH → Prop} (h : qT.b x0 H k) : qT x0 H k := lk1 pan hT hm Tryz.func91 (by kernel_rfl) (A := ann0) (by kernel_rfl) (by simp) (by kernel_rfl) h
def qP.b (x0 : Option Addr) (H : AH) (k : Bool → AH → Prop) : Prop :=
 bcase (!(qlA x0)) (onPtr x0 fun a7 => elB (AH.cell? H (qk4 a7 39)) fun b9 => k b9 H) (k false H)
theorem qP.link {x0 : Option Addr} {H : AH} {k : Bool → AH → Prop} (h : qP.b x0 H k) : qP x0 H k := lk1 pan hT hm Tryz.func38 (by kernel_rfl) (A := ann0) (by kernel_rfl) (by simp) (by kernel_rfl) h
def qbn.j1 (x0 : Option Addr) (k : Int → AH → Prop) (x5 : Bool) (Hj : AH) : Prop :=
 bcase x5 (k (1 : Int) Hj) (qP x0 Hj fun b18 H18 => bcase b18 (k (2 : Int) H18) (k (0 : Int) H18))
def qbn.b (x0 : Option Addr) (x1 : List Value) (H : AH) (k : Int → AH → Prop) : Prop :=
 newC H ⟨x1, .rw, 0⟩ fun o3 H3 => ldA H3 ⟨o3, 0, none⟩ 4 fun c6 => qaS c6 H3 fun b7 H7 => bcase (!b7) (qbn.j1 x0 k true H7) (ldA H7 ⟨o3, 0, none⟩ 4 fun c12 => qT x0 H7 fun n11 H11 => AH.row? H11 ⟨o3, 0, none⟩ 4 = some c12 ∧ qa5 c12 H11 fun n13 H13 => qbn.j1 x0 k ((n11 : Int) != n13) H13)
def qbn.ann : Ann := { keep := fun r => match r with  | _ => [], ord := fun r => match r with | 1 => [0, 1, 2, 3, 4, 6, 5, 7, 8, 9, 10] | _ => [] }
theorem qbn.link {x0 : Option Addr} {x1 : List Value} {H : AH} {k : Int → AH → Prop} (h : qbn.b x0 x1 H k) : qbn x0 x1 H k := lk1 pan hT hm Tryz.func50 (by kernel_rfl) (A := qbn.ann) (by kernel_rfl) (by simp) (by kernel_rfl) h
def qas.b (x0 : Option Addr) (x1 : Int) (H : AH) (k : Bool → AH → Prop) : Prop :=
 bcase (!(qlA x0)) (bcase (decide ((x1 : Int) ≥ (0 : Int))) (k (decide ((x1 : Int) < (35 : Int))) H) (k false H)) (k false H)
theorem qas.link {x0 : Option Addr} {x1 : Int} {H : AH} {k : Bool → AH → Prop} (h : qas.b x0 x1 H k) : qas x0 x1 H k := lk1 pan hT hm Tryz.func92 (by kernel_rfl) (A := ann0) (by kernel_rfl) (by simp) (by kernel_rfl) h
def qF.b (x0 : Option Addr) (x1 : Int) (H : AH) (k : Int → Int → AH → Prop) : Prop :=
 qas x0 x1 H fun b9 H9 => bcase (!b9) (k (0 : Int) (1 : Int) H9) (onPtr x0 fun a13 => elB (AH.cell? H9 (qk4 a13 39)) fun b15 => bcase b15 (k (0 : Int) (2 : Int) H9) (onPtr x0 fun a18 => (0 ≤ x1 ∧ x1 < ((35 : Nat) : Int)) ∧ elI .u64 (AH.cell? H9 (qk4 (qk4 a18 1) (qla x1 * 1))) fun n21 => k n21 (0 : Int) H9))
theorem qF.link {x0 : Option Addr} {x1 : Int} {H : AH} {k : Int → Int → AH → Prop} (h : qF.b x0 x1 H k) : qF x0 x1 H k := lk2 pan hT hm Tryz.func51 (by kernel_rfl) (A := ann0) (by kernel_rfl) (by simp) (by simp) (by kernel_rfl) h
def qD.j1 (x0 : Option Addr) (k : Sl → Int → AH → Prop) (t3 : Sl × Int × Sl × Int) (HL3 : AH) : Prop :=
 onPtr x0 fun a34 => elP (AH.cell? HL3 (qk4 a34 0)) fun p36 => qP p36 HL3 fun b37 H37 => bcase b37 (k ⟨none, 0, 0⟩ (2 : Int) H37) (k t3.2.2.1 (0 : Int) H37)
def qD.l2 (x0 : Option Addr) (k : Sl → Int → AH → Prop) (n11 : Int) (t3 : Sl × Int × Sl × Int) (HL3 : AH) (it3 : (Sl × Int × Sl × Int) → AH → Prop) : Prop :=
 bcase (decide ((t3.2.2.2 : Int) < n11)) (onPtr x0 fun a17 => elP (AH.cell? HL3 (qk4 a17 0)) fun p19 => qF p19 (qk3 .i64 ((3 : Int) + t3.2.2.2)) HL3 fun n22a n22b H22 => bcase ((n22b : Int) != (0 : Int)) (k ⟨none, 0, 0⟩ n22b H22) (newC H22 ⟨[(qk2 .u64 n22a)], .rw, 1⟩ fun o30 H30 => appendC 1 H30 t3.2.2.1 ⟨(some ⟨o30, 0, none⟩), 1, 1⟩ fun s31 H31 => it3 (t3.1, t3.2.1, s31, (qk3 .i64 (t3.2.2.2 + (1 : Int)))) H31)) (qD.j1 x0 k t3 HL3)
def qD.b (x0 : Option Addr) (H : AH) (k : Sl → Int → AH → Prop) : Prop :=
 onPtr x0 fun a9 => elI .i64 (AH.cell? H (qk4 a9 2)) fun n11 => loopT (qD.l2 x0 k n11) ((⟨none, 0, 0⟩, (0 : Int), ⟨none, 0, 0⟩, (0 : Int)) : Sl × Int × Sl × Int) H
def qD.ann : Ann := { keep := fun r => match r with | 3 => [(2, .sl), (3, .int .i64), (4, .sl), (12, .int .i64)] | _ => [], ord := fun r => match r with  | _ => [] }
theorem qD.link {x0 : Option Addr} {H : AH} {k : Sl → Int → AH → Prop} (h : qD.b x0 H k) : qD x0 H k := lk2 pan hT hm Tryz.func158 (by kernel_rfl) (A := qD.ann) (by kernel_rfl) (by simp) (by simp) (by kernel_rfl) h
def qbT.b (x0 : Int) (H : AH) (k : Int → AH → Prop) : Prop :=
 bcase (decide ((x0 : Int) < (1 : Int))) (k (0 : Int) H) (k (qk3 .u64 ((qk3 .u64 x0) + (1 : Int))) H)
theorem qbT.link {x0 : Int} {H : AH} {k : Int → AH → Prop} (h : qbT.b x0 H k) : qbT x0 H k := lk1 pan hT hm Tryz.func140 (by kernel_rfl) (A := ann0) (by kernel_rfl) (by simp) (by kernel_rfl) h
def qaG.j1 (k : Bool → AH → Prop) (t2 : Bool × Int) (it2 : (Bool × Int) → AH → Prop) (H16 : AH) (x33 : Bool) : Prop :=
 bcase x33 (k false H16) (it2 (t2.1, (qk3 .i64 (t2.2 + (1 : Int)))) H16)
def qaG.l2 (x0 : Sl) (x1 : Int) (k : Bool → AH → Prop) (t2 : Bool × Int) (HL2 : AH) (it2 : (Bool × Int) → AH → Prop) : Prop :=
 bcase (decide ((t2.2 : Int) < ((x0.n : Nat) : Int))) ((0 ≤ t2.2 ∧ t2.2 < ((x0.n : Nat) : Int)) ∧ onPtr x0.a fun a12 => elI .u64 (AH.cell? HL2 (qk4 a12 (qla t2.2 * 1))) fun n13 => qbT x1 HL2 fun n16 H16 => bcase (decide ((n13 : Int) > n16)) (qaG.j1 k t2 it2 H16 true) (bcase (decide ((t2.2 : Int) > (0 : Int))) (bcase ((n13 : Int) != (0 : Int)) ((0 ≤ (qk3 .i64 (t2.2 - (1 : Int))) ∧ (qk3 .i64 (t2.2 - (1 : Int))) < ((x0.n : Nat) : Int)) ∧ onPtr x0.a fun a29 => elI .u64 (AH.cell? H16 (qk4 a29 (qla (qk3 .i64 (t2.2 - (1 : Int))) * 1))) fun n30 => qaG.j1 k t2 it2 H16 ((n30 : Int) == (0 : Int))) (qaG.j1 k t2 it2 H16 false)) (qaG.j1 k t2 it2 H16 false))) (k (decide ((x1 : Int) ≥ (1 : Int))) HL2)
def qaG.b (x0 : Sl) (x1 : Int) (H : AH) (k : Bool → AH → Prop) : Prop :=
 loopT (qaG.l2 x0 x1 k) ((false, (0 : Int)) : Bool × Int) H
def qaG.ann : Ann := { keep := fun r => match r with | 2 => [(4, .bool), (9, .int .i64)] | _ => [], ord := fun r => match r with  | _ => [] }
theorem qaG.link {x0 : Sl} {x1 : Int} {H : AH} {k : Bool → AH → Prop} (h : qaG.b x0 x1 H k) : qaG x0 x1 H k := lk1 pan hT hm Tryz.func169 (by kernel_rfl) (A := qaG.ann) (by kernel_rfl) (by simp) (by kernel_rfl) h
def qaB.j1 (x0 : Option Addr) (x1 : Int) (x2 : Int) (k : Option Addr → AH → Prop) (x31 : Bool) (Hj : AH) : Prop :=
 bcase x31 (k none Hj) (newC Hj ⟨[(qk8 x0), (qk2 .i64 x1), (qk2 .i64 x2)], .rw, 0⟩ fun o36 H36 => qD (some ⟨o36, 0, none⟩) H36 fun s39a n39b H39 => bcase ((n39b : Int) != (0 : Int)) (k none H39) (qaG s39a x1 H39 fun b47 H47 => bcase (!b47) (k none H47) (k (some ⟨o36, 0, none⟩) H47)))
def qaB.b (x0 : Option Addr) (x1 : Int) (x2 : Int) (H : AH) (k : Option Addr → AH → Prop) : Prop :=
 bcase (qlA x0) (qaB.j1 x0 x1 x2 k true H) (bcase (decide ((x1 : Int) < (1 : Int))) (qaB.j1 x0 x1 x2 k true H) (bcase (decide ((x2 : Int) < (0 : Int))) (qaB.j1 x0 x1 x2 k true H) (bcase (decide ((x2 : Int) > (16 : Int))) (qaB.j1 x0 x1 x2 k true H) (qT x0 H fun n26 H26 => qaB.j1 x0 x1 x2 k (((qk3 .i64 (n26 - x2)) : Int) != x1) H26))))
theorem qaB.link {x0 : Option Addr} {x1 : Int} {x2 : Int} {H : AH} {k : Option Addr → AH → Prop} (h : qaB.b x0 x1 x2 H k) : qaB x0 x1 x2 H k := lk1 pan hT hm Tryz.func131 (by kernel_rfl) (A := ann0) (by kernel_rfl) (by simp) (by kernel_rfl) h
def qaR.j1 (x0 : Option Addr) (x1 : Int) (x3 : Int) (k : Option Addr → AH → Prop) (p32 : Option Addr) (H37 : AH) (x45 : Bool) : Prop :=
 bcase x45 (k none H37) (newC H37 ⟨[(qk8 x0), (qk8 p32), (qk2 .i64 x1), (qk2 .i64 x3), (qk2 .i64 (0 : Int))], .rw, 0⟩ fun o51 H51 => k (some ⟨o51, 0, none⟩) H51)
def qaR.j2 (x0 : Option Addr) (x1 : Int) (x2 : Int) (x3 : Int) (k : Option Addr → AH → Prop) (x27 : Bool) (Hj : AH) : Prop :=
 bcase x27 (k none Hj) (qaB x0 (qk3 .i64 (x1 + (1 : Int))) x2 Hj fun p32 H32 => bcase (qlA p32) (k none H32) (qF x0 (0 : Int) H32 fun n37a n37b H37 => bcase ((n37b : Int) != (0 : Int)) (qaR.j1 x0 x1 x3 k p32 H37 true) (qaR.j1 x0 x1 x3 k p32 H37 (decide ((n37a : Int) > (1099511627776 : Int))))))
def qaR.b (x0 : Option Addr) (x1 : Int) (x2 : Int) (x3 : Int) (H : AH) (k : Option Addr → AH → Prop) : Prop :=
 bcase (decide ((x1 : Int) < (1 : Int))) (qaR.j2 x0 x1 x2 x3 k true H) (qT x0 H fun n17 H17 => bcase (decide ((x1 : Int) > n17)) (qaR.j2 x0 x1 x2 x3 k true H17) (bcase (decide ((x3 : Int) < (1 : Int))) (qaR.j2 x0 x1 x2 x3 k true H17) (qaR.j2 x0 x1 x2 x3 k (decide ((x3 : Int) > (1000 : Int))) H17)))
theorem qaR.link {x0 : Option Addr} {x1 : Int} {x2 : Int} {x3 : Int} {H : AH} {k : Option Addr → AH → Prop} (h : qaR.b x0 x1 x2 x3 H k) : qaR x0 x1 x2 x3 H k := lk1 pan hT hm Tryz.func93 (by kernel_rfl) (A := ann0) (by kernel_rfl) (by simp) (by kernel_rfl) h
def qbu.b (x0 : Option Addr) (x1 : List Value) (H : AH) (k : Option Addr → AH → Prop) : Prop :=
 newC H ⟨x1, .rw, 0⟩ fun o3 H3 => ldA H3 ⟨o3, 0, none⟩ 4 fun c6 => elI .i64 (AH.cell? H3 (qk4 ⟨o3, 0, none⟩ 1)) fun n9 => elI .i64 (AH.cell? H3 (qk4 ⟨o3, 0, none⟩ 2)) fun n11 => qbe c6 H3 fun n7 H7 => AH.cell? H7 (qk4 ⟨o3, 0, none⟩ 2) = some (qk2 .i64 n11) ∧ AH.cell? H7 (qk4 ⟨o3, 0, none⟩ 1) = some (qk2 .i64 n9) ∧ qaR x0 n7 n9 n11 H7 fun p12 H12 => k p12 H12
def qbu.ann : Ann := { keep := fun r => match r with  | _ => [], ord := fun r => match r with | 1 => [0, 1, 3, 4, 5, 6, 2, 7, 8] | _ => [] }
theorem qbu.link {x0 : Option Addr} {x1 : List Value} {H : AH} {k : Option Addr → AH → Prop} (h : qbu.b x0 x1 H k) : qbu x0 x1 H k := lk1 pan hT hm Tryz.func52 (by kernel_rfl) (A := qbu.ann) (by kernel_rfl) (by simp) (by kernel_rfl) h
def qcf.b (x0 : List Value) (H : AH) (k : Int → AH → Prop) : Prop :=
 newC H ⟨x0, .rw, 0⟩ fun o1 H1 => ldA H1 ⟨o1, 0, none⟩ 4 fun c3 => qaS c3 H1 fun b4 H4 => bcase (!b4) (k (0 : Int) H4) (elI .i64 (AH.cell? H4 (qk4 ⟨o1, 0, none⟩ 0)) fun n7 => k (qk3 .i64 (n7 * (8 : Int))) H4)
theorem qcf.link {x0 : List Value} {H : AH} {k : Int → AH → Prop} (h : qcf.b x0 H k) : qcf x0 H k := lk1 pan hT hm Tryz.func42 (by kernel_rfl) (A := ann0) (by kernel_rfl) (by simp) (by kernel_rfl) h
def qaU.b (x0 : Int) (H : AH) (k : Bool → AH → Prop) : Prop :=
 bcase (decide ((x0 : Int) ≥ (8 : Int))) (bcase (decide ((x0 : Int) ≤ (512 : Int))) (((8 : Int) : Int) ≠ 0 ∧ k (((ql5 x0 (8 : Int)) : Int) == (0 : Int)) H) (k false H)) (k false H)
theorem qaU.link {x0 : Int} {H : AH} {k : Bool → AH → Prop} (h : qaU.b x0 H k) : qaU x0 H k := lk1 pan hT hm Tryz.func94 (by kernel_rfl) (A := ann0) (by kernel_rfl) (by simp) (by kernel_rfl) h
def qaY.b (x0 : Int) (H : AH) (k : Bool → AH → Prop) : Prop :=
 bcase (decide ((x0 : Int) ≥ (2 : Int))) (k (decide ((x0 : Int) ≤ (512 : Int))) H) (k false H)
theorem qaY.link {x0 : Int} {H : AH} {k : Bool → AH → Prop} (h : qaY.b x0 H k) : qaY x0 H k := lk1 pan hT hm Tryz.func129 (by kernel_rfl) (A := ann0) (by kernel_rfl) (by simp) (by kernel_rfl) h
def qbq.b (x0 : Int) (x1 : Bool) (H : AH) (k : Int → AH → Prop) : Prop :=
 qaY x0 H fun b7 H7 => bcase (!b7) (k (0 : Int) H7) ((0 : Int) ≤ (1 : Int) ∧ bcase x1 (k (orI .u64 (shlI .u64 (qk3 .u64 x0) (1 : Int)) (1 : Int)) H7) (k (shlI .u64 (qk3 .u64 x0) (1 : Int)) H7))
theorem qbq.link {x0 : Int} {x1 : Bool} {H : AH} {k : Int → AH → Prop} (h : qbq.b x0 x1 H k) : qbq x0 x1 H k := lk1 pan hT hm Tryz.func95 (by kernel_rfl) (A := ann0) (by kernel_rfl) (by simp) (by kernel_rfl) h
def qb3.b (x0 : Int) (H : AH) (k : Sl → AH → Prop) : Prop :=
 qaU x0 H fun b5 H5 => bcase (!b5) (k ⟨none, 0, 0⟩ H5) ((0 ≤ x0 ∧ x0 ≤ x0 ∧ x0 ≤ (lim : Int)) ∧ newC H5 ⟨zerosOf (qla x0) [(qk2 .u64 (0 : Int))], .rw, 1⟩ fun o8 H8 => qbq x0 false H8 fun n11 H11 => (0 ≤ (0 : Int) ∧ (0 : Int) < (((qla x0) : Nat) : Int)) ∧ stC H11 (qk4 ⟨o8, 0, none⟩ (qla (0 : Int) * 1)) [(qk2 .u64 n11)] fun Hs2 => k ⟨(some ⟨o8, 0, none⟩), (qla x0), 1⟩ Hs2)
theorem qb3.link {x0 : Int} {H : AH} {k : Sl → AH → Prop} (h : qb3.b x0 H k) : qb3 x0 H k := lk1 pan hT hm Tryz.func53 (by kernel_rfl) (A := ann0) (by kernel_rfl) (by simp) (by kernel_rfl) h
def qba.b (x0 : List Value) (x1 : Int) (H : AH) (k : Int → AH → Prop) : Prop :=
 newC H ⟨x0, .rw, 0⟩ fun o2 H2 => ldA H2 ⟨o2, 0, none⟩ 4 fun c5 => qaS c5 H2 fun b6 H6 => bcase (!b6) (k (-1 : Int) H6) (bcase (decide ((x1 : Int) < (0 : Int))) (k (-1 : Int) H6) (elI .i64 (AH.cell? H6 (qk4 ⟨o2, 0, none⟩ 0)) fun n15 => bcase (decide ((x1 : Int) ≥ n15)) (k (-1 : Int) H6) (k (qk3 .i64 ((16 : Int) + x1)) H6)))
theorem qba.link {x0 : List Value} {x1 : Int} {H : AH} {k : Int → AH → Prop} (h : qba.b x0 x1 H k) : qba x0 x1 H k := lk1 pan hT hm Tryz.func55 (by kernel_rfl) (A := ann0) (by kernel_rfl) (by simp) (by kernel_rfl) h
def qaI.j1 (x0 : Option Addr) (H : AH) (k : Int → AH → Prop) (x5 : Bool) : Prop :=
 bcase x5 (k (1 : Int) H) (onPtr x0 fun a22 => elP (AH.cell? H (qk4 a22 0)) fun p24 => qP p24 H fun b25 H25 => bcase b25 (k (2 : Int) H25) (k (0 : Int) H25))
def qaI.b (x0 : Option Addr) (x1 : Int) (H : AH) (k : Int → AH → Prop) : Prop :=
 bcase (qlA x0) (qaI.j1 x0 H k true) (bcase (decide ((x1 : Int) < (0 : Int))) (qaI.j1 x0 H k true) (onPtr x0 fun a15 => elI .i64 (AH.cell? H (qk4 a15 2)) fun n17 => qaI.j1 x0 H k (decide ((x1 : Int) ≥ n17))))
theorem qaI.link {x0 : Option Addr} {x1 : Int} {H : AH} {k : Int → AH → Prop} (h : qaI.b x0 x1 H k) : qaI x0 x1 H k := lk1 pan hT hm Tryz.func96 (by kernel_rfl) (A := ann0) (by kernel_rfl) (by simp) (by kernel_rfl) h
def qa8.b (x0 : Option Addr) (H : AH) (k : Int → AH → Prop) : Prop :=
 bcase (qlA x0) (k (0 : Int) H) (onPtr x0 fun a9 => elP (AH.cell? H (qk4 a9 0)) fun p11 => qF p11 (0 : Int) H fun n12a n12b H12 => k (qk3 .i64 n12a) H12)
theorem qa8.link {x0 : Option Addr} {H : AH} {k : Int → AH → Prop} (h : qa8.b x0 H k) : qa8 x0 H k := lk1 pan hT hm Tryz.func99 (by kernel_rfl) (A := ann0) (by kernel_rfl) (by simp) (by kernel_rfl) h
def gap_may.b (x0 : Int) (x1 : Int) (H : AH) (k : Bool → AH → Prop) : Prop :=
 bcase (decide ((x0 : Int) ≥ (1 : Int))) (bcase (decide ((x0 : Int) ≤ (100000 : Int))) (k (decide ((x1 : Int) ≥ (0 : Int))) H) (k false H)) (k false H)
theorem gap_may.link {x0 : Int} {x1 : Int} {H : AH} {k : Bool → AH → Prop} (h : gap_may.b x0 x1 H k) : gap_may x0 x1 H k := lk1 pan hT hm Tryz.func134 (by kernel_rfl) (A := ann0) (by kernel_rfl) (by simp) (by kernel_rfl) h
def qcg.b (x0 : Int) (x1 : Int) (H : AH) (k : Int → AH → Prop) : Prop :=
 ((qk3 .i64 (x0 + (1 : Int))) : Int) ≠ 0 ∧ (x0 : Int) ≠ 0 ∧ k (ql5 (qk3 .i64 (qmr x1 (qk3 .i64 (x0 + (1 : Int))))) x0) H
theorem qcg.link {x0 : Int} {x1 : Int} {H : AH} {k : Int → AH → Prop} (h : qcg.b x0 x1 H k) : qcg x0 x1 H k := lk1 pan hT hm Tryz.func135 (by kernel_rfl) (A := ann0) (by kernel_rfl) (by simp) (by kernel_rfl) h
def gap_Gap.b (x0 : Int) (x1 : Int) (H : AH) (k : Int → AH → Prop) : Prop :=
 gap_may x0 x1 H fun b7 H7 => bcase (!b7) (k (-1 : Int) H7) (((qk3 .i64 (x0 + (1 : Int))) : Int) ≠ 0 ∧ k (qk3 .i64 (x0 - (ql5 x1 (qk3 .i64 (x0 + (1 : Int)))))) H7)
theorem gap_Gap.link {x0 : Int} {x1 : Int} {H : AH} {k : Int → AH → Prop} (h : gap_Gap.b x0 x1 H k) : gap_Gap x0 x1 H k := lk1 pan hT hm Tryz.func136 (by kernel_rfl) (A := ann0) (by kernel_rfl) (by simp) (by kernel_rfl) h
def qbA.j1 (x0 : Int) (x1 : Int) (x2 : Int) (k : Int → AH → Prop) (H10 : AH) (x20 : Bool) : Prop :=
 bcase x20 (k (-1 : Int) H10) (qcg x0 x1 H10 fun n24 H24 => (x0 : Int) ≠ 0 ∧ gap_Gap x0 x1 H24 fun n31 H31 => bcase (decide (((ql5 (qk3 .i64 (x2 + n24)) x0) : Int) ≥ n31)) (k (qk3 .i64 ((ql5 (qk3 .i64 (x2 + n24)) x0) + (1 : Int))) H31) (k (ql5 (qk3 .i64 (x2 + n24)) x0) H31))
def qbA.b (x0 : Int) (x1 : Int) (x2 : Int) (H : AH) (k : Int → AH → Prop) : Prop :=
 gap_may x0 x1 H fun b10 H10 => bcase (!b10) (qbA.j1 x0 x1 x2 k H10 true) (bcase (decide ((x2 : Int) < (0 : Int))) (qbA.j1 x0 x1 x2 k H10 true) (qbA.j1 x0 x1 x2 k H10 (decide ((x2 : Int) ≥ x0))))
theorem qbA.link {x0 : Int} {x1 : Int} {x2 : Int} {H : AH} {k : Int → AH → Prop} (h : qbA.b x0 x1 x2 H k) : qbA x0 x1 x2 H k := lk1 pan hT hm Tryz.func98 (by kernel_rfl) (A := ann0) (by kernel_rfl) (by simp) (by kernel_rfl) h
def qan.l1 (x0 : Sl) (x1 : Int) (x2 : Int) (k : Int → AH → Prop) (t4 : Int × Int) (HL4 : AH) (it4 : (Int × Int) → AH → Prop) : Prop :=
 bcase (decide ((t4.2 : Int) ≥ (0 : Int))) ((0 ≤ t4.2 ∧ t4.2 < ((x0.n : Nat) : Int)) ∧ onPtr x0.a fun a24 => elI .u64 (AH.cell? HL4 (qk4 a24 (qla t4.2 * 1))) fun n25 => bcase ((n25 : Int) == (qk3 .u64 ((qk3 .u64 x2) + (1 : Int)))) (k (qk3 .i64 (x1 + t4.2)) HL4) (it4 (t4.1, (qk3 .i64 (t4.2 - (1 : Int)))) HL4)) (k x2 HL4)
def qan.j2 (x0 : Sl) (x1 : Int) (x2 : Int) (H : AH) (k : Int → AH → Prop) (x14 : Bool) : Prop :=
 bcase x14 (k (-1 : Int) H) (loopT (qan.l1 x0 x1 x2 k) (((0 : Int), (qk3 .i64 (((x0.n : Nat) : Int) - (1 : Int)))) : Int × Int) H)
def qan.b (x0 : Sl) (x1 : Int) (x2 : Int) (H : AH) (k : Int → AH → Prop) : Prop :=
 bcase (decide ((x2 : Int) < (0 : Int))) (qan.j2 x0 x1 x2 H k true) (qan.j2 x0 x1 x2 H k (decide ((x2 : Int) ≥ x1)))
def qan.ann : Ann := { keep := fun r => match r with | 4 => [(6, .int .i64), (7, .int .i64)] | _ => [], ord := fun r => match r with  | _ => [] }
theorem qan.link {x0 : Sl} {x1 : Int} {x2 : Int} {H : AH} {k : Int → AH → Prop} (h : qan.b x0 x1 x2 H k) : qan x0 x1 x2 H k := lk1 pan hT hm Tryz.func170 (by kernel_rfl) (A := qan.ann) (by kernel_rfl) (by simp) (by kernel_rfl) h
def qad.j1 (x0 : Option Addr) (x1 : Int) (H : AH) (k : Int → Sl → Int → AH → Prop) (x22 : Bool) : Prop :=
 bcase x22 (k (0 : Int) ⟨none, 0, 0⟩ (1 : Int) H) (qD x0 H fun s25a n25b H25 => onPtr x0 fun a30 => elI .i64 (AH.cell? H25 (qk4 a30 1)) fun n32 => qan s25a n32 x1 H25 fun n34 H34 => k n34 s25a n25b H34)
def qad.b (x0 : Option Addr) (x1 : Int) (H : AH) (k : Int → Sl → Int → AH → Prop) : Prop :=
 bcase (qlA x0) (qad.j1 x0 x1 H k true) (bcase (decide ((x1 : Int) < (0 : Int))) (qad.j1 x0 x1 H k true) (onPtr x0 fun a18 => elI .i64 (AH.cell? H (qk4 a18 1)) fun n20 => qad.j1 x0 x1 H k (decide ((x1 : Int) ≥ n20))))
theorem qad.link {x0 : Option Addr} {x1 : Int} {H : AH} {k : Int → Sl → Int → AH → Prop} (h : qad.b x0 x1 H k) : qad x0 x1 H k := lk3 pan hT hm Tryz.func132 (by kernel_rfl) (A := ann0) (by kernel_rfl) (by simp) (by simp) (by simp) (by kernel_rfl) h
def qaT.b (x0 : Option Addr) (x1 : Int) (H : AH) (k : Bool → AH → Prop) : Prop :=
 bcase (decide ((x1 : Int) ≥ (0 : Int))) (qT x0 H fun n10 H10 => k (decide ((x1 : Int) < n10)) H10) (k false H)
theorem qaT.link {x0 : Option Addr} {x1 : Int} {H : AH} {k : Bool → AH → Prop} (h : qaT.b x0 x1 H k) : qaT x0 x1 H k := lk1 pan hT hm Tryz.func171 (by kernel_rfl) (A := ann0) (by kernel_rfl) (by simp) (by kernel_rfl) h
def qbg.b (x0 : Option Addr) (x1 : Int) (H : AH) (k : List Value → Int → AH → Prop) : Prop :=
 newC H ⟨[(qk2 .u64 (0 : Int)), (qk2 .u64 (0 : Int)), (qk2 .u64 (0 : Int)), (qk2 .u64 (0 : Int)), (qk2 .u64 (0 : Int)), (qk2 .u64 (0 : Int)), (qk2 .u64 (0 : Int)), (qk2 .u64 (0 : Int))], .rw, 0⟩ fun o4 H4 => qaT x0 x1 H4 fun b9 H9 => bcase (!b9) ((qlh [(qk2 .u64 (0 : Int)), (qk2 .u64 (0 : Int)), (qk2 .u64 (0 : Int)), (qk2 .u64 (0 : Int)), (qk2 .u64 (0 : Int)), (qk2 .u64 (0 : Int)), (qk2 .u64 (0 : Int)), (qk2 .u64 (0 : Int))] = 8 ∧ qlH [(qk2 .u64 (0 : Int)), (qk2 .u64 (0 : Int)), (qk2 .u64 (0 : Int)), (qk2 .u64 (0 : Int)), (qk2 .u64 (0 : Int)), (qk2 .u64 (0 : Int)), (qk2 .u64 (0 : Int)), (qk2 .u64 (0 : Int))] qn = true) ∧ stC H9 ⟨o4, 0, none⟩ [(qk2 .u64 (0 : Int)), (qk2 .u64 (0 : Int)), (qk2 .u64 (0 : Int)), (qk2 .u64 (0 : Int)), (qk2 .u64 (0 : Int)), (qk2 .u64 (0 : Int)), (qk2 .u64 (0 : Int)), (qk2 .u64 (0 : Int))] fun Hs2 => ldA Hs2 ⟨o4, 0, none⟩ 8 fun r0 => k r0 (1 : Int) Hs2) (onPtr x0 fun a14 => elB (AH.cell? H9 (qk4 a14 39)) fun b16 => bcase b16 ((qlh [(qk2 .u64 (0 : Int)), (qk2 .u64 (0 : Int)), (qk2 .u64 (0 : Int)), (qk2 .u64 (0 : Int)), (qk2 .u64 (0 : Int)), (qk2 .u64 (0 : Int)), (qk2 .u64 (0 : Int)), (qk2 .u64 (0 : Int))] = 8 ∧ qlH [(qk2 .u64 (0 : Int)), (qk2 .u64 (0 : Int)), (qk2 .u64 (0 : Int)), (qk2 .u64 (0 : Int)), (qk2 .u64 (0 : Int)), (qk2 .u64 (0 : Int)), (qk2 .u64 (0 : Int)), (qk2 .u64 (0 : Int))] qn = true) ∧ stC H9 ⟨o4, 0, none⟩ [(qk2 .u64 (0 : Int)), (qk2 .u64 (0 : Int)), (qk2 .u64 (0 : Int)), (qk2 .u64 (0 : Int)), (qk2 .u64 (0 : Int)), (qk2 .u64 (0 : Int)), (qk2 .u64 (0 : Int)), (qk2 .u64 (0 : Int))] fun Hs4 => ldA Hs4 ⟨o4, 0, none⟩ 8 fun r0 => k r0 (2 : Int) Hs4) (onPtr x0 fun a19 => elL (AH.cell? H9 (qk4 a19 0)) fun s21 => (0 ≤ x1 ∧ x1 < ((s21.n : Nat) : Int)) ∧ onPtr s21.a fun a23 => ldA H9 (qk4 (qk4 a23 (qla x1 * 10)) 0) 8 fun c25 => (qlh c25 = 8 ∧ qlH c25 qn = true) ∧ stC H9 ⟨o4, 0, none⟩ c25 fun Hs6 => ldA Hs6 ⟨o4, 0, none⟩ 8 fun r0 => k r0 (0 : Int) Hs6))
theorem qbg.link {x0 : Option Addr} {x1 : Int} {H : AH} {k : List Value → Int → AH → Prop} (h : qbg.b x0 x1 H k) : qbg x0 x1 H k := lk2 pan hT hm Tryz.func133 (by kernel_rfl) (A := ann0) (by kernel_rfl) (by simp) (by simp) (by kernel_rfl) h
def qbt.b (x0 : Option Addr) (x1 : Int) (H : AH) (k : List Value → Int → AH → Prop) : Prop :=
 newC H ⟨[(qk2 .u64 (0 : Int)), (qk2 .u64 (0 : Int)), (qk2 .u64 (0 : Int)), (qk2 .u64 (0 : Int)), (qk2 .u64 (0 : Int)), (qk2 .u64 (0 : Int)), (qk2 .u64 (0 : Int)), (qk2 .u64 (0 : Int))], .rw, 0⟩ fun o4 H4 => qad x0 x1 H4 fun n12a s12b n12c H12 => bcase ((n12c : Int) != (0 : Int)) ((qlh [(qk2 .u64 (0 : Int)), (qk2 .u64 (0 : Int)), (qk2 .u64 (0 : Int)), (qk2 .u64 (0 : Int)), (qk2 .u64 (0 : Int)), (qk2 .u64 (0 : Int)), (qk2 .u64 (0 : Int)), (qk2 .u64 (0 : Int))] = 8 ∧ qlH [(qk2 .u64 (0 : Int)), (qk2 .u64 (0 : Int)), (qk2 .u64 (0 : Int)), (qk2 .u64 (0 : Int)), (qk2 .u64 (0 : Int)), (qk2 .u64 (0 : Int)), (qk2 .u64 (0 : Int)), (qk2 .u64 (0 : Int))] qn = true) ∧ stC H12 ⟨o4, 0, none⟩ [(qk2 .u64 (0 : Int)), (qk2 .u64 (0 : Int)), (qk2 .u64 (0 : Int)), (qk2 .u64 (0 : Int)), (qk2 .u64 (0 : Int)), (qk2 .u64 (0 : Int)), (qk2 .u64 (0 : Int)), (qk2 .u64 (0 : Int))] fun Hs2 => ldA Hs2 ⟨o4, 0, none⟩ 8 fun r0 => k r0 n12c Hs2) (onPtr x0 fun a21 => elP (AH.cell? H12 (qk4 a21 0)) fun p23 => qbg p23 n12a H12 fun c25a n25b H25 => (qlh c25a = 8 ∧ qlH c25a qn = true) ∧ stC H25 ⟨o4, 0, none⟩ c25a fun Hs4 => ldA Hs4 ⟨o4, 0, none⟩ 8 fun r0 => k r0 n25b Hs4)
theorem qbt.link {x0 : Option Addr} {x1 : Int} {H : AH} {k : List Value → Int → AH → Prop} (h : qbt.b x0 x1 H k) : qbt x0 x1 H k := lk2 pan hT hm Tryz.func97 (by kernel_rfl) (A := ann0) (by kernel_rfl) (by simp) (by simp) (by kernel_rfl) h
def qaK.b (x0 : Option Addr) (x1 : Int) (H : AH) (k : List Value → Int → AH → Prop) : Prop :=
 newC H ⟨[(qk2 .u64 (0 : Int)), (qk2 .u64 (0 : Int)), (qk2 .u64 (0 : Int)), (qk2 .u64 (0 : Int)), (qk2 .u64 (0 : Int)), (qk2 .u64 (0 : Int)), (qk2 .u64 (0 : Int)), (qk2 .u64 (0 : Int))], .rw, 0⟩ fun o4 H4 => qaI x0 x1 H4 fun n9 H9 => bcase ((n9 : Int) != (0 : Int)) ((qlh [(qk2 .u64 (0 : Int)), (qk2 .u64 (0 : Int)), (qk2 .u64 (0 : Int)), (qk2 .u64 (0 : Int)), (qk2 .u64 (0 : Int)), (qk2 .u64 (0 : Int)), (qk2 .u64 (0 : Int)), (qk2 .u64 (0 : Int))] = 8 ∧ qlH [(qk2 .u64 (0 : Int)), (qk2 .u64 (0 : Int)), (qk2 .u64 (0 : Int)), (qk2 .u64 (0 : Int)), (qk2 .u64 (0 : Int)), (qk2 .u64 (0 : Int)), (qk2 .u64 (0 : Int)), (qk2 .u64 (0 : Int))] qn = true) ∧ stC H9 ⟨o4, 0, none⟩ [(qk2 .u64 (0 : Int)), (qk2 .u64 (0 : Int)), (qk2 .u64 (0 : Int)), (qk2 .u64 (0 : Int)), (qk2 .u64 (0 : Int)), (qk2 .u64 (0 : Int)), (qk2 .u64 (0 : Int)), (qk2 .u64 (0 : Int))] fun Hs2 => ldA Hs2 ⟨o4, 0, none⟩ 8 fun r0 => k r0 n9 Hs2) (onPtr x0 fun a15 => elP (AH.cell? H9 (qk4 a15 1)) fun p17 => onPtr x0 fun a19 => elI .i64 (AH.cell? H9 (qk4 a19 2)) fun n21 => qa8 x0 H9 fun n23 H23 => AH.cell? H23 (qk4 a19 2) = some (qk2 .i64 n21) ∧ AH.cell? H23 (qk4 a15 1) = some (qk8 p17) ∧ qbA n21 n23 x1 H23 fun n25 H25 => AH.cell? H25 (qk4 a15 1) = some (qk8 p17) ∧ qbt p17 n25 H25 fun c26a n26b H26 => (qlh c26a = 8 ∧ qlH c26a qn = true) ∧ stC H26 ⟨o4, 0, none⟩ c26a fun Hs4 => ldA Hs4 ⟨o4, 0, none⟩ 8 fun r0 => k r0 n26b Hs4)
def qaK.ann : Ann := { keep := fun r => match r with  | _ => [], ord := fun r => match r with | 4 => [0, 1, 2, 3, 4, 5, 6, 7, 8, 10, 9, 11, 12, 13, 14, 15, 16] | _ => [] }
theorem qaK.link {x0 : Option Addr} {x1 : Int} {H : AH} {k : List Value → Int → AH → Prop} (h : qaK.b x0 x1 H k) : qaK x0 x1 H k := lk2 pan hT hm Tryz.func54 (by kernel_rfl) (A := qaK.ann) (by kernel_rfl) (by simp) (by simp) (by kernel_rfl) h
def qaZ.b (x0 : Sl) (x1 : Int) (H : AH) (k : List Value → AH → Prop) : Prop :=
 newC H ⟨[(qk2 .u64 (0 : Int)), (qk2 .u64 (0 : Int)), (qk2 .u64 (0 : Int)), (qk2 .u64 (0 : Int)), (qk2 .u64 (0 : Int)), (qk2 .u64 (0 : Int)), (qk2 .u64 (0 : Int)), (qk2 .u64 (0 : Int))], .rw, 0⟩ fun o4 H4 => newC H4 ⟨[(qk2 .u64 (0 : Int)), (qk2 .u64 (0 : Int)), (qk2 .u64 (0 : Int)), (qk2 .u64 (0 : Int)), (qk2 .u64 (0 : Int)), (qk2 .u64 (0 : Int)), (qk2 .u64 (0 : Int)), (qk2 .u64 (0 : Int))], .rw, 0⟩ fun o5 H5 => (0 ≤ (qk3 .i64 (x1 * (8 : Int))) ∧ (qk3 .i64 (x1 * (8 : Int))) ≤ ((x0.n : Nat) : Int)) ∧ copyC 1 H5 ⟨(some ⟨o5, 0, none⟩), 8, 0⟩ ⟨(Option.map (fun x => qk4 x (qla (qk3 .i64 (x1 * (8 : Int))) * 1)) x0.a), (x0.n - qla (qk3 .i64 (x1 * (8 : Int)))), 0⟩ fun n11 H11 => ldA H11 ⟨o5, 0, none⟩ 8 fun c12 => (qlh c12 = 8 ∧ qlH c12 qn = true) ∧ stC H11 ⟨o4, 0, none⟩ c12 fun Hs2 => ldA Hs2 ⟨o4, 0, none⟩ 8 fun r0 => k r0 Hs2
def qaZ.ann : Ann := { keep := fun r => match r with  | _ => [], ord := fun r => match r with | 2 => [0, 1, 2, 3, 4, 5] | _ => [] }
theorem qaZ.link {x0 : Sl} {x1 : Int} {H : AH} {k : List Value → AH → Prop} (h : qaZ.b x0 x1 H k) : qaZ x0 x1 H k := lk1 pan hT hm Tryz.func56 (by kernel_rfl) (A := qaZ.ann) (by kernel_rfl) (by simp) (by kernel_rfl) h
def qcw.b (x0 : Int) (x1 : Int) (H : AH) (k : Int → Int → AH → Prop) : Prop :=
 gap_Gap x0 x1 H fun n8 H8 => bcase ((n8 : Int) == (-1 : Int)) (k (-1 : Int) (-1 : Int) H8) (bcase ((n8 : Int) == (0 : Int)) (k x0 (0 : Int) H8) (k (qk3 .i64 (n8 - (1 : Int))) n8 H8))
theorem qcw.link {x0 : Int} {x1 : Int} {H : AH} {k : Int → Int → AH → Prop} (h : qcw.b x0 x1 H k) : qcw x0 x1 H k := lk2 pan hT hm Tryz.func137 (by kernel_rfl) (A := ann0) (by kernel_rfl) (by simp) (by simp) (by kernel_rfl) h
def qaA.b (x0 : Option Addr) (H : AH) (k : Int → AH → Prop) : Prop :=
 onPtr x0 fun a4 => elI .i64 (AH.cell? H (qk4 a4 36)) fun n6 => onPtr x0 fun a8 => stC H (qk4 a8 36) [(qk2 .i64 (qk3 .i64 (n6 + (1 : Int))))] fun Hs2 => onPtr x0 fun a12 => elI .i64 (AH.cell? Hs2 (qk4 a12 37)) fun n14 => bcase ((n14 : Int) == (0 : Int)) (onPtr x0 fun a17 => stC Hs2 (qk4 a17 39) [(ql1 true)] fun Hs4 => onPtr x0 fun a20 => elI .i64 (AH.cell? Hs4 (qk4 a20 38)) fun n22 => k n22 Hs4) (onPtr x0 fun a25 => elI .i64 (AH.cell? Hs2 (qk4 a25 37)) fun n27 => bcase (decide ((n27 : Int) > (0 : Int))) (onPtr x0 fun a30 => elI .i64 (AH.cell? Hs2 (qk4 a30 37)) fun n32 => onPtr x0 fun a34 => stC Hs2 (qk4 a34 37) [(qk2 .i64 (qk3 .i64 (n32 - (1 : Int))))] fun Hs6 => k (-1 : Int) Hs6) (k (-1 : Int) Hs2))
theorem qaA.link {x0 : Option Addr} {H : AH} {k : Int → AH → Prop} (h : qaA.b x0 H k) : qaA x0 H k := lk1 pan hT hm Tryz.func156 (by kernel_rfl) (A := ann0) (by kernel_rfl) (by simp) (by kernel_rfl) h
def qbp.j1 (k : List Value → AH → Prop) (o3 : Nat) (o6 : Nat) (HL2 : AH) : Prop :=
 ldA HL2 ⟨o3, 0, none⟩ 8 fun c23 => (qlh c23 = 8 ∧ qlH c23 qn = true) ∧ stC HL2 ⟨o6, 0, none⟩ c23 fun Hs2 => ldA Hs2 ⟨o6, 0, none⟩ 8 fun r0 => k r0 Hs2
def qbp.l2 (x2 : Int) (k : List Value → AH → Prop) (o3 : Nat) (o6 : Nat) (c9 : List Value) (t2 : Int) (HL2 : AH) (it2 : (Int) → AH → Prop) : Prop :=
 bcase (decide ((t2 : Int) < (8 : Int))) ((0 ≤ t2 ∧ t2 < ((8 : Nat) : Int)) ∧ elI .u64 ((c9)[(qla t2 * 1)]?) fun n13 => (0 : Int) ≤ t2 ∧ bcase (((andI .i64 (shrI .i64 x2 t2) (1 : Int)) : Int) == (1 : Int)) ((0 ≤ t2 ∧ t2 < ((8 : Nat) : Int)) ∧ stC HL2 (qk4 ⟨o3, 0, none⟩ (qla t2 * 1)) [(qk2 .u64 n13)] fun Hs4 => it2 (qk3 .i64 (t2 + (1 : Int))) Hs4) (it2 (qk3 .i64 (t2 + (1 : Int))) HL2)) (qbp.j1 k o3 o6 HL2)
def qbp.b (x0 : List Value) (x1 : List Value) (x2 : Int) (H : AH) (k : List Value → AH → Prop) : Prop :=
 newC H ⟨x0, .rw, 0⟩ fun o3 H3 => newC H3 ⟨x1, .rw, 0⟩ fun o4 H4 => newC H4 ⟨[(qk2 .u64 (0 : Int)), (qk2 .u64 (0 : Int)), (qk2 .u64 (0 : Int)), (qk2 .u64 (0 : Int)), (qk2 .u64 (0 : Int)), (qk2 .u64 (0 : Int)), (qk2 .u64 (0 : Int)), (qk2 .u64 (0 : Int))], .rw, 0⟩ fun o6 H6 => ldA H6 ⟨o4, 0, none⟩ 8 fun c9 => loopT (qbp.l2 x2 k o3 o6 c9) (((0 : Int)) : Int) H6
def qbp.ann : Ann := { keep := fun r => match r with | 2 => [(10, .int .i64)] | _ => [], ord := fun r => match r with  | _ => [] }
theorem qbp.link {x0 : List Value} {x1 : List Value} {x2 : Int} {H : AH} {k : List Value → AH → Prop} (h : qbp.b x0 x1 x2 H k) : qbp x0 x1 x2 H k := lk1 pan hT hm Tryz.func172 (by kernel_rfl) (A := qbp.ann) (by kernel_rfl) (by simp) (by kernel_rfl) h
def qaq.b (x0 : Option Addr) (x1 : Bool) (H : AH) (k : Int → AH → Prop) : Prop :=
 onPtr x0 fun a7 => elB (AH.cell? H (qk4 a7 39)) fun b9 => bcase b9 (k (2 : Int) H) (bcase x1 (k (3 : Int) H) (k (0 : Int) H))
theorem qaq.link {x0 : Option Addr} {x1 : Bool} {H : AH} {k : Int → AH → Prop} (h : qaq.b x0 x1 H k) : qaq x0 x1 H k := lk1 pan hT hm Tryz.func157 (by kernel_rfl) (A := ann0) (by kernel_rfl) (by simp) (by kernel_rfl) h
def qK.j1 (x0 : Option Addr) (k : Int → AH → Prop) (x9 : Bool) (Hj : AH) : Prop :=
 qaq x0 x9 Hj fun n65 H65 => k n65 H65
def qK.j2 (x0 : Option Addr) (x1 : Int) (k : Int → AH → Prop) (o5 : Nat) (H21 : AH) (n21 : Int) (a27 : Addr) (x9 : Bool) : Prop :=
 bcase (!x9) (ldA H21 (qk4 (qk4 a27 (qla x1 * 10)) 0) 8 fun c50 => ldA H21 ⟨o5, 0, none⟩ 8 fun c51 => qbp c50 c51 n21 H21 fun c53 H53 => (qlh c53 = 8 ∧ qlH c53 qn = true) ∧ stC H53 (qk4 (qk4 a27 (qla x1 * 10)) 0) c53 fun Hs2 => elI .i64 (AH.cell? Hs2 (qk4 (qk4 a27 (qla x1 * 10)) 8)) fun n59 => stC Hs2 (qk4 (qk4 a27 (qla x1 * 10)) 8) [(qk2 .i64 (qk3 .i64 (n59 + (1 : Int))))] fun Hs4 => qK.j1 x0 k x9 Hs4) (qK.j1 x0 k x9 H21)
def qK.b (x0 : Option Addr) (x1 : Int) (x2 : List Value) (H : AH) (k : Int → AH → Prop) : Prop :=
 newC H ⟨x2, .rw, 0⟩ fun o5 H5 => qaT x0 x1 H5 fun b13 H13 => bcase (!b13) (k (1 : Int) H13) (onPtr x0 fun a17 => elB (AH.cell? H13 (qk4 a17 39)) fun b19 => bcase b19 (k (2 : Int) H13) (qaA x0 H13 fun n21 H21 => onPtr x0 fun a23 => elL (AH.cell? H21 (qk4 a23 0)) fun s25 => (0 ≤ x1 ∧ x1 < ((s25.n : Nat) : Int)) ∧ onPtr s25.a fun a27 => elI .i64 (AH.cell? H21 (qk4 (qk4 a27 (qla x1 * 10)) 9)) fun n31 => bcase (decide ((n31 : Int) ≥ (0 : Int))) (elI .i64 (AH.cell? H21 (qk4 (qk4 a27 (qla x1 * 10)) 8)) fun n37 => elI .i64 (AH.cell? H21 (qk4 (qk4 a27 (qla x1 * 10)) 9)) fun n41 => qK.j2 x0 x1 k o5 H21 n21 a27 (decide ((n37 : Int) ≥ n41))) (qK.j2 x0 x1 k o5 H21 n21 a27 false)))
def qK.ann : Ann := { keep := fun r => match r with  | _ => [], ord := fun r => match r with | 7 => [0, 1, 2, 3, 4, 5, 6, 7, 8, 9, 10, 11, 12, 13, 14, 15, 16] | 9 => [0, 1, 2, 3, 4, 5, 6, 7, 8, 9, 10] | _ => [] }
theorem qK.link {x0 : Option Addr} {x1 : Int} {x2 : List Value} {H : AH} {k : Int → AH → Prop} (h : qK.b x0 x1 x2 H k) : qK x0 x1 x2 H k := lk1 pan hT hm Tryz.func138 (by kernel_rfl) (A := qK.ann) (by kernel_rfl) (by simp) (by kernel_rfl) h
def qbd.l1 (x0 : Sl) (k : Int → AH → Prop) (t2 : Int × Int) (HL2 : AH) (it2 : (Int × Int) → AH → Prop) : Prop :=
 bcase (decide ((t2.2 : Int) < ((x0.n : Nat) : Int))) ((0 ≤ t2.2 ∧ t2.2 < ((x0.n : Nat) : Int)) ∧ onPtr x0.a fun a10 => elI .u64 (AH.cell? HL2 (qk4 a10 (qla t2.2 * 1))) fun n11 => bcase ((n11 : Int) == (0 : Int)) (k t2.2 HL2) (it2 (t2.1, (qk3 .i64 (t2.2 + (1 : Int)))) HL2)) (k (-1 : Int) HL2)
def qbd.b (x0 : Sl) (H : AH) (k : Int → AH → Prop) : Prop :=
 loopT (qbd.l1 x0 k) (((0 : Int), (0 : Int)) : Int × Int) H
def qbd.ann : Ann := { keep := fun r => match r with | 2 => [(2, .int .i64), (7, .int .i64)] | _ => [], ord := fun r => match r with  | _ => [] }
theorem qbd.link {x0 : Sl} {H : AH} {k : Int → AH → Prop} (h : qbd.b x0 H k) : qbd x0 H k := lk1 pan hT hm Tryz.func139 (by kernel_rfl) (A := qbd.ann) (by kernel_rfl) (by simp) (by kernel_rfl) h
def qB.j1 (x0 : Option Addr) (k : Int → AH → Prop) (Hj : AH) : Prop :=
 qaq x0 false Hj fun n28 H28 => k n28 H28
def qB.b (x0 : Option Addr) (x1 : Int) (x2 : Int) (H : AH) (k : Int → AH → Prop) : Prop :=
 qas x0 x1 H fun b10 H10 => bcase (!b10) (k (1 : Int) H10) (onPtr x0 fun a14 => elB (AH.cell? H10 (qk4 a14 39)) fun b16 => bcase b16 (k (2 : Int) H10) (qaA x0 H10 fun n18 H18 => bcase (((andI .i64 n18 (1 : Int)) : Int) == (1 : Int)) (onPtr x0 fun a24 => (0 ≤ x1 ∧ x1 < ((35 : Nat) : Int)) ∧ stC H18 (qk4 (qk4 a24 1) (qla x1 * 1)) [(qk2 .u64 x2)] fun Hs2 => qB.j1 x0 k Hs2) (qB.j1 x0 k H18)))
theorem qB.link {x0 : Option Addr} {x1 : Int} {x2 : Int} {H : AH} {k : Int → AH → Prop} (h : qB.b x0 x1 x2 H k) : qB x0 x1 x2 H k := lk1 pan hT hm Tryz.func118 (by kernel_rfl) (A := ann0) (by kernel_rfl) (by simp) (by kernel_rfl) h
def qaj.l1 (x0 : Option Addr) (x1 : Int) (k : Int → AH → Prop) (o5 : Nat) (t11 : Int × Int) (HL11 : AH) (it11 : (Int × Int) → AH → Prop) : Prop :=
 onPtr x0 fun a43 => elI .i64 (AH.cell? HL11 (qk4 a43 2)) fun n45 => bcase (decide ((t11.2 : Int) < n45)) (onPtr x0 fun a53 => elP (AH.cell? HL11 (qk4 a53 0)) fun p55 => onPtr x0 fun a57 => elI .i64 (AH.cell? HL11 (qk4 a57 1)) fun n59 => ldA HL11 ⟨o5, 0, none⟩ 8 fun c62 => qK p55 (qk3 .i64 (n59 + t11.2)) c62 HL11 fun n63 H63 => bcase ((n63 : Int) == (0 : Int)) (onPtr x0 fun a69 => elP (AH.cell? H63 (qk4 a69 0)) fun p71 => qB p71 (qk3 .i64 ((3 : Int) + t11.2)) (qk3 .u64 ((qk3 .u64 x1) + (1 : Int))) H63 fun n75 H75 => k n75 H75) (bcase ((n63 : Int) == (3 : Int)) (onPtr x0 fun a79 => elI .i64 (AH.cell? H63 (qk4 a79 1)) fun n81 => qbT n81 H63 fun n82 H82 => onPtr x0 fun a84 => elP (AH.cell? H82 (qk4 a84 0)) fun p86 => qB p86 (qk3 .i64 ((3 : Int) + t11.2)) n82 H82 fun n90 H90 => bcase ((n90 : Int) != (0 : Int)) (k n90 H90) (it11 (t11.1, (qk3 .i64 (t11.2 + (1 : Int)))) H90)) (k n63 H63))) (k (3 : Int) HL11)
def qaj.b (x0 : Option Addr) (x1 : Int) (x2 : List Value) (H : AH) (k : Int → AH → Prop) : Prop :=
 newC H ⟨x2, .rw, 0⟩ fun o5 H5 => qad x0 x1 H5 fun n19a s19b n19c H19 => bcase ((n19c : Int) != (0 : Int)) (k n19c H19) (onPtr x0 fun a27 => elP (AH.cell? H19 (qk4 a27 0)) fun p29 => ldA H19 ⟨o5, 0, none⟩ 8 fun c31 => qK p29 n19a c31 H19 fun n32 H32 => bcase ((n32 : Int) != (3 : Int)) (k n32 H32) (qbd s19b H32 fun n37 H37 => bcase (decide ((n37 : Int) < (0 : Int))) (k (3 : Int) H37) (loopT (qaj.l1 x0 x1 k o5) (((0 : Int), n37) : Int × Int) H37)))
def qaj.ann : Ann := { keep := fun r => match r with | 11 => [(6, .int .i64), (12, .int .i64)] | _ => [], ord := fun r => match r with | 4 => [0, 1, 2, 3, 4, 5, 6, 7] | 14 => [0, 1, 2, 3, 4, 5, 6, 7, 8, 9, 10, 11, 12] | _ => [] }
theorem qaj.link {x0 : Option Addr} {x1 : Int} {x2 : List Value} {H : AH} {k : Int → AH → Prop} (h : qaj.b x0 x1 x2 H k) : qaj x0 x1 x2 H k := lk1 pan hT hm Tryz.func101 (by kernel_rfl) (A := qaj.ann) (by kernel_rfl) (by simp) (by kernel_rfl) h
def qbi.b (x0 : Option Addr) (H : AH) (k : Int → AH → Prop) : Prop :=
 qa8 x0 H fun n10 H10 => onPtr x0 fun a13 => elI .i64 (AH.cell? H10 (qk4 a13 2)) fun n15 => qcw n15 n10 H10 fun n17a n17b H17 => onPtr x0 fun a22 => elP (AH.cell? H17 (qk4 a22 1)) fun p24 => qbt p24 n17a H17 fun c26a n26b H26 => newC H26 ⟨[(qk2 .u64 (0 : Int)), (qk2 .u64 (0 : Int)), (qk2 .u64 (0 : Int)), (qk2 .u64 (0 : Int)), (qk2 .u64 (0 : Int)), (qk2 .u64 (0 : Int)), (qk2 .u64 (0 : Int)), (qk2 .u64 (0 : Int))], .rw, 0⟩ fun o6 H6 => (qlh c26a = 8 ∧ qlH c26a qn = true) ∧ stC H6 ⟨o6, 0, none⟩ c26a fun Hs2 => bcase ((n26b : Int) != (0 : Int)) (k n26b Hs2) (onPtr x0 fun a33 => elP (AH.cell? Hs2 (qk4 a33 1)) fun p35 => ldA Hs2 ⟨o6, 0, none⟩ 8 fun c37 => qaj p35 n17b c37 Hs2 fun n38 H38 => bcase ((n38 : Int) != (0 : Int)) (k n38 H38) (onPtr x0 fun a43 => elP (AH.cell? H38 (qk4 a43 0)) fun p45 => qB p45 (0 : Int) (qk3 .u64 ((qk3 .u64 n10) + (1 : Int))) H38 fun n49 H49 => k n49 H49))
def qbi.ann : Ann := { keep := fun r => match r with  | _ => [], ord := fun r => match r with | 6 => [0, 1, 2, 3, 4, 5, 6, 7] | _ => [] }
theorem qbi.link {x0 : Option Addr} {H : AH} {k : Int → AH → Prop} (h : qbi.b x0 H k) : qbi x0 H k := lk1 pan hT hm Tryz.func100 (by kernel_rfl) (A := qbi.ann) (by kernel_rfl) (by simp) (by kernel_rfl) h
def qam.j1 (x0 : Option Addr) (x1 : Int) (k : Int → AH → Prop) (o5 : Nat) (Hj : AH) : Prop :=
 onPtr x0 fun a40 => elP (AH.cell? Hj (qk4 a40 1)) fun p42 => onPtr x0 fun a44 => elI .i64 (AH.cell? Hj (qk4 a44 2)) fun n46 => ldA Hj ⟨o5, 0, none⟩ 8 fun c51 => qa8 x0 Hj fun n48 H48 => AH.row? H48 ⟨o5, 0, none⟩ 8 = some c51 ∧ AH.cell? H48 (qk4 a44 2) = some (qk2 .i64 n46) ∧ AH.cell? H48 (qk4 a40 1) = some (qk8 p42) ∧ qbA n46 n48 x1 H48 fun n50 H50 => AH.row? H50 ⟨o5, 0, none⟩ 8 = some c51 ∧ AH.cell? H50 (qk4 a40 1) = some (qk8 p42) ∧ qaj p42 n50 c51 H50 fun n52 H52 => k n52 H52
def qam.b (x0 : Option Addr) (x1 : Int) (x2 : List Value) (H : AH) (k : Int → AH → Prop) : Prop :=
 newC H ⟨x2, .rw, 0⟩ fun o5 H5 => qaI x0 x1 H5 fun n11 H11 => bcase ((n11 : Int) != (0 : Int)) (k n11 H11) (onPtr x0 fun a16 => elI .i64 (AH.cell? H11 (qk4 a16 4)) fun n18 => onPtr x0 fun a20 => stC H11 (qk4 a20 4) [(qk2 .i64 (qk3 .i64 (n18 + (1 : Int))))] fun Hs2 => onPtr x0 fun a23 => elI .i64 (AH.cell? Hs2 (qk4 a23 4)) fun n25 => onPtr x0 fun a27 => elI .i64 (AH.cell? Hs2 (qk4 a27 3)) fun n29 => bcase ((n25 : Int) == n29) (onPtr x0 fun a32 => stC Hs2 (qk4 a32 4) [(qk2 .i64 (0 : Int))] fun Hs4 => qbi x0 Hs4 fun n35 H35 => bcase ((n35 : Int) != (0 : Int)) (k n35 H35) (qam.j1 x0 x1 k o5 H35)) (qam.j1 x0 x1 k o5 Hs2))
def qam.ann : Ann := { keep := fun r => match r with  | _ => [], ord := fun r => match r with | 5 => [0, 1, 2, 3, 4, 5, 6, 7, 8] | 10 => [0, 1, 2, 3, 4, 5, 6, 7, 8, 10, 12, 9, 11, 13, 14] | _ => [] }
theorem qam.link {x0 : Option Addr} {x1 : Int} {x2 : List Value} {H : AH} {k : Int → AH → Prop} (h : qam.b x0 x1 x2 H k) : qam x0 x1 x2 H k := lk1 pan hT hm Tryz.func57 (by kernel_rfl) (A := qam.ann) (by kernel_rfl) (by simp) (by kernel_rfl) h
def qG.j1 (k : Int → AH → Prop) (t14 : Int × Int) (it14 : (Int × Int) → AH → Prop) (x13 : Int) (Hj : AH) : Prop :=
 bcase ((x13 : Int) != (0 : Int)) (k x13 Hj) (it14 (t14.1, (qk3 .i64 (t14.2 + (1 : Int)))) Hj)
def qG.j2 (k : Int → AH → Prop) (o3 : Nat) (p34 : Option Addr) (s37 : Sl) (t14 : Int × Int) (it14 : (Int × Int) → AH → Prop) (n48b : Int) (x59 : Bool) (Hj : AH) : Prop :=
 bcase x59 (ldA Hj ⟨o3, 0, none⟩ 4 fun c61 => qba c61 t14.2 Hj fun n63 H63 => qaZ s37 t14.2 H63 fun c66 H66 => qam p34 n63 c66 H66 fun n67 H67 => qG.j1 k t14 it14 n67 H67) (qG.j1 k t14 it14 n48b Hj)
def qG.l3 (k : Int → AH → Prop) (o3 : Nat) (p34 : Option Addr) (s37 : Sl) (n39 : Int) (t14 : Int × Int) (HL14 : AH) (it14 : (Int × Int) → AH → Prop) : Prop :=
 bcase (decide ((t14.2 : Int) < n39)) (ldA HL14 ⟨o3, 0, none⟩ 4 fun c45 => qba c45 t14.2 HL14 fun n47 H47 => qaK p34 n47 H47 fun c48a n48b H48 => newC H48 ⟨[(qk2 .u64 (0 : Int)), (qk2 .u64 (0 : Int)), (qk2 .u64 (0 : Int)), (qk2 .u64 (0 : Int)), (qk2 .u64 (0 : Int)), (qk2 .u64 (0 : Int)), (qk2 .u64 (0 : Int)), (qk2 .u64 (0 : Int))], .rw, 0⟩ fun o12 H12 => (qlh c48a = 8 ∧ qlH c48a qn = true) ∧ stC H12 ⟨o12, 0, none⟩ c48a fun Hs2 => bcase ((n48b : Int) == (0 : Int)) (ldA Hs2 ⟨o12, 0, none⟩ 8 fun c54 => qaZ s37 t14.2 Hs2 fun c57 H57 => AH.row? H57 ⟨o12, 0, none⟩ 8 = some c54 ∧ elO (eqCells (List.replicate 8 (K.int .u64)) c54 c57) fun e58 => qG.j2 k o3 p34 s37 t14 it14 n48b (!e58) H57) (qG.j2 k o3 p34 s37 t14 it14 n48b false Hs2)) (k (0 : Int) HL14)
def qG.j4 (x0 : Option Addr) (k : Int → AH → Prop) (o3 : Nat) (t5 : Int × Int) (HL5 : AH) : Prop :=
 ldA HL5 ⟨o3, 0, none⟩ 4 fun c33 => qbu x0 c33 HL5 fun p34 H34 => ldA H34 ⟨o3, 0, none⟩ 4 fun c35 => qcf c35 H34 fun n36 H36 => qb3 n36 H36 fun s37 H37 => elI .i64 (AH.cell? H37 (qk4 ⟨o3, 0, none⟩ 0)) fun n39 => loopT (qG.l3 k o3 p34 s37 n39) ((t5.1, (0 : Int)) : Int × Int) H37
def qG.l5 (x0 : Option Addr) (k : Int → AH → Prop) (o3 : Nat) (t5 : Int × Int) (HL5 : AH) (it5 : (Int × Int) → AH → Prop) : Prop :=
 bcase (decide ((t5.2 : Int) < (35 : Int))) (qF x0 t5.2 HL5 fun n26a n26b H26 => bcase ((n26a : Int) != (0 : Int)) (k (5 : Int) H26) (it5 (t5.1, (qk3 .i64 (t5.2 + (1 : Int)))) H26)) (qG.j4 x0 k o3 t5 HL5)
def qG.b (x0 : Option Addr) (x1 : List Value) (H : AH) (k : Int → AH → Prop) : Prop :=
 newC H ⟨x1, .rw, 0⟩ fun o3 H3 => ldA H3 ⟨o3, 0, none⟩ 4 fun c15 => qbn x0 c15 H3 fun n16 H16 => bcase ((n16 : Int) != (0 : Int)) (k n16 H16) (loopT (qG.l5 x0 k o3) (((0 : Int), (0 : Int)) : Int × Int) H16)
def qG.ann : Ann := { keep := fun r => match r with | 5 => [(4, .int .i64), (20, .int .i64)] | 14 => [(4, .int .i64), (40, .int .i64)] | _ => [], ord := fun r => match r with | 17 => [0, 1, 2, 3, 4, 5, 6, 7, 8] | _ => [] }
theorem qG.link {x0 : Option Addr} {x1 : List Value} {H : AH} {k : Int → AH → Prop} (h : qG.b x0 x1 H k) : qG x0 x1 H k := lk1 pan hT hm Tryz.func16 (by kernel_rfl) (A := qG.ann) (by kernel_rfl) (by simp) (by kernel_rfl) h
def qax.b (x0 : Option Addr) (H : AH) (k : Int → AH → Prop) : Prop :=
 bcase (qlA x0) (k (0 : Int) H) (onPtr x0 fun a6 => elI .i64 (AH.cell? H (qk4 a6 2)) fun n8 => k n8 H)
theorem qax.link {x0 : Option Addr} {H : AH} {k : Int → AH → Prop} (h : qax.b x0 H k) : qax x0 H k := lk1 pan hT hm Tryz.func102 (by kernel_rfl) (A := ann0) (by kernel_rfl) (by simp) (by kernel_rfl) h
def log_New.j1 (x0 : Option Addr) (x1 : Option Addr) (k : Option Addr → AH → Prop) (x15 : Bool) (Hj : AH) : Prop :=
 bcase x15 (k none Hj) (newC Hj ⟨[(qk8 x0), (qk8 x1)], .rw, 0⟩ fun o19 H19 => k (some ⟨o19, 0, none⟩) H19)
def log_New.b (x0 : Option Addr) (x1 : Option Addr) (H : AH) (k : Option Addr → AH → Prop) : Prop :=
 bcase (qlA x0) (log_New.j1 x0 x1 k true H) (bcase (qlA x1) (log_New.j1 x0 x1 k true H) (qax x1 H fun n13 H13 => log_New.j1 x0 x1 k (decide ((n13 : Int) ≤ (16 : Int))) H13))
theorem log_New.link {x0 : Option Addr} {x1 : Option Addr} {H : AH} {k : Option Addr → AH → Prop} (h : log_New.b x0 x1 H k) : log_New x0 x1 H k := lk1 pan hT hm Tryz.func58 (by kernel_rfl) (A := ann0) (by kernel_rfl) (by simp) (by kernel_rfl) h
def qb6.b (x0 : Int) (H : AH) (k : Int → AH → Prop) : Prop :=
 ((8 : Int) : Int) ≠ 0 ∧ k (qk3 .i64 (qmr (qk3 .i64 ((qk3 .i64 (x0 + (8 : Int))) - (1 : Int))) (8 : Int))) H
theorem qb6.link {x0 : Int} {H : AH} {k : Int → AH → Prop} (h : qb6.b x0 H k) : qb6 x0 H k := lk1 pan hT hm Tryz.func141 (by kernel_rfl) (A := ann0) (by kernel_rfl) (by simp) (by kernel_rfl) h
def qab.j1 (t8 : Sl × Int × Sl × Int) (it8 : (Sl × Int × Sl × Int) → AH → Prop) (o10 : Nat) (H71 : AH) (x11 : Int) : Prop :=
 ldA H71 ⟨o10, 0, none⟩ 8 fun c78 => (qlh c78 = 8) ∧ (qlh (setMany [(qk2 .i64 x11), (qk2 .u64 (0 : Int)), (qk2 .u64 (0 : Int)), (qk2 .u64 (0 : Int)), (qk2 .u64 (0 : Int)), (qk2 .u64 (0 : Int)), (qk2 .u64 (0 : Int)), (qk2 .u64 (0 : Int)), (qk2 .u64 (0 : Int))] 1 c78) = 9) ∧ newC H71 ⟨(setMany [(qk2 .i64 (0 : Int)), (qk2 .u64 (0 : Int)), (qk2 .u64 (0 : Int)), (qk2 .u64 (0 : Int)), (qk2 .u64 (0 : Int)), (qk2 .u64 (0 : Int)), (qk2 .u64 (0 : Int)), (qk2 .u64 (0 : Int)), (qk2 .u64 (0 : Int))] 0 (setMany [(qk2 .i64 x11), (qk2 .u64 (0 : Int)), (qk2 .u64 (0 : Int)), (qk2 .u64 (0 : Int)), (qk2 .u64 (0 : Int)), (qk2 .u64 (0 : Int)), (qk2 .u64 (0 : Int)), (qk2 .u64 (0 : Int)), (qk2 .u64 (0 : Int))] 1 c78)), .rw, 9⟩ fun o80 H80 => appendC 9 H80 t8.2.2.1 ⟨(some ⟨o80, 0, none⟩), 1, 1⟩ fun s81 H81 => it8 (t8.1, t8.2.1, s81, (qk3 .i64 (t8.2.2.2 + (1 : Int)))) H81
def qab.l2 (x0 : Option Addr) (k : Sl → Int → AH → Prop) (n18a : Int) (t8 : Sl × Int × Sl × Int) (HL8 : AH) (it8 : (Sl × Int × Sl × Int) → AH → Prop) : Prop :=
 bcase (decide ((t8.2.2.2 : Int) < (qk3 .i64 n18a))) (onPtr x0 fun a35 => elP (AH.cell? HL8 (qk4 a35 1)) fun p37 => ((8 : Int) : Int) ≠ 0 ∧ qaK p37 (qk3 .i64 (qmr t8.2.2.2 (8 : Int))) HL8 fun c40a n40b H40 => newC H40 ⟨[(qk2 .u64 (0 : Int)), (qk2 .u64 (0 : Int)), (qk2 .u64 (0 : Int)), (qk2 .u64 (0 : Int)), (qk2 .u64 (0 : Int)), (qk2 .u64 (0 : Int)), (qk2 .u64 (0 : Int)), (qk2 .u64 (0 : Int))], .rw, 0⟩ fun o8 H8 => (qlh c40a = 8 ∧ qlH c40a qn = true) ∧ stC H8 ⟨o8, 0, none⟩ c40a fun Hs2 => bcase ((n40b : Int) != (0 : Int)) (k ⟨none, 0, 0⟩ n40b Hs2) (onPtr x0 fun a48 => elP (AH.cell? Hs2 (qk4 a48 1)) fun p50 => newC Hs2 ⟨[(qk2 .u64 (0 : Int)), (qk2 .u64 (0 : Int)), (qk2 .u64 (0 : Int)), (qk2 .u64 (0 : Int)), (qk2 .u64 (0 : Int)), (qk2 .u64 (0 : Int)), (qk2 .u64 (0 : Int)), (qk2 .u64 (0 : Int))], .rw, 0⟩ fun o10 H10 => qb6 (qk3 .i64 n18a) H10 fun n53 H53 => AH.cell? H53 (qk4 a48 1) = some (qk8 p50) ∧ qaK p50 (qk3 .i64 (n53 + t8.2.2.2)) H53 fun c56a n56b H56 => (qlh c56a = 8 ∧ qlH c56a qn = true) ∧ stC H56 ⟨o10, 0, none⟩ c56a fun Hs4 => bcase ((n56b : Int) != (0 : Int)) (k ⟨none, 0, 0⟩ n56b Hs4) (((8 : Int) : Int) ≠ 0 ∧ (0 ≤ (ql5 t8.2.2.2 (8 : Int)) ∧ (ql5 t8.2.2.2 (8 : Int)) < ((8 : Nat) : Int)) ∧ elI .u64 (AH.cell? Hs4 (qk4 ⟨o8, 0, none⟩ (qla (ql5 t8.2.2.2 (8 : Int)) * 1))) fun n65 => onPtr x0 fun a68 => elP (AH.cell? Hs4 (qk4 a68 1)) fun p70 => qax p70 Hs4 fun n71 H71 => bcase (decide ((n65 : Int) < (qk3 .u64 n71))) (qab.j1 t8 it8 o10 H71 (qk3 .i64 n65)) (qab.j1 t8 it8 o10 H71 (-1 : Int))))) (k t8.2.2.1 (0 : Int) HL8)
def qab.b (x0 : Option Addr) (H : AH) (k : Sl → Int → AH → Prop) : Prop :=
 onPtr x0 fun a15 => elP (AH.cell? H (qk4 a15 0)) fun p17 => qF p17 (1 : Int) H fun n18a n18b H18 => bcase ((n18b : Int) != (0 : Int)) (k ⟨none, 0, 0⟩ n18b H18) (bcase (decide ((n18a : Int) > (14 : Int))) (k ⟨none, 0, 0⟩ (6 : Int) H18) (loopT (qab.l2 x0 k n18a) ((⟨none, 0, 0⟩, (0 : Int), ⟨none, 0, 0⟩, (0 : Int)) : Sl × Int × Sl × Int) H18))
def qab.ann : Ann := { keep := fun r => match r with | 8 => [(2, .sl), (3, .int .i64), (6, .sl), (30, .int .i64)] | _ => [], ord := fun r => match r with | 13 => [0, 1, 2, 3, 4, 5, 7, 13, 6, 8, 9, 10, 11, 12, 14, 15] | _ => [] }
theorem qab.link {x0 : Option Addr} {H : AH} {k : Sl → Int → AH → Prop} (h : qab.b x0 H k) : qab x0 H k := lk2 pan hT hm Tryz.func103 (by kernel_rfl) (A := qab.ann) (by kernel_rfl) (by simp) (by simp) (by kernel_rfl) h
def qag.j1 (x0 : Option Addr) (k : Int → AH → Prop) (HL2 : AH) : Prop :=
 onPtr x0 fun a31 => elP (AH.cell? HL2 (qk4 a31 0)) fun p33 => qB p33 (1 : Int) (0 : Int) HL2 fun n34 H34 => k n34 H34
def qag.l2 (x0 : Option Addr) (x1 : Sl) (k : Int → AH → Prop) (t2 : Int × Int) (HL2 : AH) (it2 : (Int × Int) → AH → Prop) : Prop :=
 bcase (decide ((t2.2 : Int) < ((x1.n : Nat) : Int))) ((0 ≤ t2.2 ∧ t2.2 < ((x1.n : Nat) : Int)) ∧ onPtr x1.a fun a12 => ldA HL2 (qk4 a12 (qla t2.2 * 9)) 9 fun c13 => newC HL2 ⟨[(qk2 .i64 (0 : Int)), (qk2 .u64 (0 : Int)), (qk2 .u64 (0 : Int)), (qk2 .u64 (0 : Int)), (qk2 .u64 (0 : Int)), (qk2 .u64 (0 : Int)), (qk2 .u64 (0 : Int)), (qk2 .u64 (0 : Int)), (qk2 .u64 (0 : Int))], .rw, 0⟩ fun o6 H6 => (qlh c13 = 9 ∧ qlH c13 qn = true) ∧ stC H6 ⟨o6, 0, none⟩ c13 fun Hs2 => onPtr x0 fun a15 => elP (AH.cell? Hs2 (qk4 a15 1)) fun p17 => elI .i64 (AH.cell? Hs2 (qk4 ⟨o6, 0, none⟩ 0)) fun n19 => ldA Hs2 (qk4 ⟨o6, 0, none⟩ 1) 8 fun c21 => qam p17 n19 c21 Hs2 fun n22 H22 => bcase ((n22 : Int) == (0 : Int)) (it2 (t2.1, (qk3 .i64 (t2.2 + (1 : Int)))) H22) (bcase ((n22 : Int) == (3 : Int)) (k (0 : Int) H22) (k n22 H22))) (qag.j1 x0 k HL2)
def qag.b (x0 : Option Addr) (x1 : Sl) (H : AH) (k : Int → AH → Prop) : Prop :=
 loopT (qag.l2 x0 x1 k) (((0 : Int), (0 : Int)) : Int × Int) H
def qag.ann : Ann := { keep := fun r => match r with | 2 => [(4, .int .i64), (10, .int .i64)] | _ => [], ord := fun r => match r with | 4 => [0, 1, 2, 3, 4, 5, 6, 7, 8, 9] | _ => [] }
theorem qag.link {x0 : Option Addr} {x1 : Sl} {H : AH} {k : Int → AH → Prop} (h : qag.b x0 x1 H k) : qag x0 x1 H k := lk1 pan hT hm Tryz.func105 (by kernel_rfl) (A := qag.ann) (by kernel_rfl) (by simp) (by kernel_rfl) h
def qbN.b (x0 : Option Addr) (H : AH) (k : Int → AH → Prop) : Prop :=
 bcase (qlA x0) (k (1 : Int) H) (qab x0 H fun s9a n9b H9 => bcase ((n9b : Int) != (0 : Int)) (k n9b H9) (bcase ((((s9a.n : Nat) : Int) : Int) == (0 : Int)) (k (0 : Int) H9) (onPtr x0 fun a22 => elP (AH.cell? H9 (qk4 a22 1)) fun p24 => qax p24 H9 fun n25 H25 => log_May n25 s9a H25 fun b27 H27 => bcase (!b27) (k (6 : Int) H27) (qag x0 s9a H27 fun n31 H31 => k n31 H31))))
theorem qbN.link {x0 : Option Addr} {H : AH} {k : Int → AH → Prop} (h : qbN.b x0 H k) : qbN x0 H k := lk1 pan hT hm Tryz.func59 (by kernel_rfl) (A := ann0) (by kernel_rfl) (by simp) (by kernel_rfl) h
def qZ.j1 (x0 : Option Addr) (x1 : Int) (k : List Value → Int → AH → Prop) (o4 : Nat) (x5 : Int) (Hj : AH) : Prop :=
 onPtr x0 fun a56 => elP (AH.cell? Hj (qk4 a56 1)) fun p58 => qaK p58 x1 Hj fun c60a n60b H60 => (qlh c60a = 8 ∧ qlH c60a qn = true) ∧ stC H60 ⟨o4, 0, none⟩ c60a fun Hs6 => ldA Hs6 ⟨o4, 0, none⟩ 8 fun r0 => k r0 n60b Hs6
def qZ.l2 (x0 : Option Addr) (x1 : Int) (k : List Value → Int → AH → Prop) (o4 : Nat) (s28a : Sl) (t8 : Int × Int) (HL8 : AH) (it8 : (Int × Int) → AH → Prop) : Prop :=
 bcase (decide ((t8.2 : Int) < ((s28a.n : Nat) : Int))) ((0 ≤ t8.2 ∧ t8.2 < ((s28a.n : Nat) : Int)) ∧ onPtr s28a.a fun a46 => ldA HL8 (qk4 a46 (qla t8.2 * 9)) 9 fun c47 => newC HL8 ⟨[(qk2 .i64 (0 : Int)), (qk2 .u64 (0 : Int)), (qk2 .u64 (0 : Int)), (qk2 .u64 (0 : Int)), (qk2 .u64 (0 : Int)), (qk2 .u64 (0 : Int)), (qk2 .u64 (0 : Int)), (qk2 .u64 (0 : Int)), (qk2 .u64 (0 : Int))], .rw, 0⟩ fun o9 H9 => (qlh c47 = 9 ∧ qlH c47 qn = true) ∧ stC H9 ⟨o9, 0, none⟩ c47 fun Hs8 => elI .i64 (AH.cell? Hs8 (qk4 ⟨o9, 0, none⟩ 0)) fun n49 => bcase ((n49 : Int) == x1) (ldA Hs8 (qk4 ⟨o9, 0, none⟩ 1) 8 fun c53 => (qlh c53 = 8 ∧ qlH c53 qn = true) ∧ stC Hs8 ⟨o4, 0, none⟩ c53 fun Hs10 => ldA Hs10 ⟨o4, 0, none⟩ 8 fun r0 => k r0 (0 : Int) Hs10) (it8 (t8.1, (qk3 .i64 (t8.2 + (1 : Int)))) Hs8)) (qZ.j1 x0 x1 k o4 t8.1 HL8)
def qZ.j3 (x0 : Option Addr) (x1 : Int) (k : List Value → Int → AH → Prop) (o4 : Nat) (x24 : Bool) (Hj : AH) : Prop :=
 bcase x24 ((qlh [(qk2 .u64 (0 : Int)), (qk2 .u64 (0 : Int)), (qk2 .u64 (0 : Int)), (qk2 .u64 (0 : Int)), (qk2 .u64 (0 : Int)), (qk2 .u64 (0 : Int)), (qk2 .u64 (0 : Int)), (qk2 .u64 (0 : Int))] = 8 ∧ qlH [(qk2 .u64 (0 : Int)), (qk2 .u64 (0 : Int)), (qk2 .u64 (0 : Int)), (qk2 .u64 (0 : Int)), (qk2 .u64 (0 : Int)), (qk2 .u64 (0 : Int)), (qk2 .u64 (0 : Int)), (qk2 .u64 (0 : Int))] qn = true) ∧ stC Hj ⟨o4, 0, none⟩ [(qk2 .u64 (0 : Int)), (qk2 .u64 (0 : Int)), (qk2 .u64 (0 : Int)), (qk2 .u64 (0 : Int)), (qk2 .u64 (0 : Int)), (qk2 .u64 (0 : Int)), (qk2 .u64 (0 : Int)), (qk2 .u64 (0 : Int))] fun Hs2 => ldA Hs2 ⟨o4, 0, none⟩ 8 fun r0 => k r0 (1 : Int) Hs2) (qab x0 Hj fun s28a n28b H28 => bcase ((n28b : Int) == (2 : Int)) ((qlh [(qk2 .u64 (0 : Int)), (qk2 .u64 (0 : Int)), (qk2 .u64 (0 : Int)), (qk2 .u64 (0 : Int)), (qk2 .u64 (0 : Int)), (qk2 .u64 (0 : Int)), (qk2 .u64 (0 : Int)), (qk2 .u64 (0 : Int))] = 8 ∧ qlH [(qk2 .u64 (0 : Int)), (qk2 .u64 (0 : Int)), (qk2 .u64 (0 : Int)), (qk2 .u64 (0 : Int)), (qk2 .u64 (0 : Int)), (qk2 .u64 (0 : Int)), (qk2 .u64 (0 : Int)), (qk2 .u64 (0 : Int))] qn = true) ∧ stC H28 ⟨o4, 0, none⟩ [(qk2 .u64 (0 : Int)), (qk2 .u64 (0 : Int)), (qk2 .u64 (0 : Int)), (qk2 .u64 (0 : Int)), (qk2 .u64 (0 : Int)), (qk2 .u64 (0 : Int)), (qk2 .u64 (0 : Int)), (qk2 .u64 (0 : Int))] fun Hs4 => ldA Hs4 ⟨o4, 0, none⟩ 8 fun r0 => k r0 n28b Hs4) (onPtr x0 fun a36 => elP (AH.cell? H28 (qk4 a36 1)) fun p38 => qax p38 H28 fun n39 H39 => log_May n39 s28a H39 fun b41 H41 => bcase b41 (loopT (qZ.l2 x0 x1 k o4 s28a) (((0 : Int), (0 : Int)) : Int × Int) H41) (qZ.j1 x0 x1 k o4 (0 : Int) H41)))
def qZ.b (x0 : Option Addr) (x1 : Int) (H : AH) (k : List Value → Int → AH → Prop) : Prop :=
 newC H ⟨[(qk2 .u64 (0 : Int)), (qk2 .u64 (0 : Int)), (qk2 .u64 (0 : Int)), (qk2 .u64 (0 : Int)), (qk2 .u64 (0 : Int)), (qk2 .u64 (0 : Int)), (qk2 .u64 (0 : Int)), (qk2 .u64 (0 : Int))], .rw, 0⟩ fun o4 H4 => bcase (qlA x0) (qZ.j3 x0 x1 k o4 true H4) (bcase (decide ((x1 : Int) < (16 : Int))) (qZ.j3 x0 x1 k o4 true H4) (onPtr x0 fun a19 => elP (AH.cell? H4 (qk4 a19 1)) fun p21 => qax p21 H4 fun n22 H22 => qZ.j3 x0 x1 k o4 (decide ((x1 : Int) ≥ n22)) H22))
def qZ.ann : Ann := { keep := fun r => match r with | 8 => [(5, .int .i64), (44, .int .i64)] | _ => [], ord := fun r => match r with  | _ => [] }
theorem qZ.link {x0 : Option Addr} {x1 : Int} {H : AH} {k : List Value → Int → AH → Prop} (h : qZ.b x0 x1 H k) : qZ x0 x1 H k := lk2 pan hT hm Tryz.func87 (by kernel_rfl) (A := qZ.ann) (by kernel_rfl) (by simp) (by simp) (by kernel_rfl) h
def qV.l1 (x0 : Option Addr) (k : Sl → Int → AH → Prop) (n14 : Int) (t5 : Sl × Int × Sl × Int) (HL5 : AH) (it5 : (Sl × Int × Sl × Int) → AH → Prop) : Prop :=
 bcase (decide ((t5.2.2.2 : Int) < n14)) (onPtr x0 fun a20 => elP (AH.cell? HL5 (qk4 a20 6)) fun p22 => onPtr x0 fun a24 => ldA HL5 (qk4 a24 1) 4 fun c26 => newC HL5 ⟨[(qk2 .u64 (0 : Int)), (qk2 .u64 (0 : Int)), (qk2 .u64 (0 : Int)), (qk2 .u64 (0 : Int)), (qk2 .u64 (0 : Int)), (qk2 .u64 (0 : Int)), (qk2 .u64 (0 : Int)), (qk2 .u64 (0 : Int))], .rw, 0⟩ fun o6 H6 => qba c26 t5.2.2.2 H6 fun n28 H28 => AH.cell? H28 (qk4 a20 6) = some (qk8 p22) ∧ qZ p22 n28 H28 fun c29a n29b H29 => (qlh c29a = 8 ∧ qlH c29a qn = true) ∧ stC H29 ⟨o6, 0, none⟩ c29a fun Hs2 => bcase ((n29b : Int) != (0 : Int)) (k ⟨none, 0, 0⟩ n29b Hs2) (appendC 1 Hs2 t5.2.2.1 ⟨(some ⟨o6, 0, none⟩), 8, 0⟩ fun s37 H37 => it5 (t5.1, t5.2.1, s37, (qk3 .i64 (t5.2.2.2 + (1 : Int)))) H37)) (k t5.2.2.1 (0 : Int) HL5)
def qV.b (x0 : Option Addr) (H : AH) (k : Sl → Int → AH → Prop) : Prop :=
 bcase (qlA x0) (k ⟨none, 0, 0⟩ (1 : Int) H) (onPtr x0 fun a11 => elI .i64 (AH.cell? H (qk4 (qk4 a11 1) 0)) fun n14 => loopT (qV.l1 x0 k n14) ((⟨none, 0, 0⟩, (0 : Int), ⟨none, 0, 0⟩, (0 : Int)) : Sl × Int × Sl × Int) H)
def qV.ann : Ann := { keep := fun r => match r with | 5 => [(2, .sl), (3, .int .i64), (4, .sl), (15, .int .i64)] | _ => [], ord := fun r => match r with | 7 => [0, 1, 2, 3, 4, 5, 6, 7, 8, 14, 9, 10, 11, 12, 13, 15, 16] | _ => [] }
theorem qV.link {x0 : Option Addr} {H : AH} {k : Sl → Int → AH → Prop} (h : qV.b x0 H k) : qV x0 H k := lk2 pan hT hm Tryz.func44 (by kernel_rfl) (A := qV.ann) (by kernel_rfl) (by simp) (by simp) (by kernel_rfl) h
def qa6.j1 (x0 : Int) (k : Int → Bool → Bool → AH → Prop) (x14 : Bool) (Hj : AH) : Prop :=
 bcase x14 (k (0 : Int) false false Hj) ((0 : Int) ≤ (1 : Int) ∧ k (qk3 .i64 (shrI .u64 x0 (1 : Int))) (((andI .u64 x0 (1 : Int)) : Int) == (1 : Int)) true Hj)
def qa6.b (x0 : Int) (H : AH) (k : Int → Bool → Bool → AH → Prop) : Prop :=
 (0 : Int) ≤ (1 : Int) ∧ bcase (decide (((shrI .u64 x0 (1 : Int)) : Int) > (512 : Int))) (qa6.j1 x0 k true H) ((0 : Int) ≤ (1 : Int) ∧ qaY (qk3 .i64 (shrI .u64 x0 (1 : Int))) H fun b12 H12 => qa6.j1 x0 k (!b12) H12)
theorem qa6.link {x0 : Int} {H : AH} {k : Int → Bool → Bool → AH → Prop} (h : qa6.b x0 H k) : qa6 x0 H k := lk3 pan hT hm Tryz.func88 (by kernel_rfl) (A := ann0) (by kernel_rfl) (by simp) (by simp) (by simp) (by kernel_rfl) h
def qS.j1 (k : Bool → AH → Prop) (t5 : Bool × Int × Bool × Int) (it5 : (Bool × Int × Bool × Int) → AH → Prop) (o8 : Nat) (x43 : Bool) (Hj : AH) : Prop :=
 bcase x43 (k false Hj) (elI .i64 (AH.cell? Hj (qk4 ⟨o8, 0, none⟩ 1)) fun n46 => elB (AH.cell? Hj (qk4 ⟨o8, 0, none⟩ 2)) fun b49 => it5 (t5.1, (qk3 .i64 (t5.2.1 + n46)), (!b49), (qk3 .i64 (t5.2.2.2 + (1 : Int)))) Hj)
def qS.l2 (x0 : Sl) (x1 : Int) (k : Bool → AH → Prop) (t5 : Bool × Int × Bool × Int) (HL5 : AH) (it5 : (Bool × Int × Bool × Int) → AH → Prop) : Prop :=
 bcase (decide ((t5.2.2.2 : Int) < ((x0.n : Nat) : Int))) ((0 ≤ t5.2.2.2 ∧ t5.2.2.2 < ((x0.n : Nat) : Int)) ∧ onPtr x0.a fun a16 => ldA HL5 (qk4 a16 (qla t5.2.2.2 * 3)) 3 fun c17 => newC HL5 ⟨[(qk2 .i64 (0 : Int)), (qk2 .i64 (0 : Int)), (ql1 false)], .rw, 0⟩ fun o8 H8 => (qlh c17 = 3 ∧ qlH c17 qn = true) ∧ stC H8 ⟨o8, 0, none⟩ c17 fun Hs2 => elI .i64 (AH.cell? Hs2 (qk4 ⟨o8, 0, none⟩ 0)) fun n19 => bcase ((n19 : Int) != t5.2.1) (qS.j1 k t5 it5 o8 true Hs2) (elI .i64 (AH.cell? Hs2 (qk4 ⟨o8, 0, none⟩ 1)) fun n24 => qaY n24 Hs2 fun b25 H25 => bcase (!b25) (qS.j1 k t5 it5 o8 true H25) (bcase t5.2.2.1 (elB (AH.cell? H25 (qk4 ⟨o8, 0, none⟩ 2)) fun b32 => bcase (!b32) (qS.j1 k t5 it5 o8 true H25) (elI .i64 (AH.cell? H25 (qk4 ⟨o8, 0, none⟩ 1)) fun n38 => qS.j1 k t5 it5 o8 (decide ((n38 : Int) > (qk3 .i64 (x1 - t5.2.1)))) H25)) (elI .i64 (AH.cell? H25 (qk4 ⟨o8, 0, none⟩ 1)) fun n38 => qS.j1 k t5 it5 o8 (decide ((n38 : Int) > (qk3 .i64 (x1 - t5.2.1)))) H25)))) (k ((t5.2.1 : Int) == x1) HL5)
def qS.b (x0 : Sl) (x1 : Int) (H : AH) (k : Bool → AH → Prop) : Prop :=
 qaU x1 H fun b10 H10 => bcase (!b10) (k false H10) (loopT (qS.l2 x0 x1 k) ((false, (0 : Int), false, (0 : Int)) : Bool × Int × Bool × Int) H10)
def qS.ann : Ann := { keep := fun r => match r with | 5 => [(4, .bool), (5, .int .i64), (6, .bool), (14, .int .i64)] | _ => [], ord := fun r => match r with  | _ => [] }
theorem qS.link {x0 : Sl} {x1 : Int} {H : AH} {k : Bool → AH → Prop} (h : qS.b x0 x1 H k) : qS x0 x1 H k := lk1 pan hT hm Tryz.func89 (by kernel_rfl) (A := qS.ann) (by kernel_rfl) (by simp) (by kernel_rfl) h
def qL.j1 (x0 : Sl) (k : Sl → Bool → AH → Prop) (t3 : Sl × Bool × Sl × Int) (HL3 : AH) : Prop :=
 qS t3.2.2.1 ((x0.n : Nat) : Int) HL3 fun b37 H37 => bcase (!b37) (k ⟨none, 0, 0⟩ false H37) (k t3.2.2.1 true H37)
def qL.l2 (x0 : Sl) (k : Sl → Bool → AH → Prop) (t3 : Sl × Bool × Sl × Int) (HL3 : AH) (it3 : (Sl × Bool × Sl × Int) → AH → Prop) : Prop :=
 bcase (decide ((t3.2.2.2 : Int) < ((x0.n : Nat) : Int))) ((0 ≤ t3.2.2.2 ∧ t3.2.2.2 < ((x0.n : Nat) : Int)) ∧ onPtr x0.a fun a16 => elI .u64 (AH.cell? HL3 (qk4 a16 (qla t3.2.2.2 * 1))) fun n17 => qa6 n17 HL3 fun n18a b18b b18c H18 => bcase (!b18c) (k ⟨none, 0, 0⟩ false H18) ((qlh [(qk2 .i64 t3.2.2.2), (qk2 .i64 n18a), (ql1 b18b)] = 3) ∧ newC H18 ⟨[(qk2 .i64 t3.2.2.2), (qk2 .i64 n18a), (ql1 b18b)], .rw, 3⟩ fun o29 H29 => appendC 3 H29 t3.2.2.1 ⟨(some ⟨o29, 0, none⟩), 1, 1⟩ fun s30 H30 => it3 (t3.1, t3.2.1, s30, (qk3 .i64 (t3.2.2.2 + n18a))) H30)) (qL.j1 x0 k t3 HL3)
def qL.b (x0 : Sl) (H : AH) (k : Sl → Bool → AH → Prop) : Prop :=
 loopT (qL.l2 x0 k) ((⟨none, 0, 0⟩, false, ⟨none, 0, 0⟩, (0 : Int)) : Sl × Bool × Sl × Int) H
def qL.ann : Ann := { keep := fun r => match r with | 3 => [(2, .sl), (3, .bool), (4, .sl), (5, .int .i64)] | _ => [], ord := fun r => match r with  | _ => [] }
theorem qL.link {x0 : Sl} {H : AH} {k : Sl → Bool → AH → Prop} (h : qL.b x0 H k) : qL x0 H k := lk2 pan hT hm Tryz.func45 (by kernel_rfl) (A := qL.ann) (by kernel_rfl) (by simp) (by simp) (by kernel_rfl) h
def qa0.j1 (k : Int → AH → Prop) (o1 : Nat) (H1 : AH) (x10 : Bool) : Prop :=
 bcase x10 (k (0 : Int) H1) (elI .i64 (AH.cell? H1 (qk4 ⟨o1, 0, none⟩ 0)) fun n12 => k (qk3 .i64 ((qk3 .i64 (n12 + (1 : Int))) * (8 : Int))) H1)
def qa0.b (x0 : List Value) (H : AH) (k : Int → AH → Prop) : Prop :=
 newC H ⟨x0, .rw, 0⟩ fun o1 H1 => elI .i64 (AH.cell? H1 (qk4 ⟨o1, 0, none⟩ 0)) fun n4 => bcase (decide ((n4 : Int) < (0 : Int))) (qa0.j1 k o1 H1 true) (elI .i64 (AH.cell? H1 (qk4 ⟨o1, 0, none⟩ 0)) fun n8 => qa0.j1 k o1 H1 (decide ((n8 : Int) > (512 : Int))))
theorem qa0.link {x0 : List Value} {H : AH} {k : Int → AH → Prop} (h : qa0.b x0 H k) : qa0 x0 H k := lk1 pan hT hm Tryz.func144 (by kernel_rfl) (A := ann0) (by kernel_rfl) (by simp) (by kernel_rfl) h
def qbf.b (x0 : List Value) (x1 : Option Addr) (H : AH) (k : Bool → AH → Prop) : Prop :=
 newC H ⟨x0, .rw, 0⟩ fun o2 H2 => elB (AH.cell? H2 (qk4 ⟨o2, 0, none⟩ 2)) fun b5 => bcase b5 (ldA H2 ⟨o2, 0, none⟩ 3 fun c7 => onPtr x1 fun a9 => elI .i64 (AH.cell? H2 a9) fun n9 => qa0 c7 H2 fun n8 H8 => AH.cell? H8 a9 = some (qk2 .i64 n9) ∧ k ((n8 : Int) == n9) H8) (k false H2)
def qbf.ann : Ann := { keep := fun r => match r with  | _ => [], ord := fun r => match r with | 1 => [0, 1, 2, 3, 5, 4, 6, 7, 8] | _ => [] }
theorem qbf.link {x0 : List Value} {x1 : Option Addr} {H : AH} {k : Bool → AH → Prop} (h : qbf.b x0 x1 H k) : qbf x0 x1 H k := lk1 pan hT hm Tryz.func143 (by kernel_rfl) (A := qbf.ann) (by kernel_rfl) (by simp) (by kernel_rfl) h
def qbU.b (x0 : Sl) (x1 : Int) (H : AH) (k : Sl → Int → AH → Prop) : Prop :=
 newC H ⟨[(qk2 .i64 x1)], .rw, 0⟩ fun o3 H3 => qL x0 H3 fun s10a b10b H10 => qv s10a (some ⟨o3, 0, none⟩) H10 fun n16 H16 => k s10a n16 H16
theorem qbU.link {x0 : Sl} {x1 : Int} {H : AH} {k : Sl → Int → AH → Prop} (h : qbU.b x0 x1 H k) : qbU x0 x1 H k := lk2 pan hT hm Tryz.func106 (by kernel_rfl) (A := ann0) (by kernel_rfl) (by simp) (by simp) (by kernel_rfl) h
def qb9.b (x0 : Sl) (x1 : Int) (H : AH) (k : Bool → AH → Prop) : Prop :=
 qbU x0 x1 H fun s10a n10b H10 => k (decide ((n10b : Int) ≥ (0 : Int))) H10
theorem qb9.link {x0 : Sl} {x1 : Int} {H : AH} {k : Bool → AH → Prop} (h : qb9.b x0 x1 H k) : qb9 x0 x1 H k := lk1 pan hT hm Tryz.func60 (by kernel_rfl) (A := ann0) (by kernel_rfl) (by simp) (by kernel_rfl) h
def qb5.b (x0 : Int) (H : AH) (k : Int → AH → Prop) : Prop :=
 ((4 : Int) : Int) ≠ 0 ∧ k (qk3 .i64 (qmr (if (0 : Int) > x0 then (0 : Int) else x0) (4 : Int))) H
theorem qb5.link {x0 : Int} {H : AH} {k : Int → AH → Prop} (h : qb5.b x0 H k) : qb5 x0 H k := lk1 pan hT hm Tryz.func107 (by kernel_rfl) (A := ann0) (by kernel_rfl) (by simp) (by kernel_rfl) h
def qce.b (x0 : List Value) (H : AH) (k : Int → AH → Prop) : Prop :=
 newC H ⟨x0, .rw, 0⟩ fun o1 H1 => ldA H1 ⟨o1, 0, none⟩ 4 fun c3 => qaS c3 H1 fun b4 H4 => bcase (!b4) (k (0 : Int) H4) (elI .i64 (AH.cell? H4 (qk4 ⟨o1, 0, none⟩ 0)) fun n7 => qb5 (qk3 .i64 (n7 - (1 : Int))) H4 fun n9 H9 => k (qk3 .i64 (n9 + (1 : Int))) H9)
theorem qce.link {x0 : List Value} {H : AH} {k : Int → AH → Prop} (h : qce.b x0 H k) : qce x0 H k := lk1 pan hT hm Tryz.func61 (by kernel_rfl) (A := ann0) (by kernel_rfl) (by simp) (by kernel_rfl) h
def qaN.l1 (x1 : Sl) (k : Option Addr → AH → Prop) (o21 : Nat) (t5 : Int) (HL5 : AH) (it5 : (Int) → AH → Prop) : Prop :=
 bcase (decide ((t5 : Int) < ((x1.n : Nat) : Int))) ((0 ≤ t5 ∧ t5 < ((x1.n : Nat) : Int)) ∧ onPtr x1.a fun a26 => elI .i64 (AH.cell? HL5 (qk4 a26 (qla t5 * 1))) fun n27 => elL (AH.cell? HL5 (qk4 ⟨o21, 0, none⟩ 1)) fun s36 => newC HL5 ⟨[(qk2 .i64 (if (1099511627776 : Int) < (if (0 : Int) > n27 then (0 : Int) else n27) then (1099511627776 : Int) else (if (0 : Int) > n27 then (0 : Int) else n27)))], .rw, 1⟩ fun o38 H38 => elL (AH.cell? H38 (qk4 ⟨o21, 0, none⟩ 2)) fun s43 => newC H38 ⟨[(qk2 .i64 (if (1099511627776 : Int) < (if (0 : Int) > n27 then (0 : Int) else n27) then (1099511627776 : Int) else (if (0 : Int) > n27 then (0 : Int) else n27)))], .rw, 1⟩ fun o45 H45 => appendC 1 H45 s36 ⟨(some ⟨o38, 0, none⟩), 1, 1⟩ fun s39 H39 => AH.cell? H39 (qk4 ⟨o21, 0, none⟩ 2) = some (Sl.val s43) ∧ appendC 1 H39 s43 ⟨(some ⟨o45, 0, none⟩), 1, 1⟩ fun s46 H46 => stC H46 (qk4 ⟨o21, 0, none⟩ 1) [(Sl.val s39)] fun Hs2 => stC Hs2 (qk4 ⟨o21, 0, none⟩ 2) [(Sl.val s46)] fun Hs4 => it5 (qk3 .i64 (t5 + (1 : Int))) Hs4) (k (some ⟨o21, 0, none⟩) HL5)
def qaN.j2 (x0 : Int) (x1 : Sl) (H : AH) (k : Option Addr → AH → Prop) (x18 : Bool) : Prop :=
 bcase x18 (k none H) (newC H ⟨[(qk2 .i64 x0), (qll none 0 0), (qll none 0 0)], .rw, 0⟩ fun o21 H21 => loopT (qaN.l1 x1 k o21) (((0 : Int)) : Int) H21)
def qaN.b (x0 : Int) (x1 : Sl) (H : AH) (k : Option Addr → AH → Prop) : Prop :=
 bcase (decide ((x0 : Int) < (1 : Int))) (qaN.j2 x0 x1 H k true) (bcase (decide ((x0 : Int) > (100 : Int))) (qaN.j2 x0 x1 H k true) (qaN.j2 x0 x1 H k (decide ((((x1.n : Nat) : Int) : Int) > (16 : Int)))))
def qaN.ann : Ann := { keep := fun r => match r with | 5 => [(24, .int .i64)] | _ => [], ord := fun r => match r with | 8 => [0, 1, 2, 3, 4, 5, 6, 7, 9, 10, 11, 12, 13, 14, 8, 15, 16, 17, 18, 19, 20, 21] | _ => [] }
theorem qaN.link {x0 : Int} {x1 : Sl} {H : AH} {k : Option Addr → AH → Prop} (h : qaN.b x0 x1 H k) : qaN x0 x1 H k := lk1 pan hT hm Tryz.func62 (by kernel_rfl) (A := qaN.ann) (by kernel_rfl) (by simp) (by kernel_rfl) h
def qU.j1 (k : Option Addr → Int → AH → Prop) (o3 : Nat) (o30 : Nat) (t22 : Option Addr × Int × Sl × Int) (HL22 : AH) : Prop :=
 elI .i64 (AH.cell? HL22 (qk4 ⟨o3, 0, none⟩ 3)) fun n115 => qaN n115 t22.2.2.1 HL22 fun p117 H117 => stC H117 (qk4 ⟨o30, 0, none⟩ 7) [(qk8 p117)] fun Hs4 => k (some ⟨o30, 0, none⟩) (0 : Int) Hs4
def qU.l2 (x0 : Option Addr) (k : Option Addr → Int → AH → Prop) (o3 : Nat) (o30 : Nat) (n92 : Int) (t22 : Option Addr × Int × Sl × Int) (HL22 : AH) (it22 : (Option Addr × Int × Sl × Int) → AH → Prop) : Prop :=
 bcase (decide ((t22.2.2.2 : Int) < n92)) (qF x0 (qk3 .i64 ((19 : Int) + t22.2.2.2)) HL22 fun n100a n100b H100 => bcase ((n100b : Int) != (0 : Int)) (k none n100b H100) (newC H100 ⟨[(qk2 .i64 (qk3 .i64 (if (1099511627776 : Int) < n100a then (1099511627776 : Int) else n100a)))], .rw, 1⟩ fun o110 H110 => appendC 1 H110 t22.2.2.1 ⟨(some ⟨o110, 0, none⟩), 1, 1⟩ fun s111 H111 => it22 (t22.1, t22.2.1, s111, (qk3 .i64 (t22.2.2.2 + (1 : Int)))) H111)) (qU.j1 k o3 o30 t22 HL22)
def qU.j3 (x0 : Option Addr) (k : Option Addr → Int → AH → Prop) (o3 : Nat) (o30 : Nat) (x90 : Bool) (Hj : AH) : Prop :=
 bcase x90 (k none (6 : Int) Hj) (ldA Hj ⟨o3, 0, none⟩ 4 fun c91 => qce c91 Hj fun n92 H92 => loopT (qU.l2 x0 k o3 o30 n92) ((none, (0 : Int), ⟨none, 0, 0⟩, (0 : Int)) : Option Addr × Int × Sl × Int) H92)
def qU.b (x0 : Option Addr) (x1 : List Value) (H : AH) (k : Option Addr → Int → AH → Prop) : Prop :=
 newC H ⟨x1, .rw, 0⟩ fun o3 H3 => ldA H3 ⟨o3, 0, none⟩ 4 fun c19 => qbn x0 c19 H3 fun n20 H20 => bcase ((n20 : Int) != (0 : Int)) (k none n20 H20) (ldA H20 ⟨o3, 0, none⟩ 4 fun c25 => ldA H20 ⟨o3, 0, none⟩ 4 fun c27 => qbu x0 c27 H20 fun p28 H28 => AH.row? H28 ⟨o3, 0, none⟩ 4 = some c25 ∧ (qlh c25 = 4) ∧ newC H28 ⟨(List.set (setMany [(qk8 x0), (qk2 .i64 (0 : Int)), (qk2 .i64 (0 : Int)), (qk2 .i64 (0 : Int)), (qk2 .i64 (0 : Int)), (qk8 none), (qk8 none), (qk8 none), (ql1 false)] 1 c25) 5 (qk8 p28)), .rw, 0⟩ fun o30 H30 => elP (AH.cell? H30 (qk4 ⟨o30, 0, none⟩ 5)) fun p36 => log_New x0 p36 H30 fun p37 H37 => stC H37 (qk4 ⟨o30, 0, none⟩ 6) [(qk8 p37)] fun Hs2 => elP (AH.cell? Hs2 (qk4 ⟨o30, 0, none⟩ 6)) fun p43 => bcase (qlA p43) (k none (6 : Int) Hs2) (elP (AH.cell? Hs2 (qk4 ⟨o30, 0, none⟩ 6)) fun p48 => qbN p48 Hs2 fun n49 H49 => bcase ((n49 : Int) != (0 : Int)) (k none n49 H49) (qV (some ⟨o30, 0, none⟩) H49 fun s55a n55b H55 => bcase ((n55b : Int) != (0 : Int)) (k none n55b H55) (qF x0 (2 : Int) H55 fun n63a n63b H63 => bcase ((n63b : Int) != (0 : Int)) (k none n63b H63) (qL s55a H63 fun s71a b71b H71 => bcase (!b71b) (qU.j3 x0 k o3 o30 true H71) (bcase ((n63a : Int) != (0 : Int)) (bcase (decide ((n63a : Int) > (1048576 : Int))) (qU.j3 x0 k o3 o30 true H71) (qb9 s55a (qk3 .i64 n63a) H71 fun b86 H86 => qU.j3 x0 k o3 o30 (!b86) H86)) (qU.j3 x0 k o3 o30 false H71)))))))
def qU.ann : Ann := { keep := fun r => match r with | 22 => [(4, .ptr), (5, .int .i64), (14, .sl), (93, .int .i64)] | _ => [], ord := fun r => match r with | 4 => [0, 1, 2, 3, 4, 5, 6, 7] | _ => [] }
theorem qU.link {x0 : Option Addr} {x1 : List Value} {H : AH} {k : Option Addr → Int → AH → Prop} (h : qU.b x0 x1 H k) : qU x0 x1 H k := lk2 pan hT hm Tryz.func17 (by kernel_rfl) (A := qU.ann) (by kernel_rfl) (by simp) (by simp) (by kernel_rfl) h
def qaM.b (x0 : Option Addr) (H : AH) (k : Int → AH → Prop) : Prop :=
 onPtr x0 fun a7 => elP (AH.cell? H (qk4 a7 4)) fun p9 => onPtr x0 fun a11 => ldA H (qk4 a11 0) 4 fun c13 => qU p9 c13 H fun p14a n14b H14 => onPtr x0 fun a19 => stC H14 (qk4 a19 5) [(qk8 p14a)] fun Hs2 => k n14b Hs2
def qaM.ann : Ann := { keep := fun r => match r with  | _ => [], ord := fun r => match r with | 1 => [0, 1, 2, 3, 4, 5, 6, 7, 8, 9, 10, 11, 12, 13] | _ => [] }
theorem qaM.link {x0 : Option Addr} {H : AH} {k : Int → AH → Prop} (h : qaM.b x0 H k) : qaM x0 H k := lk1 pan hT hm Tryz.func72 (by kernel_rfl) (A := qaM.ann) (by kernel_rfl) (by simp) (by kernel_rfl) h
def qbQ.b (x0 : List Value) (x1 : Sl) (H : AH) (k : Option Addr → Int → AH → Prop) : Prop :=
 newC H ⟨x0, .rw, 0⟩ fun o2 H2 => ldA H2 ⟨o2, 0, none⟩ 4 fun c9 => qaS c9 H2 fun b10 H10 => bcase (!b10) (k none (1 : Int) H10) (ldA H10 ⟨o2, 0, none⟩ 4 fun c12 => ldA H10 ⟨o2, 0, none⟩ 4 fun c13 => qa5 c13 H10 fun n14 H14 => AH.row? H14 ⟨o2, 0, none⟩ 4 = some c12 ∧ nvm_New n14 x1 H14 fun p16 H16 => AH.row? H16 ⟨o2, 0, none⟩ 4 = some c12 ∧ (qlh c12 = 4) ∧ newC H16 ⟨(List.set (setMany [(qk2 .i64 (0 : Int)), (qk2 .i64 (0 : Int)), (qk2 .i64 (0 : Int)), (qk2 .i64 (0 : Int)), (qk8 none), (qk8 none), (qk2 .i64 (0 : Int))] 0 c12) 4 (qk8 p16)), .rw, 0⟩ fun o18 H18 => elP (AH.cell? H18 (qk4 ⟨o18, 0, none⟩ 4)) fun p22 => ldA H18 ⟨o2, 0, none⟩ 4 fun c23 => qG p22 c23 H18 fun n24 H24 => bcase ((n24 : Int) != (0 : Int)) (k none n24 H24) (qaM (some ⟨o18, 0, none⟩) H24 fun n29 H29 => bcase ((n29 : Int) != (0 : Int)) (k none n29 H29) (k (some ⟨o18, 0, none⟩) (0 : Int) H29)))
def qbQ.ann : Ann := { keep := fun r => match r with  | _ => [], ord := fun r => match r with | 3 => [0, 1, 3, 2, 4, 5, 6, 7] | 4 => [0, 1, 2, 3, 4, 5, 6] | _ => [] }
theorem qbQ.link {x0 : List Value} {x1 : Sl} {H : AH} {k : Option Addr → Int → AH → Prop} (h : qbQ.b x0 x1 H k) : qbQ x0 x1 H k := lk2 pan hT hm Tryz.func24 (by kernel_rfl) (A := qbQ.ann) (by kernel_rfl) (by simp) (by simp) (by kernel_rfl) h
def qR.b (x0 : Option Addr) (H : AH) (k : Int → AH → Prop) : Prop :=
 bcase (qlA x0) (k (0 : Int) H) (onPtr x0 fun a6 => elI .i64 (AH.cell? H (qk4 a6 36)) fun n8 => k n8 H)
theorem qR.link {x0 : Option Addr} {H : AH} {k : Int → AH → Prop} (h : qR.b x0 H k) : qR x0 H k := lk1 pan hT hm Tryz.func26 (by kernel_rfl) (A := ann0) (by kernel_rfl) (by simp) (by kernel_rfl) h
def qaH.b (x0 : Option Addr) (x1 : Int) (x2 : Int) (H : AH) (k : AH → Prop) : Prop :=
 bcase (!(qlA x0)) (onPtr x0 fun a13 => stC H (qk4 a13 37) [(qk2 .i64 (if (-1 : Int) > x1 then (-1 : Int) else x1))] fun Hs2 => onPtr x0 fun a15 => stC Hs2 (qk4 a15 38) [(qk2 .i64 x2)] fun Hs4 => k Hs4) (k H)
theorem qaH.link {x0 : Option Addr} {x1 : Int} {x2 : Int} {H : AH} {k : AH → Prop} (h : qaH.b x0 x1 x2 H k) : qaH x0 x1 x2 H k := lk0 pan hT hm Tryz.func120 (by kernel_rfl) (A := ann0) (by kernel_rfl) (by kernel_rfl) h
def qar.b (x0 : Option Addr) (H : AH) (k : AH → Prop) : Prop :=
 bcase (!(qlA x0)) (onPtr x0 fun a6 => stC H (qk4 a6 37) [(qk2 .i64 (-1 : Int))] fun Hs2 => onPtr x0 fun a8 => stC Hs2 (qk4 a8 39) [(ql1 false)] fun Hs4 => k Hs4) (k H)
theorem qar.link {x0 : Option Addr} {H : AH} {k : AH → Prop} (h : qar.b x0 H k) : qar x0 H k := lk0 pan hT hm Tryz.func121 (by kernel_rfl) (A := ann0) (by kernel_rfl) (by kernel_rfl) h
def qaX.b (x0 : Option Addr) (x1 : List Value) (H : AH) (k : List Value → AH → Prop) : Prop :=
 newC H ⟨x1, .rw, 0⟩ fun o3 H3 => newC H3 ⟨[(qk2 .i64 (0 : Int)), (qk2 .i64 (0 : Int)), (qll none 0 0)], .rw, 0⟩ fun o4 H4 => elI .i64 (AH.cell? H4 (qk4 ⟨o3, 0, none⟩ 0)) fun n7 => bcase ((n7 : Int) == (7 : Int)) (onPtr x0 fun a10 => elP (AH.cell? H4 (qk4 a10 4)) fun p12 => elI .i64 (AH.cell? H4 (qk4 ⟨o3, 0, none⟩ 2)) fun n14 => elI .i64 (AH.cell? H4 (qk4 ⟨o3, 0, none⟩ 3)) fun n16 => qaH p12 n14 n16 H4 fun H17 => (qlh [(qk2 .i64 (0 : Int)), (qk2 .i64 (0 : Int)), (qll none 0 0)] = 3 ∧ qlH [(qk2 .i64 (0 : Int)), (qk2 .i64 (0 : Int)), (qll none 0 0)] qn = true) ∧ stC H17 ⟨o4, 0, none⟩ [(qk2 .i64 (0 : Int)), (qk2 .i64 (0 : Int)), (qll none 0 0)] fun Hs2 => ldA Hs2 ⟨o4, 0, none⟩ 3 fun r0 => k r0 Hs2) (elI .i64 (AH.cell? H4 (qk4 ⟨o3, 0, none⟩ 0)) fun n21 => bcase ((n21 : Int) == (8 : Int)) (onPtr x0 fun a24 => elP (AH.cell? H4 (qk4 a24 4)) fun p26 => qar p26 H4 fun H27 => qaM x0 H27 fun n29 H29 => (qlh [(qk2 .i64 n29), (qk2 .i64 (0 : Int)), (qll none 0 0)] = 3 ∧ qlH [(qk2 .i64 n29), (qk2 .i64 (0 : Int)), (qll none 0 0)] qn = true) ∧ stC H29 ⟨o4, 0, none⟩ [(qk2 .i64 n29), (qk2 .i64 (0 : Int)), (qll none 0 0)] fun Hs4 => ldA Hs4 ⟨o4, 0, none⟩ 3 fun r0 => k r0 Hs4) (onPtr x0 fun a33 => elP (AH.cell? H4 (qk4 a33 5)) fun p35 => bcase (qlA p35) ((qlh [(qk2 .i64 (5 : Int)), (qk2 .i64 (0 : Int)), (qll none 0 0)] = 3 ∧ qlH [(qk2 .i64 (5 : Int)), (qk2 .i64 (0 : Int)), (qll none 0 0)] qn = true) ∧ stC H4 ⟨o4, 0, none⟩ [(qk2 .i64 (5 : Int)), (qk2 .i64 (0 : Int)), (qll none 0 0)] fun Hs6 => ldA Hs6 ⟨o4, 0, none⟩ 3 fun r0 => k r0 Hs6) (onPtr x0 fun a39 => elP (AH.cell? H4 (qk4 a39 5)) fun p41 => ldA H4 ⟨o3, 0, none⟩ 5 fun c42 => qt p41 c42 H4 fun c43 H43 => (qlh c43 = 3 ∧ qlH c43 qn = true) ∧ stC H43 ⟨o4, 0, none⟩ c43 fun Hs8 => ldA Hs8 ⟨o4, 0, none⟩ 3 fun r0 => k r0 Hs8)))
def qaX.ann : Ann := { keep := fun r => match r with  | _ => [], ord := fun r => match r with | 2 => [0, 1, 2, 3, 4, 5, 6, 7, 8] | 9 => [0, 1, 2, 3, 4, 5, 6] | _ => [] }
theorem qaX.link {x0 : Option Addr} {x1 : List Value} {H : AH} {k : List Value → AH → Prop} (h : qaX.b x0 x1 H k) : qaX x0 x1 H k := lk1 pan hT hm Tryz.func73 (by kernel_rfl) (A := qaX.ann) (by kernel_rfl) (by simp) (by kernel_rfl) h
def qbG.b (x0 : Option Addr) (x1 : List Value) (H : AH) (k : List Value → AH → Prop) : Prop :=
 newC H ⟨x1, .rw, 0⟩ fun o3 H3 => newC H3 ⟨[(qk2 .i64 (0 : Int)), (qk2 .i64 (0 : Int)), (qll none 0 0)], .rw, 0⟩ fun o4 H4 => bcase (qlA x0) ((qlh [(qk2 .i64 (1 : Int)), (qk2 .i64 (0 : Int)), (qll none 0 0)] = 3 ∧ qlH [(qk2 .i64 (1 : Int)), (qk2 .i64 (0 : Int)), (qll none 0 0)] qn = true) ∧ stC H4 ⟨o4, 0, none⟩ [(qk2 .i64 (1 : Int)), (qk2 .i64 (0 : Int)), (qll none 0 0)] fun Hs2 => ldA Hs2 ⟨o4, 0, none⟩ 3 fun r0 => k r0 Hs2) (onPtr x0 fun a11 => elP (AH.cell? H4 (qk4 a11 4)) fun p13 => qR p13 H4 fun n14 H14 => ldA H14 ⟨o3, 0, none⟩ 5 fun c16 => qaX x0 c16 H14 fun c17 H17 => newC H17 ⟨[(qk2 .i64 (0 : Int)), (qk2 .i64 (0 : Int)), (qll none 0 0)], .rw, 0⟩ fun o6 H6 => (qlh c17 = 3 ∧ qlH c17 qn = true) ∧ stC H6 ⟨o6, 0, none⟩ c17 fun Hs4 => onPtr x0 fun a20 => elP (AH.cell? Hs4 (qk4 a20 4)) fun p22 => qR p22 Hs4 fun n23 H23 => onPtr x0 fun a26 => stC H23 (qk4 a26 6) [(qk2 .i64 (qk3 .i64 (n23 - n14)))] fun Hs6 => ldA Hs6 ⟨o6, 0, none⟩ 3 fun c28 => (qlh c28 = 3 ∧ qlH c28 qn = true) ∧ stC Hs6 ⟨o4, 0, none⟩ c28 fun Hs8 => ldA Hs8 ⟨o4, 0, none⟩ 3 fun r0 => k r0 Hs8)
theorem qbG.link {x0 : Option Addr} {x1 : List Value} {H : AH} {k : List Value → AH → Prop} (h : qbG.b x0 x1 H k) : qbG x0 x1 H k := lk1 pan hT hm Tryz.func28 (by kernel_rfl) (A := ann0) (by kernel_rfl) (by simp) (by kernel_rfl) h
def qa2.l1 (x0 : Sl) (k : Int → AH → Prop) (t3 : Int × Int) (HL3 : AH) (it3 : (Int × Int) → AH → Prop) : Prop :=
 bcase (decide ((t3.2 : Int) < ((x0.n : Nat) : Int))) ((0 ≤ t3.2 ∧ t3.2 < ((x0.n : Nat) : Int)) ∧ onPtr x0.a fun a10 => elI .u64 (AH.cell? HL3 (qk4 a10 (qla t3.2 * 1))) fun n11 => bcase ((n11 : Int) == (0 : Int)) (it3 ((qk3 .i64 (t3.1 + (1 : Int))), (qk3 .i64 (t3.2 + (1 : Int)))) HL3) (it3 (t3.1, (qk3 .i64 (t3.2 + (1 : Int)))) HL3)) (k t3.1 HL3)
def qa2.b (x0 : Sl) (H : AH) (k : Int → AH → Prop) : Prop :=
 loopT (qa2.l1 x0 k) (((0 : Int), (0 : Int)) : Int × Int) H
def qa2.ann : Ann := { keep := fun r => match r with | 3 => [(3, .int .i64), (8, .int .i64)] | _ => [], ord := fun r => match r with  | _ => [] }
theorem qa2.link {x0 : Sl} {H : AH} {k : Int → AH → Prop} (h : qa2.b x0 H k) : qa2 x0 H k := lk1 pan hT hm Tryz.func159 (by kernel_rfl) (A := qa2.ann) (by kernel_rfl) (by simp) (by kernel_rfl) h
def qbC.b (x0 : Option Addr) (H : AH) (k : Int → AH → Prop) : Prop :=
 bcase (qlA x0) (k (0 : Int) H) (qD x0 H fun s9a n9b H9 => qa2 s9a H9 fun n13 H13 => k n13 H13)
theorem qbC.link {x0 : Option Addr} {H : AH} {k : Int → AH → Prop} (h : qbC.b x0 H k) : qbC x0 H k := lk1 pan hT hm Tryz.func119 (by kernel_rfl) (A := ann0) (by kernel_rfl) (by simp) (by kernel_rfl) h
def qbJ.b (x0 : Option Addr) (H : AH) (k : Int → AH → Prop) : Prop :=
 bcase (qlA x0) (k (0 : Int) H) (onPtr x0 fun a6 => elP (AH.cell? H (qk4 a6 1)) fun p8 => qbC p8 H fun n9 H9 => k n9 H9)
theorem qbJ.link {x0 : Option Addr} {H : AH} {k : Int → AH → Prop} (h : qbJ.b x0 H k) : qbJ x0 H k := lk1 pan hT hm Tryz.func70 (by kernel_rfl) (A := ann0) (by kernel_rfl) (by simp) (by kernel_rfl) h
def qbI.b (x0 : Option Addr) (H : AH) (k : Int → AH → Prop) : Prop :=
 bcase (qlA x0) (k (0 : Int) H) (onPtr x0 fun a6 => elP (AH.cell? H (qk4 a6 5)) fun p8 => qbJ p8 H fun n9 H9 => k n9 H9)
theorem qbI.link {x0 : Option Addr} {H : AH} {k : Int → AH → Prop} (h : qbI.b x0 H k) : qbI x0 H k := lk1 pan hT hm Tryz.func19 (by kernel_rfl) (A := ann0) (by kernel_rfl) (by simp) (by kernel_rfl) h
def qbs.b (x0 : Option Addr) (H : AH) (k : Bool → AH → Prop) : Prop :=
 bcase (qlA x0) (k false H) (onPtr x0 fun a9 => elP (AH.cell? H (qk4 a9 0)) fun p11 => qF p11 (1 : Int) H fun n12a n12b H12 => k ((n12a : Int) != (0 : Int)) H12)
theorem qbs.link {x0 : Option Addr} {H : AH} {k : Bool → AH → Prop} (h : qbs.b x0 H k) : qbs x0 H k := lk1 pan hT hm Tryz.func71 (by kernel_rfl) (A := ann0) (by kernel_rfl) (by simp) (by kernel_rfl) h
def qbZ.b (x0 : Option Addr) (H : AH) (k : Bool → AH → Prop) : Prop :=
 bcase (!(qlA x0)) (onPtr x0 fun a7 => elB (AH.cell? H (qk4 a7 8)) fun b9 => bcase b9 (k true H) (onPtr x0 fun a12 => elP (AH.cell? H (qk4 a12 6)) fun p14 => qbs p14 H fun b15 H15 => k b15 H15)) (k false H)
theorem qbZ.link {x0 : Option Addr} {H : AH} {k : Bool → AH → Prop} (h : qbZ.b x0 H k) : qbZ x0 H k := lk1 pan hT hm Tryz.func20 (by kernel_rfl) (A := ann0) (by kernel_rfl) (by simp) (by kernel_rfl) h
def qJ.j1 (k : List Value → Bool → AH → Prop) (o2 : Nat) (o6 : Nat) (Hj : AH) : Prop :=
 ldA Hj ⟨o6, 0, none⟩ 5 fun c54 => (qlh c54 = 5 ∧ qlH c54 qn = true) ∧ stC Hj ⟨o2, 0, none⟩ c54 fun Hs4 => ldA Hs4 ⟨o2, 0, none⟩ 5 fun r0 => k r0 true Hs4
def qJ.j2 (k : List Value → Bool → AH → Prop) (o2 : Nat) (o6 : Nat) (Hs2 : AH) (x51 : Bool) : Prop :=
 bcase x51 (qJ.j1 k o2 o6 Hs2) ((qlh [(qk2 .i64 (0 : Int)), (qk2 .i64 (0 : Int)), (qk2 .i64 (0 : Int)), (qk2 .i64 (0 : Int)), (qll none 0 0)] = 5 ∧ qlH [(qk2 .i64 (0 : Int)), (qk2 .i64 (0 : Int)), (qk2 .i64 (0 : Int)), (qk2 .i64 (0 : Int)), (qll none 0 0)] qn = true) ∧ stC Hs2 ⟨o2, 0, none⟩ [(qk2 .i64 (0 : Int)), (qk2 .i64 (0 : Int)), (qk2 .i64 (0 : Int)), (qk2 .i64 (0 : Int)), (qll none 0 0)] fun Hs18 => ldA Hs18 ⟨o2, 0, none⟩ 5 fun r0 => k r0 false Hs18)
def qJ.j3 (k : List Value → Bool → AH → Prop) (o2 : Nat) (n9 : Int) (n13 : Int) (n19 : Int) (o6 : Nat) (Hs2 : AH) (n27 : Int) (x33 : Bool) : Prop :=
 bcase x33 (stC Hs2 (qk4 ⟨o6, 0, none⟩ 1) [(qk2 .i64 (qk3 .i64 ((qk3 .i64 n9) + (qk3 .i64 ((256 : Int) * (qk3 .i64 n13))))))] fun Hs8 => qJ.j1 k o2 o6 Hs8) (bcase ((n27 : Int) == (3 : Int)) (stC Hs2 (qk4 ⟨o6, 0, none⟩ 1) [(qk2 .i64 (qk3 .i64 ((qk3 .i64 n9) + (qk3 .i64 ((256 : Int) * (qk3 .i64 n13))))))] fun Hs10 => stC Hs10 (qk4 ⟨o6, 0, none⟩ 2) [(qk2 .i64 (qk3 .i64 n19))] fun Hs12 => qJ.j1 k o2 o6 Hs12) (bcase ((n27 : Int) == (7 : Int)) (stC Hs2 (qk4 ⟨o6, 0, none⟩ 2) [(qk2 .i64 (qk3 .i64 ((qk3 .i64 n9) + (qk3 .i64 ((256 : Int) * (qk3 .i64 n13))))))] fun Hs14 => stC Hs14 (qk4 ⟨o6, 0, none⟩ 3) [(qk2 .i64 (qk3 .i64 n19))] fun Hs16 => qJ.j1 k o2 o6 Hs16) (bcase ((n27 : Int) == (6 : Int)) (qJ.j2 k o2 o6 Hs2 ((n27 : Int) == (6 : Int))) (qJ.j2 k o2 o6 Hs2 ((n27 : Int) == (8 : Int))))))
def qJ.b (x0 : Sl) (H : AH) (k : List Value → Bool → AH → Prop) : Prop :=
 newC H ⟨[(qk2 .i64 (0 : Int)), (qk2 .i64 (0 : Int)), (qk2 .i64 (0 : Int)), (qk2 .i64 (0 : Int)), (qll none 0 0)], .rw, 0⟩ fun o2 H2 => (0 ≤ (1 : Int) ∧ (1 : Int) < ((x0.n : Nat) : Int)) ∧ onPtr x0.a fun a8 => elI .u8 (AH.cell? H2 (qk4 a8 (qla (1 : Int) * 1))) fun n9 => (0 ≤ (2 : Int) ∧ (2 : Int) < ((x0.n : Nat) : Int)) ∧ onPtr x0.a fun a12 => elI .u8 (AH.cell? H2 (qk4 a12 (qla (2 : Int) * 1))) fun n13 => (0 ≤ (3 : Int) ∧ (3 : Int) < ((x0.n : Nat) : Int)) ∧ onPtr x0.a fun a18 => elI .u8 (AH.cell? H2 (qk4 a18 (qla (3 : Int) * 1))) fun n19 => (0 ≤ (0 : Int) ∧ (0 : Int) < ((x0.n : Nat) : Int)) ∧ onPtr x0.a fun a22 => elI .u8 (AH.cell? H2 (qk4 a22 (qla (0 : Int) * 1))) fun n23 => newC H2 ⟨[(qk2 .i64 (0 : Int)), (qk2 .i64 (0 : Int)), (qk2 .i64 (0 : Int)), (qk2 .i64 (0 : Int)), (qll none 0 0)], .rw, 0⟩ fun o6 H6 => (qlh [(qk2 .i64 (qk3 .i64 n23)), (qk2 .i64 (0 : Int)), (qk2 .i64 (0 : Int)), (qk2 .i64 (0 : Int)), (qll none 0 0)] = 5 ∧ qlH [(qk2 .i64 (qk3 .i64 n23)), (qk2 .i64 (0 : Int)), (qk2 .i64 (0 : Int)), (qk2 .i64 (0 : Int)), (qll none 0 0)] qn = true) ∧ stC H6 ⟨o6, 0, none⟩ [(qk2 .i64 (qk3 .i64 n23)), (qk2 .i64 (0 : Int)), (qk2 .i64 (0 : Int)), (qk2 .i64 (0 : Int)), (qll none 0 0)] fun Hs2 => elI .i64 (AH.cell? Hs2 (qk4 ⟨o6, 0, none⟩ 0)) fun n27 => bcase ((n27 : Int) == (1 : Int)) (stC Hs2 (qk4 ⟨o6, 0, none⟩ 2) [(qk2 .i64 (qk3 .i64 ((qk3 .i64 n9) + (qk3 .i64 ((256 : Int) * (qk3 .i64 n13))))))] fun Hs6 => qJ.j1 k o2 o6 Hs6) (bcase ((n27 : Int) == (2 : Int)) (qJ.j3 k o2 n9 n13 n19 o6 Hs2 n27 ((n27 : Int) == (2 : Int))) (bcase ((n27 : Int) == (4 : Int)) (qJ.j3 k o2 n9 n13 n19 o6 Hs2 n27 ((n27 : Int) == (4 : Int))) (qJ.j3 k o2 n9 n13 n19 o6 Hs2 n27 ((n27 : Int) == (5 : Int)))))
def qJ.ann : Ann := { keep := fun r => match r with  | _ => [], ord := fun r => match r with | 1 => [0, 1, 2, 3, 4, 5, 6, 7, 8, 9, 10, 11, 12, 13, 14, 15] | _ => [] }
theorem qJ.link {x0 : Sl} {H : AH} {k : List Value → Bool → AH → Prop} (h : qJ.b x0 H k) : qJ x0 H k := lk2 pan hT hm Tryz.func77 (by kernel_rfl) (A := qJ.ann) (by kernel_rfl) (by simp) (by simp) (by kernel_rfl) h
def qap.j1 (t2 : Sl × Sl) (it2 : (Sl × Sl) → AH → Prop) (o4 : Nat) (x0 : Sl) (Hj : AH) : Prop :=
 ldA Hj ⟨o4, 0, none⟩ 5 fun c40 => (qlh c40 = 5) ∧ newC Hj ⟨(setMany [(qk2 .i64 (0 : Int)), (qk2 .i64 (0 : Int)), (qk2 .i64 (0 : Int)), (qk2 .i64 (0 : Int)), (qll none 0 0)] 0 c40), .rw, 5⟩ fun o41 H41 => appendC 5 H41 t2.2 ⟨(some ⟨o41, 0, none⟩), 1, 1⟩ fun s42 H42 => it2 (x0, s42) H42
def qap.l2 (k : Sl → AH → Prop) (t2 : Sl × Sl) (HL2 : AH) (it2 : (Sl × Sl) → AH → Prop) : Prop :=
 bcase (decide ((((t2.1.n : Nat) : Int) : Int) ≥ (4 : Int))) (qJ t2.1 HL2 fun c13a b13b H13 => newC H13 ⟨[(qk2 .i64 (0 : Int)), (qk2 .i64 (0 : Int)), (qk2 .i64 (0 : Int)), (qk2 .i64 (0 : Int)), (qll none 0 0)], .rw, 0⟩ fun o4 H4 => (qlh c13a = 5 ∧ qlH c13a qn = true) ∧ stC H4 ⟨o4, 0, none⟩ c13a fun Hs2 => (0 ≤ (3 : Int) ∧ (3 : Int) < ((t2.1.n : Nat) : Int)) ∧ onPtr t2.1.a fun a17 => elI .u8 (AH.cell? Hs2 (qk4 a17 (qla (3 : Int) * 1))) fun n18 => (0 ≤ (4 : Int) ∧ (4 : Int) ≤ ((t2.1.n : Nat) : Int)) ∧ bcase (!b13b) (it2 (⟨(Option.map (fun x => qk4 x (qla (4 : Int) * 1)) t2.1.a), (t2.1.n - qla (4 : Int)), 0⟩, t2.2) Hs2) (elI .i64 (AH.cell? Hs2 (qk4 ⟨o4, 0, none⟩ 0)) fun n25 => bcase ((n25 : Int) == (4 : Int)) ((0 ≤ (if (((t2.1.n - qla (4 : Int)) : Nat) : Int) < (qk3 .i64 n18) then (((t2.1.n - qla (4 : Int)) : Nat) : Int) else (qk3 .i64 n18)) ∧ (if (((t2.1.n - qla (4 : Int)) : Nat) : Int) < (qk3 .i64 n18) then (((t2.1.n - qla (4 : Int)) : Nat) : Int) else (qk3 .i64 n18)) ≤ (((t2.1.n - qla (4 : Int)) : Nat) : Int)) ∧ (0 ≤ (if (((t2.1.n - qla (4 : Int)) : Nat) : Int) < (qk3 .i64 n18) then (((t2.1.n - qla (4 : Int)) : Nat) : Int) else (qk3 .i64 n18)) ∧ (if (((t2.1.n - qla (4 : Int)) : Nat) : Int) < (qk3 .i64 n18) then (((t2.1.n - qla (4 : Int)) : Nat) : Int) else (qk3 .i64 n18)) ≤ (((t2.1.n - qla (4 : Int)) : Nat) : Int)) ∧ appendC 1 Hs2 ⟨none, 0, 0⟩ ⟨(Option.map (fun x => qk4 x (qla (4 : Int) * 1)) t2.1.a), (qla (if (((t2.1.n - qla (4 : Int)) : Nat) : Int) < (qk3 .i64 n18) then (((t2.1.n - qla (4 : Int)) : Nat) : Int) else (qk3 .i64 n18))), 0⟩ fun s34 H34 => stC H34 (qk4 ⟨o4, 0, none⟩ 4) [(Sl.val s34)] fun Hs4 => qap.j1 t2 it2 o4 ⟨(Option.map (fun x => qk4 x (qla (if (((t2.1.n - qla (4 : Int)) : Nat) : Int) < (qk3 .i64 n18) then (((t2.1.n - qla (4 : Int)) : Nat) : Int) else (qk3 .i64 n18)) * 1)) (Option.map (fun x => qk4 x (qla (4 : Int) * 1)) t2.1.a)), ((t2.1.n - qla (4 : Int)) - qla (if (((t2.1.n - qla (4 : Int)) : Nat) : Int) < (qk3 .i64 n18) then (((t2.1.n - qla (4 : Int)) : Nat) : Int) else (qk3 .i64 n18))), 0⟩ Hs4) (qap.j1 t2 it2 o4 ⟨(Option.map (fun x => qk4 x (qla (4 : Int) * 1)) t2.1.a), (t2.1.n - qla (4 : Int)), 0⟩ Hs2))) (k t2.2 HL2)
def qap.b (x0 : Sl) (H : AH) (k : Sl → AH → Prop) : Prop :=
 loopT (qap.l2 k) ((x0, ⟨none, 0, 0⟩) : Sl × Sl) H
def qap.ann : Ann := { keep := fun r => match r with | 2 => [(0, .sl), (3, .sl)] | _ => [], ord := fun r => match r with | 9 => [0, 1, 2, 4, 5, 6, 3, 7, 8, 9] | _ => [] }
theorem qap.link {x0 : Sl} {H : AH} {k : Sl → AH → Prop} (h : qap.b x0 H k) : qap x0 H k := lk1 pan hT hm Tryz.func34 (by kernel_rfl) (A := qap.ann) (by kernel_rfl) (by simp) (by kernel_rfl) h
def qbj.l1 (k : Sl → Int → AH → Prop) (p16a : Option Addr) (s23 : Sl) (t6 : Sl × Int) (HL6 : AH) (it6 : (Sl × Int) → AH → Prop) : Prop :=
 bcase (decide ((t6.2 : Int) < ((s23.n : Nat) : Int))) ((0 ≤ t6.2 ∧ t6.2 < ((s23.n : Nat) : Int)) ∧ onPtr s23.a fun a27 => ldA HL6 (qk4 a27 (qla t6.2 * 5)) 5 fun c28 => newC HL6 ⟨[(qk2 .i64 (0 : Int)), (qk2 .i64 (0 : Int)), (qk2 .i64 (0 : Int)), (qk2 .i64 (0 : Int)), (qll none 0 0)], .rw, 0⟩ fun o12 H12 => (qlh c28 = 5 ∧ qlH c28 qn = true) ∧ stC H12 ⟨o12, 0, none⟩ c28 fun Hs2 => ldA Hs2 ⟨o12, 0, none⟩ 5 fun c31 => qbG p16a c31 Hs2 fun c32 H32 => (qlh c32 = 3) ∧ newC H32 ⟨(setMany [(qk2 .i64 (0 : Int)), (qk2 .i64 (0 : Int)), (qll none 0 0)] 0 c32), .rw, 3⟩ fun o33 H33 => appendC 3 H33 t6.1 ⟨(some ⟨o33, 0, none⟩), 1, 1⟩ fun s34 H34 => it6 (s34, (qk3 .i64 (t6.2 + (1 : Int)))) H34) (k t6.1 (0 : Int) HL6)
def qbj.b (x0 : List Value) (x1 : Sl) (x2 : Sl) (H : AH) (k : Sl → Int → AH → Prop) : Prop :=
 newC H ⟨x0, .rw, 0⟩ fun o3 H3 => ldA H3 ⟨o3, 0, none⟩ 4 fun c14 => qbQ c14 x1 H3 fun p16a n16b H16 => bcase ((n16b : Int) != (0 : Int)) (k ⟨none, 0, 0⟩ n16b H16) (qap x2 H16 fun s23 H23 => loopT (qbj.l1 k p16a s23) ((⟨none, 0, 0⟩, (0 : Int)) : Sl × Int) H23)
def qbj.ann : Ann := { keep := fun r => match r with | 6 => [(10, .sl), (25, .int .i64)] | _ => [], ord := fun r => match r with  | _ => [] }
theorem qbj.link {x0 : List Value} {x1 : Sl} {x2 : Sl} {H : AH} {k : Sl → Int → AH → Prop} (h : qbj.b x0 x1 x2 H k) : qbj x0 x1 x2 H k := lk2 pan hT hm Tryz.func21 (by kernel_rfl) (A := qbj.ann) (by kernel_rfl) (by simp) (by simp) (by kernel_rfl) h
def qu.j1 (k : Int → AH → Prop) (t4 : Int × Int) (it4 : (Int × Int) → AH → Prop) (Hs2 : AH) (x24 : Bool) : Prop :=
 bcase x24 (k (qk3 .i64 (t4.2 + (1 : Int))) Hs2) (it4 (t4.1, (qk3 .i64 (t4.2 + (1 : Int)))) Hs2)
def qu.l2 (x0 : Sl) (k : Int → AH → Prop) (t4 : Int × Int) (HL4 : AH) (it4 : (Int × Int) → AH → Prop) : Prop :=
 bcase (decide ((t4.2 : Int) < ((x0.n : Nat) : Int))) ((0 ≤ t4.2 ∧ t4.2 < ((x0.n : Nat) : Int)) ∧ onPtr x0.a fun a15 => ldA HL4 (qk4 a15 (qla t4.2 * 5)) 5 fun c16 => newC HL4 ⟨[(qk2 .i64 (0 : Int)), (qk2 .i64 (0 : Int)), (qk2 .i64 (0 : Int)), (qk2 .i64 (0 : Int)), (qll none 0 0)], .rw, 0⟩ fun o6 H6 => (qlh c16 = 5 ∧ qlH c16 qn = true) ∧ stC H6 ⟨o6, 0, none⟩ c16 fun Hs2 => bcase (decide ((t4.2 : Int) ≥ (80 : Int))) (qu.j1 k t4 it4 Hs2 true) (elL (AH.cell? Hs2 (qk4 ⟨o6, 0, none⟩ 4)) fun s21 => qu.j1 k t4 it4 Hs2 (decide ((((s21.n : Nat) : Int) : Int) > (500 : Int))))) (k (0 : Int) HL4)
def qu.b (x0 : Sl) (x1 : Sl) (H : AH) (k : Int → AH → Prop) : Prop :=
 bcase (decide ((((x1.n : Nat) : Int) : Int) > (200 : Int))) (k (1 : Int) H) (loopT (qu.l2 x0 k) (((0 : Int), (0 : Int)) : Int × Int) H)
def qu.ann : Ann := { keep := fun r => match r with | 4 => [(4, .int .i64), (12, .int .i64)] | _ => [], ord := fun r => match r with  | _ => [] }
theorem qu.link {x0 : Sl} {x1 : Sl} {H : AH} {k : Int → AH → Prop} (h : qu.b x0 x1 H k) : qu x0 x1 H k := lk1 pan hT hm Tryz.func23 (by kernel_rfl) (A := qu.ann) (by kernel_rfl) (by simp) (by kernel_rfl) h
def qaE.b (x0 : Option Addr) (H : AH) (k : Option Addr → AH → Prop) : Prop :=
 bcase (qlA x0) (k none H) (onPtr x0 fun a6 => elP (AH.cell? H (qk4 a6 4)) fun p8 => k p8 H)
theorem qaE.link {x0 : Option Addr} {H : AH} {k : Option Addr → AH → Prop} (h : qaE.b x0 H k) : qaE x0 H k := lk1 pan hT hm Tryz.func25 (by kernel_rfl) (A := ann0) (by kernel_rfl) (by simp) (by kernel_rfl) h
def qbz.b (x0 : Option Addr) (H : AH) (k : Int → AH → Prop) : Prop :=
 bcase (qlA x0) (k (0 : Int) H) (onPtr x0 fun a6 => elI .i64 (AH.cell? H (qk4 a6 6)) fun n8 => k n8 H)
theorem qbz.link {x0 : Option Addr} {H : AH} {k : Int → AH → Prop} (h : qbz.b x0 H k) : qbz x0 H k := lk1 pan hT hm Tryz.func29 (by kernel_rfl) (A := ann0) (by kernel_rfl) (by simp) (by kernel_rfl) h
def qcy.b (x0 : Int) (H : AH) (k : Bool → AH → Prop) : Prop :=
 bcase (decide ((x0 : Int) ≥ (0 : Int))) (k (decide ((x0 : Int) ≤ (16 : Int))) H) (k false H)
theorem qcy.link {x0 : Int} {H : AH} {k : Bool → AH → Prop} (h : qcy.b x0 H k) : qcy x0 H k := lk1 pan hT hm Tryz.func74 (by kernel_rfl) (A := ann0) (by kernel_rfl) (by simp) (by kernel_rfl) h
def cost_of.b (x0 : Int) (x1 : Int) (H : AH) (k : Int → AH → Prop) : Prop :=
 k (qk3 .i64 ((qk3 .i64 ((qk3 .i64 ((12 : Int) * x0)) + (24 : Int))) + (qk3 .i64 ((4 : Int) * x1)))) H
theorem cost_of.link {x0 : Int} {x1 : Int} {H : AH} {k : Int → AH → Prop} (h : cost_of.b x0 x1 H k) : cost_of x0 x1 H k := lk1 pan hT hm Tryz.func75 (by kernel_rfl) (A := ann0) (by kernel_rfl) (by simp) (by kernel_rfl) h
def qbw.j1 (k : Int → AH → Prop) (o1 : Nat) (H1 : AH) (x14 : Bool) : Prop :=
 bcase x14 (elI .i64 (AH.cell? H1 (qk4 ⟨o1, 0, none⟩ 2)) fun n16 => ((64 : Int) : Int) ≠ 0 ∧ k (qk3 .i64 ((qk3 .i64 (qmr n16 (64 : Int))) + (4 : Int))) H1) (k (0 : Int) H1)
def qbw.b (x0 : List Value) (H : AH) (k : Int → AH → Prop) : Prop :=
 newC H ⟨x0, .rw, 0⟩ fun o1 H1 => elI .i64 (AH.cell? H1 (qk4 ⟨o1, 0, none⟩ 0)) fun n4 => bcase ((n4 : Int) == (1 : Int)) (elI .i64 (AH.cell? H1 (qk4 ⟨o1, 0, none⟩ 2)) fun n8 => bcase (decide ((n8 : Int) ≥ (0 : Int))) (elI .i64 (AH.cell? H1 (qk4 ⟨o1, 0, none⟩ 2)) fun n12 => qbw.j1 k o1 H1 (decide ((n12 : Int) ≤ (448 : Int)))) (qbw.j1 k o1 H1 false)) (bcase ((n4 : Int) == (4 : Int)) (elL (AH.cell? H1 (qk4 ⟨o1, 0, none⟩ 4)) fun s22 => bcase (decide ((((s22.n : Nat) : Int) : Int) ≤ (448 : Int))) (elL (AH.cell? H1 (qk4 ⟨o1, 0, none⟩ 4)) fun s26 => ((64 : Int) : Int) ≠ 0 ∧ k (qk3 .i64 ((qk3 .i64 (qmr ((s26.n : Nat) : Int) (64 : Int))) + (2 : Int))) H1) (k (0 : Int) H1)) (bcase ((n4 : Int) == (2 : Int)) (k (1 : Int) H1) (k (0 : Int) H1)))
theorem qbw.link {x0 : List Value} {H : AH} {k : Int → AH → Prop} (h : qbw.b x0 H k) : qbw x0 H k := lk1 pan hT hm Tryz.func76 (by kernel_rfl) (A := ann0) (by kernel_rfl) (by simp) (by kernel_rfl) h
def cost_Op.b (x0 : List Value) (x1 : Int) (H : AH) (k : Int → AH → Prop) : Prop :=
 newC H ⟨x0, .rw, 0⟩ fun o2 H2 => ldA H2 ⟨o2, 0, none⟩ 5 fun c6 => qbw c6 H2 fun n7 H7 => qcy x1 H7 fun b10 H10 => bcase (!b10) (k (0 : Int) H10) (elI .i64 (AH.cell? H10 (qk4 ⟨o2, 0, none⟩ 0)) fun n14 => bcase ((n14 : Int) == (5 : Int)) (k (1 : Int) H10) (bcase ((n7 : Int) == (0 : Int)) (k (0 : Int) H10) (cost_of n7 x1 H10 fun n21 H21 => k n21 H21)))
theorem cost_Op.link {x0 : List Value} {x1 : Int} {H : AH} {k : Int → AH → Prop} (h : cost_Op.b x0 x1 H k) : cost_Op x0 x1 H k := lk1 pan hT hm Tryz.func31 (by kernel_rfl) (A := ann0) (by kernel_rfl) (by simp) (by kernel_rfl) h
def qaD.b (H : AH) (k : Bool → AH → Prop) : Prop :=
 newC H ⟨[(qk2 .u8 (1 : Int)), (qk2 .u8 (8 : Int)), (qk2 .u8 (0 : Int)), (qk2 .u8 (0 : Int)), (qk2 .u8 (6 : Int)), (qk2 .u8 (0 : Int)), (qk2 .u8 (0 : Int)), (qk2 .u8 (0 : Int))], .rw, 1⟩ fun o5 H5 => qbj [(qk2 .i64 (4 : Int)), (qk2 .i64 (0 : Int)), (qk2 .i64 (3 : Int)), (qk2 .i64 (2 : Int))] ⟨none, 0, 0⟩ ⟨(some ⟨o5, 0, none⟩), 8, 1⟩ H5 fun s6a n6b H6 => bcase ((n6b : Int) == (0 : Int)) (bcase ((((s6a.n : Nat) : Int) : Int) == (2 : Int)) ((0 ≤ (0 : Int) ∧ (0 : Int) < ((s6a.n : Nat) : Int)) ∧ onPtr s6a.a fun a18 => elI .i64 (AH.cell? H6 (qk4 (qk4 a18 (qla (0 : Int) * 3)) 1)) fun n20 => bcase ((n20 : Int) == (8 : Int)) ((0 ≤ (1 : Int) ∧ (1 : Int) < ((s6a.n : Nat) : Int)) ∧ onPtr s6a.a fun a25 => elI .i64 (AH.cell? H6 (qk4 (qk4 a25 (qla (1 : Int) * 3)) 0)) fun n27 => k ((n27 : Int) == (0 : Int)) H6) (k false H6)) (k false H6)) (k false H6)
theorem qaD.link {_u : Unit} {H : AH} {k : Bool → AH → Prop} (h : qaD.b  H k) : qaD  H k := lk1 pan hT hm Tryz.func32 (by kernel_rfl) (A := ann0) (by kernel_rfl) (by simp) (by kernel_rfl) h
def qaW.b (x0 : Option Addr) (H : AH) (k : Option Addr → AH → Prop) : Prop :=
 bcase (qlA x0) (k none H) (onPtr x0 fun a6 => elP (AH.cell? H (qk4 a6 5)) fun p8 => k p8 H)
theorem qaW.link {x0 : Option Addr} {H : AH} {k : Option Addr → AH → Prop} (h : qaW.b x0 H k) : qaW x0 H k := lk1 pan hT hm Tryz.func37 (by kernel_rfl) (A := ann0) (by kernel_rfl) (by simp) (by kernel_rfl) h
def qau.b (x0 : Int) (H : AH) (k : Bool → AH → Prop) : Prop :=
 bcase (decide ((x0 : Int) ≥ (0 : Int))) (k (decide ((x0 : Int) ≤ (16 : Int))) H) (k false H)
theorem qau.link {x0 : Int} {H : AH} {k : Bool → AH → Prop} (h : qau.b x0 H k) : qau x0 H k := lk1 pan hT hm Tryz.func78 (by kernel_rfl) (A := ann0) (by kernel_rfl) (by simp) (by kernel_rfl) h
def qaf.b (x0 : Int) (H : AH) (k : Int → AH → Prop) : Prop :=
 qau x0 H fun b4 H4 => bcase (!b4) (k (0 : Int) H4) (k (qk3 .i64 ((192 : Int) + (qk3 .i64 ((4 : Int) * x0)))) H4)
theorem qaf.link {x0 : Int} {H : AH} {k : Int → AH → Prop} (h : qaf.b x0 H k) : qaf x0 H k := lk1 pan hT hm Tryz.func39 (by kernel_rfl) (A := ann0) (by kernel_rfl) (by simp) (by kernel_rfl) h
def qf.j1 (k : Bool → AH → Prop) (HL8 : AH) : Prop :=
 qaD  HL8 fun b137 H137 => k b137 H137
def qf.j2 (k : Bool → AH → Prop) (t8 : Bool × Int × Int) (it8 : (Bool × Int × Int) → AH → Prop) (n86 : Int) (H120 : AH) (x115 : Bool) : Prop :=
 bcase x115 (k false H120) (it8 (t8.1, n86, (qk3 .i64 (t8.2.2 + (1 : Int)))) H120)
def qf.j3 (k : Bool → AH → Prop) (t8 : Bool × Int × Int) (it8 : (Bool × Int × Int) → AH → Prop) (o11 : Nat) (n59 : Int) (o13 : Nat) (n65 : Int) (H86 : AH) (n86 : Int) (x99 : Bool) : Prop :=
 bcase x99 (bcase (((qk3 .i64 (n65 - n59)) : Int) != (0 : Int)) (k false H86) (it8 (t8.1, n86, (qk3 .i64 (t8.2.2 + (1 : Int)))) H86)) (ldA H86 ⟨o11, 0, none⟩ 5 fun c117 => cost_Op c117 (if (16 : Int) < (if (qk3 .i64 (t8.2.1 - n86)) > (0 : Int) then (qk3 .i64 (t8.2.1 - n86)) else (0 : Int)) then (16 : Int) else (if (qk3 .i64 (t8.2.1 - n86)) > (0 : Int) then (qk3 .i64 (t8.2.1 - n86)) else (0 : Int))) H86 fun n120 H120 => bcase (decide (((qk3 .i64 (n65 - n59)) : Int) > n120)) (elI .i64 (AH.cell? H120 (qk4 ⟨o13, 0, none⟩ 0)) fun n124 => bcase ((n124 : Int) != (1 : Int)) (qf.j2 k t8 it8 n86 H120 true) (elI .i64 (AH.cell? H120 (qk4 ⟨o13, 0, none⟩ 0)) fun n129 => bcase ((n129 : Int) == (1 : Int)) (qf.j2 k t8 it8 n86 H120 (((qk3 .i64 (n65 - n59)) : Int) != (0 : Int))) (qf.j2 k t8 it8 n86 H120 false))) (elI .i64 (AH.cell? H120 (qk4 ⟨o13, 0, none⟩ 0)) fun n129 => bcase ((n129 : Int) == (1 : Int)) (qf.j2 k t8 it8 n86 H120 (((qk3 .i64 (n65 - n59)) : Int) != (0 : Int))) (qf.j2 k t8 it8 n86 H120 false)))
def qf.j4 (k : Bool → AH → Prop) (p33a : Option Addr) (t8 : Bool × Int × Int) (it8 : (Bool × Int × Int) → AH → Prop) (o11 : Nat) (n59 : Int) (o13 : Nat) (n65 : Int) (x83 : Bool) (Hj : AH) : Prop :=
 bcase x83 (it8 (t8.1, t8.2.1, (qk3 .i64 (t8.2.2 + (1 : Int)))) Hj) (qaW p33a Hj fun p85 H85 => qbI p85 H85 fun n86 H86 => elI .i64 (AH.cell? H86 (qk4 ⟨o11, 0, none⟩ 0)) fun n94 => bcase ((n94 : Int) == (8 : Int)) (qaf (16 : Int) H86 fun n97 H97 => bcase (decide (((qk3 .i64 (n65 - n59)) : Int) > n97)) (k false H97) (it8 (t8.1, n86, (qk3 .i64 (t8.2.2 + (1 : Int)))) H97)) (elI .i64 (AH.cell? H86 (qk4 ⟨o11, 0, none⟩ 0)) fun n101 => bcase ((n101 : Int) == (7 : Int)) (qf.j3 k t8 it8 o11 n59 o13 n65 H86 n86 true) (elI .i64 (AH.cell? H86 (qk4 ⟨o11, 0, none⟩ 0)) fun n105 => bcase ((n105 : Int) == (3 : Int)) (qf.j3 k t8 it8 o11 n59 o13 n65 H86 n86 true) (elI .i64 (AH.cell? H86 (qk4 ⟨o11, 0, none⟩ 0)) fun n110 => qf.j3 k t8 it8 o11 n59 o13 n65 H86 n86 ((n110 : Int) == (6 : Int))))))
def qf.j5 (k : Bool → AH → Prop) (p33a : Option Addr) (t8 : Bool × Int × Int) (it8 : (Bool × Int × Int) → AH → Prop) (o11 : Nat) (n59 : Int) (o13 : Nat) (n65 : Int) (H70 : AH) (x75 : Bool) : Prop :=
 bcase x75 (k false H70) (qaE p33a H70 fun p77 H77 => qP p77 H77 fun b78 H78 => bcase b78 (qf.j4 k p33a t8 it8 o11 n59 o13 n65 true H78) (qaW p33a H78 fun p81 H81 => qf.j4 k p33a t8 it8 o11 n59 o13 n65 (qlA p81) H81))
def qf.l6 (x2 : Sl) (k : Bool → AH → Prop) (p33a : Option Addr) (t8 : Bool × Int × Int) (HL8 : AH) (it8 : (Bool × Int × Int) → AH → Prop) : Prop :=
 bcase (decide ((t8.2.2 : Int) < ((x2.n : Nat) : Int))) ((0 ≤ t8.2.2 ∧ t8.2.2 < ((x2.n : Nat) : Int)) ∧ onPtr x2.a fun a55 => ldA HL8 (qk4 a55 (qla t8.2.2 * 5)) 5 fun c56 => newC HL8 ⟨[(qk2 .i64 (0 : Int)), (qk2 .i64 (0 : Int)), (qk2 .i64 (0 : Int)), (qk2 .i64 (0 : Int)), (qll none 0 0)], .rw, 0⟩ fun o11 H11 => (qlh c56 = 5 ∧ qlH c56 qn = true) ∧ stC H11 ⟨o11, 0, none⟩ c56 fun Hs2 => qaE p33a Hs2 fun p58 H58 => qR p58 H58 fun n59 H59 => ldA H59 ⟨o11, 0, none⟩ 5 fun c61 => qbG p33a c61 H59 fun c62 H62 => newC H62 ⟨[(qk2 .i64 (0 : Int)), (qk2 .i64 (0 : Int)), (qll none 0 0)], .rw, 0⟩ fun o13 H13 => (qlh c62 = 3 ∧ qlH c62 qn = true) ∧ stC H13 ⟨o13, 0, none⟩ c62 fun Hs4 => qaE p33a Hs4 fun p64 H64 => qR p64 H64 fun n65 H65 => qbz p33a H65 fun n70 H70 => bcase (((qk3 .i64 (n65 - n59)) : Int) != n70) (qf.j5 k p33a t8 it8 o11 n59 o13 n65 H70 true) (qf.j5 k p33a t8 it8 o11 n59 o13 n65 H70 (decide (((qk3 .i64 (n65 - n59)) : Int) < (0 : Int))))) (qf.j1 k HL8)
def qf.b (x0 : List Value) (x1 : Sl) (x2 : Sl) (H : AH) (k : Bool → AH → Prop) : Prop :=
 newC H ⟨x0, .rw, 0⟩ fun o3 H3 => qu x2 x1 H3 fun n19 H19 => bcase (decide ((n19 : Int) > (0 : Int))) (qaD  H19 fun b21 H21 => k b21 H21) (elI .i64 (AH.cell? H19 (qk4 ⟨o3, 0, none⟩ 0)) fun n24 => elI .i64 (AH.cell? H19 (qk4 ⟨o3, 0, none⟩ 1)) fun n26 => elI .i64 (AH.cell? H19 (qk4 ⟨o3, 0, none⟩ 2)) fun n28 => elI .i64 (AH.cell? H19 (qk4 ⟨o3, 0, none⟩ 3)) fun n30 => qaP n24 n26 n28 n30 H19 fun c31 H31 => qbQ c31 x1 H31 fun p33a n33b H33 => bcase (qlA p33a) (bcase ((n33b : Int) != (1 : Int)) (bcase (decide ((((x1.n : Nat) : Int) : Int) > (0 : Int))) (qaD  H33 fun b46 H46 => k b46 H46) (k false H33)) (k false H33)) (qaW p33a H33 fun p49 H49 => qbI p49 H49 fun n50 H50 => loopT (qf.l6 x2 k p33a) ((false, n50, (0 : Int)) : Bool × Int × Int) H50))
def qf.ann : Ann := { keep := fun r => match r with | 8 => [(6, .bool), (9, .int .i64), (53, .int .i64)] | _ => [], ord := fun r => match r with  | _ => [] }
theorem qf.link {x0 : List Value} {x1 : Sl} {x2 : Sl} {H : AH} {k : Bool → AH → Prop} (h : qf.b x0 x1 x2 H k) : qf x0 x1 x2 H k := lk1 pan hT hm Tryz.func9 (by kernel_rfl) (A := qf.ann) (by kernel_rfl) (by simp) (by kernel_rfl) h
def qbK.j1 (x0 : Int) (H : AH) (k : Int → AH → Prop) (x8 : Bool) : Prop :=
 bcase x8 (k (0 : Int) H) (((8 : Int) : Int) ≠ 0 ∧ k (qk3 .i64 ((qk3 .i64 (qmr (qk3 .i64 (x0 + (7 : Int))) (8 : Int))) + (1 : Int))) H)
def qbK.b (x0 : Int) (H : AH) (k : Int → AH → Prop) : Prop :=
 bcase (decide ((x0 : Int) < (1 : Int))) (qbK.j1 x0 H k true) (qbK.j1 x0 H k (decide ((x0 : Int) > (448 : Int))))
theorem qbK.link {x0 : Int} {H : AH} {k : Int → AH → Prop} (h : qbK.b x0 H k) : qbK x0 H k := lk1 pan hT hm Tryz.func109 (by kernel_rfl) (A := ann0) (by kernel_rfl) (by simp) (by kernel_rfl) h
def qQ.j1 (t3 : Sl × Int) (it3 : (Sl × Int) → AH → Prop) (Hs2 : AH) (x5 : Sl) (x56 : Bool) : Prop :=
 bcase x56 (newC Hs2 ⟨[(qk2 .i64 t3.2)], .rw, 1⟩ fun o59 H59 => appendC 1 H59 x5 ⟨(some ⟨o59, 0, none⟩), 1, 1⟩ fun s60 H60 => it3 (s60, (qk3 .i64 (t3.2 + (1 : Int)))) H60) (it3 (x5, (qk3 .i64 (t3.2 + (1 : Int)))) Hs2)
def qQ.j2 (x0 : Sl) (t3 : Sl × Int) (it3 : (Sl × Int) → AH → Prop) (o7 : Nat) (Hs2 : AH) (x5 : Sl) : Prop :=
 bcase ((((x5.n : Nat) : Int) : Int) == (0 : Int)) (qQ.j1 t3 it3 Hs2 x5 true) (elI .i64 (AH.cell? Hs2 (qk4 ⟨o7, 0, none⟩ 1)) fun n47 => (0 ≤ (0 : Int) ∧ (0 : Int) < ((x5.n : Nat) : Int)) ∧ onPtr x5.a fun a50 => elI .i64 (AH.cell? Hs2 (qk4 a50 (qla (0 : Int) * 1))) fun n51 => (0 ≤ n51 ∧ n51 < ((x0.n : Nat) : Int)) ∧ onPtr x0.a fun a52 => elI .i64 (AH.cell? Hs2 (qk4 (qk4 a52 (qla n51 * 3)) 1)) fun n54 => qQ.j1 t3 it3 Hs2 x5 ((n47 : Int) == n54))
def qQ.j3 (x0 : Sl) (t3 : Sl × Int) (it3 : (Sl × Int) → AH → Prop) (o7 : Nat) (Hs2 : AH) (x41 : Bool) : Prop :=
 bcase x41 (qQ.j2 x0 t3 it3 o7 Hs2 ⟨none, 0, 0⟩) (qQ.j2 x0 t3 it3 o7 Hs2 t3.1)
def qQ.j4 (x0 : Sl) (t3 : Sl × Int) (it3 : (Sl × Int) → AH → Prop) (o7 : Nat) (Hs2 : AH) (x26 : Bool) : Prop :=
 bcase x26 (it3 (t3.1, (qk3 .i64 (t3.2 + (1 : Int)))) Hs2) (bcase (decide ((((t3.1.n : Nat) : Int) : Int) > (0 : Int))) (elI .i64 (AH.cell? Hs2 (qk4 ⟨o7, 0, none⟩ 1)) fun n32 => (0 ≤ (0 : Int) ∧ (0 : Int) < ((t3.1.n : Nat) : Int)) ∧ onPtr t3.1.a fun a35 => elI .i64 (AH.cell? Hs2 (qk4 a35 (qla (0 : Int) * 1))) fun n36 => (0 ≤ n36 ∧ n36 < ((x0.n : Nat) : Int)) ∧ onPtr x0.a fun a37 => elI .i64 (AH.cell? Hs2 (qk4 (qk4 a37 (qla n36 * 3)) 1)) fun n39 => qQ.j3 x0 t3 it3 o7 Hs2 (decide ((n32 : Int) < n39))) (qQ.j3 x0 t3 it3 o7 Hs2 false))
def qQ.l5 (x0 : Sl) (x1 : Int) (k : Sl → AH → Prop) (t3 : Sl × Int) (HL3 : AH) (it3 : (Sl × Int) → AH → Prop) : Prop :=
 bcase (decide ((t3.2 : Int) < ((x0.n : Nat) : Int))) ((0 ≤ t3.2 ∧ t3.2 < ((x0.n : Nat) : Int)) ∧ onPtr x0.a fun a13 => ldA HL3 (qk4 a13 (qla t3.2 * 3)) 3 fun c14 => newC HL3 ⟨[(qk2 .i64 (0 : Int)), (qk2 .i64 (0 : Int)), (ql1 false)], .rw, 0⟩ fun o7 H7 => (qlh c14 = 3 ∧ qlH c14 qn = true) ∧ stC H7 ⟨o7, 0, none⟩ c14 fun Hs2 => bcase (decide ((x1 : Int) < (2 : Int))) (qQ.j4 x0 t3 it3 o7 Hs2 true) (elB (AH.cell? Hs2 (qk4 ⟨o7, 0, none⟩ 2)) fun b19 => bcase b19 (qQ.j4 x0 t3 it3 o7 Hs2 true) (elI .i64 (AH.cell? Hs2 (qk4 ⟨o7, 0, none⟩ 1)) fun n23 => qQ.j4 x0 t3 it3 o7 Hs2 (decide ((n23 : Int) < x1))))) (k t3.1 HL3)
def qQ.b (x0 : Sl) (x1 : Int) (H : AH) (k : Sl → AH → Prop) : Prop :=
 loopT (qQ.l5 x0 x1 k) ((⟨none, 0, 0⟩, (0 : Int)) : Sl × Int) H
def qQ.ann : Ann := { keep := fun r => match r with | 3 => [(5, .sl), (10, .int .i64)] | _ => [], ord := fun r => match r with | 6 => [0, 1, 2, 3, 4, 5, 6, 7, 8, 9, 10, 11, 12, 13, 14] | 8 => [0, 1, 2, 3, 4, 5, 6, 7, 8, 9, 10, 11, 12, 13, 14] | _ => [] }
theorem qQ.link {x0 : Sl} {x1 : Int} {H : AH} {k : Sl → AH → Prop} (h : qQ.b x0 x1 H k) : qQ x0 x1 H k := lk1 pan hT hm Tryz.func164 (by kernel_rfl) (A := qQ.ann) (by kernel_rfl) (by simp) (by kernel_rfl) h
def qbO.j1 (x0 : Int) (x1 : Int) (H : AH) (k : Int → AH → Prop) (x5 : Bool) : Prop :=
 bcase x5 (k (0 : Int) H) (bcase (decide (((qk3 .i64 (x0 - x1)) : Int) < (2 : Int))) (k x0 H) (k x1 H))
def qbO.b (x0 : Int) (x1 : Int) (H : AH) (k : Int → AH → Prop) : Prop :=
 bcase (decide ((x1 : Int) < (2 : Int))) (qbO.j1 x0 x1 H k true) (qbO.j1 x0 x1 H k (decide ((x1 : Int) > x0)))
theorem qbO.link {x0 : Int} {x1 : Int} {H : AH} {k : Int → AH → Prop} (h : qbO.b x0 x1 H k) : qbO x0 x1 H k := lk1 pan hT hm Tryz.func162 (by kernel_rfl) (A := ann0) (by kernel_rfl) (by simp) (by kernel_rfl) h
def qaa.b (x0 : Int) (H : AH) (pk : Value → AH → Prop) (k : AH → Prop) : Prop :=
 bcase ((x0 : Int) != (0 : Int)) (pk (Value.iface 31 (qk2 .i64 x0)) H) (k H)
theorem qaa.link {x0 : Int} {H : AH} {pk : Value → AH → Prop} {k : AH → Prop} (h : qaa.b x0 H pk k) : qaa x0 H pk k := lk0 pan hT hm Tryz.func113 (by kernel_rfl) (A := ann0) (by kernel_rfl) (by kernel_rfl) h
def qaJ.b (x0 : Option Addr) (H : AH) (pk : Value → AH → Prop) (k : Sl → AH → Prop) : Prop :=
 qV x0 H fun s7a n7b H7 => qaa n7b H7 (fun pv11 Hp11 => pk pv11 Hp11) fun H11 => k s7a H11
theorem qaJ.link {x0 : Option Addr} {H : AH} {pk : Value → AH → Prop} {k : Sl → AH → Prop} (h : qaJ.b x0 H pk k) : qaJ x0 H pk k := lk1 pan hT hm Tryz.func108 (by kernel_rfl) (A := ann0) (by kernel_rfl) (by simp) (by kernel_rfl) h
def qah.b (x0 : Option Addr) (H : AH) (pk : Value → AH → Prop) (k : AH → Prop) : Prop :=
 qbZ x0 H fun b3 H3 => bcase b3 (pk (Value.iface 31 (qk2 .i64 (3 : Int))) H3) (k H3)
theorem qah.link {x0 : Option Addr} {H : AH} {pk : Value → AH → Prop} {k : AH → Prop} (h : qah.b x0 H pk k) : qah x0 H pk k := lk0 pan hT hm Tryz.func110 (by kernel_rfl) (A := ann0) (by kernel_rfl) (by kernel_rfl) h
def qaz.b (x0 : Sl) (H : AH) (k : Sl → AH → Prop) : Prop :=
 bcase (qlA x0.a) (k ⟨none, 0, 0⟩ H) (newC H ⟨[], .rw, 1⟩ fun o5 H5 => appendC 1 H5 ⟨(some ⟨o5, 0, none⟩), 0, 1⟩ x0 fun s7 H7 => k s7 H7)
theorem qaz.link {x0 : Sl} {H : AH} {k : Sl → AH → Prop} (h : qaz.b x0 H k) : qaz x0 H k := lk1 pan hT hm Tryz.func147 (by kernel_rfl) (A := ann0) (by kernel_rfl) (by simp) (by kernel_rfl) h
def qbL.b (x0 : Option Addr) (H : AH) (k : Sl → AH → Prop) : Prop :=
 bcase (qlA x0) (k ⟨none, 0, 0⟩ H) (onPtr x0 fun a6 => elL (AH.cell? H (qk4 a6 1)) fun s8 => qaz s8 H fun s9 H9 => k s9 H9)
theorem qbL.link {x0 : Option Addr} {H : AH} {k : Sl → AH → Prop} (h : qbL.b x0 H k) : qbL x0 H k := lk1 pan hT hm Tryz.func112 (by kernel_rfl) (A := ann0) (by kernel_rfl) (by simp) (by kernel_rfl) h
def qbk.j1 (x1 : Sl) (k : Int → AH → Prop) (o2 : Nat) (H2 : AH) (x15 : Bool) : Prop :=
 bcase x15 (k (0 : Int) H2) (elI .i64 (AH.cell? H2 (qk4 ⟨o2, 0, none⟩ 0)) fun n18 => ((32 : Int) : Int) ≠ 0 ∧ (0 ≤ (qk3 .i64 (qmr n18 (32 : Int))) ∧ (qk3 .i64 (qmr n18 (32 : Int))) < ((x1.n : Nat) : Int)) ∧ onPtr x1.a fun a20 => elI .i64 (AH.cell? H2 (qk4 a20 (qla (qk3 .i64 (qmr n18 (32 : Int))) * 1))) fun n21 => k n21 H2)
def qbk.b (x0 : List Value) (x1 : Sl) (H : AH) (k : Int → AH → Prop) : Prop :=
 newC H ⟨x0, .rw, 0⟩ fun o2 H2 => elI .i64 (AH.cell? H2 (qk4 ⟨o2, 0, none⟩ 0)) fun n6 => bcase (decide ((n6 : Int) < (0 : Int))) (qbk.j1 x1 k o2 H2 true) (elI .i64 (AH.cell? H2 (qk4 ⟨o2, 0, none⟩ 0)) fun n10 => ((32 : Int) : Int) ≠ 0 ∧ qbk.j1 x1 k o2 H2 (decide (((qk3 .i64 (qmr n10 (32 : Int))) : Int) ≥ ((x1.n : Nat) : Int))))
theorem qbk.link {x0 : List Value} {x1 : Sl} {H : AH} {k : Int → AH → Prop} (h : qbk.b x0 x1 H k) : qbk x0 x1 H k := lk1 pan hT hm Tryz.func173 (by kernel_rfl) (A := ann0) (by kernel_rfl) (by simp) (by kernel_rfl) h
def qav.j1 (t3 : Int × Int) (it3 : (Int × Int) → AH → Prop) (n19 : Int) (H34 : AH) (x55 : Bool) : Prop :=
 bcase x55 (it3 (n19, (qk3 .i64 (t3.2 + (1 : Int)))) H34) (it3 (t3.1, (qk3 .i64 (t3.2 + (1 : Int)))) H34)
def qav.l2 (x0 : Sl) (x2 : Sl) (k : Int → AH → Prop) (s14 : Sl) (t3 : Int × Int) (HL3 : AH) (it3 : (Int × Int) → AH → Prop) : Prop :=
 bcase (decide ((t3.2 : Int) < ((s14.n : Nat) : Int))) ((0 ≤ t3.2 ∧ t3.2 < ((s14.n : Nat) : Int)) ∧ onPtr s14.a fun a18 => elI .i64 (AH.cell? HL3 (qk4 a18 (qla t3.2 * 1))) fun n19 => bcase (decide ((t3.1 : Int) < (0 : Int))) (it3 (n19, (qk3 .i64 (t3.2 + (1 : Int)))) HL3) ((0 ≤ n19 ∧ n19 < ((x0.n : Nat) : Int)) ∧ onPtr x0.a fun a25 => ldA HL3 (qk4 a25 (qla n19 * 3)) 3 fun c26 => (0 ≤ t3.1 ∧ t3.1 < ((x0.n : Nat) : Int)) ∧ onPtr x0.a fun a31 => ldA HL3 (qk4 a31 (qla t3.1 * 3)) 3 fun c32 => qbk c26 x2 HL3 fun n28 H28 => AH.row? H28 (qk4 a31 (qla t3.1 * 3)) 3 = some c32 ∧ qbk c32 x2 H28 fun n34 H34 => bcase (decide ((n28 : Int) < n34)) (qav.j1 t3 it3 n19 H34 true) (bcase ((n28 : Int) == n34) ((0 ≤ n19 ∧ n19 < ((x0.n : Nat) : Int)) ∧ onPtr x0.a fun a45 => elI .i64 (AH.cell? H34 (qk4 (qk4 a45 (qla n19 * 3)) 0)) fun n47 => (0 ≤ t3.1 ∧ t3.1 < ((x0.n : Nat) : Int)) ∧ onPtr x0.a fun a50 => elI .i64 (AH.cell? H34 (qk4 (qk4 a50 (qla t3.1 * 3)) 0)) fun n52 => qav.j1 t3 it3 n19 H34 (decide ((n47 : Int) < n52))) (qav.j1 t3 it3 n19 H34 false)))) (k t3.1 HL3)
def qav.b (x0 : Sl) (x1 : Int) (x2 : Sl) (H : AH) (k : Int → AH → Prop) : Prop :=
 qQ x0 x1 H fun s14 H14 => loopT (qav.l2 x0 x2 k s14) (((-1 : Int), (0 : Int)) : Int × Int) H14
def qav.ann : Ann := { keep := fun r => match r with | 3 => [(7, .int .i64), (16, .int .i64)] | _ => [], ord := fun r => match r with | 7 => [0, 1, 2, 3, 4, 6, 7, 8, 9, 10, 5, 11, 12, 13] | 8 => [0, 1, 2, 3, 4, 5, 6, 7, 8, 9, 10, 11, 12, 13, 14, 15, 16, 17, 18, 19, 20] | _ => [] }
theorem qav.link {x0 : Sl} {x1 : Int} {x2 : Sl} {H : AH} {k : Int → AH → Prop} (h : qav.b x0 x1 x2 H k) : qav x0 x1 x2 H k := lk1 pan hT hm Tryz.func145 (by kernel_rfl) (A := qav.ann) (by kernel_rfl) (by simp) (by kernel_rfl) h
def qat.j1 (k : Int → AH → Prop) (t3 : Int × Int × Int) (it3 : (Int × Int × Int) → AH → Prop) (o5 : Nat) (H14 : AH) (x19 : Bool) : Prop :=
 bcase x19 (k (0 : Int) H14) (elI .i64 (AH.cell? H14 (qk4 ⟨o5, 0, none⟩ 1)) fun n22 => it3 (t3.1, (qk3 .i64 (t3.2.1 + n22)), (qk3 .i64 (t3.2.2 + (1 : Int)))) H14)
def qat.l2 (x0 : Sl) (k : Int → AH → Prop) (t3 : Int × Int × Int) (HL3 : AH) (it3 : (Int × Int × Int) → AH → Prop) : Prop :=
 bcase (decide ((t3.2.2 : Int) < ((x0.n : Nat) : Int))) ((0 ≤ t3.2.2 ∧ t3.2.2 < ((x0.n : Nat) : Int)) ∧ onPtr x0.a fun a10 => ldA HL3 (qk4 a10 (qla t3.2.2 * 3)) 3 fun c11 => newC HL3 ⟨[(qk2 .i64 (0 : Int)), (qk2 .i64 (0 : Int)), (ql1 false)], .rw, 0⟩ fun o5 H5 => (qlh c11 = 3 ∧ qlH c11 qn = true) ∧ stC H5 ⟨o5, 0, none⟩ c11 fun Hs2 => elI .i64 (AH.cell? Hs2 (qk4 ⟨o5, 0, none⟩ 1)) fun n13 => qaY n13 Hs2 fun b14 H14 => bcase (!b14) (qat.j1 k t3 it3 o5 H14 true) (qat.j1 k t3 it3 o5 H14 (decide ((t3.2.1 : Int) > (512 : Int))))) (k t3.2.1 HL3)
def qat.b (x0 : Sl) (H : AH) (k : Int → AH → Prop) : Prop :=
 loopT (qat.l2 x0 k) (((0 : Int), (0 : Int), (0 : Int)) : Int × Int × Int) H
def qat.ann : Ann := { keep := fun r => match r with | 3 => [(2, .int .i64), (3, .int .i64), (8, .int .i64)] | _ => [], ord := fun r => match r with  | _ => [] }
theorem qat.link {x0 : Sl} {H : AH} {k : Int → AH → Prop} (h : qat.b x0 H k) : qat x0 H k := lk1 pan hT hm Tryz.func189 (by kernel_rfl) (A := qat.ann) (by kernel_rfl) (by simp) (by kernel_rfl) h
def qaQ.j1 (x0 : Sl) (x1 : Int) (x2 : Int) (k : Sl → AH → Prop) (H13 : AH) (x31 : Bool) : Prop :=
 bcase x31 (k ⟨none, 0, 0⟩ H13) ((0 ≤ x1 ∧ x1 < ((x0.n : Nat) : Int)) ∧ onPtr x0.a fun a34 => ldA H13 (qk4 a34 (qla x1 * 3)) 3 fun c35 => newC H13 ⟨[(qk2 .i64 (0 : Int)), (qk2 .i64 (0 : Int)), (ql1 false)], .rw, 0⟩ fun o7 H7 => (qlh c35 = 3 ∧ qlH c35 qn = true) ∧ stC H7 ⟨o7, 0, none⟩ c35 fun Hs2 => elI .i64 (AH.cell? Hs2 (qk4 ⟨o7, 0, none⟩ 1)) fun n37 => qbO n37 x2 Hs2 fun n39 H39 => bcase ((n39 : Int) == (0 : Int)) (k ⟨none, 0, 0⟩ H39) (elI .i64 (AH.cell? H39 (qk4 ⟨o7, 0, none⟩ 0)) fun n43 => (qlh [(qk2 .i64 n43), (qk2 .i64 n39), (ql1 true)] = 3) ∧ newC H39 ⟨[(qk2 .i64 n43), (qk2 .i64 n39), (ql1 true)], .rw, 3⟩ fun o46 H46 => elI .i64 (AH.cell? H46 (qk4 ⟨o7, 0, none⟩ 1)) fun n49 => bcase (decide ((n39 : Int) < n49)) (elI .i64 (AH.cell? H46 (qk4 ⟨o7, 0, none⟩ 0)) fun n53 => elI .i64 (AH.cell? H46 (qk4 ⟨o7, 0, none⟩ 1)) fun n57 => (qlh [(qk2 .i64 (qk3 .i64 (n53 + n39))), (qk2 .i64 (qk3 .i64 (n57 - n39))), (ql1 false)] = 3) ∧ newC H46 ⟨[(qk2 .i64 (qk3 .i64 (n53 + n39))), (qk2 .i64 (qk3 .i64 (n57 - n39))), (ql1 false)], .rw, 3⟩ fun o61 H61 => appendC 3 H61 ⟨(some ⟨o46, 0, none⟩), 1, 1⟩ ⟨(some ⟨o61, 0, none⟩), 1, 1⟩ fun s62 H62 => k s62 H62) (k ⟨(some ⟨o46, 0, none⟩), 1, 1⟩ H46)))
def qaQ.b (x0 : Sl) (x1 : Int) (x2 : Int) (H : AH) (k : Sl → AH → Prop) : Prop :=
 qat x0 H fun n12 H12 => qS x0 n12 H12 fun b13 H13 => bcase (!b13) (qaQ.j1 x0 x1 x2 k H13 true) (bcase (decide ((x1 : Int) < (0 : Int))) (qaQ.j1 x0 x1 x2 k H13 true) (bcase (decide ((x1 : Int) ≥ ((x0.n : Nat) : Int))) (qaQ.j1 x0 x1 x2 k H13 true) ((0 ≤ x1 ∧ x1 < ((x0.n : Nat) : Int)) ∧ onPtr x0.a fun a28 => elB (AH.cell? H13 (qk4 (qk4 a28 (qla x1 * 3)) 2)) fun b30 => qaQ.j1 x0 x1 x2 k H13 b30)))
theorem qaQ.link {x0 : Sl} {x1 : Int} {x2 : Int} {H : AH} {k : Sl → AH → Prop} (h : qaQ.b x0 x1 x2 H k) : qaQ x0 x1 x2 H k := lk1 pan hT hm Tryz.func174 (by kernel_rfl) (A := ann0) (by kernel_rfl) (by simp) (by kernel_rfl) h
def qX.j1 (t3 : Sl × Int) (it3 : (Sl × Int) → AH → Prop) (o9 : Nat) (t7 : Sl × Int) (it7 : (Sl × Int) → AH → Prop) (HL7 : AH) (x38 : Bool) : Prop :=
 bcase x38 (elI .i64 (AH.cell? HL7 (qk4 ⟨o9, 0, none⟩ 0)) fun n43 => (qlh [(qk2 .i64 (qk3 .i64 (n43 + t7.2))), (qk2 .u64 (0 : Int))] = 2) ∧ newC HL7 ⟨[(qk2 .i64 (qk3 .i64 (n43 + t7.2))), (qk2 .u64 (0 : Int))], .rw, 2⟩ fun o47 H47 => appendC 2 H47 t7.1 ⟨(some ⟨o47, 0, none⟩), 1, 1⟩ fun s48 H48 => it7 (s48, (qk3 .i64 (t7.2 + (1 : Int)))) H48) (it3 (t7.1, (qk3 .i64 (t3.2 + (1 : Int)))) HL7)
def qX.l2 (t3 : Sl × Int) (it3 : (Sl × Int) → AH → Prop) (o9 : Nat) (t7 : Sl × Int) (HL7 : AH) (it7 : (Sl × Int) → AH → Prop) : Prop :=
 elI .i64 (AH.cell? HL7 (qk4 ⟨o9, 0, none⟩ 1)) fun n33 => bcase (decide ((t7.2 : Int) < n33)) (elB (AH.cell? HL7 (qk4 ⟨o9, 0, none⟩ 2)) fun b37 => qX.j1 t3 it3 o9 t7 it7 HL7 b37) (qX.j1 t3 it3 o9 t7 it7 HL7 false)
def qX.l3 (k : Sl → AH → Prop) (s14 : Sl) (t3 : Sl × Int) (HL3 : AH) (it3 : (Sl × Int) → AH → Prop) : Prop :=
 bcase (decide ((t3.2 : Int) < ((s14.n : Nat) : Int))) ((0 ≤ t3.2 ∧ t3.2 < ((s14.n : Nat) : Int)) ∧ onPtr s14.a fun a18 => ldA HL3 (qk4 a18 (qla t3.2 * 3)) 3 fun c19 => newC HL3 ⟨[(qk2 .i64 (0 : Int)), (qk2 .i64 (0 : Int)), (ql1 false)], .rw, 0⟩ fun o9 H9 => (qlh c19 = 3 ∧ qlH c19 qn = true) ∧ stC H9 ⟨o9, 0, none⟩ c19 fun Hs2 => elI .i64 (AH.cell? Hs2 (qk4 ⟨o9, 0, none⟩ 0)) fun n22 => elI .i64 (AH.cell? Hs2 (qk4 ⟨o9, 0, none⟩ 1)) fun n24 => elB (AH.cell? Hs2 (qk4 ⟨o9, 0, none⟩ 2)) fun b26 => qbq n24 b26 Hs2 fun n27 H27 => AH.cell? H27 (qk4 ⟨o9, 0, none⟩ 0) = some (qk2 .i64 n22) ∧ (qlh [(qk2 .i64 n22), (qk2 .u64 n27)] = 2) ∧ newC H27 ⟨[(qk2 .i64 n22), (qk2 .u64 n27)], .rw, 2⟩ fun o29 H29 => appendC 2 H29 t3.1 ⟨(some ⟨o29, 0, none⟩), 1, 1⟩ fun s30 H30 => loopT (qX.l2 t3 it3 o9) ((s30, (1 : Int)) : Sl × Int) H30) (k t3.1 HL3)
def qX.b (x0 : Sl) (x1 : Int) (x2 : Int) (H : AH) (k : Sl → AH → Prop) : Prop :=
 qaQ x0 x1 x2 H fun s14 H14 => loopT (qX.l3 k s14) ((⟨none, 0, 0⟩, (0 : Int)) : Sl × Int) H14
def qX.ann : Ann := { keep := fun r => match r with | 3 => [(7, .sl), (16, .int .i64)] | 7 => [(7, .sl), (10, .int .i64)] | _ => [], ord := fun r => match r with | 5 => [0, 1, 2, 3, 4, 5, 6, 7, 8, 9, 10, 11] | _ => [] }
theorem qX.link {x0 : Sl} {x1 : Int} {x2 : Int} {H : AH} {k : Sl → AH → Prop} (h : qX.b x0 x1 x2 H k) : qX x0 x1 x2 H k := lk1 pan hT hm Tryz.func146 (by kernel_rfl) (A := qX.ann) (by kernel_rfl) (by simp) (by kernel_rfl) h
def qbF.b (x0 : Sl) (x1 : Int) (x2 : Sl) (H : AH) (k : Sl → Int → Int → AH → Prop) : Prop :=
 qbK x1 H fun n14 H14 => bcase ((n14 : Int) == (0 : Int)) (k ⟨none, 0, 0⟩ (0 : Int) (1 : Int) H14) (qL x0 H14 fun s19a b19b H19 => bcase (!b19b) (k ⟨none, 0, 0⟩ (0 : Int) (6 : Int) H19) (qav s19a n14 x2 H19 fun n27 H27 => bcase (decide ((n27 : Int) < (0 : Int))) (k ⟨none, 0, 0⟩ (0 : Int) (4 : Int) H27) ((0 ≤ n27 ∧ n27 < ((s19a.n : Nat) : Int)) ∧ onPtr s19a.a fun a36 => ldA H27 (qk4 a36 (qla n27 * 3)) 3 fun c37 => qX s19a n27 n14 H27 fun s33 H33 => AH.row? H33 (qk4 a36 (qla n27 * 3)) 3 = some c37 ∧ qa0 c37 H33 fun n38 H38 => k s33 n38 (0 : Int) H38)))
def qbF.ann : Ann := { keep := fun r => match r with  | _ => [], ord := fun r => match r with | 10 => [0, 1, 2, 4, 5, 6, 7, 3, 8, 9, 10, 11] | _ => [] }
theorem qbF.link {x0 : Sl} {x1 : Int} {x2 : Sl} {H : AH} {k : Sl → Int → Int → AH → Prop} (h : qbF.b x0 x1 x2 H k) : qbF x0 x1 x2 H k := lk3 pan hT hm Tryz.func111 (by kernel_rfl) (A := qbF.ann) (by kernel_rfl) (by simp) (by simp) (by simp) (by kernel_rfl) h
def qW.b (x0 : Sl) (H : AH) (k : Sl → AH → Prop) : Prop :=
 bcase (qlA x0.a) (k ⟨none, 0, 0⟩ H) (newC H ⟨[], .rw, 1⟩ fun o5 H5 => appendC 1 H5 ⟨(some ⟨o5, 0, none⟩), 0, 1⟩ x0 fun s7 H7 => k s7 H7)
theorem qW.link {x0 : Sl} {H : AH} {k : Sl → AH → Prop} (h : qW.b x0 H k) : qW x0 H k := lk1 pan hT hm Tryz.func175 (by kernel_rfl) (A := ann0) (by kernel_rfl) (by simp) (by kernel_rfl) h
def qaC.j1 (s9 : Sl) (t3 : Int) (it3 : (Int) → AH → Prop) (o7 : Nat) (Hs2 : AH) (x25 : Bool) : Prop :=
 bcase x25 (elI .i64 (AH.cell? Hs2 (qk4 ⟨o7, 0, none⟩ 0)) fun n28 => elI .u64 (AH.cell? Hs2 (qk4 ⟨o7, 0, none⟩ 1)) fun n30 => (0 ≤ n28 ∧ n28 < ((s9.n : Nat) : Int)) ∧ onPtr s9.a fun a31 => stC Hs2 (qk4 a31 (qla n28 * 1)) [(qk2 .u64 n30)] fun Hs4 => it3 (qk3 .i64 (t3 + (1 : Int))) Hs4) (it3 (qk3 .i64 (t3 + (1 : Int))) Hs2)
def qaC.l2 (x1 : Sl) (k : Sl → AH → Prop) (s9 : Sl) (t3 : Int) (HL3 : AH) (it3 : (Int) → AH → Prop) : Prop :=
 bcase (decide ((t3 : Int) < ((x1.n : Nat) : Int))) ((0 ≤ t3 ∧ t3 < ((x1.n : Nat) : Int)) ∧ onPtr x1.a fun a14 => ldA HL3 (qk4 a14 (qla t3 * 2)) 2 fun c15 => newC HL3 ⟨[(qk2 .i64 (0 : Int)), (qk2 .u64 (0 : Int))], .rw, 0⟩ fun o7 H7 => (qlh c15 = 2 ∧ qlH c15 qn = true) ∧ stC H7 ⟨o7, 0, none⟩ c15 fun Hs2 => elI .i64 (AH.cell? Hs2 (qk4 ⟨o7, 0, none⟩ 0)) fun n17 => bcase (decide ((n17 : Int) ≥ (0 : Int))) (elI .i64 (AH.cell? Hs2 (qk4 ⟨o7, 0, none⟩ 0)) fun n21 => qaC.j1 s9 t3 it3 o7 Hs2 (decide ((n21 : Int) < ((s9.n : Nat) : Int)))) (qaC.j1 s9 t3 it3 o7 Hs2 false)) (k s9 HL3)
def qaC.b (x0 : Sl) (x1 : Sl) (H : AH) (k : Sl → AH → Prop) : Prop :=
 qW x0 H fun s9 H9 => loopT (qaC.l2 x1 k s9) (((0 : Int)) : Int) H9
def qaC.ann : Ann := { keep := fun r => match r with | 3 => [(12, .int .i64)] | _ => [], ord := fun r => match r with  | _ => [] }
theorem qaC.link {x0 : Sl} {x1 : Sl} {H : AH} {k : Sl → AH → Prop} (h : qaC.b x0 x1 H k) : qaC x0 x1 H k := lk1 pan hT hm Tryz.func148 (by kernel_rfl) (A := qaC.ann) (by kernel_rfl) (by simp) (by kernel_rfl) h
def qay.j1 (k : Sl → AH → Prop) (t3 : Sl × Int) (HL3 : AH) : Prop :=
 qci t3.1 HL3 fun H23 => qbX t3.1 H23 fun s25 H25 => k s25 H25
def qay.l2 (x0 : Sl) (k : Sl → AH → Prop) (t3 : Sl × Int) (HL3 : AH) (it3 : (Sl × Int) → AH → Prop) : Prop :=
 bcase (decide ((t3.2 : Int) < ((x0.n : Nat) : Int))) ((0 ≤ t3.2 ∧ t3.2 < ((x0.n : Nat) : Int)) ∧ onPtr x0.a fun a10 => ldA HL3 (qk4 a10 (qla t3.2 * 2)) 2 fun c11 => newC HL3 ⟨[(qk2 .i64 (0 : Int)), (qk2 .u64 (0 : Int))], .rw, 0⟩ fun o5 H5 => (qlh c11 = 2 ∧ qlH c11 qn = true) ∧ stC H5 ⟨o5, 0, none⟩ c11 fun Hs2 => elI .i64 (AH.cell? Hs2 (qk4 ⟨o5, 0, none⟩ 0)) fun n13 => bcase (decide ((n13 : Int) ≥ (0 : Int))) (elI .i64 (AH.cell? Hs2 (qk4 ⟨o5, 0, none⟩ 0)) fun n17 => ((8 : Int) : Int) ≠ 0 ∧ newC Hs2 ⟨[(qk2 .i64 (qk3 .i64 (qmr n17 (8 : Int))))], .rw, 1⟩ fun o19 H19 => appendC 1 H19 t3.1 ⟨(some ⟨o19, 0, none⟩), 1, 1⟩ fun s20 H20 => it3 (s20, (qk3 .i64 (t3.2 + (1 : Int)))) H20) (it3 (t3.1, (qk3 .i64 (t3.2 + (1 : Int)))) Hs2)) (qay.j1 k t3 HL3)
def qay.b (x0 : Sl) (H : AH) (k : Sl → AH → Prop) : Prop :=
 loopT (qay.l2 x0 k) ((⟨none, 0, 0⟩, (0 : Int)) : Sl × Int) H
def qay.ann : Ann := { keep := fun r => match r with | 3 => [(3, .sl), (8, .int .i64)] | _ => [], ord := fun r => match r with  | _ => [] }
theorem qay.link {x0 : Sl} {H : AH} {k : Sl → AH → Prop} (h : qay.b x0 H k) : qay x0 H k := lk1 pan hT hm Tryz.func149 (by kernel_rfl) (A := qay.ann) (by kernel_rfl) (by simp) (by kernel_rfl) h
def qM.j1 (x0 : Option Addr) (x1 : Sl) (k : Int → AH → Prop) (HL15 : AH) : Prop :=
 onPtr x0 fun a80 => elP (AH.cell? HL15 (qk4 a80 0)) fun p82 => qB p82 (1 : Int) (qk3 .u64 ((x1.n : Nat) : Int)) HL15 fun n86 H86 => bcase ((n86 : Int) != (0 : Int)) (k n86 H86) (qag x0 x1 H86 fun n92 H92 => k n92 H92)
def qM.l2 (x0 : Option Addr) (x1 : Sl) (k : Int → AH → Prop) (t9 : Sl × Int) (t15 : Int × Int) (HL15 : AH) (it15 : (Int × Int) → AH → Prop) : Prop :=
 bcase (decide ((t15.2 : Int) < ((t9.1.n : Nat) : Int))) ((0 ≤ t15.2 ∧ t15.2 < ((t9.1.n : Nat) : Int)) ∧ onPtr t9.1.a fun a66 => ldA HL15 (qk4 a66 (qla t15.2 * 8)) 8 fun c67 => newC HL15 ⟨[(qk2 .u64 (0 : Int)), (qk2 .u64 (0 : Int)), (qk2 .u64 (0 : Int)), (qk2 .u64 (0 : Int)), (qk2 .u64 (0 : Int)), (qk2 .u64 (0 : Int)), (qk2 .u64 (0 : Int)), (qk2 .u64 (0 : Int))], .rw, 0⟩ fun o9 H9 => (qlh c67 = 8 ∧ qlH c67 qn = true) ∧ stC H9 ⟨o9, 0, none⟩ c67 fun Hs6 => onPtr x0 fun a69 => elP (AH.cell? Hs6 (qk4 a69 1)) fun p71 => ldA Hs6 ⟨o9, 0, none⟩ 8 fun c73 => qam p71 t15.2 c73 Hs6 fun n74 H74 => bcase ((n74 : Int) != (0 : Int)) (k n74 H74) (it15 (t15.1, (qk3 .i64 (t15.2 + (1 : Int)))) H74)) (qM.j1 x0 x1 k HL15)
def qM.l3 (x0 : Option Addr) (x1 : Sl) (k : Int → AH → Prop) (t9 : Sl × Int) (HL9 : AH) (it9 : (Sl × Int) → AH → Prop) : Prop :=
 bcase (decide ((t9.2 : Int) < ((x1.n : Nat) : Int))) ((0 ≤ t9.2 ∧ t9.2 < ((x1.n : Nat) : Int)) ∧ onPtr x1.a fun a43 => ldA HL9 (qk4 a43 (qla t9.2 * 9)) 9 fun c44 => newC HL9 ⟨[(qk2 .i64 (0 : Int)), (qk2 .u64 (0 : Int)), (qk2 .u64 (0 : Int)), (qk2 .u64 (0 : Int)), (qk2 .u64 (0 : Int)), (qk2 .u64 (0 : Int)), (qk2 .u64 (0 : Int)), (qk2 .u64 (0 : Int)), (qk2 .u64 (0 : Int))], .rw, 0⟩ fun o7 H7 => (qlh c44 = 9 ∧ qlH c44 qn = true) ∧ stC H7 ⟨o7, 0, none⟩ c44 fun Hs2 => ((8 : Int) : Int) ≠ 0 ∧ ((8 : Int) : Int) ≠ 0 ∧ elI .i64 (AH.cell? Hs2 (qk4 ⟨o7, 0, none⟩ 0)) fun n51 => (0 ≤ (qk3 .i64 (qmr t9.2 (8 : Int))) ∧ (qk3 .i64 (qmr t9.2 (8 : Int))) < ((t9.1.n : Nat) : Int)) ∧ onPtr t9.1.a fun a53 => (0 ≤ (ql5 t9.2 (8 : Int)) ∧ (ql5 t9.2 (8 : Int)) < ((8 : Nat) : Int)) ∧ stC Hs2 (qk4 (qk4 a53 (qla (qk3 .i64 (qmr t9.2 (8 : Int))) * 8)) (qla (ql5 t9.2 (8 : Int)) * 1)) [(qk2 .u64 (qk3 .u64 n51))] fun Hs4 => ldA Hs4 (qk4 ⟨o7, 0, none⟩ 1) 8 fun c57 => (qlh c57 = 8) ∧ newC Hs4 ⟨(setMany [(qk2 .u64 (0 : Int)), (qk2 .u64 (0 : Int)), (qk2 .u64 (0 : Int)), (qk2 .u64 (0 : Int)), (qk2 .u64 (0 : Int)), (qk2 .u64 (0 : Int)), (qk2 .u64 (0 : Int)), (qk2 .u64 (0 : Int))] 0 c57), .rw, 8⟩ fun o58 H58 => appendC 8 H58 t9.1 ⟨(some ⟨o58, 0, none⟩), 1, 1⟩ fun s59 H59 => it9 (s59, (qk3 .i64 (t9.2 + (1 : Int)))) H59) (loopT (qM.l2 x0 x1 k t9) (((0 : Int), (0 : Int)) : Int × Int) HL9)
def qM.j4 (x0 : Option Addr) (x1 : Sl) (k : Int → AH → Prop) (x12 : Bool) (Hj : AH) : Prop :=
 bcase x12 (k (1 : Int) Hj) (onPtr x0 fun a27 => elP (AH.cell? Hj (qk4 a27 0)) fun p29 => qP p29 Hj fun b30 H30 => bcase b30 (k (2 : Int) H30) (qbs x0 H30 fun b33 H33 => bcase b33 (k (5 : Int) H33) (qb6 ((x1.n : Nat) : Int) H33 fun n36 H36 => (0 ≤ n36 ∧ n36 ≤ (16 : Int) ∧ (16 : Int) ≤ (lim : Int)) ∧ newC H36 ⟨zerosOf (qla n36) [(qk2 .u64 (0 : Int)), (qk2 .u64 (0 : Int)), (qk2 .u64 (0 : Int)), (qk2 .u64 (0 : Int)), (qk2 .u64 (0 : Int)), (qk2 .u64 (0 : Int)), (qk2 .u64 (0 : Int)), (qk2 .u64 (0 : Int))], .rw, 8⟩ fun o37 H37 => loopT (qM.l3 x0 x1 k) ((⟨(some ⟨o37, 0, none⟩), (qla n36), 1⟩, (0 : Int)) : Sl × Int) H37)))
def qM.b (x0 : Option Addr) (x1 : Sl) (H : AH) (k : Int → AH → Prop) : Prop :=
 bcase (qlA x0) (qM.j4 x0 x1 k true H) (onPtr x0 fun a17 => elP (AH.cell? H (qk4 a17 1)) fun p19 => qax p19 H fun n20 H20 => log_May n20 x1 H20 fun b22 H22 => qM.j4 x0 x1 k (!b22) H22)
def qM.ann : Ann := { keep := fun r => match r with | 9 => [(5, .sl), (40, .int .i64)] | 15 => [(4, .int .i64), (63, .int .i64)] | _ => [], ord := fun r => match r with | 11 => [0, 1, 2, 3, 4, 5, 6, 7, 8, 9, 10] | 17 => [0, 1, 2, 3, 4, 5, 6, 7] | _ => [] }
theorem qM.link {x0 : Option Addr} {x1 : Sl} {H : AH} {k : Int → AH → Prop} (h : qM.b x0 x1 H k) : qM x0 x1 H k := lk1 pan hT hm Tryz.func150 (by kernel_rfl) (A := qM.ann) (by kernel_rfl) (by simp) (by kernel_rfl) h
def qbr.b (x0 : Option Addr) (x1 : Int) (H : AH) (k : Bool → AH → Prop) : Prop :=
 bcase (!(qlA x0)) (bcase (decide ((x1 : Int) ≥ (0 : Int))) (onPtr x0 fun a14 => elL (AH.cell? H (qk4 a14 1)) fun s16 => k (decide ((x1 : Int) < ((s16.n : Nat) : Int))) H) (k false H)) (k false H)
theorem qbr.link {x0 : Option Addr} {x1 : Int} {H : AH} {k : Bool → AH → Prop} (h : qbr.b x0 x1 H k) : qbr x0 x1 H k := lk1 pan hT hm Tryz.func178 (by kernel_rfl) (A := ann0) (by kernel_rfl) (by simp) (by kernel_rfl) h
def qa4.b (x0 : Option Addr) (x1 : Int) (H : AH) (k : Int → AH → Prop) : Prop :=
 qbr x0 x1 H fun b7 H7 => bcase (!b7) (k (0 : Int) H7) (onPtr x0 fun a10 => elL (AH.cell? H7 (qk4 a10 1)) fun s12 => (0 ≤ x1 ∧ x1 < ((s12.n : Nat) : Int)) ∧ onPtr s12.a fun a14 => elI .i64 (AH.cell? H7 (qk4 a14 (qla x1 * 1))) fun n15 => onPtr x0 fun a17 => elL (AH.cell? H7 (qk4 a17 2)) fun s19 => (0 ≤ x1 ∧ x1 < ((s19.n : Nat) : Int)) ∧ onPtr s19.a fun a21 => elI .i64 (AH.cell? H7 (qk4 a21 (qla x1 * 1))) fun n22 => k (qk3 .i64 (n15 - n22)) H7)
def qa4.ann : Ann := { keep := fun r => match r with  | _ => [], ord := fun r => match r with | 3 => [0, 1, 2, 3, 4, 5, 6, 7, 8, 9, 10, 11, 12, 13, 14, 15] | _ => [] }
theorem qa4.link {x0 : Option Addr} {x1 : Int} {H : AH} {k : Int → AH → Prop} (h : qa4.b x0 x1 H k) : qa4 x0 x1 H k := lk1 pan hT hm Tryz.func179 (by kernel_rfl) (A := qa4.ann) (by kernel_rfl) (by simp) (by kernel_rfl) h
def qac.j1 (x0 : Option Addr) (x1 : Int) (k : Int → Bool → AH → Prop) (n26 : Int) (n22 : Int) (Hj : AH) : Prop :=
 onPtr x0 fun a43 => elL (AH.cell? Hj (qk4 a43 1)) fun s45 => (0 ≤ x1 ∧ x1 < ((s45.n : Nat) : Int)) ∧ onPtr s45.a fun a47 => elI .i64 (AH.cell? Hj (qk4 a47 (qla x1 * 1))) fun n48 => k n48 (decide ((n22 : Int) ≥ n26)) Hj
def qac.b (x0 : Option Addr) (x1 : Int) (H : AH) (k : Int → Bool → AH → Prop) : Prop :=
 qbr x0 x1 H fun b9 H9 => bcase (!b9) (k (0 : Int) false H9) (onPtr x0 fun a12 => elL (AH.cell? H9 (qk4 a12 1)) fun s14 => (0 ≤ x1 ∧ x1 < ((s14.n : Nat) : Int)) ∧ onPtr s14.a fun a16 => elI .i64 (AH.cell? H9 (qk4 a16 (qla x1 * 1))) fun n17 => (0 ≤ x1 ∧ x1 < ((s14.n : Nat) : Int)) ∧ onPtr s14.a fun a19 => stC H9 (qk4 a19 (qla x1 * 1)) [(qk2 .i64 (qk3 .i64 (n17 + (1 : Int))))] fun Hs2 => onPtr x0 fun a24 => elI .i64 (AH.cell? Hs2 (qk4 a24 0)) fun n26 => qa4 x0 x1 Hs2 fun n22 H22 => AH.cell? H22 (qk4 a24 0) = some (qk2 .i64 n26) ∧ bcase (decide ((n22 : Int) ≥ n26)) (onPtr x0 fun a30 => elL (AH.cell? H22 (qk4 a30 2)) fun s32 => onPtr x0 fun a35 => elL (AH.cell? H22 (qk4 a35 1)) fun s37 => (0 ≤ x1 ∧ x1 < ((s37.n : Nat) : Int)) ∧ onPtr s37.a fun a39 => elI .i64 (AH.cell? H22 (qk4 a39 (qla x1 * 1))) fun n40 => (0 ≤ x1 ∧ x1 < ((s32.n : Nat) : Int)) ∧ onPtr s32.a fun a41 => stC H22 (qk4 a41 (qla x1 * 1)) [(qk2 .i64 n40)] fun Hs4 => qac.j1 x0 x1 k n26 n22 Hs4) (qac.j1 x0 x1 k n26 n22 H22))
def qac.ann : Ann := { keep := fun r => match r with  | _ => [], ord := fun r => match r with | 4 => [0, 1, 3, 4, 5, 6, 2, 7, 8] | 6 => [0, 1, 2, 3, 4, 5, 6, 7, 8, 9, 10, 11, 12, 13] | _ => [] }
theorem qac.link {x0 : Option Addr} {x1 : Int} {H : AH} {k : Int → Bool → AH → Prop} (h : qac.b x0 x1 H k) : qac x0 x1 H k := lk2 pan hT hm Tryz.func151 (by kernel_rfl) (A := qac.ann) (by kernel_rfl) (by simp) (by simp) (by kernel_rfl) h
def qA.l1 (x0 : Option Addr) (k : AH → Prop) (pk : Value → AH → Prop) (s59 : Sl) (t11 : Int) (HL11 : AH) (it11 : (Int) → AH → Prop) : Prop :=
 bcase (decide ((t11 : Int) < ((s59.n : Nat) : Int))) ((0 ≤ t11 ∧ t11 < ((s59.n : Nat) : Int)) ∧ onPtr s59.a fun a63 => elI .i64 (AH.cell? HL11 (qk4 a63 (qla t11 * 1))) fun n64 => qb5 n64 HL11 fun n66 H66 => onPtr x0 fun a69 => elP (AH.cell? H66 (qk4 a69 7)) fun p71 => qac p71 n66 H66 fun n73a b73b H73 => bcase b73b (onPtr x0 fun a78 => elP (AH.cell? H73 (qk4 a78 0)) fun p80 => qB p80 (qk3 .i64 ((19 : Int) + n66)) (qk3 .u64 n73a) H73 fun n85 H85 => qaa n85 H85 (fun pv86 Hp86 => pk pv86 Hp86) fun H86 => it11 (qk3 .i64 (t11 + (1 : Int))) H86) (it11 (qk3 .i64 (t11 + (1 : Int))) H73)) (k HL11)
def qA.j2 (x0 : Option Addr) (x2 : Sl) (k : AH → Prop) (pk : Value → AH → Prop) (n44 : Int) (Hj : AH) : Prop :=
 qaa n44 Hj (fun pv57 Hp57 => pk pv57 Hp57) fun H57 => qay x2 H57 fun s59 H59 => loopT (qA.l1 x0 k pk s59) (((0 : Int)) : Int) H59
def qA.j3 (x0 : Option Addr) (x2 : Sl) (k : AH → Prop) (pk : Value → AH → Prop) (t3 : Sl × Int) (HL3 : AH) : Prop :=
 onPtr x0 fun a40 => elP (AH.cell? HL3 (qk4 a40 6)) fun p42 => qM p42 t3.1 HL3 fun n44 H44 => onPtr x0 fun a47 => elB (AH.cell? H44 (qk4 a47 8)) fun b49 => bcase b49 (onPtr x0 fun a54 => stC H44 (qk4 a54 8) [(ql1 true)] fun Hs2 => qA.j2 x0 x2 k pk n44 Hs2) (onPtr x0 fun a54 => stC H44 (qk4 a54 8) [(ql1 ((n44 : Int) == (3 : Int)))] fun Hs4 => qA.j2 x0 x2 k pk n44 Hs4)
def qA.l4 (x0 : Option Addr) (x2 : Sl) (k : AH → Prop) (pk : Value → AH → Prop) (s17 : Sl) (s19 : Sl) (t3 : Sl × Int) (HL3 : AH) (it3 : (Sl × Int) → AH → Prop) : Prop :=
 bcase (decide ((t3.2 : Int) < ((s19.n : Nat) : Int))) ((0 ≤ t3.2 ∧ t3.2 < ((s19.n : Nat) : Int)) ∧ onPtr s19.a fun a23 => elI .i64 (AH.cell? HL3 (qk4 a23 (qla t3.2 * 1))) fun n24 => onPtr x0 fun a27 => ldA HL3 (qk4 a27 1) 4 fun c29 => qba c29 n24 HL3 fun n31 H31 => qaZ s17 n24 H31 fun c34 H34 => (qlh c34 = 8) ∧ (qlh (setMany [(qk2 .i64 n31), (qk2 .u64 (0 : Int)), (qk2 .u64 (0 : Int)), (qk2 .u64 (0 : Int)), (qk2 .u64 (0 : Int)), (qk2 .u64 (0 : Int)), (qk2 .u64 (0 : Int)), (qk2 .u64 (0 : Int)), (qk2 .u64 (0 : Int))] 1 c34) = 9) ∧ newC H34 ⟨(setMany [(qk2 .i64 (0 : Int)), (qk2 .u64 (0 : Int)), (qk2 .u64 (0 : Int)), (qk2 .u64 (0 : Int)), (qk2 .u64 (0 : Int)), (qk2 .u64 (0 : Int)), (qk2 .u64 (0 : Int)), (qk2 .u64 (0 : Int)), (qk2 .u64 (0 : Int))] 0 (setMany [(qk2 .i64 n31), (qk2 .u64 (0 : Int)), (qk2 .u64 (0 : Int)), (qk2 .u64 (0 : Int)), (qk2 .u64 (0 : Int)), (qk2 .u64 (0 : Int)), (qk2 .u64 (0 : Int)), (qk2 .u64 (0 : Int)), (qk2 .u64 (0 : Int))] 1 c34)), .rw, 9⟩ fun o36 H36 => appendC 9 H36 t3.1 ⟨(some ⟨o36, 0, none⟩), 1, 1⟩ fun s37 H37 => it3 (s37, (qk3 .i64 (t3.2 + (1 : Int)))) H37) (qA.j3 x0 x2 k pk t3 HL3)
def qA.b (x0 : Option Addr) (x1 : Sl) (x2 : Sl) (H : AH) (pk : Value → AH → Prop) (k : AH → Prop) : Prop :=
 qaC x1 x2 H fun s17 H17 => qay x2 H17 fun s19 H19 => loopT (qA.l4 x0 x2 k pk s17 s19) ((⟨none, 0, 0⟩, (0 : Int)) : Sl × Int) H19
def qA.ann : Ann := { keep := fun r => match r with | 3 => [(6, .sl), (21, .int .i64)] | 11 => [(61, .int .i64)] | _ => [], ord := fun r => match r with  | _ => [] }
theorem qA.link {x0 : Option Addr} {x1 : Sl} {x2 : Sl} {H : AH} {pk : Value → AH → Prop} {k : AH → Prop} (h : qA.b x0 x1 x2 H pk k) : qA x0 x1 x2 H pk k := lk0 pan hT hm Tryz.func114 (by kernel_rfl) (A := qA.ann) (by kernel_rfl) (by kernel_rfl) h
def qbM.b (x0 : Option Addr) (x1 : Int) (H : AH) (pk : Value → AH → Prop) (k : Int → AH → Prop) : Prop :=
 qaJ x0 H (fun pv10 Hp10 => pk pv10 Hp10) fun s10 H10 => qbK x1 H10 fun n12 H12 => bcase ((n12 : Int) == (0 : Int)) (pk (Value.iface 31 (qk2 .i64 (1 : Int))) H12) (qah x0 H12 (fun pv16 Hp16 => pk pv16 Hp16) fun H16 => onPtr x0 fun a21 => elP (AH.cell? H16 (qk4 a21 7)) fun p23 => qbL p23 H16 fun s24 H24 => qbF s10 x1 s24 H24 fun s25a n25b n25c H25 => qaa n25c H25 (fun pv30 Hp30 => pk pv30 Hp30) fun H30 => qA x0 s10 s25a H30 (fun pv34 Hp34 => pk pv34 Hp34) fun H34 => k n25b H34)
theorem qbM.link {x0 : Option Addr} {x1 : Int} {H : AH} {pk : Value → AH → Prop} {k : Int → AH → Prop} (h : qbM.b x0 x1 H pk k) : qbM x0 x1 H pk k := lk1 pan hT hm Tryz.func64 (by kernel_rfl) (A := ann0) (by kernel_rfl) (by simp) (by kernel_rfl) h
def qae.j1 (k : Int → AH → Prop) (t3 : Int × Int × Int) (it3 : (Int × Int × Int) → AH → Prop) (o5 : Nat) (H14 : AH) (x19 : Bool) : Prop :=
 bcase x19 (k (0 : Int) H14) (elI .i64 (AH.cell? H14 (qk4 ⟨o5, 0, none⟩ 1)) fun n22 => it3 (t3.1, (qk3 .i64 (t3.2.1 + n22)), (qk3 .i64 (t3.2.2 + (1 : Int)))) H14)
def qae.l2 (x0 : Sl) (k : Int → AH → Prop) (t3 : Int × Int × Int) (HL3 : AH) (it3 : (Int × Int × Int) → AH → Prop) : Prop :=
 bcase (decide ((t3.2.2 : Int) < ((x0.n : Nat) : Int))) ((0 ≤ t3.2.2 ∧ t3.2.2 < ((x0.n : Nat) : Int)) ∧ onPtr x0.a fun a10 => ldA HL3 (qk4 a10 (qla t3.2.2 * 3)) 3 fun c11 => newC HL3 ⟨[(qk2 .i64 (0 : Int)), (qk2 .i64 (0 : Int)), (ql1 false)], .rw, 0⟩ fun o5 H5 => (qlh c11 = 3 ∧ qlH c11 qn = true) ∧ stC H5 ⟨o5, 0, none⟩ c11 fun Hs2 => elI .i64 (AH.cell? Hs2 (qk4 ⟨o5, 0, none⟩ 1)) fun n13 => qaY n13 Hs2 fun b14 H14 => bcase (!b14) (qae.j1 k t3 it3 o5 H14 true) (qae.j1 k t3 it3 o5 H14 (decide ((t3.2.1 : Int) > (512 : Int))))) (k t3.2.1 HL3)
def qae.b (x0 : Sl) (H : AH) (k : Int → AH → Prop) : Prop :=
 loopT (qae.l2 x0 k) (((0 : Int), (0 : Int), (0 : Int)) : Int × Int × Int) H
def qae.ann : Ann := { keep := fun r => match r with | 3 => [(2, .int .i64), (3, .int .i64), (8, .int .i64)] | _ => [], ord := fun r => match r with  | _ => [] }
theorem qae.link {x0 : Sl} {H : AH} {k : Int → AH → Prop} (h : qae.b x0 H k) : qae x0 H k := lk1 pan hT hm Tryz.func181 (by kernel_rfl) (A := qae.ann) (by kernel_rfl) (by simp) (by kernel_rfl) h
def qz.j1 (x1 : Int) (k : Int → Int → Bool → AH → Prop) (H10 : AH) (x4 : Int) (x57 : Bool) : Prop :=
 bcase x57 (k x4 (qk3 .i64 ((qk3 .i64 (x1 + (1 : Int))) + (1 : Int))) true H10) (k x4 (qk3 .i64 (x1 + (1 : Int))) true H10)
def qz.j2 (x0 : Sl) (x1 : Int) (k : Int → Int → Bool → AH → Prop) (H10 : AH) (x4 : Int) : Prop :=
 bcase (decide (((qk3 .i64 (x1 + (1 : Int))) : Int) < ((x0.n : Nat) : Int))) ((0 ≤ (qk3 .i64 (x1 + (1 : Int))) ∧ (qk3 .i64 (x1 + (1 : Int))) < ((x0.n : Nat) : Int)) ∧ onPtr x0.a fun a53 => elB (AH.cell? H10 (qk4 (qk4 a53 (qla (qk3 .i64 (x1 + (1 : Int))) * 3)) 2)) fun b55 => qz.j1 x1 k H10 x4 (!b55)) (qz.j1 x1 k H10 x4 false)
def qz.j3 (x0 : Sl) (x1 : Int) (k : Int → Int → Bool → AH → Prop) (H10 : AH) (x43 : Bool) : Prop :=
 bcase x43 (qz.j2 x0 x1 k H10 (qk3 .i64 (x1 - (1 : Int)))) (qz.j2 x0 x1 k H10 x1)
def qz.j4 (x0 : Sl) (x1 : Int) (k : Int → Int → Bool → AH → Prop) (H10 : AH) (x29 : Bool) : Prop :=
 bcase x29 (k (0 : Int) (0 : Int) false H10) (bcase (decide ((x1 : Int) > (0 : Int))) ((0 ≤ (qk3 .i64 (x1 - (1 : Int))) ∧ (qk3 .i64 (x1 - (1 : Int))) < ((x0.n : Nat) : Int)) ∧ onPtr x0.a fun a39 => elB (AH.cell? H10 (qk4 (qk4 a39 (qla (qk3 .i64 (x1 - (1 : Int))) * 3)) 2)) fun b41 => qz.j3 x0 x1 k H10 (!b41)) (qz.j3 x0 x1 k H10 false))
def qz.b (x0 : Sl) (x1 : Int) (H : AH) (k : Int → Int → Bool → AH → Prop) : Prop :=
 qae x0 H fun n9 H9 => qS x0 n9 H9 fun b10 H10 => bcase (!b10) (qz.j4 x0 x1 k H10 true) (bcase (decide ((x1 : Int) < (0 : Int))) (qz.j4 x0 x1 k H10 true) (bcase (decide ((x1 : Int) ≥ ((x0.n : Nat) : Int))) (qz.j4 x0 x1 k H10 true) ((0 ≤ x1 ∧ x1 < ((x0.n : Nat) : Int)) ∧ onPtr x0.a fun a25 => elB (AH.cell? H10 (qk4 (qk4 a25 (qla x1 * 3)) 2)) fun b27 => qz.j4 x0 x1 k H10 (!b27))))
theorem qz.link {x0 : Sl} {x1 : Int} {H : AH} {k : Int → Int → Bool → AH → Prop} (h : qz.b x0 x1 H k) : qz x0 x1 H k := lk3 pan hT hm Tryz.func180 (by kernel_rfl) (A := ann0) (by kernel_rfl) (by simp) (by simp) (by simp) (by kernel_rfl) h
def qaV.b (x0 : Sl) (x1 : Int) (H : AH) (k : List Value → Bool → AH → Prop) : Prop :=
 newC H ⟨[(qk2 .i64 (0 : Int)), (qk2 .u64 (0 : Int))], .rw, 0⟩ fun o4 H4 => qz x0 x1 H4 fun n12a n12b b12c H12 => bcase (!b12c) ((qlh [(qk2 .i64 (0 : Int)), (qk2 .u64 (0 : Int))] = 2 ∧ qlH [(qk2 .i64 (0 : Int)), (qk2 .u64 (0 : Int))] qn = true) ∧ stC H12 ⟨o4, 0, none⟩ [(qk2 .i64 (0 : Int)), (qk2 .u64 (0 : Int))] fun Hs2 => ldA Hs2 ⟨o4, 0, none⟩ 2 fun r0 => k r0 false Hs2) ((0 ≤ n12a ∧ n12a < ((x0.n : Nat) : Int)) ∧ onPtr x0.a fun a21 => elI .i64 (AH.cell? H12 (qk4 (qk4 a21 (qla n12a * 3)) 0)) fun n23 => (0 ≤ n12a ∧ n12a ≤ n12b ∧ n12b ≤ ((x0.n : Nat) : Int)) ∧ qae ⟨(Option.map (fun x => qk4 x (qla n12a * 3)) x0.a), (qla n12b - qla n12a), 0⟩ H12 fun n28 H28 => AH.cell? H28 (qk4 (qk4 a21 (qla n12a * 3)) 0) = some (qk2 .i64 n23) ∧ qbq n28 false H28 fun n29 H29 => AH.cell? H29 (qk4 (qk4 a21 (qla n12a * 3)) 0) = some (qk2 .i64 n23) ∧ (qlh [(qk2 .i64 n23), (qk2 .u64 n29)] = 2 ∧ qlH [(qk2 .i64 n23), (qk2 .u64 n29)] qn = true) ∧ stC H29 ⟨o4, 0, none⟩ [(qk2 .i64 n23), (qk2 .u64 n29)] fun Hs4 => ldA Hs4 ⟨o4, 0, none⟩ 2 fun r0 => k r0 true Hs4)
def qaV.ann : Ann := { keep := fun r => match r with  | _ => [], ord := fun r => match r with | 4 => [0, 1, 2, 3, 4, 5, 6, 7, 8, 9, 10, 11, 12, 13] | _ => [] }
theorem qaV.link {x0 : Sl} {x1 : Int} {H : AH} {k : List Value → Bool → AH → Prop} (h : qaV.b x0 x1 H k) : qaV x0 x1 H k := lk2 pan hT hm Tryz.func152 (by kernel_rfl) (A := qaV.ann) (by kernel_rfl) (by simp) (by simp) (by kernel_rfl) h
def qcd.b (x0 : Sl) (x1 : Int) (H : AH) (k : Sl → Int → AH → Prop) : Prop :=
 qbU x0 x1 H fun s13a n13b H13 => bcase ((((s13a.n : Nat) : Int) : Int) == (0 : Int)) (k ⟨none, 0, 0⟩ (6 : Int) H13) (qaV s13a n13b H13 fun c22a b22b H22 => newC H22 ⟨[(qk2 .i64 (0 : Int)), (qk2 .u64 (0 : Int))], .rw, 0⟩ fun o8 H8 => (qlh c22a = 2 ∧ qlH c22a qn = true) ∧ stC H8 ⟨o8, 0, none⟩ c22a fun Hs2 => bcase (!b22b) (k ⟨none, 0, 0⟩ (1 : Int) Hs2) (ldA Hs2 ⟨o8, 0, none⟩ 2 fun c27 => (qlh c27 = 2) ∧ newC Hs2 ⟨(setMany [(qk2 .i64 (0 : Int)), (qk2 .u64 (0 : Int))] 0 c27), .rw, 2⟩ fun o28 H28 => k ⟨(some ⟨o28, 0, none⟩), 1, 1⟩ (0 : Int) H28))
theorem qcd.link {x0 : Sl} {x1 : Int} {H : AH} {k : Sl → Int → AH → Prop} (h : qcd.b x0 x1 H k) : qcd x0 x1 H k := lk2 pan hT hm Tryz.func115 (by kernel_rfl) (A := ann0) (by kernel_rfl) (by simp) (by simp) (by kernel_rfl) h
def qbh.b (x0 : Option Addr) (H : AH) (pk : Value → AH → Prop) (k : Int → AH → Prop) : Prop :=
 onPtr x0 fun a7 => elP (AH.cell? H (qk4 a7 0)) fun p9 => qF p9 (2 : Int) H fun n10a n10b H10 => qaa n10b H10 (fun pv14 Hp14 => pk pv14 Hp14) fun H14 => k (qk3 .i64 n10a) H14
theorem qbh.link {x0 : Option Addr} {H : AH} {pk : Value → AH → Prop} {k : Int → AH → Prop} (h : qbh.b x0 H pk k) : qbh x0 H pk k := lk1 pan hT hm Tryz.func69 (by kernel_rfl) (A := ann0) (by kernel_rfl) (by simp) (by kernel_rfl) h
def qb0.b (x0 : Option Addr) (x1 : Int) (H : AH) (pk : Value → AH → Prop) (k : AH → Prop) : Prop :=
 qaJ x0 H (fun pv8 Hp8 => pk pv8 Hp8) fun s8 H8 => qcd s8 x1 H8 fun s12a n12b H12 => qaa n12b H12 (fun pv16 Hp16 => pk pv16 Hp16) fun H16 => qbh x0 H16 (fun pv18 Hp18 => pk pv18 Hp18) fun n18 H18 => bcase ((n18 : Int) == x1) (pk (Value.iface 31 (qk2 .i64 (5 : Int))) H18) (qah x0 H18 (fun pv23 Hp23 => pk pv23 Hp23) fun H23 => qA x0 s8 s12a H23 (fun pv27 Hp27 => pk pv27 Hp27) fun H27 => k H27)
theorem qb0.link {x0 : Option Addr} {x1 : Int} {H : AH} {pk : Value → AH → Prop} {k : AH → Prop} (h : qb0.b x0 x1 H pk k) : qb0 x0 x1 H pk k := lk0 pan hT hm Tryz.func65 (by kernel_rfl) (A := ann0) (by kernel_rfl) (by kernel_rfl) h
def qa3.b (x0 : List Value) (x1 : Option Addr) (x2 : Option Addr) (H : AH) (k : Bool → AH → Prop) : Prop :=
 newC H ⟨x0, .rw, 0⟩ fun o3 H3 => elB (AH.cell? H3 (qk4 ⟨o3, 0, none⟩ 2)) fun b6 => bcase b6 (onPtr x1 fun a8 => elI .i64 (AH.cell? H3 a8) fun n8 => ldA H3 ⟨o3, 0, none⟩ 3 fun c9 => qa0 c9 H3 fun n10 H10 => AH.cell? H10 a8 = some (qk2 .i64 n8) ∧ bcase (decide ((n8 : Int) ≥ n10)) (onPtr x1 fun a14 => elI .i64 (AH.cell? H10 a14) fun n14 => elI .i64 (AH.cell? H10 (qk4 ⟨o3, 0, none⟩ 0)) fun n16 => elI .i64 (AH.cell? H10 (qk4 ⟨o3, 0, none⟩ 1)) fun n18 => onPtr x2 fun a21 => elI .i64 (AH.cell? H10 a21) fun n21 => k (decide ((n14 : Int) ≤ (qk3 .i64 ((qk3 .i64 ((qk3 .i64 (n16 + n18)) * (8 : Int))) - n21)))) H10) (k false H10)) (k false H3)
def qa3.ann : Ann := { keep := fun r => match r with  | _ => [], ord := fun r => match r with | 1 => [0, 1, 2, 3, 4, 5, 6, 7, 8, 9, 10, 11, 12, 13, 14, 15, 16, 17, 18, 19, 20] | _ => [] }
theorem qa3.link {x0 : List Value} {x1 : Option Addr} {x2 : Option Addr} {H : AH} {k : Bool → AH → Prop} (h : qa3.b x0 x1 x2 H k) : qa3 x0 x1 x2 H k := lk1 pan hT hm Tryz.func193 (by kernel_rfl) (A := qa3.ann) (by kernel_rfl) (by simp) (by kernel_rfl) h
def qa9.j1 (x0 : Sl) (k : Bool → AH → Prop) (o4 : Nat) (o5 : Nat) (H5 : AH) (x14 : Bool) : Prop :=
 bcase x14 (k false H5) (qL x0 H5 fun s17a b17b H17 => qH s17a (some ⟨o4, 0, none⟩) (some ⟨o5, 0, none⟩) H17 fun b22 H22 => k b22 H22)
def qa9.b (x0 : Sl) (x1 : Int) (x2 : Int) (H : AH) (k : Bool → AH → Prop) : Prop :=
 newC H ⟨[(qk2 .i64 x1)], .rw, 0⟩ fun o4 H4 => newC H4 ⟨[(qk2 .i64 x2)], .rw, 0⟩ fun o5 H5 => elI .i64 (AH.cell? H5 ⟨o5, 0, none⟩) fun n9 => bcase (decide ((n9 : Int) < (0 : Int))) (qa9.j1 x0 k o4 o5 H5 true) (elI .i64 (AH.cell? H5 ⟨o5, 0, none⟩) fun n12 => qa9.j1 x0 k o4 o5 H5 (decide ((n12 : Int) > (448 : Int))))
theorem qa9.link {x0 : Sl} {x1 : Int} {x2 : Int} {H : AH} {k : Bool → AH → Prop} (h : qa9.b x0 x1 x2 H k) : qa9 x0 x1 x2 H k := lk1 pan hT hm Tryz.func182 (by kernel_rfl) (A := ann0) (by kernel_rfl) (by simp) (by kernel_rfl) h
def qbE.b (x0 : Sl) (x1 : Int) (x2 : Int) (H : AH) (k : Int → AH → Prop) : Prop :=
 qL x0 H fun s11a b11b H11 => bcase (!b11b) (k (6 : Int) H11) (qa9 x0 x1 x2 H11 fun b19 H19 => bcase (!b19) (k (1 : Int) H19) (k (0 : Int) H19))
theorem qbE.link {x0 : Sl} {x1 : Int} {x2 : Int} {H : AH} {k : Int → AH → Prop} (h : qbE.b x0 x1 x2 H k) : qbE x0 x1 x2 H k := lk1 pan hT hm Tryz.func153 (by kernel_rfl) (A := ann0) (by kernel_rfl) (by simp) (by kernel_rfl) h
def qbD.b (x0 : Sl) (x1 : Int) (x2 : Int) (H : AH) (k : Bool → AH → Prop) : Prop :=
 bcase (decide ((x1 : Int) ≥ (0 : Int))) (bcase (decide ((x2 : Int) ≥ (0 : Int))) (bcase (decide ((x2 : Int) ≤ (448 : Int))) (k (decide ((x1 : Int) ≤ (qk3 .i64 ((qk3 .i64 (((x0.n : Nat) : Int) * (8 : Int))) - x2)))) H) (k false H)) (k false H)) (k false H)
theorem qbD.link {x0 : Sl} {x1 : Int} {x2 : Int} {H : AH} {k : Bool → AH → Prop} (h : qbD.b x0 x1 x2 H k) : qbD x0 x1 x2 H k := lk1 pan hT hm Tryz.func183 (by kernel_rfl) (A := ann0) (by kernel_rfl) (by simp) (by kernel_rfl) h
def qbB.l1 (x0 : Sl) (x1 : Int) (x2 : Int) (k : Sl → Bool → AH → Prop) (t5 : Sl × Int) (HL5 : AH) (it5 : (Sl × Int) → AH → Prop) : Prop :=
 bcase (decide ((t5.2 : Int) < (qk3 .i64 (x1 + x2)))) (((8 : Int) : Int) ≠ 0 ∧ (0 ≤ (qk3 .i64 (qmr t5.2 (8 : Int))) ∧ (qk3 .i64 (qmr t5.2 (8 : Int))) < ((x0.n : Nat) : Int)) ∧ onPtr x0.a fun a27 => elI .u64 (AH.cell? HL5 (qk4 a27 (qla (qk3 .i64 (qmr t5.2 (8 : Int))) * 1))) fun n28 => ((8 : Int) : Int) ≠ 0 ∧ (0 : Int) ≤ (qk3 .i64 ((ql5 t5.2 (8 : Int)) * (8 : Int))) ∧ newC HL5 ⟨[(qk2 .u8 (qk3 .u8 (shrI .u64 n28 (qk3 .i64 ((ql5 t5.2 (8 : Int)) * (8 : Int))))))], .rw, 1⟩ fun o34 H34 => appendC 1 H34 t5.1 ⟨(some ⟨o34, 0, none⟩), 1, 1⟩ fun s35 H35 => it5 (s35, (qk3 .i64 (t5.2 + (1 : Int)))) H35) (k t5.1 true HL5)
def qbB.b (x0 : Sl) (x1 : Int) (x2 : Int) (H : AH) (k : Sl → Bool → AH → Prop) : Prop :=
 qbD x0 x1 x2 H fun b13 H13 => bcase (!b13) (k ⟨none, 0, 0⟩ false H13) (loopT (qbB.l1 x0 x1 x2 k) ((⟨none, 0, 0⟩, x1) : Sl × Int) H13)
def qbB.ann : Ann := { keep := fun r => match r with | 5 => [(8, .sl), (9, .int .i64)] | _ => [], ord := fun r => match r with  | _ => [] }
theorem qbB.link {x0 : Sl} {x1 : Int} {x2 : Int} {H : AH} {k : Sl → Bool → AH → Prop} (h : qbB.b x0 x1 x2 H k) : qbB x0 x1 x2 H k := lk2 pan hT hm Tryz.func154 (by kernel_rfl) (A := qbB.ann) (by kernel_rfl) (by simp) (by simp) (by kernel_rfl) h
def qcb.b (x0 : Sl) (x1 : Int) (x2 : Int) (H : AH) (k : Sl → Int → AH → Prop) : Prop :=
 qbE x0 x1 x2 H fun n14 H14 => bcase ((n14 : Int) != (0 : Int)) (k ⟨none, 0, 0⟩ n14 H14) (qbB x0 x1 x2 H14 fun s22a b22b H22 => k s22a (0 : Int) H22)
theorem qcb.link {x0 : Sl} {x1 : Int} {x2 : Int} {H : AH} {k : Sl → Int → AH → Prop} (h : qcb.b x0 x1 x2 H k) : qcb x0 x1 x2 H k := lk2 pan hT hm Tryz.func116 (by kernel_rfl) (A := ann0) (by kernel_rfl) (by simp) (by simp) (by kernel_rfl) h
def qbY.b (x0 : Option Addr) (x1 : Int) (x2 : Int) (H : AH) (pk : Value → AH → Prop) (k : Sl → AH → Prop) : Prop :=
 qaJ x0 H (fun pv11 Hp11 => pk pv11 Hp11) fun s11 H11 => qcb s11 x1 x2 H11 fun s14a n14b H14 => qaa n14b H14 (fun pv18 Hp18 => pk pv18 Hp18) fun H18 => k s14a H18
theorem qbY.link {x0 : Option Addr} {x1 : Int} {x2 : Int} {H : AH} {pk : Value → AH → Prop} {k : Sl → AH → Prop} (h : qbY.b x0 x1 x2 H pk k) : qbY x0 x1 x2 H pk k := lk1 pan hT hm Tryz.func66 (by kernel_rfl) (A := ann0) (by kernel_rfl) (by simp) (by kernel_rfl) h
def qY.j1 (x1 : Int) (t5 : Sl × Int) (it5 : (Sl × Int) → AH → Prop) (n25 : Int) (x8 : Sl) (Hj : AH) : Prop :=
 (0 ≤ (qk3 .i64 (((x8.n : Nat) : Int) - (1 : Int))) ∧ (qk3 .i64 (((x8.n : Nat) : Int) - (1 : Int))) < ((x8.n : Nat) : Int)) ∧ onPtr x8.a fun a59 => elI .u64 (AH.cell? Hj (qk4 (qk4 a59 (qla (qk3 .i64 (((x8.n : Nat) : Int) - (1 : Int))) * 2)) 1)) fun n64 => ((8 : Int) : Int) ≠ 0 ∧ (0 : Int) ≤ (qk3 .i64 ((ql5 (qk3 .i64 (x1 + t5.2)) (8 : Int)) * (8 : Int))) ∧ ((8 : Int) : Int) ≠ 0 ∧ (0 : Int) ≤ (qk3 .i64 ((ql5 (qk3 .i64 (x1 + t5.2)) (8 : Int)) * (8 : Int))) ∧ stC Hj (qk4 (qk4 a59 (qla (qk3 .i64 (((x8.n : Nat) : Int) - (1 : Int))) * 2)) 1) [(qk2 .u64 (orI .u64 (andNotI .u64 n64 (shlI .u64 (255 : Int) (qk3 .i64 ((ql5 (qk3 .i64 (x1 + t5.2)) (8 : Int)) * (8 : Int))))) (shlI .u64 (qk3 .u64 n25) (qk3 .i64 ((ql5 (qk3 .i64 (x1 + t5.2)) (8 : Int)) * (8 : Int))))))] fun Hs2 => it5 (x8, (qk3 .i64 (t5.2 + (1 : Int)))) Hs2
def qY.j2 (x0 : Sl) (x1 : Int) (t5 : Sl × Int) (it5 : (Sl × Int) → AH → Prop) (HL5 : AH) (n25 : Int) (x43 : Bool) : Prop :=
 bcase x43 (((8 : Int) : Int) ≠ 0 ∧ ((8 : Int) : Int) ≠ 0 ∧ (0 ≤ (qk3 .i64 (qmr (qk3 .i64 (x1 + t5.2)) (8 : Int))) ∧ (qk3 .i64 (qmr (qk3 .i64 (x1 + t5.2)) (8 : Int))) < ((x0.n : Nat) : Int)) ∧ onPtr x0.a fun a50 => elI .u64 (AH.cell? HL5 (qk4 a50 (qla (qk3 .i64 (qmr (qk3 .i64 (x1 + t5.2)) (8 : Int))) * 1))) fun n51 => (qlh [(qk2 .i64 (qk3 .i64 (qmr (qk3 .i64 (x1 + t5.2)) (8 : Int)))), (qk2 .u64 n51)] = 2) ∧ newC HL5 ⟨[(qk2 .i64 (qk3 .i64 (qmr (qk3 .i64 (x1 + t5.2)) (8 : Int)))), (qk2 .u64 n51)], .rw, 2⟩ fun o53 H53 => appendC 2 H53 t5.1 ⟨(some ⟨o53, 0, none⟩), 1, 1⟩ fun s54 H54 => qY.j1 x1 t5 it5 n25 s54 H54) (qY.j1 x1 t5 it5 n25 t5.1 HL5)
def qY.l3 (x0 : Sl) (x1 : Int) (x2 : Sl) (k : Sl → Bool → AH → Prop) (t5 : Sl × Int) (HL5 : AH) (it5 : (Sl × Int) → AH → Prop) : Prop :=
 bcase (decide ((t5.2 : Int) < ((x2.n : Nat) : Int))) ((0 ≤ t5.2 ∧ t5.2 < ((x2.n : Nat) : Int)) ∧ onPtr x2.a fun a24 => elI .u8 (AH.cell? HL5 (qk4 a24 (qla t5.2 * 1))) fun n25 => bcase ((((t5.1.n : Nat) : Int) : Int) == (0 : Int)) (qY.j2 x0 x1 t5 it5 HL5 n25 true) ((0 ≤ (qk3 .i64 (((t5.1.n : Nat) : Int) - (1 : Int))) ∧ (qk3 .i64 (((t5.1.n : Nat) : Int) - (1 : Int))) < ((t5.1.n : Nat) : Int)) ∧ onPtr t5.1.a fun a37 => elI .i64 (AH.cell? HL5 (qk4 (qk4 a37 (qla (qk3 .i64 (((t5.1.n : Nat) : Int) - (1 : Int))) * 2)) 0)) fun n39 => ((8 : Int) : Int) ≠ 0 ∧ qY.j2 x0 x1 t5 it5 HL5 n25 ((n39 : Int) != (qk3 .i64 (qmr (qk3 .i64 (x1 + t5.2)) (8 : Int)))))) (k t5.1 true HL5)
def qY.b (x0 : Sl) (x1 : Int) (x2 : Sl) (H : AH) (k : Sl → Bool → AH → Prop) : Prop :=
 qbD x0 x1 ((x2.n : Nat) : Int) H fun b17 H17 => bcase (!b17) (k ⟨none, 0, 0⟩ false H17) (loopT (qY.l3 x0 x1 x2 k) ((⟨none, 0, 0⟩, (0 : Int)) : Sl × Int) H17)
def qY.ann : Ann := { keep := fun r => match r with | 5 => [(8, .sl), (21, .int .i64)] | _ => [], ord := fun r => match r with | 11 => [0, 1, 2, 3, 4, 5, 6, 7, 8, 9, 10, 11, 12, 13, 14, 15, 16, 17, 18, 19] | _ => [] }
theorem qY.link {x0 : Sl} {x1 : Int} {x2 : Sl} {H : AH} {k : Sl → Bool → AH → Prop} (h : qY.b x0 x1 x2 H k) : qY x0 x1 x2 H k := lk2 pan hT hm Tryz.func155 (by kernel_rfl) (A := qY.ann) (by kernel_rfl) (by simp) (by simp) (by kernel_rfl) h
def qb2.b (x0 : Sl) (x1 : Int) (x2 : Sl) (H : AH) (k : Sl → Int → AH → Prop) : Prop :=
 qbE x0 x1 ((x2.n : Nat) : Int) H fun n15 H15 => bcase ((n15 : Int) != (0 : Int)) (k ⟨none, 0, 0⟩ n15 H15) (qY x0 x1 x2 H15 fun s23a b23b H23 => k s23a (0 : Int) H23)
theorem qb2.link {x0 : Sl} {x1 : Int} {x2 : Sl} {H : AH} {k : Sl → Int → AH → Prop} (h : qb2.b x0 x1 x2 H k) : qb2 x0 x1 x2 H k := lk2 pan hT hm Tryz.func117 (by kernel_rfl) (A := ann0) (by kernel_rfl) (by simp) (by simp) (by kernel_rfl) h
def qbP.b (x0 : Option Addr) (x1 : Int) (x2 : Sl) (H : AH) (pk : Value → AH → Prop) (k : AH → Prop) : Prop :=
 qaJ x0 H (fun pv10 Hp10 => pk pv10 Hp10) fun s10 H10 => qb2 s10 x1 x2 H10 fun s15a n15b H15 => qaa n15b H15 (fun pv19 Hp19 => pk pv19 Hp19) fun H19 => bcase ((((s15a.n : Nat) : Int) : Int) == (0 : Int)) (k H19) (qah x0 H19 (fun pv24 Hp24 => pk pv24 Hp24) fun H24 => qA x0 s10 s15a H24 (fun pv28 Hp28 => pk pv28 Hp28) fun H28 => k H28)
theorem qbP.link {x0 : Option Addr} {x1 : Int} {x2 : Sl} {H : AH} {pk : Value → AH → Prop} {k : AH → Prop} (h : qbP.b x0 x1 x2 H pk k) : qbP x0 x1 x2 H pk k := lk0 pan hT hm Tryz.func67 (by kernel_rfl) (A := ann0) (by kernel_rfl) (by kernel_rfl) h
def qak.j1 (x0 : Option Addr) (x1 : Int) (k : AH → Prop) (pk : Value → AH → Prop) (x14 : Bool) (Hj : AH) : Prop :=
 bcase x14 (pk (Value.iface 31 (qk2 .i64 (1 : Int))) Hj) (qah x0 Hj (fun pv17 Hp17 => pk pv17 Hp17) fun H17 => onPtr x0 fun a19 => elP (AH.cell? H17 (qk4 a19 0)) fun p21 => qB p21 (2 : Int) (qk3 .u64 x1) H17 fun n24 H24 => qaa n24 H24 (fun pv25 Hp25 => pk pv25 Hp25) fun H25 => k H25)
def qak.b (x0 : Option Addr) (x1 : Int) (H : AH) (pk : Value → AH → Prop) (k : AH → Prop) : Prop :=
 qaJ x0 H (fun pv6 Hp6 => pk pv6 Hp6) fun s6 H6 => bcase ((x1 : Int) != (0 : Int)) (qb9 s6 x1 H6 fun b12 H12 => qak.j1 x0 x1 k pk (!b12) H12) (qak.j1 x0 x1 k pk false H6)
theorem qak.link {x0 : Option Addr} {x1 : Int} {H : AH} {pk : Value → AH → Prop} {k : AH → Prop} (h : qak.b x0 x1 H pk k) : qak x0 x1 H pk k := lk0 pan hT hm Tryz.func68 (by kernel_rfl) (A := ann0) (by kernel_rfl) (by kernel_rfl) h
def pl (a b c d : Int) : List Value := [.int .i64 a, .int .i64 b, .int .i64 c, .int .i64 d]
def mayP (a b c d : Int) : Bool := decide (1 ≤ a ∧ a ≤ 64 ∧ 0 ≤ b ∧ b ≤ 16 ∧ 1 ≤ c ∧ c ≤ 1000 ∧ 1 ≤ d ∧ d ≤ 100)
def wordsP (a b c d : Int) : Int := if mayP a b c d = true then 8 * a else 0
def pagesP (a b c d : Int) : Int := if mayP a b c d = true then (a + 3) / 4 else 0
def logicalP (a b c d : Int) : Int := if mayP a b c d = true then 16 + a else 0
def deviceP (a b c d : Int) : Int := if mayP a b c d = true then 17 + a + b else 0
def homeP (a b c d x : Int) : Int := if mayP a b c d = true ∧ 0 ≤ x ∧ x < a then 16 + x else -1
section
variable {a b c d x : Int} {H : AH} {e : Nat}
theorem pl_row : AH.row? (H.push ⟨pl a b c d, .rw, e⟩) ⟨H.size, 0, none⟩ 4 = some (pl a b c d) := row_new rfl rfl
theorem pl_ld {k : List Value → Prop} : ldA (H.push ⟨pl a b c d, .rw, e⟩) ⟨H.size, 0, none⟩ 4 k ↔ k (pl a b c d) := qr pl_row
theorem pl_0 : AH.cell? (H.push ⟨pl a b c d, .rw, e⟩) (qk4 ⟨H.size, 0, none⟩ 0) = some (.int .i64 a) := qcF _ _ _ _
theorem pl_1 : AH.cell? (H.push ⟨pl a b c d, .rw, e⟩) (qk4 ⟨H.size, 0, none⟩ 1) = some (.int .i64 b) := qcF _ _ _ _
theorem pl_2 : AH.cell? (H.push ⟨pl a b c d, .rw, e⟩) (qk4 ⟨H.size, 0, none⟩ 2) = some (.int .i64 c) := qcF _ _ _ _
theorem pl_3 : AH.cell? (H.push ⟨pl a b c d, .rw, e⟩) (qk4 ⟨H.size, 0, none⟩ 3) = some (.int .i64 d) := qcF _ _ _ _
theorem qN : mayP a b c d = true ↔ 1 ≤ a ∧ a ≤ 64 ∧ 0 ≤ b ∧ b ≤ 16 ∧ 1 ≤ c ∧ c ≤ 1000 ∧ 1 ≤ d ∧ d ≤ 100 := by simp [mayP]
theorem hK {o : AObj} {P : Prop} : (qa H (H.push o) ∧ P) ↔ P := ⟨fun h => h.2, fun h => ⟨(qa.refl H).push _, h⟩⟩
theorem qaS.s {k : Bool → AH → Prop} (h : k (mayP a b c d) H) : qaS (pl a b c d) H k := by
 refine gcB (mayP a b c d) (qaS.link ?_) h
 simp only [qaS.b, qs, pl_0, pl_1, pl_2, pl_3, qi, qk, decide_eq_true_eq, hK]
 repeat' split
 all_goals simp only [mayP, decide_eq_decide, Bool.false_eq, decide_eq_false_iff_not]
 all_goals omega
theorem qcf.s {k : Int → AH → Prop} (h : k (wordsP a b c d) H) : qcf (pl a b c d) H k := by
 refine gcI (wordsP a b c d) (qcf.link ?_) h
 simp only [qcf.b, qs, pl_ld]
 refine qaS.s ?_
 simp only [pl_0, qi, qk, hK, wordsP, qmg]
 cases hm : mayP a b c d
 ·simp
 ·have := qN.1 hm
  simp only [Bool.true_eq_false, eq_self, if_false, if_true]
  rw [qe (by omega) (by omega)]
  omega
theorem qb5.s {k : Int → AH → Prop} (hx : -9223372036854775808 ≤ x ∧ x ≤ 9223372036854775807) (h : k ((if 0 > x then 0 else x) / 4) H) : qb5 x H k := by
 refine gcI ((if 0 > x then 0 else x) / 4) (qb5.link ?_) h
 refine ⟨by decide, qa.refl H, ?_⟩
 have : (0 : Int) ≤ (if 0 > x then 0 else x) := by split <;> omega
 rw [qlP this, qe (by split <;> omega) (by split <;> omega)]
theorem qce.s {k : Int → AH → Prop} (h : k (pagesP a b c d) H) : qce (pl a b c d) H k := by
 refine gcI (pagesP a b c d) (qce.link ?_) h
 simp only [qce.b, qs, pl_ld]
 refine qaS.s ?_
 simp only [pl_0, qi, qk, hK, pagesP, qmg]
 cases hm : mayP a b c d
 ·simp
 ·have := qN.1 hm
  simp only [Bool.true_eq_false, eq_self, if_false, if_true]
  rw [qe (by omega) (by omega)]
  refine qb5.s (by omega) ?_
  rw [qe (by split <;> omega) (by split <;> omega)]
  simp only [hK]
  split <;> omega
theorem qbe.s {k : Int → AH → Prop} (h : k (logicalP a b c d) H) : qbe (pl a b c d) H k := by
 refine gcI (logicalP a b c d) (qbe.link ?_) h
 simp only [qbe.b, qs, pl_ld]
 refine qaS.s ?_
 simp only [pl_0, qi, qk, hK, logicalP, qmg]
 cases hm : mayP a b c d
 ·simp
 ·have := qN.1 hm
  simp only [Bool.true_eq_false, eq_self, if_false, if_true]
  rw [qe (by omega) (by omega)]
theorem qa5.s {k : Int → AH → Prop} (h : k (deviceP a b c d) H) : qa5 (pl a b c d) H k := by
 refine gcI (deviceP a b c d) (qa5.link ?_) h
 simp only [qa5.b, qs, pl_ld]
 refine qaS.s ?_
 simp only [pl_0, pl_1, qi, qk, hK, deviceP, qmg]
 cases hm : mayP a b c d
 ·simp
 ·have := qN.1 hm
  simp only [Bool.true_eq_false, eq_self, if_false, if_true]
  rw [pl_ld]
  refine qbe.s ?_
  refine ⟨pl_1, ?_⟩
  simp only [logicalP, hm, if_true, hK]
  rw [qe (n := 16 + a + 1) (by omega) (by omega), qe (by omega) (by omega)]
  omega
theorem qba.s {k : Int → AH → Prop} (h : k (homeP a b c d x) H) : qba (pl a b c d) x H k := by
 refine gcI (homeP a b c d x) (qba.link ?_) h
 simp only [qba.b, qs, pl_ld]
 refine qaS.s ?_
 simp only [pl_0, pl_1, qi, qk, hK, homeP, qmg, decide_eq_true_eq]
 cases hm : mayP a b c d
 ·simp
 ·have := qN.1 hm
  simp only [Bool.true_eq_false, eq_self, if_false, true_and]
  split
  ·rw [if_neg (by omega)]
  ·split
   ·rw [if_neg (by omega)]
   ·rw [if_pos (by omega), qe (by omega) (by omega)]
end
def opl (K a b c : Int) (s : Sl) : List Value := [.int .i64 K, .int .i64 a, .int .i64 b, .int .i64 c, s.val]
def linesP (K b : Int) (n : Nat) : Int :=
 if K = 1 then (if 0 ≤ b ∧ b ≤ 448 then b / 64 + 4 else 0) else if K = 4 then (if n ≤ 448 then (n : Int) / 64 + 2 else 0) else if K = 2 then 1 else 0
def costP (K b : Int) (n : Nat) (m : Int) : Int :=
 if 0 ≤ m ∧ m ≤ 16 then (if K = 5 then 1 else if linesP K b n = 0 then 0 else 12 * linesP K b n + 24 + 4 * m) else 0
def recP (m : Int) : Int := if 0 ≤ m ∧ m ≤ 16 then 192 + 4 * m else 0
section
variable {K a b c d m x : Int} {sl : Sl} {H : AH} {e : Nat}
theorem op_row : AH.row? (H.push ⟨opl K a b c sl, .rw, e⟩) ⟨H.size, 0, none⟩ 5 = some (opl K a b c sl) := row_new rfl rfl
theorem op_ld {k : List Value → Prop} : ldA (H.push ⟨opl K a b c sl, .rw, e⟩) ⟨H.size, 0, none⟩ 5 k ↔ k (opl K a b c sl) := qr op_row
theorem op_0 : AH.cell? (H.push ⟨opl K a b c sl, .rw, e⟩) (qk4 ⟨H.size, 0, none⟩ 0) = some (.int .i64 K) := qcF _ _ _ _
theorem op_2 : AH.cell? (H.push ⟨opl K a b c sl, .rw, e⟩) (qk4 ⟨H.size, 0, none⟩ 2) = some (.int .i64 b) := qcF _ _ _ _
theorem op_4 : AH.cell? (H.push ⟨opl K a b c sl, .rw, e⟩) (qk4 ⟨H.size, 0, none⟩ 4) = some sl.val := qcF _ _ _ _
theorem elL_val {k : Sl → Prop} : elL (some sl.val) k ↔ k sl := qbo _ _ _ _
theorem qcV : 0 ≤ linesP K b sl.n ∧ linesP K b sl.n ≤ 11 := by
 unfold linesP
 repeat' split
 all_goals omega
theorem qbw.s {k : Int → AH → Prop} (h : k (linesP K b sl.n) H) : qbw (opl K a b c sl) H k := by
 refine gcI (linesP K b sl.n) (qbw.link ?_) h
 simp only [qbw.b, qs, op_0, op_2, op_4, qi, elL_val, qc, qk, decide_eq_true_eq, beq_iff_eq, qbw.j1, hK]
 unfold linesP
 by_cases h1 : K = 1
 ·rw [if_pos h1, if_pos h1]
  by_cases h2 : 0 ≤ b ∧ b ≤ 448
  ·rw [if_pos h2.1, if_pos h2.2, if_pos h2]
   refine ⟨by decide, ?_⟩
   rw [qlP h2.1, qe (n := b / 64) (by omega) (by omega), qe (by omega) (by omega)]
  ·rw [if_neg h2]
   by_cases h3 : b ≥ 0
   ·rw [if_pos h3, if_neg (by omega)]
   ·rw [if_neg h3]
 ·rw [if_neg h1, if_neg h1]
  by_cases h4 : K = 4
  ·rw [if_pos h4, if_pos h4]
   by_cases h2 : sl.n ≤ 448
   ·rw [if_pos (by omega), if_pos h2]
    refine ⟨by decide, ?_⟩
    rw [qlP (by omega), qe (n := (sl.n : Int) / 64) (by omega) (by omega), qe (by omega) (by omega)]
   ·rw [if_neg (by omega), if_neg h2]
  ·rw [if_neg h4, if_neg h4]
   by_cases h2 : K = 2
   ·rw [if_pos h2, if_pos h2]
   ·rw [if_neg h2, if_neg h2]
theorem qcy.s {k : Bool → AH → Prop} (h : k (decide (0 ≤ m ∧ m ≤ 16)) H) : qcy m H k := by
 refine gcB (decide (0 ≤ m ∧ m ≤ 16)) (qcy.link ?_) h
 simp only [qcy.b, qk, decide_eq_true_eq, qa.refl, true_and]
 split
 ·simp only [decide_eq_decide]; omega
 ·simp; omega
theorem qau.s {k : Bool → AH → Prop} (h : k (decide (0 ≤ m ∧ m ≤ 16)) H) : qau m H k := by
 refine gcB (decide (0 ≤ m ∧ m ≤ 16)) (qau.link ?_) h
 simp only [qau.b, qk, decide_eq_true_eq, qa.refl, true_and]
 split
 ·simp only [decide_eq_decide]; omega
 ·simp; omega
theorem cost_of.s {k : Int → AH → Prop} (hx : 0 ≤ x ∧ x ≤ 100) (hm : 0 ≤ m ∧ m ≤ 16) (h : k (12 * x + 24 + 4 * m) H) : cost_of x m H k := by
 refine gcI (12 * x + 24 + 4 * m) (cost_of.link ?_) h
 refine ⟨qa.refl _, ?_⟩
 rw [qe (n := 12 * x) (by omega) (by omega), qe (n := 4 * m) (by omega) (by omega), qe (n := 12 * x + 24) (by omega) (by omega), qe (by omega) (by omega)]
theorem cost_Op.s {k : Int → AH → Prop} (h : k (costP K b sl.n m) H) : cost_Op (opl K a b c sl) m H k := by
 refine gcI (costP K b sl.n m) (cost_Op.link ?_) h
 simp only [cost_Op.b, qs, op_ld]
 refine qbw.s (qcy.s ?_)
 have hl := qcV (K := K) (b := b) (sl := sl)
 simp only [op_0, qi, qk, beq_iff_eq, hK, qmg, decide_eq_false_iff_not, costP]
 by_cases hm : 0 ≤ m ∧ m ≤ 16
 ·rw [if_neg (by simpa using hm), if_pos hm]
  split
  ·rfl
  ·split
   ·rfl
   ·refine cost_of.s (by omega) hm ?_
    simp only [hK]
 ·rw [if_pos hm, if_neg hm]
theorem qaf.s {k : Int → AH → Prop} (h : k (recP m) H) : qaf m H k := by
 refine gcI (recP m) (qaf.link ?_) h
 simp only [qaf.b]
 refine qau.s ?_
 simp only [qk, qmg, decide_eq_false_iff_not, recP]
 by_cases hm : 0 ≤ m ∧ m ≤ 16
 ·rw [if_neg (by simpa using hm), if_pos hm]
  rw [qe (n := 4 * m) (by omega) (by omega), qe (by omega) (by omega)]; exact ⟨qa.refl _, rfl⟩
 ·rw [if_pos hm, if_neg hm]; exact ⟨qa.refl _, rfl⟩
theorem op_len : (opl K a b c sl).length = 5 := rfl
theorem op_ok : (opl K a b c sl).all qn = true := rfl
end
def isU (n : Int) : Prop := 0 ≤ n ∧ n ≤ 18446744073709551615
def isI (n : Int) : Prop := -9223372036854775808 ≤ n ∧ n ≤ 9223372036854775807
def isB (n : Int) : Prop := 0 ≤ n ∧ n ≤ 255
def iV (v : Int) : List Value := [.int .i64 v]
def wU (v : Int) : List Value := [.int .u64 v]
def bU (v : Int) : List Value := [.int .u8 v]
end Go.Proofs.YtdcbkjgoaknmkaaGreat
namespace Go.Abs
theorem own_len {α : Type} {B : Nat} {H : AH} {s : Sl} {z : Nat} {f : α → List Value} {l : List α} (h : Own B H s z f l) : s.n = l.length := by
 rcases h with ⟨rfl, rfl⟩ | ⟨b, rfl, _, _, _⟩ <;> rfl
theorem qjJ {α : Type} {cells : List Value} {z : Nat} {f : α → List Value} : ∀ {l : List α} {o : Nat}, (∀ i x, l[i]? = some x → (cells.drop (o + i * z)).take z = f x ∧ (f x).length = z) → (cells.drop o).take (l.length * z) = l.flatMap f := by
 intro l
 induction l with
 | nil => intro o _; simp
 | cons a r ih =>
  intro o h
  have h0 := h 0 a rfl
  rw [Nat.zero_mul, Nat.add_zero] at h0
  have hr := ih (o := o + z) fun i x hx => by
   have := h (i + 1) x (by simpa using hx)
   rw [show o + z + i * z = o + (i + 1) * z by rw [Nat.add_mul]; omega]
   exact this
  simp only [qli, qlR]
  rw [Nat.add_mul, Nat.one_mul, Nat.add_comm, List.take_add, h0.1, List.drop_drop, hr]
theorem qjY {α : Type} {H : AH} {s : Sl} {z : Nat} {f : α → List Value} {l : List α} (hf : ∀ x, (f x).length = z) (hc : ∀ x, (f x).all qn = true) (h : Rows H s z f l) : AH.rowS? H s z = some (l.flatMap f) := by
 simp only [AH.rowS?]
 by_cases h0 : s.n = 0
 ·rw [if_pos h0]
  have : l = [] := List.length_eq_zero_iff.1 (by rw [← h.1]; exact h0)
  subst this; rfl
 ·rw [if_neg h0]
  have hpos : 0 < l.length := by rw [← h.1]; omega
  obtain ⟨b, o, ha, hb, _⟩ := h.at hpos
  have hrow : ∀ i x, l[i]? = some x → AH.row? H ⟨b, o + i * z, none⟩ z = some (f x) := by
   intro i x hx
   obtain ⟨a, e1, e2, e3, e4⟩ := h.2 i x hx
   rw [ha] at e1
   injection e1 with e1
   subst e1
   exact e4
  have hun : ∀ i x, l[i]? = some x → (H.get b).md ≠ .dead ∧ ((H.get b).cells.drop (o + i * z)).take z = f x ∧ o + i * z + z ≤ (H.get b).cells.length := by
   intro i x hx
   have := hrow i x hx
   simp only [AH.row?, qln, qle, if_false] at this
   split at this
   ·cases this
   ·rename_i hd
    split at this
    ·rename_i hh
     injection this with this
     exact ⟨hd, this, hh.1⟩
    ·cases this
  have hl := hun (l.length - 1) l[l.length - 1] (qk5 (by omega))
  have hflat := qjJ (cells := (H.get b).cells) (z := z) (f := f) (l := l) (o := o) fun i x hx => ⟨(hun i x hx).2.1, hf x⟩
  have hle : o + l.length * z ≤ (H.get b).cells.length := by
   have := hl.2.2
   obtain ⟨n, hn⟩ : ∃ n, l.length = n + 1 := ⟨l.length - 1, by omega⟩
   rw [hn] at this ⊢
   rw [Nat.add_sub_cancel] at this
   rw [Nat.add_mul]
   omega
  have hall : (l.flatMap f).all qn = true := by simp [List.all_flatMap, hc]
  rw [ha]
  simp only [AH.row?, qln, qle, if_false]
  rw [if_neg hl.1, h.1, hflat, if_pos ⟨hle, hall⟩]
theorem qh9 {α : Type} {H0 H : AH} {B : Nat} {s t : Sl} {z : Nat} {f : α → List Value} {l r : List α} {k : Sl → AH → Prop} (hf : ∀ x, (f x).length = z) (hc : ∀ x, (f x).all qn = true)
  (hO : Own B H s z f l) (hR : Rows H t z f r) (hB : H0.size ≤ B) (hBH : B ≤ H.size) (hK : qa H0 H) (hlim : l.length + r.length ≤ limS z)
  (h : ∀ s' H', Own B H' s' z f (l ++ r) → qa H0 H' → H.size ≤ H'.size → (∀ b, b < H.size → (∀ a, s.a = some a → b ≠ a.block) → H'.get b = H.get b) → k s' H') :
  appendC z H s t k := by
 have hrow := qjY hf hc hR
 have hge := hK.1
 have hs : s.n = l.length := own_len hO
 refine ⟨by rw [hs, hR.1]; exact hlim, ?_⟩
 by_cases h0 : t.n = 0
 ·rw [if_pos h0]
  have : r = [] := List.length_eq_zero_iff.1 (by rw [← hR.1]; exact h0)
  subst this
  refine h _ _ (by rw [List.append_nil]; exact hO) hK (qlc _) fun _ _ _ => rfl
 rw [if_neg h0]
 refine ⟨_, hrow, ?_⟩
 have ht := hR.1
 rcases hO with ⟨rfl, rfl⟩ | ⟨b, rfl, hb1, hb2, hg⟩
 ·refine h _ _ (.inr ⟨H.size, ?_, ?_, ?_, ?_⟩) (hK.push _) (by simp [qj]) ?_
  ·simp [newAt, ht]
  ·omega
  ·simp [qj]
  ·simp [qo]
  ·intro b hb _; exact qE (by omega)
 ·refine ⟨⟨rfl, rfl, rfl, by rw [hg], by rw [hg, qdo hf], by rw [hg]⟩, ?_⟩
  refine h _ _ (.inr ⟨H.size, ?_, ?_, ?_, ?_⟩) ((hK.kill (b := b) (Nat.le_trans hB hb1)).push _) (by simp [qj, qaw]) ?_
  ·simp [newAt, ht]
  ·omega
  ·simp [qj, qaw]
  ·simp only [qo, qaw, if_true]
   rw [hg]
   simp
  ·intro b' hb' hne
   have hne' : b' ≠ b := hne _ rfl
   rw [qE (by simp only [qaw]; omega), qc3 hne']
theorem qel {α : Type} {H0 H : AH} {B : Nat} {s t : Sl} {z : Nat} {f : α → List Value} {l r : List α} {k : Sl → AH → Prop} (hf : ∀ x, (f x).length = z) (hc : ∀ x, (f x).all qn = true)
  (hO : Own B H s z f l) (hR : Rows H t z f r) (hB : H0.size ≤ B) (hBH : B ≤ H.size) (hK : qa H0 H) (hlim : l.length + r.length ≤ lim)
  (h : ∀ s' H', Own B H' s' z f (l ++ r) → qa H0 H' → H.size ≤ H'.size → (∀ b, b < H.size → (∀ a, s.a = some a → b ≠ a.block) → H'.get b = H.get b) → k s' H') :
  appendC z H s t k := qh9 hf hc hO hR hB hBH hK (le_limS hlim z) h
theorem qeP {α : Type} {H : AH} {s : Sl} {z : Nat} {f : α → List Value} {l : List α} {k : Nat} (h : Rows H s z f l) (hk : k ≤ l.length) : Rows H ⟨s.a, k, 0⟩ z f (l.take k) := by
 refine ⟨by simp; omega, fun i x hi => h.2 i x ?_⟩
 rw [qlT] at hi
 split at hi
 ·exact hi
 ·cases hi
theorem qdI {α : Type} {H : AH} {s : Sl} {z : Nat} {f : α → List Value} {l : List α} {k : Nat} (h : Rows H s z f l) (hk : k ≤ l.length) : Rows H ⟨Option.map (fun x => qk4 x (k * z)) s.a, s.n - k, 0⟩ z f (l.drop k) := by
 refine ⟨by simp [h.1], fun i x hi => ?_⟩
 rw [qlU] at hi
 obtain ⟨a, h1, h2, h3, h4⟩ := h.2 _ _ hi
 obtain ⟨b, o, sp⟩ := a
 simp only at h2 h3 h4
 subst h2
 refine ⟨⟨b, o + k * z, none⟩, by rw [h1, Option.map_some, ql], rfl, h3, ?_⟩
 rw [← h4]
 simp only
 congr 2
 rw [Nat.add_mul]; omega
def getB (v : Int) (j : Nat) : Int := (v / 2 ^ (8 * j)) % 256
def setB (v : Int) (j : Nat) (c : Int) : Int :=
 ((((qlS 64 v) &&& ~~~(BitVec.ofNat 64 (255 * 2 ^ (8 * j)))) ||| (BitVec.ofNat 64 (c.toNat * 2 ^ (8 * j)))).toNat : Int)
theorem qiQ (v : Int) (j : Nat) (c : Int) : 0 ≤ setB v j c ∧ setB v j c ≤ 18446744073709551615 := by
 unfold setB
 have := (((qlS 64 v) &&& ~~~(BitVec.ofNat 64 (255 * 2 ^ (8 * j)))) ||| (BitVec.ofNat 64 (c.toNat * 2 ^ (8 * j)))).isLt
 omega
theorem qfM (n j : Nat) : getB (n : Int) j = ((n / 2 ^ (8 * j)) % 256 : Nat) := by
 unfold getB
 rw [Int.natCast_emod, Int.natCast_ediv, Int.natCast_pow]
 rfl
theorem qdY (n j t : Nat) : ((n / 2 ^ (8 * j)) % 256).testBit t = (decide (t < 8) && n.testBit (8 * j + t)) := by
 have : (256 : Nat) = 2 ^ 8 := rfl
 rw [this, Nat.testBit_mod_two_pow, Nat.testBit_div_two_pow, Nat.add_comm]
theorem qgv {v c : Int} {j : Nat} (hj : j < 8) (hc : 0 ≤ c ∧ c ≤ 255) : getB (setB v j c) j = c := by
 obtain ⟨n, rfl⟩ := qlr hc.1
 unfold setB
 rw [qfM]
 congr 1
 apply Nat.eq_of_testBit_eq
 intro t
 rw [qdY, BitVec.testBit_toNat]
 simp only [qk9]
 have hn : n < 2 ^ 8 := by omega
 by_cases ht : t < 8
 ·have h64 : 8 * j + t < 64 := by omega
  simp only [ht, decide_true, Bool.true_and, BitVec.getLsbD_or, BitVec.getLsbD_and, BitVec.getLsbD_not, BitVec.getLsbD_ofNat, h64, Nat.testBit_mul_two_pow]
  rw [show decide (8 * j + t ≥ 8 * j) = true from by simp, show 8 * j + t - 8 * j = t from by omega]
  have h255 : Nat.testBit 255 t = true := by
   have : (255 : Nat) = 2 ^ 8 - 1 := rfl
   rw [this, Nat.testBit_two_pow_sub_one]; simpa using ht
  simp [h255]
 ·have : n.testBit t = false := Nat.testBit_lt_two_pow (qmh hn (Nat.pow_le_pow_right (by omega) (by omega)))
  simp [ht, this]
theorem qgm {v c : Int} {j i : Nat} (hv : 0 ≤ v ∧ v ≤ 18446744073709551615) (hj : j < 8) (hi : i < 8) (hij : i ≠ j) (hc : 0 ≤ c ∧ c ≤ 255) : getB (setB v j c) i = getB v i := by
 obtain ⟨n, rfl⟩ := qlr hc.1
 obtain ⟨m, rfl⟩ := qlr hv.1
 unfold setB
 rw [qfM, qfM]
 congr 1
 apply Nat.eq_of_testBit_eq
 intro t
 rw [qdY, qdY, BitVec.testBit_toNat]
 simp only [qk9]
 have hn : n < 2 ^ 8 := by omega
 by_cases ht : t < 8
 ·have h64 : 8 * i + t < 64 := by omega
  simp only [ht, decide_true, Bool.true_and, BitVec.getLsbD_or, BitVec.getLsbD_and, BitVec.getLsbD_not, BitVec.getLsbD_ofNat, h64, Nat.testBit_mul_two_pow, BitVec.ofInt_natCast]
  have hz : ∀ q : Nat, q < 2 ^ 8 → (decide (8 * i + t ≥ 8 * j) && q.testBit (8 * i + t - 8 * j)) = false := by
   intro q hq
   by_cases hge : 8 * i + t ≥ 8 * j
   ·have : 8 ≤ 8 * i + t - 8 * j := by omega
    rw [Nat.testBit_lt_two_pow (qmh hq (Nat.pow_le_pow_right (by omega) this))]; simp
   ·simp [hge]
  rw [hz 255 (by omega), hz n hn]
  simp
 ·simp [ht]
theorem qko {v : Int} (hv : 0 ≤ v ∧ v ≤ 18446744073709551615) {j : Nat} (hj : j < 8) : qk3 .u8 (shrI .u64 v (8 * (j : Int))) = getB v j := by
 unfold shrI getB
 rw [show (min ((8 * (j : Int)).toNat) (ql3 .u64)) = 8 * j from by simp [ql3]; omega]
 rw [Int.fdiv_eq_ediv_of_nonneg _ (Int.pow_nonneg (by omega))]
 simp only [qk3, ql3, IntKind.signed, Bool.false_and, Int.reducePow, qle, if_false]
theorem qdE (x : Int) : qlS 64 (qk3 .u64 x) = qlS 64 x := by
 simp only [qk3, ql3, IntKind.signed, Bool.false_and, qle, if_false]
 apply BitVec.eq_of_toInt_eq
 simp only [BitVec.toInt_ofInt]
 exact Int.emod_bmod x (2 ^ 64)
theorem qkJ (n : Nat) (h : n < 2 ^ 64) : qk3 .u64 (n : Int) = n := qbm (by omega) (by omega)
theorem qkV {v c : Int} (hc : 0 ≤ c ∧ c ≤ 255) {j : Nat} (hj : j < 8) :
  orI .u64 (andNotI .u64 v (shlI .u64 255 (8 * (j : Int)))) (shlI .u64 (qk3 .u64 c) (8 * (j : Int))) = setB v j c := by
 have h1 : ∀ x : Int, shlI .u64 x (8 * (j : Int)) = qk3 .u64 (x * 2 ^ (8 * j)) := by
  intro x
  unfold shlI
  rw [show (min ((8 * (j : Int)).toNat) (ql3 .u64)) = 8 * j from by simp [ql3]; omega]
 have h2 : ∀ a b : Int, andNotI .u64 a b = qk3 .u64 ((qlS 64 a &&& ~~~(qlS 64 b)).toNat : Int) := fun _ _ => rfl
 have h3 : ∀ a b : Int, orI .u64 a b = qk3 .u64 ((qlS 64 a ||| qlS 64 b).toNat : Int) := fun _ _ => rfl
 rw [h3, h2, h1, h1, qbm (n := c) (by omega) (by omega), qdE, qdE, qdE, qkJ _ (BitVec.isLt _)]
 unfold setB
 obtain ⟨n, rfl⟩ := qlr hc.1
 have e1 : (255 : Int) * 2 ^ (8 * j) = ((255 * 2 ^ (8 * j) : Nat) : Int) := by rw [Int.natCast_mul, Int.natCast_pow]; rfl
 have e2 : (n : Int) * 2 ^ (8 * j) = ((n * 2 ^ (8 * j) : Nat) : Int) := by rw [Int.natCast_mul, Int.natCast_pow]; rfl
 rw [e1, e2]
 simp only [BitVec.ofInt_natCast, qk9, BitVec.ofNat_toNat, BitVec.setWidth_eq]
end Go.Abs
namespace Go.Proofs.YtdcbkjgoaknmkaaGreat
open Go Go.Abs
theorem qj9 {H : AH} {b o : Nat} {v : Value} (h : AH.row? H ⟨b, o, none⟩ 1 = some [v]) : AH.cell? H ⟨b, o, none⟩ = some v := by
 have := (AH.row?_cell h).2.2.2.2 0 v rfl
 simpa using this
theorem qa1 {α : Type} {H : AH} {s : Sl} {g : α → Value} {l : List α} (h : qlu H s 1 (fun x => [g x]) l) {i : Nat} (hi : i < l.length) :
  ∃ b o, s.a = some ⟨b, o, none⟩ ∧ b < H.size ∧ AH.cell? H (qk4 ⟨b, o, none⟩ (i * 1)) = some (g (l[i])) := by
 obtain ⟨b, o, h1, h2, h3⟩ := h.at hi
 refine ⟨b, o, h1, h2, ?_⟩
 rw [ql] at h3 ⊢
 exact qj9 h3
def inside (len : Nat) (off n : Int) : Prop := 0 ≤ off ∧ 0 ≤ n ∧ n ≤ 448 ∧ off ≤ 8 * len - n
instance (len : Nat) (off n : Int) : Decidable (inside len off n) := by unfold inside; infer_instance
def byteAt (ws : List Int) (i : Nat) : Int := getB (ws.getD (i / 8) 0) (i % 8)
def bytesOf (ws : List Int) (off n : Nat) : List Int := (qlN n).map fun j => byteAt ws (off + j)
def qao (ws : List Int) : Prop := ∀ v ∈ ws, 0 ≤ v ∧ v ≤ 18446744073709551615
section
variable {off n : Int} {H : AH} {sl : Sl}
theorem qbD.s {k : Bool → AH → Prop} (hs : sl.n ≤ 1000000000) (ho : -9223372036854775808 ≤ off ∧ off ≤ 9223372036854775807) (h : k (decide (inside sl.n off n)) H) : qbD sl off n H k := by
 refine gcB (decide (inside sl.n off n)) (qbD.link ?_) h
 simp only [qbD.b, qk, decide_eq_true_eq, qa.refl, true_and]
 by_cases h1 : off ≥ 0
 ·rw [if_pos h1]
  by_cases h2 : n ≥ 0
  ·rw [if_pos h2]
   by_cases h3 : n ≤ 448
   ·rw [if_pos h3, qe (n := (sl.n : Int) * 8) (by omega) (by omega), qe (by omega) (by omega)]
    refine decide_eq_decide.2 ?_; unfold inside; omega
   ·rw [if_neg h3]; refine (decide_eq_false ?_).symm; unfold inside; omega
  ·rw [if_neg h2]; refine (decide_eq_false ?_).symm; unfold inside; omega
 ·rw [if_neg h1]; refine (decide_eq_false ?_).symm; unfold inside; omega
theorem qbB.s {ws : List Int} {k : Sl → Bool → AH → Prop} (hw : qlu H sl 1 wU ws) (h64 : qao ws) (hlen : ws.length ≤ 1000000) (ho : -9223372036854775808 ≤ off ∧ off ≤ 9223372036854775807)
  (h1 : inside ws.length off n → ∀ s H', qa H H' → Own H.size H' s 1 bU (bytesOf ws off.toNat n.toNat) → k s true H') (h0 : ¬ inside ws.length off n → k ⟨none, 0, 0⟩ false H) : qbB sl off n H k := by
 refine qbB.link ?_
 unfold qbB.b
 have hn : sl.n = ws.length := hw.1
 refine qbD.s (by omega) ho ?_
 rw [hn]
 by_cases hin : inside ws.length off n
 ·rw [show decide (inside ws.length off n) = true from by simpa using hin, Bool.not_true, qc]
  have hin' := hin
  unfold inside at hin
  refine qI (t := ((⟨none, 0, 0⟩, off) : Sl × Int)) (H := H) (I := fun (t : Sl × Int) H' => ∃ j : Nat, t.2 = off + j ∧ (j : Int) ≤ n ∧ qa H H' ∧ Own H.size H' t.1 1 bU (bytesOf ws off.toNat j)) (m := fun (t : Sl × Int) _ => qla (off + n - t.2)) ?_ ?_
  ·intro t H1 hI it hit
   obtain ⟨s, i⟩ := t
   obtain ⟨j, hi, hj, hK, hO⟩ := hI
   simp only at hi hO
   subst hi
   have hR := hw.keep hK
   unfold qbB.l1
   simp only
   rw [qe (n := off + n) (by omega) (by omega)]
   by_cases hlt : (j : Int) < n
   ·rw [show decide (off + (j : Int) < off + n) = true from by simp; omega, qh]
    rw [qlP (by omega), Int.tmod_eq_emod_of_nonneg (by omega), qe (n := (off + (j : Int)) / 8) (by omega) (by omega), hn]
    have hidx : ((off + (j : Int)) / 8).toNat < ws.length := by omega
    obtain ⟨b, o, ha, hb, hcell⟩ := qa1 (g := fun v => qk2 .u64 v) hR hidx
    refine ⟨by decide, ⟨by omega, by omega⟩, ?_⟩
    rw [ha, qd, hcell, qi, qe (n := (off + (j : Int)) % 8 * 8) (by omega) (by omega)]
    refine ⟨by decide, by omega, ?_⟩
    have hjm : ((off + (j : Int)) % 8) = (((off.toNat + j) % 8 : Nat) : Int) := by omega
    have hidx' : ((off + (j : Int)) / 8).toNat = (off.toNat + j) / 8 := by omega
    have hv := h64 _ (qlk hidx)
    have hbyte : qk3 .u8 (shrI .u64 ws[((off + (j : Int)) / 8).toNat] ((off + (j : Int)) % 8 * 8)) = byteAt ws (off.toNat + j) := by
     rw [Int.mul_comm, hjm, qko hv (by omega)]
     unfold byteAt
     rw [qk6, ← hidx', qk5 hidx, qlE]
    rw [hbyte]
    simp only [qs]
    refine qbV (H0 := H) (B := H.size) (f := bU) (x := byteAt ws (off.toNat + j)) (l := bytesOf ws off.toNat j) (fun _ => rfl) rfl hO (qlc _) hK.1 hK (by simp only [bytesOf, List.length_map, List.length_range, lim]; omega) ?_
    intro s' H' hO' hK' _ _
    rw [qe (n := off + (j : Int) + 1) (by omega) (by omega)]
    refine hit _ _ ⟨j + 1, by simp only; omega, by omega, hK', ?_⟩ (by simp only; omega)
    have : bytesOf ws off.toNat (j + 1) = bytesOf ws off.toNat j ++ [byteAt ws (off.toNat + j)] := by simp [bytesOf, qme]
    rw [this]; exact hO'
   ·rw [show decide (off + (j : Int) < off + n) = false from by simp; omega, qc]
    have hjn : n.toNat = j := by omega
    exact h1 hin' _ _ hK (hjn ▸ hO)
  ·exact ⟨0, by simp, by omega, qa.refl H, .inl ⟨rfl, rfl⟩⟩
 ·rw [show decide (inside ws.length off n) = false from by simpa using hin, Bool.not_false, qh]
  exact h0 hin
end
end Go.Proofs.YtdcbkjgoaknmkaaGreat
namespace Go.Abs
theorem qkU {α : Type} {f : α → List Value} {z : Nat} (hf : ∀ x, (f x).length = z) {j : Nat} {v : Value} (hj : j < z) : ∀ (l : List α) (i : Nat) (x y : α), l[i]? = some x → f y = (f x).set j v →
  (l.flatMap f).set (i * z + j) v = (l.set i y).flatMap f := by
 intro l
 induction l with
 | nil => intro i x y h; simp at h
 | cons a l ih =>
  intro i x y h hy
  cases i with
  | zero =>
   simp only [List.getElem?_cons_zero, Option.some.injEq] at h
   subst h
   simp only [Nat.zero_mul, qlo, qlR, List.set_cons_zero]
   rw [hy, List.set_append_left _ _ (by rw [hf]; exact hj)]
  | succ i =>
   simp only [List.getElem?_cons_succ] at h
   simp only [qlR, List.set_cons_succ]
   rw [← ih i x y h hy, List.set_append_right _ _ (by rw [hf, Nat.succ_mul]; omega)]
   congr 2
   rw [hf, Nat.succ_mul]; omega
theorem Own.cell {α : Type} {B : Nat} {H : AH} {s : Sl} {z : Nat} {f : α → List Value} {l : List α} (h : Own B H s z f l) (hf : ∀ x, (f x).length = z) {i : Nat} {x : α} (hi : l[i]? = some x) {j : Nat} (hj : j < z) :
  ∃ b, s.a = some ⟨b, 0, none⟩ ∧ B ≤ b ∧ b < H.size ∧ AH.cell? H ⟨b, i * z + j, none⟩ = (f x)[j]? := by
 rcases h with ⟨_, rfl⟩ | ⟨b, rfl, h1, h2, hg⟩
 ·simp at hi
 ·refine ⟨b, rfl, h1, h2, ?_⟩
  simp only [AH.cell?, hg, qln, qle, if_false]
  rw [if_neg (by simp)]
  have := qfW hf l i x hi
  rw [← this, qlT, if_pos hj, qlU]
theorem Own.put {α : Type} {B : Nat} {H : AH} {s : Sl} {z : Nat} {f : α → List Value} {l : List α} (h : Own B H s z f l) (hf : ∀ x, (f x).length = z) {i : Nat} {x y : α} (hi : l[i]? = some x) {j : Nat} (hj : j < z) {v : Value}
  (hy : f y = (f x).set j v) : ∃ b, s.a = some ⟨b, 0, none⟩ ∧ B ≤ b ∧ b < H.size ∧ AH.canPut H ⟨b, i * z + j, none⟩ 1 ∧ Own B (H.put ⟨b, i * z + j, none⟩ [v]) s z f (l.set i y) ∧
   ∀ b', b' ≠ b → (H.put ⟨b, i * z + j, none⟩ [v]).get b' = H.get b' := by
 rcases h with ⟨_, rfl⟩ | ⟨b, rfl, h1, h2, hg⟩
 ·simp at hi
 ·have hlt : i < l.length := (List.getElem?_eq_some_iff.1 hi).1
  have hle : i * z + j + 1 ≤ (l.flatMap f).length := by
   rw [qdo hf]
   calc i * z + j + 1 ≤ i * z + z := by omega
    _ = (i + 1) * z := by rw [Nat.succ_mul]
    _ ≤ l.length * z := Nat.mul_le_mul_right _ hlt
  refine ⟨b, rfl, h1, h2, ⟨rfl, by rw [hg], by rw [hg]; exact hle⟩, .inr ⟨b, by simp, h1, h2, ?_⟩, fun b' hb' => ?_⟩
  ·simp only [AH.put, qx, if_true, hg, setMany]
   rw [qkU hf hj l i x y hi hy]
  ·simp only [AH.put, qx]; rw [if_neg hb']
end Go.Abs
namespace Go.Proofs.YtdcbkjgoaknmkaaGreat
open Go Go.Abs
def putB (ws : List Int) (i : Nat) (c : Int) : List Int := ws.set (i / 8) (setB (ws.getD (i / 8) 0) (i % 8) c)
def putBs : List Int → Nat → List Int → List Int
 | ws, _, [] => ws
 | ws, i, c :: r => putBs (putB ws i c) (i + 1) r
def eU (x : Int × Int) : List Value := [.int .i64 x.1, .int .u64 x.2]
def editsOf (cur : List Int) (q m : Nat) : List (Int × Int) := (qlN m).map fun j => (((q + j : Nat) : Int), cur.getD (q + j) 0)
def touched (off k : Nat) : Nat := if k = 0 then 0 else (off + k - 1) / 8 - off / 8 + 1
def qbx (bs : List Int) : Prop := ∀ v ∈ bs, 0 ≤ v ∧ v ≤ 255
theorem qdy (ws : List Int) (i : Nat) (c : Int) : (putB ws i c).length = ws.length := by simp [putB]
theorem qcz : ∀ (bs ws : List Int) (i : Nat), (putBs ws i bs).length = ws.length := by
 intro bs
 induction bs with
 | nil => intro ws i; rfl
 | cons c r ih => intro ws i; simp [putBs, ih, qdy]
theorem qiY : ∀ (bs ws : List Int) (i : Nat) (c : Int), putBs ws i (bs ++ [c]) = putB (putBs ws i bs) (i + bs.length) c := by
 intro bs
 induction bs with
 | nil => intro ws i c; rfl
 | cons b r ih => intro ws i c; simp only [List.cons_append, putBs, ih, qli]; congr 1; omega
theorem qe2 (ws : List Int) (i : Nat) (c : Int) (w : Nat) (h : i / 8 < ws.length) : (putB ws i c).getD w 0 = if w = i / 8 then setB (ws.getD (i / 8) 0) (i % 8) c else ws.getD w 0 := by
 unfold putB
 simp only [qk6]
 by_cases hw : w = i / 8
 ·subst hw; simp [h]
 ·rw [if_neg hw, qls (by omega)]
theorem qe1 : ∀ (bs ws : List Int) (i w : Nat), (i + bs.length ≤ w * 8 ∨ w < i / 8) → i + bs.length ≤ ws.length * 8 → (putBs ws i bs).getD w 0 = ws.getD w 0 := by
 intro bs
 induction bs with
 | nil => intro ws i w _ _; rfl
 | cons c r ih =>
  intro ws i w h hl
  simp only [qli] at h hl
  simp only [putBs]
  rw [ih _ _ _ (by omega) (by rw [qdy]; omega), qe2 _ _ _ _ (by omega), if_neg (by omega)]
section
variable {off : Nat} {H : AH} {x0 x2 : Sl}
theorem qbH (cur : List Int) (q m : Nat) : (editsOf cur q m).length = m := by simp [editsOf]
theorem qdz {cur : List Int} {q m i : Nat} (h : i < m) : (editsOf cur q m)[i]? = some (((q + i : Nat) : Int), cur.getD (q + i) 0) := by
 simp [editsOf, h]
theorem qfr {ws : List Int} (h : qao ws) (i : Nat) (c : Int) : qao (putB ws i c) := by
 intro v hv
 unfold putB at hv
 rcases List.mem_or_eq_of_mem_set hv with hv | rfl
 ·exact h v hv
 ·exact qiQ _ _ _
theorem qij {cur : List Int} {q m i : Nat} {c : Int} (hm : 1 ≤ m) (hi : i / 8 = q + m - 1) (hl : i / 8 < cur.length) :
  (editsOf cur q m).set (m - 1) (((i / 8 : Nat) : Int), setB (cur.getD (i / 8) 0) (i % 8) c) = editsOf (putB cur i c) q m := by
 apply qlt
 intro j
 by_cases hj : j < m
 ·rw [qdz hj, qe2 _ _ _ _ hl]
  by_cases hjm : j = m - 1
  ·subst hjm
   rw [qlL (by rw [qbH]; omega), if_pos (by omega), show q + (m - 1) = i / 8 from by omega]
  ·rw [qls (by omega), qdz hj, if_neg (by omega)]
 ·rw [qlb (by rw [List.length_set, qbH]; omega), qlb (by rw [qbH]; omega)]
theorem qhj {it : Sl × Int → AH → Prop} {H0 H1 : AH} {s : Sl} {cur : List Int} {k m : Nat} {c : Int} {t : Sl × Int} (ht : t.2 = (k : Int)) (hK : qa H0 H1) (hO : Own H0.size H1 s 2 eU (editsOf cur (off / 8) m)) (hm : 1 ≤ m) (hm' : m ≤ 1000)
  (hi : (off + k) / 8 = off / 8 + m - 1) (hl : (off + k) / 8 < cur.length) (hc : 0 ≤ c ∧ c ≤ 255) (hoff : off + k ≤ 100000000)
  (hit : ∀ H', qa H0 H' → Own H0.size H' s 2 eU (editsOf (putB cur (off + k) c) (off / 8) m) → it (s, (k : Int) + 1) H') : qY.j1 (off : Int) t it c s H1 := by
 unfold qY.j1
 have hlen : s.n = m := by
  rcases hO with ⟨rfl, h⟩ | ⟨b, rfl, _, _, _⟩
  ·have := qbH cur (off / 8) m
   rw [h] at this; simpa using this
  ·simp [qbH]
 rw [hlen, ht, qe (n := (m : Int) - 1) (by omega) (by omega), qe (n := (off : Int) + (k : Int)) (by omega) (by omega)]
 have hidx : ((m : Int) - 1).toNat = m - 1 := by omega
 have hget := qdz (cur := cur) (q := off / 8) (show m - 1 < m from by omega)
 have hq : off / 8 + (m - 1) = (off + k) / 8 := by omega
 rw [hq] at hget
 obtain ⟨b, ha, hb1, hb2, hcell⟩ := hO.cell (fun _ => rfl) hget (j := 1) (by omega)
 refine ⟨⟨by omega, by omega⟩, ?_⟩
 rw [ha, qd, hidx, ql, ql, qlo, hcell]
 have hmod : ((off : Int) + (k : Int)).tmod 8 = (((off + k) % 8 : Nat) : Int) := by rw [Int.tmod_eq_emod_of_nonneg (by omega)]; omega
 rw [hmod]
 show elI .u64 (some (qk2 .u64 (cur.getD ((off + k) / 8) 0))) _
 rw [qi, qe (n := (((off + k) % 8 : Nat) : Int) * 8) (by omega) (by omega), Int.mul_comm _ 8, qkV hc (by omega)]
 refine ⟨by decide, by omega, by decide, by omega, ?_⟩
 obtain ⟨b', ha', _, _, hcan, hO', hsame⟩ := hO.put (y := ((((off + k) / 8 : Nat) : Int), setB (cur.getD ((off + k) / 8) 0) ((off + k) % 8) c)) (fun _ => rfl) hget (j := 1) (by omega) (v := .int .u64 (setB (cur.getD ((off + k) / 8) 0) ((off + k) % 8) c)) rfl
 rw [ha] at ha'
 injection ha' with ha'
 injection ha' with ha'
 subst ha'
 refine ⟨hcan, ?_⟩
 rw [qe (n := (k : Int) + 1) (by omega) (by omega)]
 rw [qij hm hi hl] at hO'
 exact hit _ (hK.put hb1 _) hO'
theorem own_n {α : Type} {B : Nat} {H : AH} {s : Sl} {z : Nat} {f : α → List Value} {l : List α} (h : Own B H s z f l) : s.n = l.length := by
 rcases h with ⟨rfl, rfl⟩ | ⟨b, rfl, _, _, _⟩ <;> rfl
theorem qhF {it : Sl × Int → AH → Prop} {H0 H1 : AH} {s : Sl} {ws cur : List Int} {k m : Nat} {c : Int} {t : Sl × Int} (ht : t = (s, (k : Int))) (hw : qlu H1 x0 1 wU ws) (hcl : cur.length = ws.length) (hcw : cur.getD ((off + k) / 8) 0 = ws.getD ((off + k) / 8) 0)
  (hK : qa H0 H1) (hO : Own H0.size H1 s 2 eU (editsOf cur (off / 8) m)) (hm' : m ≤ 900)
  (hi : (off + k) / 8 = off / 8 + m) (hl : (off + k) / 8 < cur.length) (hc : 0 ≤ c ∧ c ≤ 255) (hoff : off + k ≤ 100000000) (hwl : ws.length ≤ 1000000)
  (hit : ∀ s' H', qa H0 H' → Own H0.size H' s' 2 eU (editsOf (putB cur (off + k) c) (off / 8) (m + 1)) → it (s', (k : Int) + 1) H') : qY.j2 x0 (off : Int) t it H1 c true := by
 subst ht
 unfold qY.j2
 rw [qh]
 simp only
 rw [qe (n := (off : Int) + (k : Int)) (by omega) (by omega), qlP (by omega), qe (n := ((off : Int) + (k : Int)) / 8) (by omega) (by omega), hw.1]
 refine ⟨by decide, by decide, ⟨by omega, by omega⟩, ?_⟩
 have hidx : (((off : Int) + (k : Int)) / 8).toNat = (off + k) / 8 := by omega
 have hlt : (off + k) / 8 < ws.length := by omega
 obtain ⟨b, o, ha, hb, hcell⟩ := qa1 (g := fun v => qk2 .u64 v) hw hlt
 rw [ha, qd, hidx, hcell, qi]
 refine ⟨rfl, ?_⟩
 rw [qs]
 have hx : [qk2 .i64 (((off : Int) + (k : Int)) / 8), qk2 .u64 ws[(off + k) / 8]] = eU ((((off + k) / 8 : Nat) : Int), cur.getD ((off + k) / 8) 0) := by
  rw [hcw]
  simp only [eU, qk6, qk5 hlt, qlE]
  congr 1
 rw [hx]
 refine qbV (H0 := H0) (B := H0.size) (f := eU) (x := ((((off + k) / 8 : Nat) : Int), cur.getD ((off + k) / 8) 0)) (l := editsOf cur (off / 8) m) (fun _ => rfl) rfl hO (qlc _) hK.1 hK (by rw [qbH]; simp only [lim]; omega) ?_
 intro s' H' hO' hK' _ _
 have hl' : editsOf cur (off / 8) m ++ [((((off + k) / 8 : Nat) : Int), cur.getD ((off + k) / 8) 0)] = editsOf cur (off / 8) (m + 1) := by
  simp only [editsOf, qme, qmm, ql6, List.map_nil, hi]
 rw [hl'] at hO'
 exact qhj rfl hK' hO' (by omega) (by omega) (by omega) hl hc hoff (fun H'' hK'' hO'' => hit s' H'' hK'' hO'')
theorem qY.s {ws bs : List Int} {k : Sl → Bool → AH → Prop} {offI : Int} (hw : qlu H x0 1 wU ws) (h64 : qao ws) (hwl : ws.length ≤ 1000000) (hb : qlu H x2 1 bU bs) (h8 : qbx bs) (ho : -9223372036854775808 ≤ offI ∧ offI ≤ 9223372036854775807)
  (h1 : inside ws.length offI bs.length → ∀ s H', qa H H' → Own H.size H' s 2 eU (editsOf (putBs ws offI.toNat bs) (offI.toNat / 8) (touched offI.toNat bs.length)) → k s true H')
  (h0 : ¬ inside ws.length offI bs.length → k ⟨none, 0, 0⟩ false H) : qY x0 offI x2 H k := by
 refine qY.link ?_
 unfold qY.b
 rw [hb.1]
 refine qbD.s (by rw [hw.1]; omega) ho ?_
 rw [hw.1]
 by_cases hin : inside ws.length offI bs.length
 ·rw [show decide (inside ws.length offI bs.length) = true from by simpa using hin, Bool.not_true, qc]
  have hin' := hin
  unfold inside at hin
  obtain ⟨off, rfl⟩ := qlr hin.1
  simp only [qk9] at h1
  refine qI (t := ((⟨none, 0, 0⟩, (0 : Int)) : Sl × Int)) (H := H) (I := fun (t : Sl × Int) H' => ∃ j : Nat, t.2 = (j : Int) ∧ j ≤ bs.length ∧ qa H H' ∧ Own H.size H' t.1 2 eU (editsOf (putBs ws off (bs.take j)) (off / 8) (touched off j))) (m := fun (t : Sl × Int) _ => qla ((bs.length : Int) - t.2)) ?_ ?_
  ·intro t H1 hI it hit
   obtain ⟨s, i⟩ := t
   obtain ⟨j, hi, hj, hK, hO⟩ := hI
   simp only at hi hO
   subst hi
   have hR := hw.keep hK
   have hB := hb.keep hK
   unfold qY.l3
   simp only
   rw [hb.1]
   by_cases hlt : j < bs.length
   ·rw [show decide ((j : Int) < (bs.length : Int)) = true from by simpa using hlt, qh]
    obtain ⟨b, o, ha, hbb, hcell⟩ := qa1 (g := fun v => qk2 .u8 v) hB hlt
    refine ⟨⟨by omega, by omega⟩, ?_⟩
    rw [ha, qd, qk9, hcell, qi]
    have hc := h8 _ (qlk hlt)
    have hcl : (putBs ws off (bs.take j)).length = ws.length := qcz _ _ _
    have hstep : putB (putBs ws off (bs.take j)) (off + j) bs[j] = putBs ws off (bs.take (j + 1)) := by
     rw [List.take_succ, qk5 hlt, qmv, qiY, List.length_take, Nat.min_eq_left (by omega)]
    have hnext : ∀ s' H', qa H H' → Own H.size H' s' 2 eU (editsOf (putB (putBs ws off (bs.take j)) (off + j) bs[j]) (off / 8) (touched off (j + 1))) → it (s', (j : Int) + 1) H' := by
     intro s' H' hK' hO'
     rw [hstep] at hO'
     exact hit _ _ ⟨j + 1, by simp, by omega, hK', hO'⟩ (by simp only; omega)
    rw [own_n hO, qbH]
    have hlw : (off + j) / 8 < (putBs ws off (bs.take j)).length := by rw [hcl]; omega
    by_cases hj0 : j = 0
    ·subst hj0
     rw [show (((touched off 0 : Nat) : Int) == 0) = true from rfl, qh]
     refine qhF (m := 0) (cur := putBs ws off (bs.take 0)) rfl hR hcl rfl hK hO (by omega) (by omega) hlw hc (by omega) hwl ?_
     intro s' H' hK' hO'
     have : touched off (0 + 1) = 0 + 1 := by simp [touched]
     exact hnext s' H' hK' (by rw [this]; exact hO')
    ·have htm : touched off j = (off + j - 1) / 8 - off / 8 + 1 := by simp [touched, hj0]
     have htn : touched off (j + 1) = (off + j) / 8 - off / 8 + 1 := by simp [touched]
     have hle : touched off j ≤ 60 := by omega
     rw [show (((touched off j : Nat) : Int) == 0) = false from by simp; omega, qc, qe (n := ((touched off j : Nat) : Int) - 1) (by omega) (by omega)]
     refine ⟨⟨by omega, by omega⟩, ?_⟩
     have hget := qdz (cur := putBs ws off (bs.take j)) (q := off / 8) (show touched off j - 1 < touched off j from by omega)
     obtain ⟨b', ha', _, _, hcell'⟩ := hO.cell (fun _ => rfl) hget (j := 0) (by omega)
     have hidx : (((touched off j : Nat) : Int) - 1).toNat = touched off j - 1 := by omega
     rw [ha', qd, hidx, ql, ql, qlo, hcell']
     show elI .i64 (some (qk2 .i64 ((off / 8 + (touched off j - 1) : Nat) : Int))) _
     rw [qi, qe (n := (off : Int) + (j : Int)) (by omega) (by omega), qlP (by omega), qe (n := ((off : Int) + (j : Int)) / 8) (by omega) (by omega)]
     refine ⟨by decide, ?_⟩
     by_cases hsame : (off + j) / 8 = off / 8 + touched off j - 1
     ·rw [show ((((off / 8 + (touched off j - 1) : Nat) : Int)) != ((off : Int) + (j : Int)) / 8) = false from by simp; omega]
      unfold qY.j2
      rw [qc]
      refine qhj (m := touched off j) (cur := putBs ws off (bs.take j)) rfl hK hO (by omega) (by omega) hsame hlw hc (by omega) ?_
      intro H' hK' hO'
      exact hnext s H' hK' (by rw [show touched off (j + 1) = touched off j from by omega]; exact hO')
     ·rw [show ((((off / 8 + (touched off j - 1) : Nat) : Int)) != ((off : Int) + (j : Int)) / 8) = true from by simp; omega]
      refine qhF (m := touched off j) (cur := putBs ws off (bs.take j)) rfl hR hcl ?_ hK hO (by omega) (by omega) hlw hc (by omega) hwl ?_
      ·exact qe1 _ _ _ _ (.inl (by rw [List.length_take]; omega)) (by rw [List.length_take]; omega)
      ·intro s' H' hK' hO'
       exact hnext s' H' hK' (by rw [show touched off (j + 1) = touched off j + 1 from by omega]; exact hO')
   ·rw [show decide ((j : Int) < (bs.length : Int)) = false from by simpa using hlt, qc]
    have hjn : j = bs.length := by omega
    subst hjn
    rw [List.take_length] at hO
    exact h1 hin' _ _ hK hO
  ·exact ⟨0, rfl, by omega, qa.refl H, .inl ⟨rfl, rfl⟩⟩
 ·rw [show decide (inside ws.length offI bs.length) = false from by simpa using hin, Bool.not_false, qh]
  exact h0 hin
end
theorem qfF {α : Type} (g : α → Value) (l : List α) : (l.flatMap fun x => [g x]) = l.map g := by
 induction l with
 | nil => rfl
 | cons a l ih => simp [ih]
theorem qfQ {α : Type} {H : AH} {s : Sl} {g : α → Value} {l : List α} (hg : ∀ x, qn (g x) = true) (h : qlu H s 1 (fun x => [g x]) l) : AH.rowS? H s 1 = some (l.map g) := by
 simp only [AH.rowS?]
 by_cases h0 : s.n = 0
 ·rw [if_pos h0]
  have : l = [] := List.length_eq_zero_iff.1 (by rw [← h.1]; exact h0)
  subst this; rfl
 ·rw [if_neg h0]
  have hpos : 0 < l.length := by rw [← h.1]; omega
  obtain ⟨b, o, ha, hb, hr0⟩ := h.at hpos
  rw [ha]
  simp only [Nat.mul_one]
  have hcell : ∀ i (hi : i < l.length), AH.cell? H ⟨b, o + i, none⟩ = some (g l[i]) := by
   intro i hi
   obtain ⟨b', o', ha', _, hr⟩ := qa1 h hi
   rw [ha] at ha'
   injection ha' with ha'
   injection ha' with e1 e2 _
   subst e1 e2
   rw [ql, Nat.mul_one] at hr
   exact hr
  have hm : (H.get b).md ≠ .dead := by
   intro hm
   have := hcell 0 hpos
   simp [AH.cell?, hm] at this
  have hc : ∀ i (hi : i < l.length), (H.get b).cells[o + i]? = some (g l[i]) := by
   intro i hi
   have := hcell i hi
   simpa [AH.cell?, hm] using this
  have hlen : o + s.n ≤ (H.get b).cells.length := by
   have h1 := hc (l.length - 1) (by omega)
   have := (List.getElem?_eq_some_iff.1 h1).1
   have := h.1
   omega
  have htake : ((H.get b).cells.drop o).take s.n = l.map g := by
   apply qlt
   intro i
   by_cases hi : i < s.n
   ·have hi' : i < l.length := by rw [← h.1]; exact hi
    rw [qlT, if_pos hi, qlU, hc i hi', List.getElem?_map, qk5 hi', Option.map_some]
   ·rw [qlb (by simp; omega), qlb (by rw [List.length_map, ← h.1]; omega)]
  simp only [AH.row?, qln, qle, if_false]
  rw [if_neg hm, htake, if_pos ⟨hlen, by simp [hg]⟩]
theorem qW.s {H : AH} {sl : Sl} {ws : List Int} {k : Sl → AH → Prop} (hw : qlu H sl 1 wU ws) (hwl : ws.length ≤ 1000000)
  (h : ∀ s H', qa H H' → Own H.size H' s 1 wU ws ∨ (ws = [] ∧ s.n = 0) → k s H') : qW sl H k := by
 refine qW.link ?_
 unfold qW.b
 cases ha : sl.a with
 | none =>
  rw [Option.isNone_none, qh]
  refine h _ _ (qa.refl H) (.inr ⟨?_, rfl⟩)
  cases ws with
  | nil => rfl
  | cons x r =>
   obtain ⟨a, h1, _⟩ := hw.2 0 x rfl
   rw [ha] at h1; cases h1
 | some a =>
  rw [Option.isNone_some, qc, qs]
  refine ⟨le_limS (by have := hw.1; simp only [lim]; omega) _, ?_⟩
  by_cases h0 : sl.n = 0
  ·rw [if_pos h0]
   refine h _ _ ((qa.refl H).push _) (.inr ⟨List.length_eq_zero_iff.1 (by rw [← hw.1]; exact h0), rfl⟩)
  ·rw [if_neg h0]
   have hr := qfQ (g := fun v => qk2 .u64 v) (fun _ => rfl) (hw.keep ((qa.refl H).push ⟨[], .rw, 1⟩))
   refine ⟨_, hr, ⟨rfl, rfl, rfl, by simp [qo], by simp [qo], by simp [qo]⟩, ?_⟩
   refine h _ _ ((((qa.refl H).push _).kill (b := H.size) (qlc _)).push _) (.inl (.inr ⟨H.size + 1, ?_, by omega, by simp [qj, qaw], ?_⟩))
   ·simp [newAt, qj, hw.1]
   ·simp only [qo, qaw, qj, if_true]
    simp only [List.nil_append, AObj.mk.injEq, and_true]
    exact (qfF (fun v => qk2 .u64 v) ws).symm
def putE (ws : List Int) (x : Int × Int) : List Int := if 0 ≤ x.1 ∧ x.1 < ws.length then ws.set x.1.toNat x.2 else ws
def applyE (ws : List Int) (l : List (Int × Int)) : List Int := l.foldl putE ws
theorem qiA (ws : List Int) (x : Int × Int) : (putE ws x).length = ws.length := by unfold putE; split <;> simp
theorem qal (l : List (Int × Int)) : ∀ ws, (applyE ws l).length = ws.length := by
 induction l with
 | nil => intro ws; rfl
 | cons x r ih => intro ws; simp only [applyE, List.foldl_cons]; exact (ih _).trans (qiA _ _)
theorem ed_put {H : AH} (x y : Int × Int) : AH.put (H.push ⟨eU x, .rw, 0⟩) ⟨H.size, 0, none⟩ (eU y) = H.push ⟨eU y, .rw, 0⟩ := qcX _ _ _ _ _
theorem ed_can {H : AH} (x : Int × Int) : AH.canPut (H.push ⟨eU x, .rw, 0⟩) ⟨H.size, 0, none⟩ 2 := qcc.2 (by simp [eU])
theorem ed_0 {H : AH} (x : Int × Int) : AH.cell? (H.push ⟨eU x, .rw, 0⟩) (qk4 ⟨H.size, 0, none⟩ 0) = some (.int .i64 x.1) := qcF _ _ _ _
theorem ed_1 {H : AH} (x : Int × Int) : AH.cell? (H.push ⟨eU x, .rw, 0⟩) (qk4 ⟨H.size, 0, none⟩ 1) = some (.int .u64 x.2) := qcF _ _ _ _
theorem ed_nil : ([(qk2 .i64 (0 : Int)), (qk2 .u64 (0 : Int))] : List Value) = eU (0, 0) := rfl
theorem qaC.s {H : AH} {x0 x1 : Sl} {ws : List Int} {l : List (Int × Int)} {k : Sl → AH → Prop} (hw : qlu H x0 1 wU ws) (hwl : ws.length ≤ 1000000) (hl : qlu H x1 2 eU l) (hll : l.length ≤ 1000000)
  (h : ∀ s H', qa H H' → Own H.size H' s 1 wU (applyE ws l) ∨ (ws = [] ∧ s.n = 0) → k s H') : qaC x0 x1 H k := by
 refine qaC.link ?_
 unfold qaC.b
 refine qW.s hw hwl ?_
 intro s9 H9 hK9 hO9
 refine qI (t := (0 : Int)) (H := H9) (I := fun (t : Int) H' => ∃ j : Nat, t = (j : Int) ∧ j ≤ l.length ∧ qa H H' ∧ (Own H.size H' s9 1 wU (applyE ws (l.take j)) ∨ (ws = [] ∧ s9.n = 0))) (m := fun (t : Int) _ => qla ((l.length : Int) - t)) ?_ ⟨0, rfl, by omega, hK9, hO9⟩
 intro t H1 hI it hit
 obtain ⟨j, rfl, hj, hK, hO⟩ := hI
 have hR := hl.keep hK
 unfold qaC.l2
 rw [hl.1]
 by_cases hlt : j < l.length
 ·rw [show decide ((j : Int) < (l.length : Int)) = true from by simpa using hlt, qh]
  obtain ⟨b, o, ha, hb, hrow⟩ := hR.at hlt
  refine ⟨⟨by omega, by omega⟩, ?_⟩
  rw [ha, qd, qk9, qr hrow]
  generalize hx : l[j] = x at *
  have htk : applyE ws (l.take (j + 1)) = putE (applyE ws (l.take j)) x := by
   rw [List.take_succ, qk5 hlt, hx, qmv]
   simp [applyE, List.foldl_append]
  have hn : s9.n = ws.length := by
   rcases hO with hO | ⟨rfl, h0⟩
   ·rw [own_n hO, qal]
   ·rw [h0]; rfl
  simp only [qs, qaF, ed_nil, ed_put, ed_can, ed_0, ed_1, qi, show (eU x).length = 2 from rfl, show (eU x).all qn = true from rfl, true_and]
  have hnext : ∀ H', qa H H' → (Own H.size H' s9 1 wU (putE (applyE ws (l.take j)) x) ∨ (ws = [] ∧ s9.n = 0)) → it ((j : Int) + 1) H' := by
   intro H' hK' hO'
   rw [← htk] at hO'
   exact hit _ _ ⟨j + 1, by simp, by omega, hK', hO'⟩ (by omega)
  have hO1 : Own H.size (H1.push ⟨eU x, .rw, 0⟩) s9 1 wU (applyE ws (l.take j)) ∨ (ws = [] ∧ s9.n = 0) :=
   hO.imp (fun hO => hO.keep (by simp [qj]) (fun b _ hb => qE (by omega))) id
  unfold qaC.j1
  simp only [ed_0, ed_1, qi]
  rw [qe (n := (j : Int) + 1) (by omega) (by omega), hn]
  by_cases h0 : x.1 ≥ 0
  ·rw [show decide (x.1 ≥ 0) = true from by simpa using h0, qh]
   by_cases h1 : x.1 < (ws.length : Int)
   ·rw [show decide (x.1 < (ws.length : Int)) = true from by simpa using h1, qh]
    refine ⟨⟨h0, h1⟩, ?_⟩
    rcases hO1 with hO1 | ⟨rfl, _⟩
    ·have hlw : x.1.toNat < (applyE ws (l.take j)).length := by rw [qal]; omega
     obtain ⟨b', ha', hb1, hb2, hcan, hO', _⟩ := hO1.put (y := x.2) (fun _ => rfl) (qk5 hlw) (j := 0) (by omega) (v := .int .u64 x.2) rfl
     rw [ha', qd, ql, qlo]
     refine ⟨hcan, ?_⟩
     refine hnext _ ((hK.push _).put hb1 _) (.inl ?_)
     have hp : putE (applyE ws (l.take j)) x = (applyE ws (l.take j)).set x.1.toNat x.2 := by
      unfold putE; rw [if_pos ⟨h0, by rw [qal]; exact h1⟩]
     rw [hp]; exact hO'
    ·simp at h1; omega
   ·rw [show decide (x.1 < (ws.length : Int)) = false from by simpa using h1, qc]
    refine hnext _ (hK.push _) (hO1.imp (fun hO => ?_) id)
    have hp : putE (applyE ws (l.take j)) x = applyE ws (l.take j) := by unfold putE; rw [if_neg (by rw [qal]; omega)]
    rw [hp]; exact hO
  ·rw [show decide (x.1 ≥ 0) = false from by simpa using h0, qc, qc]
   refine hnext _ (hK.push _) (hO1.imp (fun hO => ?_) id)
   have hp : putE (applyE ws (l.take j)) x = applyE ws (l.take j) := by unfold putE; rw [if_neg (by omega)]
   rw [hp]; exact hO
 ·rw [show decide ((j : Int) < (l.length : Int)) = false from by simpa using hlt, qc]
  have : j = l.length := by omega
  subst this
  rw [List.take_length] at hO
  exact h _ _ hK hO
theorem qiq {ws : List Int} (h64 : qao ws) {i p : Nat} {c : Int} (hi : i / 8 < ws.length) (hp : p / 8 < ws.length) (hc : 0 ≤ c ∧ c ≤ 255) : byteAt (putB ws i c) p = if p = i then c else byteAt ws p := by
 unfold byteAt
 rw [qe2 _ _ _ _ hi]
 by_cases hw : p / 8 = i / 8
 ·rw [if_pos hw]
  by_cases hpi : p = i
  ·subst hpi; rw [if_pos rfl, qgv (by omega) hc]
  ·rw [if_neg hpi, ← hw]
   have hv : 0 ≤ ws.getD (p / 8) 0 ∧ ws.getD (p / 8) 0 ≤ 18446744073709551615 := by
    rw [qk6, qk5 hp, qlE]
    exact h64 _ (qlk hp)
   exact qgm hv (by omega) (by omega) (by omega) hc
 ·rw [if_neg hw, if_neg (by intro h; exact hw (by rw [h]))]
theorem qdG : ∀ (bs ws : List Int) (i : Nat), qao ws → qao (putBs ws i bs) := by
 intro bs
 induction bs with
 | nil => intro ws i h; exact h
 | cons c r ih => intro ws i h; exact ih _ _ (qfr h i c)
theorem qhS : ∀ (bs ws : List Int) (i p : Nat), qao ws → qbx bs → i + bs.length ≤ ws.length * 8 → p / 8 < ws.length →
  byteAt (putBs ws i bs) p = if i ≤ p ∧ p < i + bs.length then bs.getD (p - i) 0 else byteAt ws p := by
 intro bs
 induction bs with
 | nil => intro ws i p _ _ _ _; rw [if_neg (by simp)]; rfl
 | cons c r ih =>
  intro ws i p h64 h8 hl hp
  simp only [qli] at hl
  simp only [putBs]
  rw [ih _ _ _ (qfr h64 i c) (fun v hv => h8 v (by simp [hv])) (by rw [qdy]; omega) (by rw [qdy]; exact hp), qiq h64 (by omega) hp (h8 c (by simp))]
  simp only [qli]
  by_cases h1 : i + 1 ≤ p ∧ p < i + 1 + r.length
  ·rw [if_pos h1, if_pos (by omega)]
   obtain ⟨d, hd⟩ : ∃ d, p - i = d + 1 := ⟨p - i - 1, by omega⟩
   rw [hd, List.getD_cons_succ]
   congr 1; omega
  ·rw [if_neg h1]
   by_cases h2 : p = i
   ·subst h2; rw [if_pos rfl, if_pos (by omega)]; simp
   ·rw [if_neg h2, if_neg (by omega)]
theorem qjR {a b : List Int} (hl : a.length = b.length) (h : ∀ w, w < a.length → a.getD w 0 = b.getD w 0) : a = b := by
 apply qlt
 intro w
 by_cases hw : w < a.length
 ·have := h w hw
  simp only [qk6, qk5 hw, qk5 (show w < b.length by omega), qlE] at this
  rw [qk5 hw, qk5 (show w < b.length by omega), this]
 ·rw [qlb (by omega), qlb (by omega)]
theorem qia (cur : List Int) (q m : Nat) : editsOf cur q (m + 1) = editsOf cur q m ++ [(((q + m : Nat) : Int), cur.getD (q + m) 0)] := by
 simp only [editsOf, qme, qmm, ql6, List.map_nil]
theorem qiv {ws cur : List Int} {q : Nat} : ∀ (m w : Nat), q + m ≤ ws.length → (applyE ws (editsOf cur q m)).getD w 0 = if q ≤ w ∧ w < q + m then cur.getD w 0 else ws.getD w 0 := by
 intro m
 induction m with
 | zero => intro w _; rw [if_neg (by omega)]; rfl
 | succ m ih =>
  intro w hm
  rw [qia]
  have : applyE ws (editsOf cur q m ++ [(((q + m : Nat) : Int), cur.getD (q + m) 0)]) = putE (applyE ws (editsOf cur q m)) (((q + m : Nat) : Int), cur.getD (q + m) 0) := by simp [applyE, List.foldl_append]
  rw [this]
  unfold putE
  rw [if_pos ⟨by simp only; omega, by simp only [qal]; omega⟩]
  simp only [qk9]
  by_cases hw : w = q + m
  ·subst hw
   rw [if_pos (by omega), qk6, qlL (by rw [qal]; omega), qlE]
  ·have h2 : ((applyE ws (editsOf cur q m)).set (q + m) (cur.getD (q + m) 0)).getD w 0 = (applyE ws (editsOf cur q m)).getD w 0 := by
    simp only [qk6]
    rw [qls (by omega)]
   rw [h2, ih w (by omega)]
   by_cases h3 : q ≤ w ∧ w < q + m
   ·rw [if_pos h3, if_pos (by omega)]
   ·rw [if_neg h3, if_neg (by omega)]
theorem qhr {ws bs : List Int} {off : Nat} (hl : off + bs.length ≤ ws.length * 8) : applyE ws (editsOf (putBs ws off bs) (off / 8) (touched off bs.length)) = putBs ws off bs := by
 have hm : off / 8 + touched off bs.length ≤ ws.length ∨ bs = [] := by
  cases bs with
  | nil => exact .inr rfl
  | cons c r => left; simp only [qli, touched] at hl ⊢; rw [if_neg (by omega)]; omega
 rcases hm with hm | rfl
 ·refine qjR (by rw [qal, qcz]) fun w _ => ?_
  rw [qiv _ _ hm]
  split
  ·rfl
  ·rename_i hw
   by_cases h0 : bs.length = 0
   ·have : bs = [] := List.length_eq_zero_iff.1 h0
    subst this; rfl
   ·have : touched off bs.length = (off + bs.length - 1) / 8 - off / 8 + 1 := by simp [touched, h0]
    exact (qe1 _ _ _ _ (by omega) hl).symm
 ·rfl
abbrev Bk : Type := Int × Int × Bool
def bkV (b : Bk) : List Value := [.int .i64 b.1, .int .i64 b.2.1, .bool b.2.2]
theorem bkV_len (b : Bk) : (bkV b).length = 3 := rfl
theorem bkV_ok (b : Bk) : (bkV b).all qn = true := rfl
def needN (n : Int) : Int := if 1 ≤ n ∧ n ≤ 448 then 1 + (n + 7) / 8 else 0
def takesN (size need : Int) : Int := if 2 ≤ need ∧ need ≤ size then (if size - need < 2 then size else need) else 0
def mayS (n : Int) : Prop := 2 ≤ n ∧ n ≤ 512
instance (n : Int) : Decidable (mayS n) := by unfold mayS; infer_instance
def wordN (n : Int) (u : Bool) : Int := if mayS n then 2 * n + (if u then 1 else 0) else 0
def offN (pt : Int) : Int := if 0 ≤ pt ∧ pt ≤ 512 then (pt + 1) * 8 else 0
def mayW (n : Int) : Prop := 8 ≤ n ∧ n ≤ 512 ∧ n % 8 = 0
instance (n : Int) : Decidable (mayW n) := by unfold mayW; infer_instance
theorem shr1 {v : Int} (h : 0 ≤ v) : shrI .u64 v 1 = v / 2 := by
 unfold shrI
 rw [Int.fdiv_eq_ediv_of_nonneg _ (by decide)]
 rfl
theorem and1w {v : Int} (h : isU v) : andI .u64 v 1 = v % 2 := by
 unfold isU at h
 obtain ⟨n, rfl⟩ := qlr h.1
 have hn : n < 2 ^ 64 := by omega
 unfold andI
 have e : (qlS (ql3 .u64) (n : Int) &&& qlS (ql3 .u64) 1).toNat = n % 2 := by
  rw [BitVec.toNat_and]
  have e1 : (qlS (ql3 .u64) (n : Int)).toNat = n := by
   show (qlS 64 (n : Int)).toNat = n
   rw [BitVec.toNat_ofInt]
   omega
  have e2 : (qlS (ql3 .u64) 1).toNat = 1 := rfl
  rw [e1, e2, Nat.and_one_is_mod]
 rw [e, qbm (by omega) (by omega)]
 omega
theorem shl1 {n : Int} (h : mayS n) : shlI .u64 (qk3 .u64 n) 1 = 2 * n := by
 unfold mayS at h
 unfold shlI
 rw [qbm (n := n) (by omega) (by omega)]
 have : (2 : Int) ^ (min (qla 1) (ql3 .u64)) = 2 := rfl
 rw [this, qbm (by omega) (by omega)]; omega
theorem or1 {n : Int} (h : mayS n) : orI .u64 (2 * n) 1 = 2 * n + 1 := by
 unfold mayS at h
 obtain ⟨m, rfl⟩ := qlr (show 0 ≤ n by omega)
 have hm : m < 513 := by omega
 have key : ∀ m : Fin 513, orI .u64 (2 * ((m.val : Nat) : Int)) 1 = 2 * ((m.val : Nat) : Int) + 1 := by decide +kernel
 exact key ⟨m, hm⟩
section
variable {H : AH}
def BkAt (H : AH) (o : Nat) (b : Bk) : Prop := ∃ e, H.get o = ⟨bkV b, .rw, e⟩
theorem BkAt.c0 {o : Nat} {b : Bk} (h : BkAt H o b) : AH.cell? H (qk4 ⟨o, 0, none⟩ 0) = some (.int .i64 b.1) := by obtain ⟨e, h⟩ := h; simp [ql, AH.cell?, h, bkV]
theorem BkAt.c1 {o : Nat} {b : Bk} (h : BkAt H o b) : AH.cell? H (qk4 ⟨o, 0, none⟩ 1) = some (.int .i64 b.2.1) := by obtain ⟨e, h⟩ := h; simp [ql, AH.cell?, h, bkV]
theorem BkAt.c2 {o : Nat} {b : Bk} (h : BkAt H o b) : AH.cell? H (qk4 ⟨o, 0, none⟩ 2) = some (.bool b.2.2) := by obtain ⟨e, h⟩ := h; simp [ql, AH.cell?, h, bkV]
theorem BkAt.row {o : Nat} {b : Bk} (h : BkAt H o b) : AH.row? H ⟨o, 0, none⟩ 3 = some (bkV b) := by
 obtain ⟨e, h⟩ := h
 simp only [AH.row?, h, qln, qle, if_false, List.drop_zero]
 rw [if_neg (by simp), List.take_of_length_le (by rw [bkV_len]; omega), if_pos ⟨by rw [bkV_len]; omega, bkV_ok _⟩]
theorem BkAt.keep {H' : AH} {o : Nat} {b : Bk} (h : BkAt H o b) (hg : H'.get o = H.get o) : BkAt H' o b := by obtain ⟨e, h⟩ := h; exact ⟨e, hg.trans h⟩
theorem BkAt.new {b : Bk} {e : Nat} : BkAt (H.push ⟨bkV b, .rw, e⟩) H.size b := ⟨e, by rw [qo, if_pos rfl]⟩
theorem qbv {α : Type} {s : Sl} {z : Nat} {f : α → List Value} {l : List α} (h : qlu H s z f l) (hp : 0 < l.length) :
  ∃ b o, s.a = some ⟨b, o, none⟩ ∧ b < H.size ∧ ∀ i x, l[i]? = some x → AH.row? H (qk4 ⟨b, o, none⟩ (i * z)) z = some (f x) ∧ ∀ j v, (f x)[j]? = some v → AH.cell? H (qk4 (qk4 ⟨b, o, none⟩ (i * z)) j) = some v := by
 obtain ⟨b, o, h1, h2, _⟩ := h.at hp
 refine ⟨b, o, h1, h2, fun i x hx => ?_⟩
 obtain ⟨a, e1, e2, e3, e4⟩ := h.2 i x hx
 rw [h1] at e1
 injection e1 with e1
 subst e1
 rw [ql]
 refine ⟨e4, fun j v hv => ?_⟩
 rw [ql]
 exact (AH.row?_cell e4).2.2.2.2 j v hv
theorem qb8 {cs vs : List Value} {e n : Nat} {K : Nat → AH → Prop} (hc : cs.length = n) (hv : vs.length = n) (ho : vs.all qn = true)
  (hK : K H.size (H.push ⟨vs, .rw, e⟩)) : newC H ⟨cs, .rw, e⟩ fun o H1 => (vs.length = n ∧ vs.all qn = true) ∧ stC H1 ⟨o, 0, none⟩ vs fun Hs => K o Hs := by
 rw [qs]
 refine ⟨⟨hv, ho⟩, ?_⟩
 rw [qaF]
 have e1 : AH.put (H.push ⟨cs, .rw, e⟩) ⟨H.size, 0, none⟩ vs = H.push ⟨vs, .rw, e⟩ := by
  rw [qcX]
  congr 2
  apply qlt
  intro t
  rw [qbR _ _ _ _ (by omega)]
  by_cases ht : t < vs.length
  ·rw [if_pos (by omega)]; rfl
  ·rw [if_neg (by omega), qlb (by omega), qlb (by omega)]
 rw [e1]
 exact ⟨qcc.2 (by omega), hK⟩
end
def chainB (words : Int) : Int → Bool → List Bk → Prop
 | pt, _, [] => pt = words
 | pt, pu, b :: r => b.1 = pt ∧ mayS b.2.1 ∧ b.2.1 ≤ words - pt ∧ (pu = true ∨ b.2.2 = true) ∧ chainB words (pt + b.2.1) b.2.2 r
instance chainB.dec {words : Int} : ∀ (l : List Bk) (pt : Int) (pu : Bool), Decidable (chainB words pt pu l)
 | [], pt, pu => by unfold chainB; infer_instance
 | b :: r, pt, pu => by
  unfold chainB
  have := chainB.dec (words := words) r (pt + b.2.1) b.2.2
  infer_instance
def MayB (l : List Bk) (words : Int) : Prop := mayW words ∧ chainB words 0 true l
instance {l : List Bk} {words : Int} : Decidable (MayB l words) := by unfold MayB; infer_instance
def puAt (l : List Bk) : Nat → Bool
 | 0 => true
 | i + 1 => (l.getD i (0, 0, false)).2.2
theorem qfm {α : Type} {l : List α} {i : Nat} (hi : i < l.length) : l.drop i = l[i] :: l.drop (i + 1) := by
 rw [List.drop_eq_getElem_cons hi]
section
variable {H : AH}
def blkFrom (ws : List Int) (pt : Nat) : Option (List Bk) :=
 if h : pt < ws.length then
  if h2 : mayS (ws.getD pt 0 / 2) then (blkFrom ws (pt + (ws.getD pt 0 / 2).toNat)).map (((pt : Int), ws.getD pt 0 / 2, (ws.getD pt 0 % 2 == 1)) :: ·) else none
 else some []
termination_by ws.length - pt
decreasing_by unfold mayS at h2; omega
theorem qdm (ws : List Int) (pt : Nat) : blkFrom ws pt = if h : pt < ws.length then
  if h2 : mayS (ws.getD pt 0 / 2) then (blkFrom ws (pt + (ws.getD pt 0 / 2).toNat)).map (((pt : Int), ws.getD pt 0 / 2, (ws.getD pt 0 % 2 == 1)) :: ·) else none
 else some [] := by rw [blkFrom]
def blocksN (ws : List Int) : Option (List Bk) := (blkFrom ws 0).bind fun l => if MayB l ws.length then some l else none
theorem qa7 {ws : List Int} {l : List Bk} (h : blocksN ws = some l) : MayB l ws.length := by
 unfold blocksN at h
 rw [Option.bind_eq_some_iff] at h
 obtain ⟨l', _, h2⟩ := h
 split at h2
 ·injection h2 with h2; subst h2; assumption
 ·cases h2
theorem chainB.le {words : Int} : ∀ {l : List Bk} {pt : Int} {pu : Bool}, chainB words pt pu l → pt + 2 * l.length ≤ words := by
 intro l
 induction l with
 | nil => intro pt pu h; simp only [chainB] at h; simp; omega
 | cons b r ih =>
  intro pt pu h
  have := ih h.2.2.2.2
  have := h.2.1
  unfold mayS at this
  simp only [qli]; omega
theorem chainB.mem {words : Int} : ∀ {l : List Bk} {pt : Int} {pu : Bool}, chainB words pt pu l → ∀ b ∈ l, pt ≤ b.1 ∧ b.1 + b.2.1 ≤ words ∧ mayS b.2.1 := by
 intro l
 induction l with
 | nil => intro pt pu h b hb; cases hb
 | cons a r ih =>
  intro pt pu h b hb
  have hs := h.2.1
  unfold mayS at hs
  rw [List.mem_cons] at hb
  rcases hb with rfl | hb
  ·have := h.2.2.1; have := h.1; exact ⟨by omega, by omega, h.2.1⟩
  ·have := ih h.2.2.2.2 b hb; exact ⟨by omega, this.2⟩
theorem MayB.len {l : List Bk} {words : Int} (h : MayB l words) : 2 * (l.length : Int) ≤ words ∧ words ≤ 512 := by
 have := h.2.le; have := h.1.2.1; omega
theorem MayB.mem {l : List Bk} {words : Int} (h : MayB l words) {b : Bk} (hb : b ∈ l) : 0 ≤ b.1 ∧ b.1 + b.2.1 ≤ words ∧ 2 ≤ b.2.1 ∧ b.2.1 ≤ 512 := by
 have := h.2.mem b hb; have h2 := this.2.2; unfold mayS at h2; omega
end
def nV (i : Nat) : List Value := [.int .i64 (i : Int)]
def bkAt (l : List Bk) (i : Nat) : Bk := l.getD i (0, 0, false)
def fitStep (l : List Bk) (need : Int) (out : List Nat) (i : Nat) : List Nat :=
 if (bkAt l i).2.2 = true ∨ (bkAt l i).2.1 < need then out else
 let out1 := if 0 < out.length ∧ (bkAt l (out.getD 0 0)).2.1 > (bkAt l i).2.1 then [] else out
 if out1.length = 0 ∨ (bkAt l (out1.getD 0 0)).2.1 = (bkAt l i).2.1 then out1 ++ [i] else out1
def fitsTo (l : List Bk) (need : Int) (j : Nat) : List Nat := (qlN j).foldl (fitStep l need) []
def fitsL (l : List Bk) (need : Int) : List Nat := if need < 2 then [] else fitsTo l need l.length
theorem qek (l : List Bk) (need : Int) (j : Nat) : fitsTo l need (j + 1) = fitStep l need (fitsTo l need j) j := by
 unfold fitsTo; rw [qme, List.foldl_append]; rfl
theorem qiz {l : List Bk} {need : Int} {out : List Nat} {i j : Nat} (h : j ∈ fitStep l need out i) : j ∈ out ∨ (j = i ∧ (bkAt l i).2.2 = false ∧ need ≤ (bkAt l i).2.1) := by
 unfold fitStep at h
 split at h
 ·exact .inl h
 ·rename_i h1
  simp only at h
  have h3 : (bkAt l i).2.2 = false ∧ need ≤ (bkAt l i).2.1 := by
   constructor
   ·cases hh : (bkAt l i).2.2
    ·rfl
    ·exact absurd (.inl hh) h1
   ·exact Int.not_lt.1 fun hh => h1 (.inr hh)
  have hsub : ∀ x, x ∈ (if 0 < out.length ∧ (bkAt l (out.getD 0 0)).2.1 > (bkAt l i).2.1 then [] else out) → x ∈ out := by
   intro x hx
   split at hx
   ·cases hx
   ·exact hx
  generalize (if 0 < out.length ∧ (bkAt l (out.getD 0 0)).2.1 > (bkAt l i).2.1 then [] else out) = o1 at h hsub
  split at h
  ·rw [List.mem_append] at h
   rcases h with h | h
   ·exact .inl (hsub _ h)
   ·simp at h; exact .inr ⟨h, h3⟩
  ·exact .inl (hsub _ h)
theorem qdK {l : List Bk} {need : Int} : ∀ {j i : Nat}, i ∈ fitsTo l need j → i < j ∧ (bkAt l i).2.2 = false ∧ need ≤ (bkAt l i).2.1 := by
 intro j
 induction j with
 | zero => intro i h; cases h
 | succ j ih =>
  intro i h
  rw [qek] at h
  rcases qiz h with h | ⟨rfl, h⟩
  ·have := ih h; exact ⟨by omega, this.2⟩
  ·exact ⟨by omega, h⟩
theorem qgf {l : List Bk} {need : Int} : ∀ {j : Nat}, (fitsTo l need j).length ≤ j := by
 intro j
 induction j with
 | zero => exact qlc _
 | succ j ih =>
  rw [qek]
  unfold fitStep
  split
  ·omega
  ·simp only
   have hx : (if 0 < (fitsTo l need j).length ∧ (bkAt l ((fitsTo l need j).getD 0 0)).2.1 > (bkAt l j).2.1 then [] else fitsTo l need j).length ≤ j := by
    split
    ·exact Nat.zero_le _
    ·exact ih
   generalize (if 0 < (fitsTo l need j).length ∧ (bkAt l ((fitsTo l need j).getD 0 0)).2.1 > (bkAt l j).2.1 then [] else fitsTo l need j) = o1 at *
   split
   ·rw [List.length_append]; simp only [qli, List.length_nil]; omega
   ·omega
theorem qaL {l : List Bk} {i : Nat} (hi : i < l.length) : l[i]? = some (bkAt l i) := by
 unfold bkAt; rw [qk6, qk5 hi]; rfl
def countN (pt : Int) (cs : List Int) : Int := if pt < 0 ∨ (cs.length : Int) ≤ pt / 32 then 0 else cs.getD (pt / 32).toNat 0
def chStep (l : List Bk) (cs : List Int) (best : Int) (i : Nat) : Int :=
 if best < 0 ∨ countN (bkAt l i).1 cs < countN (bkAt l best.toNat).1 cs ∨ (countN (bkAt l i).1 cs = countN (bkAt l best.toNat).1 cs ∧ (bkAt l i).1 < (bkAt l best.toNat).1) then (i : Int) else best
def chooseN (l : List Bk) (need : Int) (cs : List Int) : Int := (fitsL l need).foldl (chStep l cs) (-1)
theorem qeN {l : List Bk} {cs : List Int} : ∀ {f : List Nat} {b : Int}, f.foldl (chStep l cs) b = b ∨ ∃ i ∈ f, f.foldl (chStep l cs) b = (i : Int) := by
 intro f
 induction f with
 | nil => intro b; exact .inl rfl
 | cons a r ih =>
  intro b
  simp only [List.foldl_cons]
  rcases ih (b := chStep l cs b a) with h | ⟨i, hi, h⟩
  ·rw [h]
   unfold chStep
   split
   ·exact .inr ⟨a, by simp, rfl⟩
   ·exact .inl rfl
  ·exact .inr ⟨i, by simp [hi], h⟩
theorem qee {l : List Bk} {need : Int} {cs : List Int} : chooseN l need cs = -1 ∨ ∃ i : Nat, chooseN l need cs = (i : Int) ∧ i < l.length ∧ (bkAt l i).2.2 = false ∧ need ≤ (bkAt l i).2.1 ∧ 2 ≤ need := by
 unfold chooseN
 rcases qeN (l := l) (cs := cs) (f := fitsL l need) (b := -1) with h | ⟨i, hi, h⟩
 ·exact .inl h
 ·unfold fitsL at hi
  split at hi
  ·cases hi
  ·obtain ⟨h1, h2, h3⟩ := qdK hi
   exact .inr ⟨i, h, h1, h2, h3, by omega⟩
def isN (off : Int) : List Bk → Nat → Int
 | [], _ => -1
 | b :: r, i => if b.2.2 = true ∧ offN b.1 = off then (i : Int) else isN off r (i + 1)
theorem qdC (off : Int) : ∀ (l : List Bk) (i : Nat), isN off l i = -1 ∨ ∃ j : Nat, isN off l i = ((i + j : Nat) : Int) ∧ j < l.length ∧ (bkAt l j).2.2 = true ∧ offN (bkAt l j).1 = off := by
 intro l
 induction l with
 | nil => intro i; exact .inl rfl
 | cons b r ih =>
  intro i
  unfold isN
  split
  ·rename_i h; exact .inr ⟨0, rfl, by simp, h.1, h.2⟩
  ·rcases ih (i + 1) with h | ⟨j, h1, h2, h3⟩
   ·exact .inl h
   ·exact .inr ⟨j + 1, by rw [h1]; congr 1; omega, by simpa using h2, h3⟩
def inB (off n : Int) (b : Bk) : Prop := b.2.2 = true ∧ offN b.1 ≤ off ∧ off ≤ (b.1 + b.2.1) * 8 ∧ n ≤ (b.1 + b.2.1) * 8 - off
def withinN (l : List Bk) (off n : Int) : Prop := 0 ≤ n ∧ n ≤ 448 ∧ ∃ b ∈ l, inB off n b
def carveTo (pt tk : Int) (j : Nat) : List (Int × Int) := (pt, wordN tk true) :: (qlN (j - 1)).map fun (t : Nat) => (pt + ((t : Int) + 1), (0 : Int))
def carveE (b : Bk) (need : Int) : List (Int × Int) :=
 carveTo b.1 (takesN b.2.1 need) (takesN b.2.1 need).toNat ++ (if takesN b.2.1 need < b.2.1 then [(b.1 + takesN b.2.1 need, wordN (b.2.1 - takesN b.2.1 need) false)] else [])
theorem qeX (pt tk : Int) {j : Nat} (hj : 1 ≤ j) : carveTo pt tk (j + 1) = carveTo pt tk j ++ [(pt + (j : Int), 0)] := by
 unfold carveTo
 obtain ⟨i, rfl⟩ : ∃ i, j = i + 1 := ⟨j - 1, by omega⟩
 simp only [Nat.add_sub_cancel, qme, qmm, ql6, List.map_nil, List.cons_append]
 congr 2
theorem eU_len (x : Int × Int) : (eU x).length = 2 := rfl
theorem eU_ok (x : Int × Int) : (eU x).all qn = true := rfl
def mFrom (l : List Bk) (i : Nat) : Nat := if 0 < i ∧ (bkAt l (i - 1)).2.2 = false then i - 1 else i
def mTo (l : List Bk) (i : Nat) : Nat := if i + 1 < l.length ∧ (bkAt l (i + 1)).2.2 = false then i + 2 else i + 1
def sumTo (l : List Bk) (a : Nat) : Nat → Int
 | 0 => 0
 | j + 1 => sumTo l a j + (bkAt l (a + j)).2.1
theorem qck {α : Type} {B B' : Nat} {H : AH} {s : Sl} {z : Nat} {f : α → List Value} {l : List α} (h : Own B H s z f l) (hb : B' ≤ B) : Own B' H s z f l :=
 h.imp id fun ⟨b, e, h1, h2, h3⟩ => ⟨b, e, Nat.le_trans hb h1, h2, h3⟩
theorem qjU {α : Type} {H : AH} {z : Nat} {f : α → List Value} : qlu H ⟨none, 0, 0⟩ z f [] := ⟨rfl, fun i x h => by simp at h⟩
instance {off n : Int} {b : Bk} : Decidable (inB off n b) := by unfold inB; infer_instance
instance {l : List Bk} {off n : Int} : Decidable (withinN l off n) := by unfold withinN; infer_instance
def imgAlloc (ws : List Int) (n : Int) (cs : List Int) : List (Int × Int) × Int × Int :=
 if needN n = 0 then ([], 0, 1) else
 match blocksN ws with
 | none => ([], 0, 6)
 | some l => if chooseN l (needN n) cs < 0 then ([], 0, 4) else (carveE (bkAt l (chooseN l (needN n) cs).toNat) (needN n), offN (bkAt l (chooseN l (needN n) cs).toNat).1, 0)
def imgFree (ws : List Int) (off : Int) : List (Int × Int) × Int :=
 match blocksN ws with
 | none => ([], 6)
 | some l => if isN off l 0 < 0 then ([], 1) else
  ([((bkAt l (mFrom l (isN off l 0).toNat)).1, wordN (sumTo l (mFrom l (isN off l 0).toNat) (mTo l (isN off l 0).toNat - mFrom l (isN off l 0).toNat)) false)], 0)
def imgWrite (ws : List Int) (off : Int) (bs : List Int) : List (Int × Int) × Int :=
 match blocksN ws with
 | none => ([], 6)
 | some l => if withinN l off bs.length then (editsOf (putBs ws off.toNat bs) (off.toNat / 8) (touched off.toNat bs.length), 0) else ([], 1)
theorem qcI {ws : List Int} {l : List Bk} {off n : Int} (hB : MayB l ws.length) (h : withinN l off n) : inside ws.length off n := by
 obtain ⟨h1, h2, b, hb, hi⟩ := h
 have hm := hB.mem hb
 have hl := hB.len
 obtain ⟨_, h3, h4, h5⟩ := hi
 have : offN b.1 = (b.1 + 1) * 8 := by unfold offN; rw [if_pos (by omega)]
 unfold inside
 omega
section
variable {H : AH}
def firstN (n : Int) : List Int := if mayW n then wordN n false :: List.replicate (n.toNat - 1) 0 else []
theorem wordN_u (n : Int) (u : Bool) : isU (wordN n u) := by
 unfold wordN isU
 split
 ·rename_i h; unfold mayS at h; split <;> omega
 ·omega
theorem qdN (n : Int) : qao (firstN n) := by
 intro v hv
 unfold firstN at hv
 split at hv
 ·rw [List.mem_cons] at hv
  rcases hv with rfl | hv
  ·exact wordN_u _ _
  ·rw [List.eq_of_mem_replicate hv]; omega
 ·cases hv
end
end Go.Proofs.YtdcbkjgoaknmkaaGreat
