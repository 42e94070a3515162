/- Lemmas for the law: an abstract machine, and what the functions do on it. No condition. -/
import Derived.Test.YtdcbkjgoaknmkaaGreatIT7
import Derived.Test.YtdcbkjgoaknmkaaGreatProg
set_option linter.all false
open Go.Value renaming int → qkT, pointer → qkZ, slice → qle, bool → qlS, agg → qlU
open Go.IntKind renaming wrap → qkU, bits → qlT
open List renaming getElem?_eq_getElem → qkV, getD_eq_getElem?_getD → qkX, getElem?_eq_none → qk1, getElem?_eq_some_iff → qk3, mem_of_getElem? → qk6, length → qk8, length_cons → qk9, getElem_mem → qla, mem_cons → qlg, getElem?_set_ne → qlj, ext_getElem? → qlk, toArray → qlv, length_eq_zero_iff → qlx, all → qly, cons_append → qlz, getElem?_set_self → qlC, range → qlE, flatMap_cons → qlH, getElem?_take → qlN, getElem?_drop → qlO, take_of_length_le → qlR, map_cons → qlX, mem_or_eq_of_mem_set → qlY, range_succ → ql3
open Go.Addr renaming add → qkW
open Int renaming toNat_natCast → qk0, toNat → qk5, eq_ofNat_of_zero_le → qlh, tdiv_eq_ediv_of_nonneg → qlG, tmod → qlW, tdiv → qmf
open Nat renaming le_refl → qk2, zero_add → qli, lt_of_lt_of_le → ql5
open Bool renaming false_eq_true → qk4, not_eq_true' → ql4
open Option renaming isSome_none → qld, isNone → qlt, getD_some → qlw, toList_some → qml
open Go.Abs renaming Rows → qlo
open BitVec renaming ofInt → qlI
namespace Go.Proofs.YtdcbkjgoaknmkaaGreat
open Go Go.Abs
set_option linter.unusedVariables false
set_option maxRecDepth 100000
def tyL : List (Nat × TyE) := [
 (3, { k := .int .i64, sub := .none, size := 1, bytes := 8, zero := [(qkT .i64 (0 : Int))], eqs := false }),
 (4, { k := .bool, sub := .none, size := 1, bytes := 1, zero := [(qlS false)], eqs := false }),
 (5, { k := .int .u8, sub := .none, size := 1, bytes := 1, zero := [(qkT .u8 (0 : Int))], eqs := false }),
 (9, { k := .str, sub := .none, size := 1, bytes := 16, zero := [(Value.string ⟨#[]⟩)], eqs := false }),
 (23, { k := .agg, sub := (.fields [(0, 3), (1, 3), (2, 3), (3, 3)]), size := 4, bytes := 32, zero := [(qkT .i64 (0 : Int)), (qkT .i64 (0 : Int)), (qkT .i64 (0 : Int)), (qkT .i64 (0 : Int))], eqs := true }),
 (24, { k := .sl, sub := (.elem 3), size := 1, bytes := 24, zero := [(qle none 0 0)], eqs := false }),
 (26, { k := .int .u64, sub := .none, size := 1, bytes := 8, zero := [(qkT .u64 (0 : Int))], eqs := false }),
 (28, { k := .ptr, sub := (.elem 78), size := 1, bytes := 8, zero := [(qkZ none)], eqs := false }),
 (31, { k := .int .i64, sub := .none, size := 1, bytes := 8, zero := [(qkT .i64 (0 : Int))], eqs := false }),
 (33, { k := .ptr, sub := (.elem 96), size := 1, bytes := 8, zero := [(qkZ none)], eqs := false }),
 (36, { k := .sl, sub := (.elem 5), size := 1, bytes := 24, zero := [(qle none 0 0)], eqs := false }),
 (38, { k := .agg, sub := (.fields [(0, 31), (1, 3), (2, 36)]), size := 3, bytes := 40, zero := [(qkT .i64 (0 : Int)), (qkT .i64 (0 : Int)), (qle none 0 0)], eqs := false }),
 (41, { k := .agg, sub := (.fields [(0, 3), (1, 3), (2, 3), (3, 3), (4, 36)]), size := 5, bytes := 56, zero := [(qkT .i64 (0 : Int)), (qkT .i64 (0 : Int)), (qkT .i64 (0 : Int)), (qkT .i64 (0 : Int)), (qle none 0 0)], eqs := false }),
 (44, { k := .sl, sub := (.elem 38), size := 1, bytes := 24, zero := [(qle none 0 0)], eqs := false }),
 (47, { k := .sl, sub := (.elem 41), size := 1, bytes := 24, zero := [(qle none 0 0)], eqs := false }),
 (51, { k := .ptr, sub := (.elem 106), size := 1, bytes := 8, zero := [(qkZ none)], eqs := false }),
 (64, { k := .ptr, sub := (.elem 115), size := 1, bytes := 8, zero := [(qkZ none)], eqs := false }),
 (67, { k := .sl, sub := (.elem 26), size := 1, bytes := 24, zero := [(qle none 0 0)], eqs := false }),
 (70, { k := .sl, sub := (.elem 121), size := 1, bytes := 24, zero := [(qle none 0 0)], eqs := false }),
 (75, { k := .sl, sub := (.elem 82), size := 1, bytes := 24, zero := [(qle none 0 0)], eqs := false }),
 (76, { k := .agg, sub := (.arr 35 26), size := 35, bytes := 280, zero := [(qkT .u64 (0 : Int)), (qkT .u64 (0 : Int)), (qkT .u64 (0 : Int)), (qkT .u64 (0 : Int)), (qkT .u64 (0 : Int)), (qkT .u64 (0 : Int)), (qkT .u64 (0 : Int)), (qkT .u64 (0 : Int)), (qkT .u64 (0 : Int)), (qkT .u64 (0 : Int)), (qkT .u64 (0 : Int)), (qkT .u64 (0 : Int)), (qkT .u64 (0 : Int)), (qkT .u64 (0 : Int)), (qkT .u64 (0 : Int)), (qkT .u64 (0 : Int)), (qkT .u64 (0 : Int)), (qkT .u64 (0 : Int)), (qkT .u64 (0 : Int)), (qkT .u64 (0 : Int)), (qkT .u64 (0 : Int)), (qkT .u64 (0 : Int)), (qkT .u64 (0 : Int)), (qkT .u64 (0 : Int)), (qkT .u64 (0 : Int)), (qkT .u64 (0 : Int)), (qkT .u64 (0 : Int)), (qkT .u64 (0 : Int)), (qkT .u64 (0 : Int)), (qkT .u64 (0 : Int)), (qkT .u64 (0 : Int)), (qkT .u64 (0 : Int)), (qkT .u64 (0 : Int)), (qkT .u64 (0 : Int)), (qkT .u64 (0 : Int))], eqs := true }),
 (78, { k := .agg, sub := (.fields [(0, 75), (1, 76), (36, 3), (37, 3), (38, 3), (39, 4)]), size := 40, bytes := 336, zero := [(qle none 0 0), (qkT .u64 (0 : Int)), (qkT .u64 (0 : Int)), (qkT .u64 (0 : Int)), (qkT .u64 (0 : Int)), (qkT .u64 (0 : Int)), (qkT .u64 (0 : Int)), (qkT .u64 (0 : Int)), (qkT .u64 (0 : Int)), (qkT .u64 (0 : Int)), (qkT .u64 (0 : Int)), (qkT .u64 (0 : Int)), (qkT .u64 (0 : Int)), (qkT .u64 (0 : Int)), (qkT .u64 (0 : Int)), (qkT .u64 (0 : Int)), (qkT .u64 (0 : Int)), (qkT .u64 (0 : Int)), (qkT .u64 (0 : Int)), (qkT .u64 (0 : Int)), (qkT .u64 (0 : Int)), (qkT .u64 (0 : Int)), (qkT .u64 (0 : Int)), (qkT .u64 (0 : Int)), (qkT .u64 (0 : Int)), (qkT .u64 (0 : Int)), (qkT .u64 (0 : Int)), (qkT .u64 (0 : Int)), (qkT .u64 (0 : Int)), (qkT .u64 (0 : Int)), (qkT .u64 (0 : Int)), (qkT .u64 (0 : Int)), (qkT .u64 (0 : Int)), (qkT .u64 (0 : Int)), (qkT .u64 (0 : Int)), (qkT .u64 (0 : Int)), (qkT .i64 (0 : Int)), (qkT .i64 (0 : Int)), (qkT .i64 (0 : Int)), (qlS false)], eqs := false }),
 (80, { k := .agg, sub := (.arr 8 26), size := 8, bytes := 64, zero := [(qkT .u64 (0 : Int)), (qkT .u64 (0 : Int)), (qkT .u64 (0 : Int)), (qkT .u64 (0 : Int)), (qkT .u64 (0 : Int)), (qkT .u64 (0 : Int)), (qkT .u64 (0 : Int)), (qkT .u64 (0 : Int))], eqs := true }),
 (82, { k := .agg, sub := (.fields [(0, 80), (8, 3), (9, 3)]), size := 10, bytes := 80, zero := [(qkT .u64 (0 : Int)), (qkT .u64 (0 : Int)), (qkT .u64 (0 : Int)), (qkT .u64 (0 : Int)), (qkT .u64 (0 : Int)), (qkT .u64 (0 : Int)), (qkT .u64 (0 : Int)), (qkT .u64 (0 : Int)), (qkT .i64 (0 : Int)), (qkT .i64 (0 : Int))], eqs := false }),
 (85, { k := .ptr, sub := (.elem 128), size := 1, bytes := 8, zero := [(qkZ none)], eqs := false }),
 (93, { k := .ptr, sub := (.elem 131), size := 1, bytes := 8, zero := [(qkZ none)], eqs := false }),
 (94, { k := .ptr, sub := (.elem 140), size := 1, bytes := 8, zero := [(qkZ none)], eqs := false }),
 (96, { k := .agg, sub := (.fields [(0, 28), (1, 23), (5, 85), (6, 93), (7, 94), (8, 4)]), size := 9, bytes := 72, zero := [(qkZ none), (qkT .i64 (0 : Int)), (qkT .i64 (0 : Int)), (qkT .i64 (0 : Int)), (qkT .i64 (0 : Int)), (qkZ none), (qkZ none), (qkZ none), (qlS false)], eqs := false }),
 (106, { k := .agg, sub := (.fields [(0, 23), (4, 28), (5, 33), (6, 3)]), size := 7, bytes := 56, zero := [(qkT .i64 (0 : Int)), (qkT .i64 (0 : Int)), (qkT .i64 (0 : Int)), (qkT .i64 (0 : Int)), (qkZ none), (qkZ none), (qkT .i64 (0 : Int))], eqs := false }),
 (112, { k := .ptr, sub := (.elem 156), size := 1, bytes := 8, zero := [(qkZ none)], eqs := false }),
 (115, { k := .agg, sub := (.fields [(0, 112), (1, 4)]), size := 2, bytes := 16, zero := [(qkZ none), (qlS false)], eqs := false }),
 (121, { k := .agg, sub := (.fields [(0, 3), (1, 3), (2, 4)]), size := 3, bytes := 24, zero := [(qkT .i64 (0 : Int)), (qkT .i64 (0 : Int)), (qlS false)], eqs := true }),
 (126, { k := .ptr, sub := (.elem 173), size := 1, bytes := 8, zero := [(qkZ none)], eqs := false }),
 (128, { k := .agg, sub := (.fields [(0, 28), (1, 126), (2, 3), (3, 3), (4, 3)]), size := 5, bytes := 40, zero := [(qkZ none), (qkZ none), (qkT .i64 (0 : Int)), (qkT .i64 (0 : Int)), (qkT .i64 (0 : Int))], eqs := false }),
 (131, { k := .agg, sub := (.fields [(0, 28), (1, 85)]), size := 2, bytes := 16, zero := [(qkZ none), (qkZ none)], eqs := false }),
 (132, { k := .sl, sub := (.elem 164), size := 1, bytes := 24, zero := [(qle none 0 0)], eqs := false }),
 (140, { k := .agg, sub := (.fields [(0, 3), (1, 24), (2, 24)]), size := 3, bytes := 56, zero := [(qkT .i64 (0 : Int)), (qle none 0 0), (qle none 0 0)], eqs := false }),
 (142, { k := .sl, sub := (.elem 190), size := 1, bytes := 24, zero := [(qle none 0 0)], eqs := false }),
 (154, { k := .sl, sub := (.elem 168), size := 1, bytes := 24, zero := [(qle none 0 0)], eqs := false }),
 (156, { k := .agg, sub := (.fields [(0, 3), (1, 154), (2, 3)]), size := 3, bytes := 40, zero := [(qkT .i64 (0 : Int)), (qle none 0 0), (qkT .i64 (0 : Int))], eqs := false }),
 (164, { k := .agg, sub := (.fields [(0, 3), (1, 80)]), size := 9, bytes := 72, zero := [(qkT .i64 (0 : Int)), (qkT .u64 (0 : Int)), (qkT .u64 (0 : Int)), (qkT .u64 (0 : Int)), (qkT .u64 (0 : Int)), (qkT .u64 (0 : Int)), (qkT .u64 (0 : Int)), (qkT .u64 (0 : Int)), (qkT .u64 (0 : Int))], eqs := false }),
 (168, { k := .agg, sub := (.fields [(0, 3), (1, 3), (2, 36)]), size := 3, bytes := 40, zero := [(qkT .i64 (0 : Int)), (qkT .i64 (0 : Int)), (qle none 0 0)], eqs := false }),
 (173, { k := .agg, sub := (.fields [(0, 28), (1, 3), (2, 3)]), size := 3, bytes := 24, zero := [(qkZ none), (qkT .i64 (0 : Int)), (qkT .i64 (0 : Int))], eqs := false }),
 (181, { k := .any, sub := .none, size := 1, bytes := 8, zero := [Value.nilFunc], eqs := false }),
 (190, { k := .agg, sub := (.fields [(0, 3), (1, 26)]), size := 2, bytes := 16, zero := [(qkT .i64 (0 : Int)), (qkT .u64 (0 : Int))], eqs := true }),
 (211, { k := .sl, sub := (.elem 80), size := 1, bytes := 24, zero := [(qle none 0 0)], eqs := false }),
 (225, { k := .any, sub := .none, size := 1, bytes := 8, zero := [Value.nilFunc], eqs := false }),
 (0, { k := .bad, sub := .tup [], size := 0, bytes := 0, zero := [], eqs := false }),
 (34, { k := .bad, sub := .tup [33, 31], size := 0, bytes := 0, zero := [], eqs := false }),
 (45, { k := .bad, sub := .tup [44, 31], size := 0, bytes := 0, zero := [], eqs := false }),
 (52, { k := .bad, sub := .tup [51, 31], size := 0, bytes := 0, zero := [], eqs := false }),
 (68, { k := .bad, sub := .tup [67, 31], size := 0, bytes := 0, zero := [], eqs := false }),
 (71, { k := .bad, sub := .tup [70, 4], size := 0, bytes := 0, zero := [], eqs := false }),
 (83, { k := .bad, sub := .tup [26, 31], size := 0, bytes := 0, zero := [], eqs := false }),
 (88, { k := .bad, sub := .tup [80, 31], size := 0, bytes := 0, zero := [], eqs := false }),
 (110, { k := .bad, sub := .tup [41, 4], size := 0, bytes := 0, zero := [], eqs := false }),
 (116, { k := .bad, sub := .tup [36, 31], size := 0, bytes := 0, zero := [], eqs := false }),
 (118, { k := .bad, sub := .tup [3, 4, 4], size := 0, bytes := 0, zero := [], eqs := false }),
 (133, { k := .bad, sub := .tup [132, 31], size := 0, bytes := 0, zero := [], eqs := false }),
 (137, { k := .bad, sub := .tup [70, 3], size := 0, bytes := 0, zero := [], eqs := false }),
 (143, { k := .bad, sub := .tup [142, 3, 31], size := 0, bytes := 0, zero := [], eqs := false }),
 (148, { k := .bad, sub := .tup [142, 31], size := 0, bytes := 0, zero := [], eqs := false }),
 (170, { k := .bad, sub := .tup [3, 67, 31], size := 0, bytes := 0, zero := [], eqs := false }),
 (174, { k := .bad, sub := .tup [3, 3], size := 0, bytes := 0, zero := [], eqs := false }),
 (187, { k := .bad, sub := .tup [3, 4], size := 0, bytes := 0, zero := [], eqs := false }),
 (191, { k := .bad, sub := .tup [190, 4], size := 0, bytes := 0, zero := [], eqs := false }),
 (194, { k := .bad, sub := .tup [36, 4], size := 0, bytes := 0, zero := [], eqs := false }),
 (196, { k := .bad, sub := .tup [142, 4], size := 0, bytes := 0, zero := [], eqs := false }),
 (212, { k := .bad, sub := .tup [3, 3, 4], size := 0, bytes := 0, zero := [], eqs := false })]
def T : Nat → TyE := tyLook tyL
theorem hT : qN Tryz.prog T := qjV (by kernel_rfl)
theorem hm : Tryz.prog.follows .mixedOrders = true := by kernel_rfl
def pan (f : Nat) : Bool := ([63, 64, 65, 66, 67, 68, 69, 108, 110, 113, 114] : List Nat).contains f
def log_May (x0 : Int) (x1 : Sl) (H : AH) (k : Bool → AH → Prop) : Prop :=
 qf Tryz.prog 104 [(qkT .i64 x0), (Sl.val x1)] H fun e H' => in1 .bool e ql (fun r0 => k r0 H')
def qs (x0 : Option Addr) (x1 : List Value) (H : AH) (k : List Value → AH → Prop) : Prop :=
 qf Tryz.prog 18 [(qkZ x0), (qlU (qlv x1))] H fun e H' => in1 .agg e ql (fun r0 => k r0 H')
def qb9 (x0 : Sl) (H : AH) (k : AH → Prop) : Prop :=
 qf Tryz.prog 176 [(Sl.val x0)] H fun e H' => in0  e ql (k H')
def qbQ (x0 : Sl) (H : AH) (k : Sl → AH → Prop) : Prop :=
 qf Tryz.prog 177 [(Sl.val x0)] H fun e H' => in1 .sl e ql (fun r0 => k r0 H')
def qp (x0 : Sl) (x1b0 : Option Addr) (x1b1 : Option Addr) (H : AH) (k : Int → AH → Prop) : Prop :=
 qf Tryz.prog 142 [(Sl.val x0), (Value.func (.func 193) #[] #[(qkZ x1b0), (qkZ x1b1)])] H fun e H' => in1 (.int .i64) e ql (fun r0 => k r0 H')
def qG (x0 : Sl) (x1b0 : Option Addr) (x1b1 : Option Addr) (H : AH) (k : Bool → AH → Prop) : Prop :=
 qf Tryz.prog 192 [(Sl.val x0), (Value.func (.func 193) #[] #[(qkZ x1b0), (qkZ x1b1)])] H fun e H' => in1 .bool e ql (fun r0 => k r0 H')
def qv (x0 : Sl) (x1b0 : Option Addr) (H : AH) (k : Int → AH → Prop) : Prop :=
 qf Tryz.prog 142 [(Sl.val x0), (Value.func (.func 143) #[] #[(qkZ x1b0)])] H fun e H' => in1 (.int .i64) e ql (fun r0 => k r0 H')
def qaK (x0 : Int) (x1 : Int) (x2 : Int) (x3 : Int) (H : AH) (k : List Value → AH → Prop) : Prop :=
 qf Tryz.prog 36 [(qkT .i64 x0), (qkT .i64 x1), (qkT .i64 x2), (qkT .i64 x3)] H fun e H' => in1 .agg e ql (fun r0 => k r0 H')
def qa9 (x0 : List Value) (H : AH) (k : List Value → AH → Prop) : Prop :=
 qf Tryz.prog 12 [(qlU (qlv x0))] H fun e H' => in1 .agg e ql (fun r0 => k r0 H')
def qaA (x0 : List Value) (H : AH) (k : Bool → AH → Prop) : Prop :=
 qf Tryz.prog 48 [(qlU (qlv x0))] H fun e H' => in1 .bool e ql (fun r0 => k r0 H')
def qbc (x0 : List Value) (H : AH) (k : Int → AH → Prop) : Prop :=
 qf Tryz.prog 49 [(qlU (qlv x0))] H fun e H' => in1 (.int .i64) e ql (fun r0 => k r0 H')
def qaY (x0 : List Value) (H : AH) (k : Int → AH → Prop) : Prop :=
 qf Tryz.prog 15 [(qlU (qlv x0))] H fun e H' => in1 (.int .i64) e ql (fun r0 => k r0 H')
def nvm_New (x0 : Int) (x1 : Sl) (H : AH) (k : Option Addr → AH → Prop) : Prop :=
 qf Tryz.prog 14 [(qkT .i64 x0), (Sl.val x1)] H fun e H' => in1 .ptr e ql (fun r0 => k r0 H')
def qQ (x0 : Option Addr) (H : AH) (k : Int → AH → Prop) : Prop :=
 qf Tryz.prog 91 [(qkZ x0)] H fun e H' => in1 (.int .i64) e ql (fun r0 => k r0 H')
def qV (x0 : Option Addr) (H : AH) (k : Bool → AH → Prop) : Prop :=
 qf Tryz.prog 38 [(qkZ x0)] H fun e H' => in1 .bool e ql (fun r0 => k r0 H')
def qbk (x0 : Option Addr) (x1 : List Value) (H : AH) (k : Int → AH → Prop) : Prop :=
 qf Tryz.prog 50 [(qkZ x0), (qlU (qlv x1))] H fun e H' => in1 (.int .i64) e ql (fun r0 => k r0 H')
def qar (x0 : Option Addr) (x1 : Int) (H : AH) (k : Bool → AH → Prop) : Prop :=
 qf Tryz.prog 92 [(qkZ x0), (qkT .i64 x1)] H fun e H' => in1 .bool e ql (fun r0 => k r0 H')
def qD (x0 : Option Addr) (x1 : Int) (H : AH) (k : Int → Int → AH → Prop) : Prop :=
 qf Tryz.prog 51 [(qkZ x0), (qkT .i64 x1)] H fun e H' => in2 (.int .u64) (.int .i64) e ql (fun r0 r1 => k r0 r1 H')
def qE (x0 : Option Addr) (H : AH) (k : Sl → Int → AH → Prop) : Prop :=
 qf Tryz.prog 158 [(qkZ x0)] H fun e H' => in2 .sl (.int .i64) e ql (fun r0 r1 => k r0 r1 H')
def qbJ (x0 : Int) (H : AH) (k : Int → AH → Prop) : Prop :=
 qf Tryz.prog 140 [(qkT .i64 x0)] H fun e H' => in1 (.int .u64) e ql (fun r0 => k r0 H')
def qaB (x0 : Sl) (x1 : Int) (H : AH) (k : Bool → AH → Prop) : Prop :=
 qf Tryz.prog 169 [(Sl.val x0), (qkT .i64 x1)] H fun e H' => in1 .bool e ql (fun r0 => k r0 H')
def qay (x0 : Option Addr) (x1 : Int) (x2 : Int) (H : AH) (k : Option Addr → AH → Prop) : Prop :=
 qf Tryz.prog 131 [(qkZ x0), (qkT .i64 x1), (qkT .i64 x2)] H fun e H' => in1 .ptr e ql (fun r0 => k r0 H')
def qaM (x0 : Option Addr) (x1 : Int) (x2 : Int) (x3 : Int) (H : AH) (k : Option Addr → AH → Prop) : Prop :=
 qf Tryz.prog 93 [(qkZ x0), (qkT .i64 x1), (qkT .i64 x2), (qkT .i64 x3)] H fun e H' => in1 .ptr e ql (fun r0 => k r0 H')
def qbn (x0 : Option Addr) (x1 : List Value) (H : AH) (k : Option Addr → AH → Prop) : Prop :=
 qf Tryz.prog 52 [(qkZ x0), (qlU (qlv x1))] H fun e H' => in1 .ptr e ql (fun r0 => k r0 H')
def qb3 (x0 : List Value) (H : AH) (k : Int → AH → Prop) : Prop :=
 qf Tryz.prog 42 [(qlU (qlv x0))] H fun e H' => in1 (.int .i64) e ql (fun r0 => k r0 H')
def qaN (x0 : Int) (H : AH) (k : Bool → AH → Prop) : Prop :=
 qf Tryz.prog 94 [(qkT .i64 x0)] H fun e H' => in1 .bool e ql (fun r0 => k r0 H')
def qaU (x0 : Int) (H : AH) (k : Bool → AH → Prop) : Prop :=
 qf Tryz.prog 129 [(qkT .i64 x0)] H fun e H' => in1 .bool e ql (fun r0 => k r0 H')
def qbl (x0 : Int) (x1 : Bool) (H : AH) (k : Int → AH → Prop) : Prop :=
 qf Tryz.prog 95 [(qkT .i64 x0), (qlS x1)] H fun e H' => in1 (.int .u64) e ql (fun r0 => k r0 H')
def qbU (x0 : Int) (H : AH) (k : Sl → AH → Prop) : Prop :=
 qf Tryz.prog 53 [(qkT .i64 x0)] H fun e H' => in1 .sl e ql (fun r0 => k r0 H')
def qa5 (x0 : List Value) (x1 : Int) (H : AH) (k : Int → AH → Prop) : Prop :=
 qf Tryz.prog 55 [(qlU (qlv x0)), (qkT .i64 x1)] H fun e H' => in1 (.int .i64) e ql (fun r0 => k r0 H')
def qaD (x0 : Option Addr) (x1 : Int) (H : AH) (k : Int → AH → Prop) : Prop :=
 qf Tryz.prog 96 [(qkZ x0), (qkT .i64 x1)] H fun e H' => in1 (.int .i64) e ql (fun r0 => k r0 H')
def qa1 (x0 : Option Addr) (H : AH) (k : Int → AH → Prop) : Prop :=
 qf Tryz.prog 99 [(qkZ x0)] H fun e H' => in1 (.int .i64) e ql (fun r0 => k r0 H')
def gap_may (x0 : Int) (x1 : Int) (H : AH) (k : Bool → AH → Prop) : Prop :=
 qf Tryz.prog 134 [(qkT .i64 x0), (qkT .i64 x1)] H fun e H' => in1 .bool e ql (fun r0 => k r0 H')
def qb7 (x0 : Int) (x1 : Int) (H : AH) (k : Int → AH → Prop) : Prop :=
 qf Tryz.prog 135 [(qkT .i64 x0), (qkT .i64 x1)] H fun e H' => in1 (.int .i64) e ql (fun r0 => k r0 H')
def gap_Gap (x0 : Int) (x1 : Int) (H : AH) (k : Int → AH → Prop) : Prop :=
 qf Tryz.prog 136 [(qkT .i64 x0), (qkT .i64 x1)] H fun e H' => in1 (.int .i64) e ql (fun r0 => k r0 H')
def qbt (x0 : Int) (x1 : Int) (x2 : Int) (H : AH) (k : Int → AH → Prop) : Prop :=
 qf Tryz.prog 98 [(qkT .i64 x0), (qkT .i64 x1), (qkT .i64 x2)] H fun e H' => in1 (.int .i64) e ql (fun r0 => k r0 H')
def qan (x0 : Sl) (x1 : Int) (x2 : Int) (H : AH) (k : Int → AH → Prop) : Prop :=
 qf Tryz.prog 170 [(Sl.val x0), (qkT .i64 x1), (qkT .i64 x2)] H fun e H' => in1 (.int .i64) e ql (fun r0 => k r0 H')
def qac (x0 : Option Addr) (x1 : Int) (H : AH) (k : Int → Sl → Int → AH → Prop) : Prop :=
 qf Tryz.prog 132 [(qkZ x0), (qkT .i64 x1)] H fun e H' => in3 (.int .i64) .sl (.int .i64) e ql (fun r0 r1 r2 => k r0 r1 r2 H')
def qaO (x0 : Option Addr) (x1 : Int) (H : AH) (k : Bool → AH → Prop) : Prop :=
 qf Tryz.prog 171 [(qkZ x0), (qkT .i64 x1)] H fun e H' => in1 .bool e ql (fun r0 => k r0 H')
def qbd (x0 : Option Addr) (x1 : Int) (H : AH) (k : List Value → Int → AH → Prop) : Prop :=
 qf Tryz.prog 133 [(qkZ x0), (qkT .i64 x1)] H fun e H' => in2 .agg (.int .i64) e ql (fun r0 r1 => k r0 r1 H')
def qbo (x0 : Option Addr) (x1 : Int) (H : AH) (k : List Value → Int → AH → Prop) : Prop :=
 qf Tryz.prog 97 [(qkZ x0), (qkT .i64 x1)] H fun e H' => in2 .agg (.int .i64) e ql (fun r0 r1 => k r0 r1 H')
def qaF (x0 : Option Addr) (x1 : Int) (H : AH) (k : List Value → Int → AH → Prop) : Prop :=
 qf Tryz.prog 54 [(qkZ x0), (qkT .i64 x1)] H fun e H' => in2 .agg (.int .i64) e ql (fun r0 r1 => k r0 r1 H')
def qaW (x0 : Sl) (x1 : Int) (H : AH) (k : List Value → AH → Prop) : Prop :=
 qf Tryz.prog 56 [(Sl.val x0), (qkT .i64 x1)] H fun e H' => in1 .agg e ql (fun r0 => k r0 H')
def qcs (x0 : Int) (x1 : Int) (H : AH) (k : Int → Int → AH → Prop) : Prop :=
 qf Tryz.prog 137 [(qkT .i64 x0), (qkT .i64 x1)] H fun e H' => in2 (.int .i64) (.int .i64) e ql (fun r0 r1 => k r0 r1 H')
def qax (x0 : Option Addr) (H : AH) (k : Int → AH → Prop) : Prop :=
 qf Tryz.prog 156 [(qkZ x0)] H fun e H' => in1 (.int .i64) e ql (fun r0 => k r0 H')
def qbj (x0 : List Value) (x1 : List Value) (x2 : Int) (H : AH) (k : List Value → AH → Prop) : Prop :=
 qf Tryz.prog 172 [(qlU (qlv x0)), (qlU (qlv x1)), (qkT .i64 x2)] H fun e H' => in1 .agg e ql (fun r0 => k r0 H')
def qao (x0 : Option Addr) (x1 : Bool) (H : AH) (k : Int → AH → Prop) : Prop :=
 qf Tryz.prog 157 [(qkZ x0), (qlS x1)] H fun e H' => in1 (.int .i64) e ql (fun r0 => k r0 H')
def qJ (x0 : Option Addr) (x1 : Int) (x2 : List Value) (H : AH) (k : Int → AH → Prop) : Prop :=
 qf Tryz.prog 138 [(qkZ x0), (qkT .i64 x1), (qlU (qlv x2))] H fun e H' => in1 (.int .i64) e ql (fun r0 => k r0 H')
def qa6 (x0 : Sl) (H : AH) (k : Int → AH → Prop) : Prop :=
 qf Tryz.prog 139 [(Sl.val x0)] H fun e H' => in1 (.int .i64) e ql (fun r0 => k r0 H')
def qA (x0 : Option Addr) (x1 : Int) (x2 : Int) (H : AH) (k : Int → AH → Prop) : Prop :=
 qf Tryz.prog 118 [(qkZ x0), (qkT .i64 x1), (qkT .u64 x2)] H fun e H' => in1 (.int .i64) e ql (fun r0 => k r0 H')
def qaj (x0 : Option Addr) (x1 : Int) (x2 : List Value) (H : AH) (k : Int → AH → Prop) : Prop :=
 qf Tryz.prog 101 [(qkZ x0), (qkT .i64 x1), (qlU (qlv x2))] H fun e H' => in1 (.int .i64) e ql (fun r0 => k r0 H')
def qbe (x0 : Option Addr) (H : AH) (k : Int → AH → Prop) : Prop :=
 qf Tryz.prog 100 [(qkZ x0)] H fun e H' => in1 (.int .i64) e ql (fun r0 => k r0 H')
def qal (x0 : Option Addr) (x1 : Int) (x2 : List Value) (H : AH) (k : Int → AH → Prop) : Prop :=
 qf Tryz.prog 57 [(qkZ x0), (qkT .i64 x1), (qlU (qlv x2))] H fun e H' => in1 (.int .i64) e ql (fun r0 => k r0 H')
def qF (x0 : Option Addr) (x1 : List Value) (H : AH) (k : Int → AH → Prop) : Prop :=
 qf Tryz.prog 16 [(qkZ x0), (qlU (qlv x1))] H fun e H' => in1 (.int .i64) e ql (fun r0 => k r0 H')
def qav (x0 : Option Addr) (H : AH) (k : Int → AH → Prop) : Prop :=
 qf Tryz.prog 102 [(qkZ x0)] H fun e H' => in1 (.int .i64) e ql (fun r0 => k r0 H')
def log_New (x0 : Option Addr) (x1 : Option Addr) (H : AH) (k : Option Addr → AH → Prop) : Prop :=
 qf Tryz.prog 58 [(qkZ x0), (qkZ x1)] H fun e H' => in1 .ptr e ql (fun r0 => k r0 H')
def qbY (x0 : Int) (H : AH) (k : Int → AH → Prop) : Prop :=
 qf Tryz.prog 141 [(qkT .i64 x0)] H fun e H' => in1 (.int .i64) e ql (fun r0 => k r0 H')
def qaa (x0 : Option Addr) (H : AH) (k : Sl → Int → AH → Prop) : Prop :=
 qf Tryz.prog 103 [(qkZ x0)] H fun e H' => in2 .sl (.int .i64) e ql (fun r0 r1 => k r0 r1 H')
def qaf (x0 : Option Addr) (x1 : Sl) (H : AH) (k : Int → AH → Prop) : Prop :=
 qf Tryz.prog 105 [(qkZ x0), (Sl.val x1)] H fun e H' => in1 (.int .i64) e ql (fun r0 => k r0 H')
def qbF (x0 : Option Addr) (H : AH) (k : Int → AH → Prop) : Prop :=
 qf Tryz.prog 59 [(qkZ x0)] H fun e H' => in1 (.int .i64) e ql (fun r0 => k r0 H')
def qY (x0 : Option Addr) (x1 : Int) (H : AH) (k : List Value → Int → AH → Prop) : Prop :=
 qf Tryz.prog 87 [(qkZ x0), (qkT .i64 x1)] H fun e H' => in2 .agg (.int .i64) e ql (fun r0 r1 => k r0 r1 H')
def qS (x0 : Option Addr) (H : AH) (k : Sl → Int → AH → Prop) : Prop :=
 qf Tryz.prog 44 [(qkZ x0)] H fun e H' => in2 .sl (.int .i64) e ql (fun r0 r1 => k r0 r1 H')
def qa3 (x0 : Int) (H : AH) (k : Int → Bool → Bool → AH → Prop) : Prop :=
 qf Tryz.prog 88 [(qkT .u64 x0)] H fun e H' => in3 (.int .i64) .bool .bool e ql (fun r0 r1 r2 => k r0 r1 r2 H')
def qR (x0 : Sl) (x1 : Int) (H : AH) (k : Bool → AH → Prop) : Prop :=
 qf Tryz.prog 89 [(Sl.val x0), (qkT .i64 x1)] H fun e H' => in1 .bool e ql (fun r0 => k r0 H')
def qK (x0 : Sl) (H : AH) (k : Sl → Bool → AH → Prop) : Prop :=
 qf Tryz.prog 45 [(Sl.val x0)] H fun e H' => in2 .sl .bool e ql (fun r0 r1 => k r0 r1 H')
def qaV (x0 : List Value) (H : AH) (k : Int → AH → Prop) : Prop :=
 qf Tryz.prog 144 [(qlU (qlv x0))] H fun e H' => in1 (.int .i64) e ql (fun r0 => k r0 H')
def qbb (x0 : List Value) (x1 : Option Addr) (H : AH) (k : Bool → AH → Prop) : Prop :=
 qf Tryz.prog 143 [(qlU (qlv x0)), (qkZ x1)] H fun e H' => in1 .bool e ql (fun r0 => k r0 H')
def qbL (x0 : Sl) (x1 : Int) (H : AH) (k : Sl → Int → AH → Prop) : Prop :=
 qf Tryz.prog 106 [(Sl.val x0), (qkT .i64 x1)] H fun e H' => in2 .sl (.int .i64) e ql (fun r0 r1 => k r0 r1 H')
def qb0 (x0 : Sl) (x1 : Int) (H : AH) (k : Bool → AH → Prop) : Prop :=
 qf Tryz.prog 60 [(Sl.val x0), (qkT .i64 x1)] H fun e H' => in1 .bool e ql (fun r0 => k r0 H')
def qbX (x0 : Int) (H : AH) (k : Int → AH → Prop) : Prop :=
 qf Tryz.prog 107 [(qkT .i64 x0)] H fun e H' => in1 (.int .i64) e ql (fun r0 => k r0 H')
def qb4 (x0 : List Value) (H : AH) (k : Int → AH → Prop) : Prop :=
 qf Tryz.prog 61 [(qlU (qlv x0))] H fun e H' => in1 (.int .i64) e ql (fun r0 => k r0 H')
def qaI (x0 : Int) (x1 : Sl) (H : AH) (k : Option Addr → AH → Prop) : Prop :=
 qf Tryz.prog 62 [(qkT .i64 x0), (Sl.val x1)] H fun e H' => in1 .ptr e ql (fun r0 => k r0 H')
def qP (x0 : Option Addr) (x1 : List Value) (H : AH) (k : Option Addr → Int → AH → Prop) : Prop :=
 qf Tryz.prog 17 [(qkZ x0), (qlU (qlv x1))] H fun e H' => in2 .ptr (.int .i64) e ql (fun r0 r1 => k r0 r1 H')
def qaH (x0 : Option Addr) (H : AH) (k : Int → AH → Prop) : Prop :=
 qf Tryz.prog 72 [(qkZ x0)] H fun e H' => in1 (.int .i64) e ql (fun r0 => k r0 H')
def qbr (x0 : List Value) (x1 : Sl) (H : AH) (k : Option Addr → Int → AH → Prop) : Prop :=
 qf Tryz.prog 24 [(qlU (qlv x0)), (Sl.val x1)] H fun e H' => in2 .ptr (.int .i64) e ql (fun r0 r1 => k r0 r1 H')
def qad (x0 : Option Addr) (H : AH) (k : Int → AH → Prop) : Prop :=
 qf Tryz.prog 26 [(qkZ x0)] H fun e H' => in1 (.int .i64) e ql (fun r0 => k r0 H')
def qaC (x0 : Option Addr) (x1 : Int) (x2 : Int) (H : AH) (k : AH → Prop) : Prop :=
 qf Tryz.prog 120 [(qkZ x0), (qkT .i64 x1), (qkT .i64 x2)] H fun e H' => in0  e ql (k H')
def qaq (x0 : Option Addr) (H : AH) (k : AH → Prop) : Prop :=
 qf Tryz.prog 121 [(qkZ x0)] H fun e H' => in0  e ql (k H')
def qaT (x0 : Option Addr) (x1 : List Value) (H : AH) (k : List Value → AH → Prop) : Prop :=
 qf Tryz.prog 73 [(qkZ x0), (qlU (qlv x1))] H fun e H' => in1 .agg e ql (fun r0 => k r0 H')
def qX (x0 : Option Addr) (x1 : List Value) (H : AH) (k : List Value → AH → Prop) : Prop :=
 qf Tryz.prog 28 [(qkZ x0), (qlU (qlv x1))] H fun e H' => in1 .agg e ql (fun r0 => k r0 H')
def qap  (H : AH) (k : Bool → AH → Prop) : Prop :=
 qf Tryz.prog 13 [] H fun e H' => in1 .bool e ql (fun r0 => k r0 H')
def qbq (x0 : Option Addr) (H : AH) (k : Bool → AH → Prop) : Prop :=
 qf Tryz.prog 71 [(qkZ x0)] H fun e H' => in1 .bool e ql (fun r0 => k r0 H')
def qbP (x0 : Option Addr) (H : AH) (k : Bool → AH → Prop) : Prop :=
 qf Tryz.prog 20 [(qkZ x0)] H fun e H' => in1 .bool e ql (fun r0 => k r0 H')
def qt (x0 : Sl) (x1 : Sl) (H : AH) (k : Int → AH → Prop) : Prop :=
 qf Tryz.prog 23 [(Sl.val x0), (Sl.val x1)] H fun e H' => in1 (.int .i64) e ql (fun r0 => k r0 H')
def qa4 (x0 : Option Addr) (H : AH) (k : Option Addr → AH → Prop) : Prop :=
 qf Tryz.prog 25 [(qkZ x0)] H fun e H' => in1 .ptr e ql (fun r0 => k r0 H')
def qbS (x0 : List Value) (H : AH) (k : Int → AH → Prop) : Prop :=
 qf Tryz.prog 27 [(qlU (qlv x0))] H fun e H' => in1 (.int .i64) e ql (fun r0 => k r0 H')
def qaS (x0 : Option Addr) (H : AH) (k : Int → AH → Prop) : Prop :=
 qf Tryz.prog 29 [(qkZ x0)] H fun e H' => in1 (.int .i64) e ql (fun r0 => k r0 H')
def qcc (x0 : Int) (H : AH) (k : Bool → AH → Prop) : Prop :=
 qf Tryz.prog 74 [(qkT .i64 x0)] H fun e H' => in1 .bool e ql (fun r0 => k r0 H')
def cost_of (x0 : Int) (x1 : Int) (H : AH) (k : Int → AH → Prop) : Prop :=
 qf Tryz.prog 75 [(qkT .i64 x0), (qkT .i64 x1)] H fun e H' => in1 (.int .i64) e ql (fun r0 => k r0 H')
def qbG (x0 : Int) (H : AH) (k : Int → AH → Prop) : Prop :=
 qf Tryz.prog 30 [(qkT .i64 x0)] H fun e H' => in1 (.int .i64) e ql (fun r0 => k r0 H')
def qbm (x0 : List Value) (H : AH) (k : Int → AH → Prop) : Prop :=
 qf Tryz.prog 76 [(qlU (qlv x0))] H fun e H' => in1 (.int .i64) e ql (fun r0 => k r0 H')
def cost_Op (x0 : List Value) (x1 : Int) (H : AH) (k : Int → AH → Prop) : Prop :=
 qf Tryz.prog 31 [(qlU (qlv x0)), (qkT .i64 x1)] H fun e H' => in1 (.int .i64) e ql (fun r0 => k r0 H')
def qm (x0 : List Value) (x1 : Sl) (H : AH) (k : Bool → AH → Prop) : Prop :=
 qf Tryz.prog 5 [(qlU (qlv x0)), (Sl.val x1)] H fun e H' => in1 .bool e ql (fun r0 => k r0 H')
def qbA (x0 : Int) (H : AH) (k : Int → AH → Prop) : Prop :=
 qf Tryz.prog 109 [(qkT .i64 x0)] H fun e H' => in1 (.int .i64) e ql (fun r0 => k r0 H')
def qO (x0 : Sl) (x1 : Int) (H : AH) (k : Sl → AH → Prop) : Prop :=
 qf Tryz.prog 164 [(Sl.val x0), (qkT .i64 x1)] H fun e H' => in1 .sl e ql (fun r0 => k r0 H')
def qbD (x0 : Int) (x1 : Int) (H : AH) (k : Int → AH → Prop) : Prop :=
 qf Tryz.prog 162 [(qkT .i64 x0), (qkT .i64 x1)] H fun e H' => in1 (.int .i64) e ql (fun r0 => k r0 H')
def qZ (x0 : Int) (H : AH) (pk : Value → AH → Prop) (k : AH → Prop) : Prop :=
 qf Tryz.prog 113 [(qkT .i64 x0)] H fun e H' => in0  e (fun v => pk v H') (k H')
def qaE (x0 : Option Addr) (H : AH) (pk : Value → AH → Prop) (k : Sl → AH → Prop) : Prop :=
 qf Tryz.prog 108 [(qkZ x0)] H fun e H' => in1 .sl e (fun v => pk v H') (fun r0 => k r0 H')
def qag (x0 : Option Addr) (H : AH) (pk : Value → AH → Prop) (k : AH → Prop) : Prop :=
 qf Tryz.prog 110 [(qkZ x0)] H fun e H' => in0  e (fun v => pk v H') (k H')
def qaw (x0 : Sl) (H : AH) (k : Sl → AH → Prop) : Prop :=
 qf Tryz.prog 147 [(Sl.val x0)] H fun e H' => in1 .sl e ql (fun r0 => k r0 H')
def qbB (x0 : Option Addr) (H : AH) (k : Sl → AH → Prop) : Prop :=
 qf Tryz.prog 112 [(qkZ x0)] H fun e H' => in1 .sl e ql (fun r0 => k r0 H')
def qbg (x0 : List Value) (x1 : Sl) (H : AH) (k : Int → AH → Prop) : Prop :=
 qf Tryz.prog 173 [(qlU (qlv x0)), (Sl.val x1)] H fun e H' => in1 (.int .i64) e ql (fun r0 => k r0 H')
def qat (x0 : Sl) (x1 : Int) (x2 : Sl) (H : AH) (k : Int → AH → Prop) : Prop :=
 qf Tryz.prog 145 [(Sl.val x0), (qkT .i64 x1), (Sl.val x2)] H fun e H' => in1 (.int .i64) e ql (fun r0 => k r0 H')
def qas (x0 : Sl) (H : AH) (k : Int → AH → Prop) : Prop :=
 qf Tryz.prog 189 [(Sl.val x0)] H fun e H' => in1 (.int .i64) e ql (fun r0 => k r0 H')
def qaL (x0 : Sl) (x1 : Int) (x2 : Int) (H : AH) (k : Sl → AH → Prop) : Prop :=
 qf Tryz.prog 174 [(Sl.val x0), (qkT .i64 x1), (qkT .i64 x2)] H fun e H' => in1 .sl e ql (fun r0 => k r0 H')
def qU (x0 : Sl) (x1 : Int) (x2 : Int) (H : AH) (k : Sl → AH → Prop) : Prop :=
 qf Tryz.prog 146 [(Sl.val x0), (qkT .i64 x1), (qkT .i64 x2)] H fun e H' => in1 .sl e ql (fun r0 => k r0 H')
def qbv (x0 : Sl) (x1 : Int) (x2 : Sl) (H : AH) (k : Sl → Int → Int → AH → Prop) : Prop :=
 qf Tryz.prog 111 [(Sl.val x0), (qkT .i64 x1), (Sl.val x2)] H fun e H' => in3 .sl (.int .i64) (.int .i64) e ql (fun r0 r1 r2 => k r0 r1 r2 H')
def qT (x0 : Sl) (H : AH) (k : Sl → AH → Prop) : Prop :=
 qf Tryz.prog 175 [(Sl.val x0)] H fun e H' => in1 .sl e ql (fun r0 => k r0 H')
def qaz (x0 : Sl) (x1 : Sl) (H : AH) (k : Sl → AH → Prop) : Prop :=
 qf Tryz.prog 148 [(Sl.val x0), (Sl.val x1)] H fun e H' => in1 .sl e ql (fun r0 => k r0 H')
def qau (x0 : Sl) (H : AH) (k : Sl → AH → Prop) : Prop :=
 qf Tryz.prog 149 [(Sl.val x0)] H fun e H' => in1 .sl e ql (fun r0 => k r0 H')
def qL (x0 : Option Addr) (x1 : Sl) (H : AH) (k : Int → AH → Prop) : Prop :=
 qf Tryz.prog 150 [(qkZ x0), (Sl.val x1)] H fun e H' => in1 (.int .i64) e ql (fun r0 => k r0 H')
def qbp (x0 : Option Addr) (x1 : Int) (H : AH) (k : Bool → AH → Prop) : Prop :=
 qf Tryz.prog 178 [(qkZ x0), (qkT .i64 x1)] H fun e H' => in1 .bool e ql (fun r0 => k r0 H')
def qaZ (x0 : Option Addr) (x1 : Int) (H : AH) (k : Int → AH → Prop) : Prop :=
 qf Tryz.prog 179 [(qkZ x0), (qkT .i64 x1)] H fun e H' => in1 (.int .i64) e ql (fun r0 => k r0 H')
def qab (x0 : Option Addr) (x1 : Int) (H : AH) (k : Int → Bool → AH → Prop) : Prop :=
 qf Tryz.prog 151 [(qkZ x0), (qkT .i64 x1)] H fun e H' => in2 (.int .i64) .bool e ql (fun r0 r1 => k r0 r1 H')
def qz (x0 : Option Addr) (x1 : Sl) (x2 : Sl) (H : AH) (pk : Value → AH → Prop) (k : AH → Prop) : Prop :=
 qf Tryz.prog 114 [(qkZ x0), (Sl.val x1), (Sl.val x2)] H fun e H' => in0  e (fun v => pk v H') (k H')
def qbC (x0 : Option Addr) (x1 : Int) (H : AH) (pk : Value → AH → Prop) (k : Int → AH → Prop) : Prop :=
 qf Tryz.prog 64 [(qkZ x0), (qkT .i64 x1)] H fun e H' => in1 (.int .i64) e (fun v => pk v H') (fun r0 => k r0 H')
def qae (x0 : Sl) (H : AH) (k : Int → AH → Prop) : Prop :=
 qf Tryz.prog 181 [(Sl.val x0)] H fun e H' => in1 (.int .i64) e ql (fun r0 => k r0 H')
def qx (x0 : Sl) (x1 : Int) (H : AH) (k : Int → Int → Bool → AH → Prop) : Prop :=
 qf Tryz.prog 180 [(Sl.val x0), (qkT .i64 x1)] H fun e H' => in3 (.int .i64) (.int .i64) .bool e ql (fun r0 r1 r2 => k r0 r1 r2 H')
def qaP (x0 : Sl) (x1 : Int) (H : AH) (k : List Value → Bool → AH → Prop) : Prop :=
 qf Tryz.prog 152 [(Sl.val x0), (qkT .i64 x1)] H fun e H' => in2 .agg .bool e ql (fun r0 r1 => k r0 r1 H')
def qb8 (x0 : Sl) (x1 : Int) (H : AH) (k : Sl → Int → AH → Prop) : Prop :=
 qf Tryz.prog 115 [(Sl.val x0), (qkT .i64 x1)] H fun e H' => in2 .sl (.int .i64) e ql (fun r0 r1 => k r0 r1 H')
def qbf (x0 : Option Addr) (H : AH) (pk : Value → AH → Prop) (k : Int → AH → Prop) : Prop :=
 qf Tryz.prog 69 [(qkZ x0)] H fun e H' => in1 (.int .i64) e (fun v => pk v H') (fun r0 => k r0 H')
def qbN (x0 : Option Addr) (x1 : Int) (H : AH) (pk : Value → AH → Prop) (k : AH → Prop) : Prop :=
 qf Tryz.prog 65 [(qkZ x0), (qkT .i64 x1)] H fun e H' => in0  e (fun v => pk v H') (k H')
def qaX (x0 : List Value) (x1 : Option Addr) (x2 : Option Addr) (H : AH) (k : Bool → AH → Prop) : Prop :=
 qf Tryz.prog 193 [(qlU (qlv x0)), (qkZ x1), (qkZ x2)] H fun e H' => in1 .bool e ql (fun r0 => k r0 H')
def qa0 (x0 : Sl) (x1 : Int) (x2 : Int) (H : AH) (k : Bool → AH → Prop) : Prop :=
 qf Tryz.prog 182 [(Sl.val x0), (qkT .i64 x1), (qkT .i64 x2)] H fun e H' => in1 .bool e ql (fun r0 => k r0 H')
def qbu (x0 : Sl) (x1 : Int) (x2 : Int) (H : AH) (k : Int → AH → Prop) : Prop :=
 qf Tryz.prog 153 [(Sl.val x0), (qkT .i64 x1), (qkT .i64 x2)] H fun e H' => in1 (.int .i64) e ql (fun r0 => k r0 H')
def qbw (x0 : Sl) (x1 : Int) (x2 : Int) (H : AH) (k : Bool → AH → Prop) : Prop :=
 qf Tryz.prog 183 [(Sl.val x0), (qkT .i64 x1), (qkT .i64 x2)] H fun e H' => in1 .bool e ql (fun r0 => k r0 H')
def qbs (x0 : Sl) (x1 : Int) (x2 : Int) (H : AH) (k : Sl → Bool → AH → Prop) : Prop :=
 qf Tryz.prog 154 [(Sl.val x0), (qkT .i64 x1), (qkT .i64 x2)] H fun e H' => in2 .sl .bool e ql (fun r0 r1 => k r0 r1 H')
def qb5 (x0 : Sl) (x1 : Int) (x2 : Int) (H : AH) (k : Sl → Int → AH → Prop) : Prop :=
 qf Tryz.prog 116 [(Sl.val x0), (qkT .i64 x1), (qkT .i64 x2)] H fun e H' => in2 .sl (.int .i64) e ql (fun r0 r1 => k r0 r1 H')
def qbO (x0 : Option Addr) (x1 : Int) (x2 : Int) (H : AH) (pk : Value → AH → Prop) (k : Sl → AH → Prop) : Prop :=
 qf Tryz.prog 66 [(qkZ x0), (qkT .i64 x1), (qkT .i64 x2)] H fun e H' => in1 .sl e (fun v => pk v H') (fun r0 => k r0 H')
def qW (x0 : Sl) (x1 : Int) (x2 : Sl) (H : AH) (k : Sl → Bool → AH → Prop) : Prop :=
 qf Tryz.prog 155 [(Sl.val x0), (qkT .i64 x1), (Sl.val x2)] H fun e H' => in2 .sl .bool e ql (fun r0 r1 => k r0 r1 H')
def qbT (x0 : Sl) (x1 : Int) (x2 : Sl) (H : AH) (k : Sl → Int → AH → Prop) : Prop :=
 qf Tryz.prog 117 [(Sl.val x0), (qkT .i64 x1), (Sl.val x2)] H fun e H' => in2 .sl (.int .i64) e ql (fun r0 r1 => k r0 r1 H')
def qbE (x0 : Option Addr) (x1 : Int) (x2 : Sl) (H : AH) (pk : Value → AH → Prop) (k : AH → Prop) : Prop :=
 qf Tryz.prog 67 [(qkZ x0), (qkT .i64 x1), (Sl.val x2)] H fun e H' => in0  e (fun v => pk v H') (k H')
def qak (x0 : Option Addr) (x1 : Int) (H : AH) (pk : Value → AH → Prop) (k : AH → Prop) : Prop :=
 qf Tryz.prog 68 [(qkZ x0), (qkT .i64 x1)] H fun e H' => in0  e (fun v => pk v H') (k H')
def qp.l1 (x0 : Sl) (x1b0 : Option Addr) (x1b1 : Option Addr) (k : Int → AH → Prop) (t2 : Int × Int) (HL2 : AH) (it2 : (Int × Int) → AH → Prop) : Prop :=
 bcase (decide ((t2.2 : Int) < ((x0.n : Nat) : Int))) ((0 ≤ t2.2 ∧ t2.2 < ((x0.n : Nat) : Int)) ∧ onPtr x0.a fun a14 => ldA HL2 (qkW a14 (qk5 t2.2 * 3)) 3 fun c15 => qaX c15 x1b0 x1b1 HL2 fun b16 H16 => bcase b16 (k t2.2 H16) (it2 (t2.1, (qkU .i64 (t2.2 + (1 : Int)))) H16)) (k (-1 : Int) HL2)
def qp.b (x0 : Sl) (x1b0 : Option Addr) (x1b1 : Option Addr) (H : AH) (k : Int → AH → Prop) : Prop :=
 loopT (qp.l1 x0 x1b0 x1b1 k) (((0 : Int), (0 : Int)) : Int × Int) H
def qp.ann : Ann := { keep := fun r => match r with | 2 => [(4, .int .i64), (8, .int .i64)] | _ => [], ord := fun r => match r with  | _ => [] }
theorem qp.link {x0 : Sl} {x1b0 : Option Addr} {x1b1 : Option Addr} {H : AH} {k : Int → AH → Prop} (h : qp.b x0 x1b0 x1b1 H k) : qp x0 x1b0 x1b1 H k := lk1 pan hT hm Tryz.func142 (by kernel_rfl) (A := qp.ann) (by kernel_rfl) (by simp) (by kernel_rfl) h
def qG.b (x0 : Sl) (x1b0 : Option Addr) (x1b1 : Option Addr) (H : AH) (k : Bool → AH → Prop) : Prop :=
 qp x0 x1b0 x1b1 H fun n7 H7 => k (decide ((n7 : Int) ≥ (0 : Int))) H7
theorem qG.link {x0 : Sl} {x1b0 : Option Addr} {x1b1 : Option Addr} {H : AH} {k : Bool → AH → Prop} (h : qG.b x0 x1b0 x1b1 H k) : qG x0 x1b0 x1b1 H k := lk1 pan hT hm Tryz.func192 (by kernel_rfl) (A := ann0) (by kernel_rfl) (by simp) (by kernel_rfl) h
def qv.l1 (x0 : Sl) (x1b0 : Option Addr) (k : Int → AH → Prop) (t2 : Int × Int) (HL2 : AH) (it2 : (Int × Int) → AH → Prop) : Prop :=
 bcase (decide ((t2.2 : Int) < ((x0.n : Nat) : Int))) ((0 ≤ t2.2 ∧ t2.2 < ((x0.n : Nat) : Int)) ∧ onPtr x0.a fun a14 => ldA HL2 (qkW a14 (qk5 t2.2 * 3)) 3 fun c15 => qbb c15 x1b0 HL2 fun b16 H16 => bcase b16 (k t2.2 H16) (it2 (t2.1, (qkU .i64 (t2.2 + (1 : Int)))) H16)) (k (-1 : Int) HL2)
def qv.b (x0 : Sl) (x1b0 : Option Addr) (H : AH) (k : Int → AH → Prop) : Prop :=
 loopT (qv.l1 x0 x1b0 k) (((0 : Int), (0 : Int)) : Int × Int) H
def qv.ann : Ann := { keep := fun r => match r with | 2 => [(4, .int .i64), (8, .int .i64)] | _ => [], ord := fun r => match r with  | _ => [] }
theorem qv.link {x0 : Sl} {x1b0 : Option Addr} {H : AH} {k : Int → AH → Prop} (h : qv.b x0 x1b0 H k) : qv x0 x1b0 H k := lk1 pan hT hm Tryz.func142 (by kernel_rfl) (A := qv.ann) (by kernel_rfl) (by simp) (by kernel_rfl) h
def qaK.b (x0 : Int) (x1 : Int) (x2 : Int) (x3 : Int) (H : AH) (k : List Value → AH → Prop) : Prop :=
 newC H ⟨[(qkT .i64 (0 : Int)), (qkT .i64 (0 : Int)), (qkT .i64 (0 : Int)), (qkT .i64 (0 : Int))], .rw, 0⟩ fun o8 H8 => ((24 : Int) : Int) ≠ 0 ∧ ((17 : Int) : Int) ≠ 0 ∧ ((30 : Int) : Int) ≠ 0 ∧ ((10 : Int) : Int) ≠ 0 ∧ (qk8 [(qkT .i64 (qkU .i64 ((1 : Int) + (qkU .i64 (qlW (qkU .u64 x0) (24 : Int)))))), (qkT .i64 (qkU .i64 (qlW (qkU .u64 x1) (17 : Int)))), (qkT .i64 (qkU .i64 ((1 : Int) + (qkU .i64 (qlW (qkU .u64 x2) (30 : Int)))))), (qkT .i64 (qkU .i64 ((1 : Int) + (qkU .i64 (qlW (qkU .u64 x3) (10 : Int))))))] = 4 ∧ qly [(qkT .i64 (qkU .i64 ((1 : Int) + (qkU .i64 (qlW (qkU .u64 x0) (24 : Int)))))), (qkT .i64 (qkU .i64 (qlW (qkU .u64 x1) (17 : Int)))), (qkT .i64 (qkU .i64 ((1 : Int) + (qkU .i64 (qlW (qkU .u64 x2) (30 : Int)))))), (qkT .i64 (qkU .i64 ((1 : Int) + (qkU .i64 (qlW (qkU .u64 x3) (10 : Int))))))] qn = true) ∧ stC H8 ⟨o8, 0, none⟩ [(qkT .i64 (qkU .i64 ((1 : Int) + (qkU .i64 (qlW (qkU .u64 x0) (24 : Int)))))), (qkT .i64 (qkU .i64 (qlW (qkU .u64 x1) (17 : Int)))), (qkT .i64 (qkU .i64 ((1 : Int) + (qkU .i64 (qlW (qkU .u64 x2) (30 : Int)))))), (qkT .i64 (qkU .i64 ((1 : Int) + (qkU .i64 (qlW (qkU .u64 x3) (10 : Int))))))] fun Hs2 => ldA Hs2 ⟨o8, 0, none⟩ 4 fun r0 => k r0 Hs2
theorem qaK.link {x0 : Int} {x1 : Int} {x2 : Int} {x3 : Int} {H : AH} {k : List Value → AH → Prop} (h : qaK.b x0 x1 x2 x3 H k) : qaK x0 x1 x2 x3 H k := lk1 pan hT hm Tryz.func36 (by kernel_rfl) (A := ann0) (by kernel_rfl) (by simp) (by kernel_rfl) h
def qa9.b (x0 : List Value) (H : AH) (k : List Value → AH → Prop) : Prop :=
 newC H ⟨x0, .rw, 0⟩ fun o1 H1 => newC H1 ⟨[(qkT .i64 (0 : Int)), (qkT .i64 (0 : Int)), (qkT .i64 (0 : Int)), (qkT .i64 (0 : Int))], .rw, 0⟩ fun o2 H2 => elI .i64 (AH.cell? H2 (qkW ⟨o1, 0, none⟩ 0)) fun n4 => elI .i64 (AH.cell? H2 (qkW ⟨o1, 0, none⟩ 1)) fun n6 => elI .i64 (AH.cell? H2 (qkW ⟨o1, 0, none⟩ 2)) fun n8 => elI .i64 (AH.cell? H2 (qkW ⟨o1, 0, none⟩ 3)) fun n10 => qaK n4 n6 n8 n10 H2 fun c11 H11 => (qk8 c11 = 4 ∧ qly c11 qn = true) ∧ stC H11 ⟨o2, 0, none⟩ c11 fun Hs2 => ldA Hs2 ⟨o2, 0, none⟩ 4 fun r0 => k r0 Hs2
theorem qa9.link {x0 : List Value} {H : AH} {k : List Value → AH → Prop} (h : qa9.b x0 H k) : qa9 x0 H k := lk1 pan hT hm Tryz.func12 (by kernel_rfl) (A := ann0) (by kernel_rfl) (by simp) (by kernel_rfl) h
def qaA.b (x0 : List Value) (H : AH) (k : Bool → AH → Prop) : Prop :=
 newC H ⟨x0, .rw, 0⟩ fun o1 H1 => elI .i64 (AH.cell? H1 (qkW ⟨o1, 0, none⟩ 0)) fun n4 => bcase (decide ((n4 : Int) ≥ (1 : Int))) (elI .i64 (AH.cell? H1 (qkW ⟨o1, 0, none⟩ 0)) fun n8 => bcase (decide ((n8 : Int) ≤ (64 : Int))) (elI .i64 (AH.cell? H1 (qkW ⟨o1, 0, none⟩ 1)) fun n13 => bcase (decide ((n13 : Int) ≥ (0 : Int))) (elI .i64 (AH.cell? H1 (qkW ⟨o1, 0, none⟩ 1)) fun n18 => bcase (decide ((n18 : Int) ≤ (16 : Int))) (elI .i64 (AH.cell? H1 (qkW ⟨o1, 0, none⟩ 2)) fun n23 => bcase (decide ((n23 : Int) ≥ (1 : Int))) (elI .i64 (AH.cell? H1 (qkW ⟨o1, 0, none⟩ 2)) fun n28 => bcase (decide ((n28 : Int) ≤ (1000 : Int))) (elI .i64 (AH.cell? H1 (qkW ⟨o1, 0, none⟩ 3)) fun n33 => bcase (decide ((n33 : Int) ≥ (1 : Int))) (elI .i64 (AH.cell? H1 (qkW ⟨o1, 0, none⟩ 3)) fun n38 => k (decide ((n38 : Int) ≤ (100 : Int))) H1) (k false H1)) (k false H1)) (k false H1)) (k false H1)) (k false H1)) (k false H1)) (k false H1)
theorem qaA.link {x0 : List Value} {H : AH} {k : Bool → AH → Prop} (h : qaA.b x0 H k) : qaA x0 H k := lk1 pan hT hm Tryz.func48 (by kernel_rfl) (A := ann0) (by kernel_rfl) (by simp) (by kernel_rfl) h
def qbc.b (x0 : List Value) (H : AH) (k : Int → AH → Prop) : Prop :=
 newC H ⟨x0, .rw, 0⟩ fun o1 H1 => ldA H1 ⟨o1, 0, none⟩ 4 fun c3 => qaA c3 H1 fun b4 H4 => bcase (!b4) (k (0 : Int) H4) (elI .i64 (AH.cell? H4 (qkW ⟨o1, 0, none⟩ 0)) fun n7 => k (qkU .i64 ((16 : Int) + n7)) H4)
theorem qbc.link {x0 : List Value} {H : AH} {k : Int → AH → Prop} (h : qbc.b x0 H k) : qbc x0 H k := lk1 pan hT hm Tryz.func49 (by kernel_rfl) (A := ann0) (by kernel_rfl) (by simp) (by kernel_rfl) h
def qaY.b (x0 : List Value) (H : AH) (k : Int → AH → Prop) : Prop :=
 newC H ⟨x0, .rw, 0⟩ fun o1 H1 => ldA H1 ⟨o1, 0, none⟩ 4 fun c3 => qaA c3 H1 fun b4 H4 => bcase (!b4) (k (0 : Int) H4) (ldA H4 ⟨o1, 0, none⟩ 4 fun c6 => elI .i64 (AH.cell? H4 (qkW ⟨o1, 0, none⟩ 1)) fun n10 => qbc c6 H4 fun n7 H7 => AH.cell? H7 (qkW ⟨o1, 0, none⟩ 1) = some (qkT .i64 n10) ∧ k (qkU .i64 ((qkU .i64 (n7 + (1 : Int))) + n10)) H7)
def qaY.ann : Ann := { keep := fun r => match r with  | _ => [], ord := fun r => match r with | 3 => [0, 3, 4, 1, 2, 5, 6] | _ => [] }
theorem qaY.link {x0 : List Value} {H : AH} {k : Int → AH → Prop} (h : qaY.b x0 H k) : qaY x0 H k := lk1 pan hT hm Tryz.func15 (by kernel_rfl) (A := qaY.ann) (by kernel_rfl) (by simp) (by kernel_rfl) h
def nvm_New.l1 (x1 : Sl) (k : Option Addr → AH → Prop) (o16 : Nat) (s20 : Sl) (t5 : Int) (HL5 : AH) (it5 : (Int) → AH → Prop) : Prop :=
 bcase (decide ((t5 : Int) < ((s20.n : Nat) : Int))) (elL (AH.cell? HL5 (qkW ⟨o16, 0, none⟩ 0)) fun s28 => (0 ≤ t5 ∧ t5 < ((s28.n : Nat) : Int)) ∧ onPtr s28.a fun a30 => stC HL5 (qkW (qkW a30 (qk5 t5 * 10)) 9) [(qkT .i64 (-1 : Int))] fun Hs2 => bcase (decide ((t5 : Int) < ((x1.n : Nat) : Int))) (elL (AH.cell? Hs2 (qkW ⟨o16, 0, none⟩ 0)) fun s39 => (0 ≤ t5 ∧ t5 < ((x1.n : Nat) : Int)) ∧ onPtr x1.a fun a43 => elI .i64 (AH.cell? Hs2 (qkW a43 (qk5 t5 * 1))) fun n44 => (0 ≤ t5 ∧ t5 < ((s39.n : Nat) : Int)) ∧ onPtr s39.a fun a45 => stC Hs2 (qkW (qkW a45 (qk5 t5 * 10)) 9) [(qkT .i64 n44)] fun Hs4 => it5 (qkU .i64 (t5 + (1 : Int))) Hs4) (it5 (qkU .i64 (t5 + (1 : Int))) Hs2)) (k (some ⟨o16, 0, none⟩) HL5)
def nvm_New.j2 (x0 : Int) (x1 : Sl) (H : AH) (k : Option Addr → AH → Prop) (x12 : Bool) : Prop :=
 bcase x12 (k none H) ((0 ≤ x0 ∧ x0 ≤ x0 ∧ x0 ≤ (lim : Int)) ∧ newC H ⟨zerosOf (qk5 x0) [(qkT .u64 (0 : Int)), (qkT .u64 (0 : Int)), (qkT .u64 (0 : Int)), (qkT .u64 (0 : Int)), (qkT .u64 (0 : Int)), (qkT .u64 (0 : Int)), (qkT .u64 (0 : Int)), (qkT .u64 (0 : Int)), (qkT .i64 (0 : Int)), (qkT .i64 (0 : Int))], .rw, 10⟩ fun o14 H14 => newC H14 ⟨[(qle (some ⟨o14, 0, none⟩) (qk5 x0) 1), (qkT .u64 (0 : Int)), (qkT .u64 (0 : Int)), (qkT .u64 (0 : Int)), (qkT .u64 (0 : Int)), (qkT .u64 (0 : Int)), (qkT .u64 (0 : Int)), (qkT .u64 (0 : Int)), (qkT .u64 (0 : Int)), (qkT .u64 (0 : Int)), (qkT .u64 (0 : Int)), (qkT .u64 (0 : Int)), (qkT .u64 (0 : Int)), (qkT .u64 (0 : Int)), (qkT .u64 (0 : Int)), (qkT .u64 (0 : Int)), (qkT .u64 (0 : Int)), (qkT .u64 (0 : Int)), (qkT .u64 (0 : Int)), (qkT .u64 (0 : Int)), (qkT .u64 (0 : Int)), (qkT .u64 (0 : Int)), (qkT .u64 (0 : Int)), (qkT .u64 (0 : Int)), (qkT .u64 (0 : Int)), (qkT .u64 (0 : Int)), (qkT .u64 (0 : Int)), (qkT .u64 (0 : Int)), (qkT .u64 (0 : Int)), (qkT .u64 (0 : Int)), (qkT .u64 (0 : Int)), (qkT .u64 (0 : Int)), (qkT .u64 (0 : Int)), (qkT .u64 (0 : Int)), (qkT .u64 (0 : Int)), (qkT .u64 (0 : Int)), (qkT .i64 (0 : Int)), (qkT .i64 (-1 : Int)), (qkT .i64 (0 : Int)), (qlS false)], .rw, 0⟩ fun o16 H16 => elL (AH.cell? H16 (qkW ⟨o16, 0, none⟩ 0)) fun s20 => loopT (nvm_New.l1 x1 k o16 s20) (((0 : Int)) : Int) H16)
def nvm_New.b (x0 : Int) (x1 : Sl) (H : AH) (k : Option Addr → AH → Prop) : Prop :=
 bcase (decide ((x0 : Int) < (1 : Int))) (nvm_New.j2 x0 x1 H k true) (nvm_New.j2 x0 x1 H k (decide ((x0 : Int) > (200 : Int))))
def nvm_New.ann : Ann := { keep := fun r => match r with | 5 => [(22, .int .i64)] | _ => [], ord := fun r => match r with | 9 => [0, 1, 2, 3, 4, 5, 6, 7, 8, 9, 10, 11] | _ => [] }
theorem nvm_New.link {x0 : Int} {x1 : Sl} {H : AH} {k : Option Addr → AH → Prop} (h : nvm_New.b x0 x1 H k) : nvm_New x0 x1 H k := lk1 pan hT hm Tryz.func14 (by kernel_rfl) (A := nvm_New.ann) (by kernel_rfl) (by simp) (by kernel_rfl) h
def qQ.b (x0 : Option Addr) (H : AH) (k : Int → AH → Prop) : Prop :=
 bcase (qlt x0) (k (0 : Int) H) (onPtr x0 fun a6 => elL (AH.cell? H (qkW a6 0)) fun s8 => k ((s8.n : Nat) : Int) H)
theorem qQ.link {x0 : Option Addr} {H : AH} {k : Int → AH → Prop} (h : qQ.b x0 H k) : qQ x0 H k := lk1 pan hT hm Tryz.func91 (by kernel_rfl) (A := ann0) (by kernel_rfl) (by simp) (by kernel_rfl) h
def qV.b (x0 : Option Addr) (H : AH) (k : Bool → AH → Prop) : Prop :=
 bcase (!(qlt x0)) (onPtr x0 fun a7 => elB (AH.cell? H (qkW a7 39)) fun b9 => k b9 H) (k false H)
theorem qV.link {x0 : Option Addr} {H : AH} {k : Bool → AH → Prop} (h : qV.b x0 H k) : qV x0 H k := lk1 pan hT hm Tryz.func38 (by kernel_rfl) (A := ann0) (by kernel_rfl) (by simp) (by kernel_rfl) h
def qbk.j1 (x0 : Option Addr) (k : Int → AH → Prop) (x5 : Bool) (Hj : AH) : Prop :=
 bcase x5 (k (1 : Int) Hj) (qV x0 Hj fun b18 H18 => bcase b18 (k (2 : Int) H18) (k (0 : Int) H18))
def qbk.b (x0 : Option Addr) (x1 : List Value) (H : AH) (k : Int → AH → Prop) : Prop :=
 newC H ⟨x1, .rw, 0⟩ fun o3 H3 => ldA H3 ⟨o3, 0, none⟩ 4 fun c6 => qaA c6 H3 fun b7 H7 => bcase (!b7) (qbk.j1 x0 k true H7) (ldA H7 ⟨o3, 0, none⟩ 4 fun c12 => qQ x0 H7 fun n11 H11 => AH.row? H11 ⟨o3, 0, none⟩ 4 = some c12 ∧ qaY c12 H11 fun n13 H13 => qbk.j1 x0 k ((n11 : Int) != n13) H13)
def qbk.ann : Ann := { keep := fun r => match r with  | _ => [], ord := fun r => match r with | 1 => [0, 1, 2, 3, 4, 6, 5, 7, 8, 9, 10] | _ => [] }
theorem qbk.link {x0 : Option Addr} {x1 : List Value} {H : AH} {k : Int → AH → Prop} (h : qbk.b x0 x1 H k) : qbk x0 x1 H k := lk1 pan hT hm Tryz.func50 (by kernel_rfl) (A := qbk.ann) (by kernel_rfl) (by simp) (by kernel_rfl) h
def qar.b (x0 : Option Addr) (x1 : Int) (H : AH) (k : Bool → AH → Prop) : Prop :=
 bcase (!(qlt x0)) (bcase (decide ((x1 : Int) ≥ (0 : Int))) (k (decide ((x1 : Int) < (35 : Int))) H) (k false H)) (k false H)
theorem qar.link {x0 : Option Addr} {x1 : Int} {H : AH} {k : Bool → AH → Prop} (h : qar.b x0 x1 H k) : qar x0 x1 H k := lk1 pan hT hm Tryz.func92 (by kernel_rfl) (A := ann0) (by kernel_rfl) (by simp) (by kernel_rfl) h
def qD.b (x0 : Option Addr) (x1 : Int) (H : AH) (k : Int → Int → AH → Prop) : Prop :=
 qar x0 x1 H fun b9 H9 => bcase (!b9) (k (0 : Int) (1 : Int) H9) (onPtr x0 fun a13 => elB (AH.cell? H9 (qkW a13 39)) fun b15 => bcase b15 (k (0 : Int) (2 : Int) H9) (onPtr x0 fun a18 => (0 ≤ x1 ∧ x1 < ((35 : Nat) : Int)) ∧ elI .u64 (AH.cell? H9 (qkW (qkW a18 1) (qk5 x1 * 1))) fun n21 => k n21 (0 : Int) H9))
theorem qD.link {x0 : Option Addr} {x1 : Int} {H : AH} {k : Int → Int → AH → Prop} (h : qD.b x0 x1 H k) : qD x0 x1 H k := lk2 pan hT hm Tryz.func51 (by kernel_rfl) (A := ann0) (by kernel_rfl) (by simp) (by simp) (by kernel_rfl) h
def qE.j1 (x0 : Option Addr) (k : Sl → Int → AH → Prop) (t3 : Sl × Int × Sl × Int) (HL3 : AH) : Prop :=
 onPtr x0 fun a34 => elP (AH.cell? HL3 (qkW a34 0)) fun p36 => qV p36 HL3 fun b37 H37 => bcase b37 (k ⟨none, 0, 0⟩ (2 : Int) H37) (k t3.2.2.1 (0 : Int) H37)
def qE.l2 (x0 : Option Addr) (k : Sl → Int → AH → Prop) (n11 : Int) (t3 : Sl × Int × Sl × Int) (HL3 : AH) (it3 : (Sl × Int × Sl × Int) → AH → Prop) : Prop :=
 bcase (decide ((t3.2.2.2 : Int) < n11)) (onPtr x0 fun a17 => elP (AH.cell? HL3 (qkW a17 0)) fun p19 => qD p19 (qkU .i64 ((3 : Int) + t3.2.2.2)) HL3 fun n22a n22b H22 => bcase ((n22b : Int) != (0 : Int)) (k ⟨none, 0, 0⟩ n22b H22) (newC H22 ⟨[(qkT .u64 n22a)], .rw, 1⟩ fun o30 H30 => appendC 1 H30 t3.2.2.1 ⟨(some ⟨o30, 0, none⟩), 1, 1⟩ fun s31 H31 => it3 (t3.1, t3.2.1, s31, (qkU .i64 (t3.2.2.2 + (1 : Int)))) H31)) (qE.j1 x0 k t3 HL3)
def qE.b (x0 : Option Addr) (H : AH) (k : Sl → Int → AH → Prop) : Prop :=
 onPtr x0 fun a9 => elI .i64 (AH.cell? H (qkW a9 2)) fun n11 => loopT (qE.l2 x0 k n11) ((⟨none, 0, 0⟩, (0 : Int), ⟨none, 0, 0⟩, (0 : Int)) : Sl × Int × Sl × Int) H
def qE.ann : Ann := { keep := fun r => match r with | 3 => [(2, .sl), (3, .int .i64), (4, .sl), (12, .int .i64)] | _ => [], ord := fun r => match r with  | _ => [] }
theorem qE.link {x0 : Option Addr} {H : AH} {k : Sl → Int → AH → Prop} (h : qE.b x0 H k) : qE x0 H k := lk2 pan hT hm Tryz.func158 (by kernel_rfl) (A := qE.ann) (by kernel_rfl) (by simp) (by simp) (by kernel_rfl) h
def qbJ.b (x0 : Int) (H : AH) (k : Int → AH → Prop) : Prop :=
 bcase (decide ((x0 : Int) < (1 : Int))) (k (0 : Int) H) (k (qkU .u64 ((qkU .u64 x0) + (1 : Int))) H)
theorem qbJ.link {x0 : Int} {H : AH} {k : Int → AH → Prop} (h : qbJ.b x0 H k) : qbJ x0 H k := lk1 pan hT hm Tryz.func140 (by kernel_rfl) (A := ann0) (by kernel_rfl) (by simp) (by kernel_rfl) h
def qaB.j1 (k : Bool → AH → Prop) (t2 : Bool × Int) (it2 : (Bool × Int) → AH → Prop) (H16 : AH) (x33 : Bool) : Prop :=
 bcase x33 (k false H16) (it2 (t2.1, (qkU .i64 (t2.2 + (1 : Int)))) H16)
def qaB.l2 (x0 : Sl) (x1 : Int) (k : Bool → AH → Prop) (t2 : Bool × Int) (HL2 : AH) (it2 : (Bool × Int) → AH → Prop) : Prop :=
 bcase (decide ((t2.2 : Int) < ((x0.n : Nat) : Int))) ((0 ≤ t2.2 ∧ t2.2 < ((x0.n : Nat) : Int)) ∧ onPtr x0.a fun a12 => elI .u64 (AH.cell? HL2 (qkW a12 (qk5 t2.2 * 1))) fun n13 => qbJ x1 HL2 fun n16 H16 => bcase (decide ((n13 : Int) > n16)) (qaB.j1 k t2 it2 H16 true) (bcase (decide ((t2.2 : Int) > (0 : Int))) (bcase ((n13 : Int) != (0 : Int)) ((0 ≤ (qkU .i64 (t2.2 - (1 : Int))) ∧ (qkU .i64 (t2.2 - (1 : Int))) < ((x0.n : Nat) : Int)) ∧ onPtr x0.a fun a29 => elI .u64 (AH.cell? H16 (qkW a29 (qk5 (qkU .i64 (t2.2 - (1 : Int))) * 1))) fun n30 => qaB.j1 k t2 it2 H16 ((n30 : Int) == (0 : Int))) (qaB.j1 k t2 it2 H16 false)) (qaB.j1 k t2 it2 H16 false))) (k (decide ((x1 : Int) ≥ (1 : Int))) HL2)
def qaB.b (x0 : Sl) (x1 : Int) (H : AH) (k : Bool → AH → Prop) : Prop :=
 loopT (qaB.l2 x0 x1 k) ((false, (0 : Int)) : Bool × Int) H
def qaB.ann : Ann := { keep := fun r => match r with | 2 => [(4, .bool), (9, .int .i64)] | _ => [], ord := fun r => match r with  | _ => [] }
theorem qaB.link {x0 : Sl} {x1 : Int} {H : AH} {k : Bool → AH → Prop} (h : qaB.b x0 x1 H k) : qaB x0 x1 H k := lk1 pan hT hm Tryz.func169 (by kernel_rfl) (A := qaB.ann) (by kernel_rfl) (by simp) (by kernel_rfl) h
def qay.j1 (x0 : Option Addr) (x1 : Int) (x2 : Int) (k : Option Addr → AH → Prop) (x31 : Bool) (Hj : AH) : Prop :=
 bcase x31 (k none Hj) (newC Hj ⟨[(qkZ x0), (qkT .i64 x1), (qkT .i64 x2)], .rw, 0⟩ fun o36 H36 => qE (some ⟨o36, 0, none⟩) H36 fun s39a n39b H39 => bcase ((n39b : Int) != (0 : Int)) (k none H39) (qaB s39a x1 H39 fun b47 H47 => bcase (!b47) (k none H47) (k (some ⟨o36, 0, none⟩) H47)))
def qay.b (x0 : Option Addr) (x1 : Int) (x2 : Int) (H : AH) (k : Option Addr → AH → Prop) : Prop :=
 bcase (qlt x0) (qay.j1 x0 x1 x2 k true H) (bcase (decide ((x1 : Int) < (1 : Int))) (qay.j1 x0 x1 x2 k true H) (bcase (decide ((x2 : Int) < (0 : Int))) (qay.j1 x0 x1 x2 k true H) (bcase (decide ((x2 : Int) > (16 : Int))) (qay.j1 x0 x1 x2 k true H) (qQ x0 H fun n26 H26 => qay.j1 x0 x1 x2 k (((qkU .i64 (n26 - x2)) : Int) != x1) H26))))
theorem qay.link {x0 : Option Addr} {x1 : Int} {x2 : Int} {H : AH} {k : Option Addr → AH → Prop} (h : qay.b x0 x1 x2 H k) : qay x0 x1 x2 H k := lk1 pan hT hm Tryz.func131 (by kernel_rfl) (A := ann0) (by kernel_rfl) (by simp) (by kernel_rfl) h
def qaM.j1 (x0 : Option Addr) (x1 : Int) (x3 : Int) (k : Option Addr → AH → Prop) (p32 : Option Addr) (H37 : AH) (x45 : Bool) : Prop :=
 bcase x45 (k none H37) (newC H37 ⟨[(qkZ x0), (qkZ p32), (qkT .i64 x1), (qkT .i64 x3), (qkT .i64 (0 : Int))], .rw, 0⟩ fun o51 H51 => k (some ⟨o51, 0, none⟩) H51)
def qaM.j2 (x0 : Option Addr) (x1 : Int) (x2 : Int) (x3 : Int) (k : Option Addr → AH → Prop) (x27 : Bool) (Hj : AH) : Prop :=
 bcase x27 (k none Hj) (qay x0 (qkU .i64 (x1 + (1 : Int))) x2 Hj fun p32 H32 => bcase (qlt p32) (k none H32) (qD x0 (0 : Int) H32 fun n37a n37b H37 => bcase ((n37b : Int) != (0 : Int)) (qaM.j1 x0 x1 x3 k p32 H37 true) (qaM.j1 x0 x1 x3 k p32 H37 (decide ((n37a : Int) > (1099511627776 : Int))))))
def qaM.b (x0 : Option Addr) (x1 : Int) (x2 : Int) (x3 : Int) (H : AH) (k : Option Addr → AH → Prop) : Prop :=
 bcase (decide ((x1 : Int) < (1 : Int))) (qaM.j2 x0 x1 x2 x3 k true H) (qQ x0 H fun n17 H17 => bcase (decide ((x1 : Int) > n17)) (qaM.j2 x0 x1 x2 x3 k true H17) (bcase (decide ((x3 : Int) < (1 : Int))) (qaM.j2 x0 x1 x2 x3 k true H17) (qaM.j2 x0 x1 x2 x3 k (decide ((x3 : Int) > (1000 : Int))) H17)))
theorem qaM.link {x0 : Option Addr} {x1 : Int} {x2 : Int} {x3 : Int} {H : AH} {k : Option Addr → AH → Prop} (h : qaM.b x0 x1 x2 x3 H k) : qaM x0 x1 x2 x3 H k := lk1 pan hT hm Tryz.func93 (by kernel_rfl) (A := ann0) (by kernel_rfl) (by simp) (by kernel_rfl) h
def qbn.b (x0 : Option Addr) (x1 : List Value) (H : AH) (k : Option Addr → AH → Prop) : Prop :=
 newC H ⟨x1, .rw, 0⟩ fun o3 H3 => ldA H3 ⟨o3, 0, none⟩ 4 fun c6 => elI .i64 (AH.cell? H3 (qkW ⟨o3, 0, none⟩ 1)) fun n9 => elI .i64 (AH.cell? H3 (qkW ⟨o3, 0, none⟩ 2)) fun n11 => qbc c6 H3 fun n7 H7 => AH.cell? H7 (qkW ⟨o3, 0, none⟩ 2) = some (qkT .i64 n11) ∧ AH.cell? H7 (qkW ⟨o3, 0, none⟩ 1) = some (qkT .i64 n9) ∧ qaM x0 n7 n9 n11 H7 fun p12 H12 => k p12 H12
def qbn.ann : Ann := { keep := fun r => match r with  | _ => [], ord := fun r => match r with | 1 => [0, 1, 3, 4, 5, 6, 2, 7, 8] | _ => [] }
theorem qbn.link {x0 : Option Addr} {x1 : List Value} {H : AH} {k : Option Addr → AH → Prop} (h : qbn.b x0 x1 H k) : qbn x0 x1 H k := lk1 pan hT hm Tryz.func52 (by kernel_rfl) (A := qbn.ann) (by kernel_rfl) (by simp) (by kernel_rfl) h
def qb3.b (x0 : List Value) (H : AH) (k : Int → AH → Prop) : Prop :=
 newC H ⟨x0, .rw, 0⟩ fun o1 H1 => ldA H1 ⟨o1, 0, none⟩ 4 fun c3 => qaA c3 H1 fun b4 H4 => bcase (!b4) (k (0 : Int) H4) (elI .i64 (AH.cell? H4 (qkW ⟨o1, 0, none⟩ 0)) fun n7 => k (qkU .i64 (n7 * (8 : Int))) H4)
theorem qb3.link {x0 : List Value} {H : AH} {k : Int → AH → Prop} (h : qb3.b x0 H k) : qb3 x0 H k := lk1 pan hT hm Tryz.func42 (by kernel_rfl) (A := ann0) (by kernel_rfl) (by simp) (by kernel_rfl) h
def qaN.b (x0 : Int) (H : AH) (k : Bool → AH → Prop) : Prop :=
 bcase (decide ((x0 : Int) ≥ (8 : Int))) (bcase (decide ((x0 : Int) ≤ (512 : Int))) (((8 : Int) : Int) ≠ 0 ∧ k (((qlW x0 (8 : Int)) : Int) == (0 : Int)) H) (k false H)) (k false H)
theorem qaN.link {x0 : Int} {H : AH} {k : Bool → AH → Prop} (h : qaN.b x0 H k) : qaN x0 H k := lk1 pan hT hm Tryz.func94 (by kernel_rfl) (A := ann0) (by kernel_rfl) (by simp) (by kernel_rfl) h
def qaU.b (x0 : Int) (H : AH) (k : Bool → AH → Prop) : Prop :=
 bcase (decide ((x0 : Int) ≥ (2 : Int))) (k (decide ((x0 : Int) ≤ (512 : Int))) H) (k false H)
theorem qaU.link {x0 : Int} {H : AH} {k : Bool → AH → Prop} (h : qaU.b x0 H k) : qaU x0 H k := lk1 pan hT hm Tryz.func129 (by kernel_rfl) (A := ann0) (by kernel_rfl) (by simp) (by kernel_rfl) h
def qbl.b (x0 : Int) (x1 : Bool) (H : AH) (k : Int → AH → Prop) : Prop :=
 qaU x0 H fun b7 H7 => bcase (!b7) (k (0 : Int) H7) ((0 : Int) ≤ (1 : Int) ∧ bcase x1 (k (orI .u64 (shlI .u64 (qkU .u64 x0) (1 : Int)) (1 : Int)) H7) (k (shlI .u64 (qkU .u64 x0) (1 : Int)) H7))
theorem qbl.link {x0 : Int} {x1 : Bool} {H : AH} {k : Int → AH → Prop} (h : qbl.b x0 x1 H k) : qbl x0 x1 H k := lk1 pan hT hm Tryz.func95 (by kernel_rfl) (A := ann0) (by kernel_rfl) (by simp) (by kernel_rfl) h
def qbU.b (x0 : Int) (H : AH) (k : Sl → AH → Prop) : Prop :=
 qaN x0 H fun b5 H5 => bcase (!b5) (k ⟨none, 0, 0⟩ H5) ((0 ≤ x0 ∧ x0 ≤ x0 ∧ x0 ≤ (lim : Int)) ∧ newC H5 ⟨zerosOf (qk5 x0) [(qkT .u64 (0 : Int))], .rw, 1⟩ fun o8 H8 => qbl x0 false H8 fun n11 H11 => (0 ≤ (0 : Int) ∧ (0 : Int) < (((qk5 x0) : Nat) : Int)) ∧ stC H11 (qkW ⟨o8, 0, none⟩ (qk5 (0 : Int) * 1)) [(qkT .u64 n11)] fun Hs2 => k ⟨(some ⟨o8, 0, none⟩), (qk5 x0), 1⟩ Hs2)
theorem qbU.link {x0 : Int} {H : AH} {k : Sl → AH → Prop} (h : qbU.b x0 H k) : qbU x0 H k := lk1 pan hT hm Tryz.func53 (by kernel_rfl) (A := ann0) (by kernel_rfl) (by simp) (by kernel_rfl) h
def qa5.b (x0 : List Value) (x1 : Int) (H : AH) (k : Int → AH → Prop) : Prop :=
 newC H ⟨x0, .rw, 0⟩ fun o2 H2 => ldA H2 ⟨o2, 0, none⟩ 4 fun c5 => qaA c5 H2 fun b6 H6 => bcase (!b6) (k (-1 : Int) H6) (bcase (decide ((x1 : Int) < (0 : Int))) (k (-1 : Int) H6) (elI .i64 (AH.cell? H6 (qkW ⟨o2, 0, none⟩ 0)) fun n15 => bcase (decide ((x1 : Int) ≥ n15)) (k (-1 : Int) H6) (k (qkU .i64 ((16 : Int) + x1)) H6)))
theorem qa5.link {x0 : List Value} {x1 : Int} {H : AH} {k : Int → AH → Prop} (h : qa5.b x0 x1 H k) : qa5 x0 x1 H k := lk1 pan hT hm Tryz.func55 (by kernel_rfl) (A := ann0) (by kernel_rfl) (by simp) (by kernel_rfl) h
def qaD.j1 (x0 : Option Addr) (H : AH) (k : Int → AH → Prop) (x5 : Bool) : Prop :=
 bcase x5 (k (1 : Int) H) (onPtr x0 fun a22 => elP (AH.cell? H (qkW a22 0)) fun p24 => qV p24 H fun b25 H25 => bcase b25 (k (2 : Int) H25) (k (0 : Int) H25))
def qaD.b (x0 : Option Addr) (x1 : Int) (H : AH) (k : Int → AH → Prop) : Prop :=
 bcase (qlt x0) (qaD.j1 x0 H k true) (bcase (decide ((x1 : Int) < (0 : Int))) (qaD.j1 x0 H k true) (onPtr x0 fun a15 => elI .i64 (AH.cell? H (qkW a15 2)) fun n17 => qaD.j1 x0 H k (decide ((x1 : Int) ≥ n17))))
theorem qaD.link {x0 : Option Addr} {x1 : Int} {H : AH} {k : Int → AH → Prop} (h : qaD.b x0 x1 H k) : qaD x0 x1 H k := lk1 pan hT hm Tryz.func96 (by kernel_rfl) (A := ann0) (by kernel_rfl) (by simp) (by kernel_rfl) h
def qa1.b (x0 : Option Addr) (H : AH) (k : Int → AH → Prop) : Prop :=
 bcase (qlt x0) (k (0 : Int) H) (onPtr x0 fun a9 => elP (AH.cell? H (qkW a9 0)) fun p11 => qD p11 (0 : Int) H fun n12a n12b H12 => k (qkU .i64 n12a) H12)
theorem qa1.link {x0 : Option Addr} {H : AH} {k : Int → AH → Prop} (h : qa1.b x0 H k) : qa1 x0 H k := lk1 pan hT hm Tryz.func99 (by kernel_rfl) (A := ann0) (by kernel_rfl) (by simp) (by kernel_rfl) h
def gap_may.b (x0 : Int) (x1 : Int) (H : AH) (k : Bool → AH → Prop) : Prop :=
 bcase (decide ((x0 : Int) ≥ (1 : Int))) (bcase (decide ((x0 : Int) ≤ (100000 : Int))) (k (decide ((x1 : Int) ≥ (0 : Int))) H) (k false H)) (k false H)
theorem gap_may.link {x0 : Int} {x1 : Int} {H : AH} {k : Bool → AH → Prop} (h : gap_may.b x0 x1 H k) : gap_may x0 x1 H k := lk1 pan hT hm Tryz.func134 (by kernel_rfl) (A := ann0) (by kernel_rfl) (by simp) (by kernel_rfl) h
def qb7.b (x0 : Int) (x1 : Int) (H : AH) (k : Int → AH → Prop) : Prop :=
 ((qkU .i64 (x0 + (1 : Int))) : Int) ≠ 0 ∧ (x0 : Int) ≠ 0 ∧ k (qlW (qkU .i64 (qmf x1 (qkU .i64 (x0 + (1 : Int))))) x0) H
theorem qb7.link {x0 : Int} {x1 : Int} {H : AH} {k : Int → AH → Prop} (h : qb7.b x0 x1 H k) : qb7 x0 x1 H k := lk1 pan hT hm Tryz.func135 (by kernel_rfl) (A := ann0) (by kernel_rfl) (by simp) (by kernel_rfl) h
def gap_Gap.b (x0 : Int) (x1 : Int) (H : AH) (k : Int → AH → Prop) : Prop :=
 gap_may x0 x1 H fun b7 H7 => bcase (!b7) (k (-1 : Int) H7) (((qkU .i64 (x0 + (1 : Int))) : Int) ≠ 0 ∧ k (qkU .i64 (x0 - (qlW x1 (qkU .i64 (x0 + (1 : Int)))))) H7)
theorem gap_Gap.link {x0 : Int} {x1 : Int} {H : AH} {k : Int → AH → Prop} (h : gap_Gap.b x0 x1 H k) : gap_Gap x0 x1 H k := lk1 pan hT hm Tryz.func136 (by kernel_rfl) (A := ann0) (by kernel_rfl) (by simp) (by kernel_rfl) h
def qbt.j1 (x0 : Int) (x1 : Int) (x2 : Int) (k : Int → AH → Prop) (H10 : AH) (x20 : Bool) : Prop :=
 bcase x20 (k (-1 : Int) H10) (qb7 x0 x1 H10 fun n24 H24 => (x0 : Int) ≠ 0 ∧ gap_Gap x0 x1 H24 fun n31 H31 => bcase (decide (((qlW (qkU .i64 (x2 + n24)) x0) : Int) ≥ n31)) (k (qkU .i64 ((qlW (qkU .i64 (x2 + n24)) x0) + (1 : Int))) H31) (k (qlW (qkU .i64 (x2 + n24)) x0) H31))
def qbt.b (x0 : Int) (x1 : Int) (x2 : Int) (H : AH) (k : Int → AH → Prop) : Prop :=
 gap_may x0 x1 H fun b10 H10 => bcase (!b10) (qbt.j1 x0 x1 x2 k H10 true) (bcase (decide ((x2 : Int) < (0 : Int))) (qbt.j1 x0 x1 x2 k H10 true) (qbt.j1 x0 x1 x2 k H10 (decide ((x2 : Int) ≥ x0))))
theorem qbt.link {x0 : Int} {x1 : Int} {x2 : Int} {H : AH} {k : Int → AH → Prop} (h : qbt.b x0 x1 x2 H k) : qbt x0 x1 x2 H k := lk1 pan hT hm Tryz.func98 (by kernel_rfl) (A := ann0) (by kernel_rfl) (by simp) (by kernel_rfl) h
def qan.l1 (x0 : Sl) (x1 : Int) (x2 : Int) (k : Int → AH → Prop) (t4 : Int × Int) (HL4 : AH) (it4 : (Int × Int) → AH → Prop) : Prop :=
 bcase (decide ((t4.2 : Int) ≥ (0 : Int))) ((0 ≤ t4.2 ∧ t4.2 < ((x0.n : Nat) : Int)) ∧ onPtr x0.a fun a24 => elI .u64 (AH.cell? HL4 (qkW a24 (qk5 t4.2 * 1))) fun n25 => bcase ((n25 : Int) == (qkU .u64 ((qkU .u64 x2) + (1 : Int)))) (k (qkU .i64 (x1 + t4.2)) HL4) (it4 (t4.1, (qkU .i64 (t4.2 - (1 : Int)))) HL4)) (k x2 HL4)
def qan.j2 (x0 : Sl) (x1 : Int) (x2 : Int) (H : AH) (k : Int → AH → Prop) (x14 : Bool) : Prop :=
 bcase x14 (k (-1 : Int) H) (loopT (qan.l1 x0 x1 x2 k) (((0 : Int), (qkU .i64 (((x0.n : Nat) : Int) - (1 : Int)))) : Int × Int) H)
def qan.b (x0 : Sl) (x1 : Int) (x2 : Int) (H : AH) (k : Int → AH → Prop) : Prop :=
 bcase (decide ((x2 : Int) < (0 : Int))) (qan.j2 x0 x1 x2 H k true) (qan.j2 x0 x1 x2 H k (decide ((x2 : Int) ≥ x1)))
def qan.ann : Ann := { keep := fun r => match r with | 4 => [(6, .int .i64), (7, .int .i64)] | _ => [], ord := fun r => match r with  | _ => [] }
theorem qan.link {x0 : Sl} {x1 : Int} {x2 : Int} {H : AH} {k : Int → AH → Prop} (h : qan.b x0 x1 x2 H k) : qan x0 x1 x2 H k := lk1 pan hT hm Tryz.func170 (by kernel_rfl) (A := qan.ann) (by kernel_rfl) (by simp) (by kernel_rfl) h
def qac.j1 (x0 : Option Addr) (x1 : Int) (H : AH) (k : Int → Sl → Int → AH → Prop) (x22 : Bool) : Prop :=
 bcase x22 (k (0 : Int) ⟨none, 0, 0⟩ (1 : Int) H) (qE x0 H fun s25a n25b H25 => onPtr x0 fun a30 => elI .i64 (AH.cell? H25 (qkW a30 1)) fun n32 => qan s25a n32 x1 H25 fun n34 H34 => k n34 s25a n25b H34)
def qac.b (x0 : Option Addr) (x1 : Int) (H : AH) (k : Int → Sl → Int → AH → Prop) : Prop :=
 bcase (qlt x0) (qac.j1 x0 x1 H k true) (bcase (decide ((x1 : Int) < (0 : Int))) (qac.j1 x0 x1 H k true) (onPtr x0 fun a18 => elI .i64 (AH.cell? H (qkW a18 1)) fun n20 => qac.j1 x0 x1 H k (decide ((x1 : Int) ≥ n20))))
theorem qac.link {x0 : Option Addr} {x1 : Int} {H : AH} {k : Int → Sl → Int → AH → Prop} (h : qac.b x0 x1 H k) : qac x0 x1 H k := lk3 pan hT hm Tryz.func132 (by kernel_rfl) (A := ann0) (by kernel_rfl) (by simp) (by simp) (by simp) (by kernel_rfl) h
def qaO.b (x0 : Option Addr) (x1 : Int) (H : AH) (k : Bool → AH → Prop) : Prop :=
 bcase (decide ((x1 : Int) ≥ (0 : Int))) (qQ x0 H fun n10 H10 => k (decide ((x1 : Int) < n10)) H10) (k false H)
theorem qaO.link {x0 : Option Addr} {x1 : Int} {H : AH} {k : Bool → AH → Prop} (h : qaO.b x0 x1 H k) : qaO x0 x1 H k := lk1 pan hT hm Tryz.func171 (by kernel_rfl) (A := ann0) (by kernel_rfl) (by simp) (by kernel_rfl) h
def qbd.b (x0 : Option Addr) (x1 : Int) (H : AH) (k : List Value → Int → AH → Prop) : Prop :=
 newC H ⟨[(qkT .u64 (0 : Int)), (qkT .u64 (0 : Int)), (qkT .u64 (0 : Int)), (qkT .u64 (0 : Int)), (qkT .u64 (0 : Int)), (qkT .u64 (0 : Int)), (qkT .u64 (0 : Int)), (qkT .u64 (0 : Int))], .rw, 0⟩ fun o4 H4 => qaO x0 x1 H4 fun b9 H9 => bcase (!b9) ((qk8 [(qkT .u64 (0 : Int)), (qkT .u64 (0 : Int)), (qkT .u64 (0 : Int)), (qkT .u64 (0 : Int)), (qkT .u64 (0 : Int)), (qkT .u64 (0 : Int)), (qkT .u64 (0 : Int)), (qkT .u64 (0 : Int))] = 8 ∧ qly [(qkT .u64 (0 : Int)), (qkT .u64 (0 : Int)), (qkT .u64 (0 : Int)), (qkT .u64 (0 : Int)), (qkT .u64 (0 : Int)), (qkT .u64 (0 : Int)), (qkT .u64 (0 : Int)), (qkT .u64 (0 : Int))] qn = true) ∧ stC H9 ⟨o4, 0, none⟩ [(qkT .u64 (0 : Int)), (qkT .u64 (0 : Int)), (qkT .u64 (0 : Int)), (qkT .u64 (0 : Int)), (qkT .u64 (0 : Int)), (qkT .u64 (0 : Int)), (qkT .u64 (0 : Int)), (qkT .u64 (0 : Int))] fun Hs2 => ldA Hs2 ⟨o4, 0, none⟩ 8 fun r0 => k r0 (1 : Int) Hs2) (onPtr x0 fun a14 => elB (AH.cell? H9 (qkW a14 39)) fun b16 => bcase b16 ((qk8 [(qkT .u64 (0 : Int)), (qkT .u64 (0 : Int)), (qkT .u64 (0 : Int)), (qkT .u64 (0 : Int)), (qkT .u64 (0 : Int)), (qkT .u64 (0 : Int)), (qkT .u64 (0 : Int)), (qkT .u64 (0 : Int))] = 8 ∧ qly [(qkT .u64 (0 : Int)), (qkT .u64 (0 : Int)), (qkT .u64 (0 : Int)), (qkT .u64 (0 : Int)), (qkT .u64 (0 : Int)), (qkT .u64 (0 : Int)), (qkT .u64 (0 : Int)), (qkT .u64 (0 : Int))] qn = true) ∧ stC H9 ⟨o4, 0, none⟩ [(qkT .u64 (0 : Int)), (qkT .u64 (0 : Int)), (qkT .u64 (0 : Int)), (qkT .u64 (0 : Int)), (qkT .u64 (0 : Int)), (qkT .u64 (0 : Int)), (qkT .u64 (0 : Int)), (qkT .u64 (0 : Int))] fun Hs4 => ldA Hs4 ⟨o4, 0, none⟩ 8 fun r0 => k r0 (2 : Int) Hs4) (onPtr x0 fun a19 => elL (AH.cell? H9 (qkW a19 0)) fun s21 => (0 ≤ x1 ∧ x1 < ((s21.n : Nat) : Int)) ∧ onPtr s21.a fun a23 => ldA H9 (qkW (qkW a23 (qk5 x1 * 10)) 0) 8 fun c25 => (qk8 c25 = 8 ∧ qly c25 qn = true) ∧ stC H9 ⟨o4, 0, none⟩ c25 fun Hs6 => ldA Hs6 ⟨o4, 0, none⟩ 8 fun r0 => k r0 (0 : Int) Hs6))
theorem qbd.link {x0 : Option Addr} {x1 : Int} {H : AH} {k : List Value → Int → AH → Prop} (h : qbd.b x0 x1 H k) : qbd x0 x1 H k := lk2 pan hT hm Tryz.func133 (by kernel_rfl) (A := ann0) (by kernel_rfl) (by simp) (by simp) (by kernel_rfl) h
def qbo.b (x0 : Option Addr) (x1 : Int) (H : AH) (k : List Value → Int → AH → Prop) : Prop :=
 newC H ⟨[(qkT .u64 (0 : Int)), (qkT .u64 (0 : Int)), (qkT .u64 (0 : Int)), (qkT .u64 (0 : Int)), (qkT .u64 (0 : Int)), (qkT .u64 (0 : Int)), (qkT .u64 (0 : Int)), (qkT .u64 (0 : Int))], .rw, 0⟩ fun o4 H4 => qac x0 x1 H4 fun n12a s12b n12c H12 => bcase ((n12c : Int) != (0 : Int)) ((qk8 [(qkT .u64 (0 : Int)), (qkT .u64 (0 : Int)), (qkT .u64 (0 : Int)), (qkT .u64 (0 : Int)), (qkT .u64 (0 : Int)), (qkT .u64 (0 : Int)), (qkT .u64 (0 : Int)), (qkT .u64 (0 : Int))] = 8 ∧ qly [(qkT .u64 (0 : Int)), (qkT .u64 (0 : Int)), (qkT .u64 (0 : Int)), (qkT .u64 (0 : Int)), (qkT .u64 (0 : Int)), (qkT .u64 (0 : Int)), (qkT .u64 (0 : Int)), (qkT .u64 (0 : Int))] qn = true) ∧ stC H12 ⟨o4, 0, none⟩ [(qkT .u64 (0 : Int)), (qkT .u64 (0 : Int)), (qkT .u64 (0 : Int)), (qkT .u64 (0 : Int)), (qkT .u64 (0 : Int)), (qkT .u64 (0 : Int)), (qkT .u64 (0 : Int)), (qkT .u64 (0 : Int))] fun Hs2 => ldA Hs2 ⟨o4, 0, none⟩ 8 fun r0 => k r0 n12c Hs2) (onPtr x0 fun a21 => elP (AH.cell? H12 (qkW a21 0)) fun p23 => qbd p23 n12a H12 fun c25a n25b H25 => (qk8 c25a = 8 ∧ qly c25a qn = true) ∧ stC H25 ⟨o4, 0, none⟩ c25a fun Hs4 => ldA Hs4 ⟨o4, 0, none⟩ 8 fun r0 => k r0 n25b Hs4)
theorem qbo.link {x0 : Option Addr} {x1 : Int} {H : AH} {k : List Value → Int → AH → Prop} (h : qbo.b x0 x1 H k) : qbo x0 x1 H k := lk2 pan hT hm Tryz.func97 (by kernel_rfl) (A := ann0) (by kernel_rfl) (by simp) (by simp) (by kernel_rfl) h
def qaF.b (x0 : Option Addr) (x1 : Int) (H : AH) (k : List Value → Int → AH → Prop) : Prop :=
 newC H ⟨[(qkT .u64 (0 : Int)), (qkT .u64 (0 : Int)), (qkT .u64 (0 : Int)), (qkT .u64 (0 : Int)), (qkT .u64 (0 : Int)), (qkT .u64 (0 : Int)), (qkT .u64 (0 : Int)), (qkT .u64 (0 : Int))], .rw, 0⟩ fun o4 H4 => qaD x0 x1 H4 fun n9 H9 => bcase ((n9 : Int) != (0 : Int)) ((qk8 [(qkT .u64 (0 : Int)), (qkT .u64 (0 : Int)), (qkT .u64 (0 : Int)), (qkT .u64 (0 : Int)), (qkT .u64 (0 : Int)), (qkT .u64 (0 : Int)), (qkT .u64 (0 : Int)), (qkT .u64 (0 : Int))] = 8 ∧ qly [(qkT .u64 (0 : Int)), (qkT .u64 (0 : Int)), (qkT .u64 (0 : Int)), (qkT .u64 (0 : Int)), (qkT .u64 (0 : Int)), (qkT .u64 (0 : Int)), (qkT .u64 (0 : Int)), (qkT .u64 (0 : Int))] qn = true) ∧ stC H9 ⟨o4, 0, none⟩ [(qkT .u64 (0 : Int)), (qkT .u64 (0 : Int)), (qkT .u64 (0 : Int)), (qkT .u64 (0 : Int)), (qkT .u64 (0 : Int)), (qkT .u64 (0 : Int)), (qkT .u64 (0 : Int)), (qkT .u64 (0 : Int))] fun Hs2 => ldA Hs2 ⟨o4, 0, none⟩ 8 fun r0 => k r0 n9 Hs2) (onPtr x0 fun a15 => elP (AH.cell? H9 (qkW a15 1)) fun p17 => onPtr x0 fun a19 => elI .i64 (AH.cell? H9 (qkW a19 2)) fun n21 => qa1 x0 H9 fun n23 H23 => AH.cell? H23 (qkW a19 2) = some (qkT .i64 n21) ∧ AH.cell? H23 (qkW a15 1) = some (qkZ p17) ∧ qbt n21 n23 x1 H23 fun n25 H25 => AH.cell? H25 (qkW a15 1) = some (qkZ p17) ∧ qbo p17 n25 H25 fun c26a n26b H26 => (qk8 c26a = 8 ∧ qly c26a qn = true) ∧ stC H26 ⟨o4, 0, none⟩ c26a fun Hs4 => ldA Hs4 ⟨o4, 0, none⟩ 8 fun r0 => k r0 n26b Hs4)
def qaF.ann : Ann := { keep := fun r => match r with  | _ => [], ord := fun r => match r with | 4 => [0, 1, 2, 3, 4, 5, 6, 7, 8, 10, 9, 11, 12, 13, 14, 15, 16] | _ => [] }
theorem qaF.link {x0 : Option Addr} {x1 : Int} {H : AH} {k : List Value → Int → AH → Prop} (h : qaF.b x0 x1 H k) : qaF x0 x1 H k := lk2 pan hT hm Tryz.func54 (by kernel_rfl) (A := qaF.ann) (by kernel_rfl) (by simp) (by simp) (by kernel_rfl) h
def qaW.b (x0 : Sl) (x1 : Int) (H : AH) (k : List Value → AH → Prop) : Prop :=
 newC H ⟨[(qkT .u64 (0 : Int)), (qkT .u64 (0 : Int)), (qkT .u64 (0 : Int)), (qkT .u64 (0 : Int)), (qkT .u64 (0 : Int)), (qkT .u64 (0 : Int)), (qkT .u64 (0 : Int)), (qkT .u64 (0 : Int))], .rw, 0⟩ fun o4 H4 => newC H4 ⟨[(qkT .u64 (0 : Int)), (qkT .u64 (0 : Int)), (qkT .u64 (0 : Int)), (qkT .u64 (0 : Int)), (qkT .u64 (0 : Int)), (qkT .u64 (0 : Int)), (qkT .u64 (0 : Int)), (qkT .u64 (0 : Int))], .rw, 0⟩ fun o5 H5 => (0 ≤ (qkU .i64 (x1 * (8 : Int))) ∧ (qkU .i64 (x1 * (8 : Int))) ≤ ((x0.n : Nat) : Int)) ∧ copyC 1 H5 ⟨(some ⟨o5, 0, none⟩), 8, 0⟩ ⟨(Option.map (fun x => qkW x (qk5 (qkU .i64 (x1 * (8 : Int))) * 1)) x0.a), (x0.n - qk5 (qkU .i64 (x1 * (8 : Int)))), 0⟩ fun n11 H11 => ldA H11 ⟨o5, 0, none⟩ 8 fun c12 => (qk8 c12 = 8 ∧ qly c12 qn = true) ∧ stC H11 ⟨o4, 0, none⟩ c12 fun Hs2 => ldA Hs2 ⟨o4, 0, none⟩ 8 fun r0 => k r0 Hs2
def qaW.ann : Ann := { keep := fun r => match r with  | _ => [], ord := fun r => match r with | 2 => [0, 1, 2, 3, 4, 5] | _ => [] }
theorem qaW.link {x0 : Sl} {x1 : Int} {H : AH} {k : List Value → AH → Prop} (h : qaW.b x0 x1 H k) : qaW x0 x1 H k := lk1 pan hT hm Tryz.func56 (by kernel_rfl) (A := qaW.ann) (by kernel_rfl) (by simp) (by kernel_rfl) h
def qcs.b (x0 : Int) (x1 : Int) (H : AH) (k : Int → Int → AH → Prop) : Prop :=
 gap_Gap x0 x1 H fun n8 H8 => bcase ((n8 : Int) == (-1 : Int)) (k (-1 : Int) (-1 : Int) H8) (bcase ((n8 : Int) == (0 : Int)) (k x0 (0 : Int) H8) (k (qkU .i64 (n8 - (1 : Int))) n8 H8))
theorem qcs.link {x0 : Int} {x1 : Int} {H : AH} {k : Int → Int → AH → Prop} (h : qcs.b x0 x1 H k) : qcs x0 x1 H k := lk2 pan hT hm Tryz.func137 (by kernel_rfl) (A := ann0) (by kernel_rfl) (by simp) (by simp) (by kernel_rfl) h
def qax.b (x0 : Option Addr) (H : AH) (k : Int → AH → Prop) : Prop :=
 onPtr x0 fun a4 => elI .i64 (AH.cell? H (qkW a4 36)) fun n6 => onPtr x0 fun a8 => stC H (qkW a8 36) [(qkT .i64 (qkU .i64 (n6 + (1 : Int))))] fun Hs2 => onPtr x0 fun a12 => elI .i64 (AH.cell? Hs2 (qkW a12 37)) fun n14 => bcase ((n14 : Int) == (0 : Int)) (onPtr x0 fun a17 => stC Hs2 (qkW a17 39) [(qlS true)] fun Hs4 => onPtr x0 fun a20 => elI .i64 (AH.cell? Hs4 (qkW a20 38)) fun n22 => k n22 Hs4) (onPtr x0 fun a25 => elI .i64 (AH.cell? Hs2 (qkW a25 37)) fun n27 => bcase (decide ((n27 : Int) > (0 : Int))) (onPtr x0 fun a30 => elI .i64 (AH.cell? Hs2 (qkW a30 37)) fun n32 => onPtr x0 fun a34 => stC Hs2 (qkW a34 37) [(qkT .i64 (qkU .i64 (n32 - (1 : Int))))] fun Hs6 => k (-1 : Int) Hs6) (k (-1 : Int) Hs2))
theorem qax.link {x0 : Option Addr} {H : AH} {k : Int → AH → Prop} (h : qax.b x0 H k) : qax x0 H k := lk1 pan hT hm Tryz.func156 (by kernel_rfl) (A := ann0) (by kernel_rfl) (by simp) (by kernel_rfl) h
def qbj.j1 (k : List Value → AH → Prop) (o3 : Nat) (o6 : Nat) (HL2 : AH) : Prop :=
 ldA HL2 ⟨o3, 0, none⟩ 8 fun c23 => (qk8 c23 = 8 ∧ qly c23 qn = true) ∧ stC HL2 ⟨o6, 0, none⟩ c23 fun Hs2 => ldA Hs2 ⟨o6, 0, none⟩ 8 fun r0 => k r0 Hs2
def qbj.l2 (x2 : Int) (k : List Value → AH → Prop) (o3 : Nat) (o6 : Nat) (c9 : List Value) (t2 : Int) (HL2 : AH) (it2 : (Int) → AH → Prop) : Prop :=
 bcase (decide ((t2 : Int) < (8 : Int))) ((0 ≤ t2 ∧ t2 < ((8 : Nat) : Int)) ∧ elI .u64 ((c9)[(qk5 t2 * 1)]?) fun n13 => (0 : Int) ≤ t2 ∧ bcase (((andI .i64 (shrI .i64 x2 t2) (1 : Int)) : Int) == (1 : Int)) ((0 ≤ t2 ∧ t2 < ((8 : Nat) : Int)) ∧ stC HL2 (qkW ⟨o3, 0, none⟩ (qk5 t2 * 1)) [(qkT .u64 n13)] fun Hs4 => it2 (qkU .i64 (t2 + (1 : Int))) Hs4) (it2 (qkU .i64 (t2 + (1 : Int))) HL2)) (qbj.j1 k o3 o6 HL2)
def qbj.b (x0 : List Value) (x1 : List Value) (x2 : Int) (H : AH) (k : List Value → AH → Prop) : Prop :=
 newC H ⟨x0, .rw, 0⟩ fun o3 H3 => newC H3 ⟨x1, .rw, 0⟩ fun o4 H4 => newC H4 ⟨[(qkT .u64 (0 : Int)), (qkT .u64 (0 : Int)), (qkT .u64 (0 : Int)), (qkT .u64 (0 : Int)), (qkT .u64 (0 : Int)), (qkT .u64 (0 : Int)), (qkT .u64 (0 : Int)), (qkT .u64 (0 : Int))], .rw, 0⟩ fun o6 H6 => ldA H6 ⟨o4, 0, none⟩ 8 fun c9 => loopT (qbj.l2 x2 k o3 o6 c9) (((0 : Int)) : Int) H6
def qbj.ann : Ann := { keep := fun r => match r with | 2 => [(10, .int .i64)] | _ => [], ord := fun r => match r with  | _ => [] }
theorem qbj.link {x0 : List Value} {x1 : List Value} {x2 : Int} {H : AH} {k : List Value → AH → Prop} (h : qbj.b x0 x1 x2 H k) : qbj x0 x1 x2 H k := lk1 pan hT hm Tryz.func172 (by kernel_rfl) (A := qbj.ann) (by kernel_rfl) (by simp) (by kernel_rfl) h
def qao.b (x0 : Option Addr) (x1 : Bool) (H : AH) (k : Int → AH → Prop) : Prop :=
 onPtr x0 fun a7 => elB (AH.cell? H (qkW a7 39)) fun b9 => bcase b9 (k (2 : Int) H) (bcase x1 (k (3 : Int) H) (k (0 : Int) H))
theorem qao.link {x0 : Option Addr} {x1 : Bool} {H : AH} {k : Int → AH → Prop} (h : qao.b x0 x1 H k) : qao x0 x1 H k := lk1 pan hT hm Tryz.func157 (by kernel_rfl) (A := ann0) (by kernel_rfl) (by simp) (by kernel_rfl) h
def qJ.j1 (x0 : Option Addr) (k : Int → AH → Prop) (x9 : Bool) (Hj : AH) : Prop :=
 qao x0 x9 Hj fun n65 H65 => k n65 H65
def qJ.j2 (x0 : Option Addr) (x1 : Int) (k : Int → AH → Prop) (o5 : Nat) (H21 : AH) (n21 : Int) (a27 : Addr) (x9 : Bool) : Prop :=
 bcase (!x9) (ldA H21 (qkW (qkW a27 (qk5 x1 * 10)) 0) 8 fun c50 => ldA H21 ⟨o5, 0, none⟩ 8 fun c51 => qbj c50 c51 n21 H21 fun c53 H53 => (qk8 c53 = 8 ∧ qly c53 qn = true) ∧ stC H53 (qkW (qkW a27 (qk5 x1 * 10)) 0) c53 fun Hs2 => elI .i64 (AH.cell? Hs2 (qkW (qkW a27 (qk5 x1 * 10)) 8)) fun n59 => stC Hs2 (qkW (qkW a27 (qk5 x1 * 10)) 8) [(qkT .i64 (qkU .i64 (n59 + (1 : Int))))] fun Hs4 => qJ.j1 x0 k x9 Hs4) (qJ.j1 x0 k x9 H21)
def qJ.b (x0 : Option Addr) (x1 : Int) (x2 : List Value) (H : AH) (k : Int → AH → Prop) : Prop :=
 newC H ⟨x2, .rw, 0⟩ fun o5 H5 => qaO x0 x1 H5 fun b13 H13 => bcase (!b13) (k (1 : Int) H13) (onPtr x0 fun a17 => elB (AH.cell? H13 (qkW a17 39)) fun b19 => bcase b19 (k (2 : Int) H13) (qax x0 H13 fun n21 H21 => onPtr x0 fun a23 => elL (AH.cell? H21 (qkW a23 0)) fun s25 => (0 ≤ x1 ∧ x1 < ((s25.n : Nat) : Int)) ∧ onPtr s25.a fun a27 => elI .i64 (AH.cell? H21 (qkW (qkW a27 (qk5 x1 * 10)) 9)) fun n31 => bcase (decide ((n31 : Int) ≥ (0 : Int))) (elI .i64 (AH.cell? H21 (qkW (qkW a27 (qk5 x1 * 10)) 8)) fun n37 => elI .i64 (AH.cell? H21 (qkW (qkW a27 (qk5 x1 * 10)) 9)) fun n41 => qJ.j2 x0 x1 k o5 H21 n21 a27 (decide ((n37 : Int) ≥ n41))) (qJ.j2 x0 x1 k o5 H21 n21 a27 false)))
def qJ.ann : Ann := { keep := fun r => match r with  | _ => [], ord := fun r => match r with | 7 => [0, 1, 2, 3, 4, 5, 6, 7, 8, 9, 10, 11, 12, 13, 14, 15, 16] | 9 => [0, 1, 2, 3, 4, 5, 6, 7, 8, 9, 10] | _ => [] }
theorem qJ.link {x0 : Option Addr} {x1 : Int} {x2 : List Value} {H : AH} {k : Int → AH → Prop} (h : qJ.b x0 x1 x2 H k) : qJ x0 x1 x2 H k := lk1 pan hT hm Tryz.func138 (by kernel_rfl) (A := qJ.ann) (by kernel_rfl) (by simp) (by kernel_rfl) h
def qa6.l1 (x0 : Sl) (k : Int → AH → Prop) (t2 : Int × Int) (HL2 : AH) (it2 : (Int × Int) → AH → Prop) : Prop :=
 bcase (decide ((t2.2 : Int) < ((x0.n : Nat) : Int))) ((0 ≤ t2.2 ∧ t2.2 < ((x0.n : Nat) : Int)) ∧ onPtr x0.a fun a10 => elI .u64 (AH.cell? HL2 (qkW a10 (qk5 t2.2 * 1))) fun n11 => bcase ((n11 : Int) == (0 : Int)) (k t2.2 HL2) (it2 (t2.1, (qkU .i64 (t2.2 + (1 : Int)))) HL2)) (k (-1 : Int) HL2)
def qa6.b (x0 : Sl) (H : AH) (k : Int → AH → Prop) : Prop :=
 loopT (qa6.l1 x0 k) (((0 : Int), (0 : Int)) : Int × Int) H
def qa6.ann : Ann := { keep := fun r => match r with | 2 => [(2, .int .i64), (7, .int .i64)] | _ => [], ord := fun r => match r with  | _ => [] }
theorem qa6.link {x0 : Sl} {H : AH} {k : Int → AH → Prop} (h : qa6.b x0 H k) : qa6 x0 H k := lk1 pan hT hm Tryz.func139 (by kernel_rfl) (A := qa6.ann) (by kernel_rfl) (by simp) (by kernel_rfl) h
def qA.j1 (x0 : Option Addr) (k : Int → AH → Prop) (Hj : AH) : Prop :=
 qao x0 false Hj fun n28 H28 => k n28 H28
def qA.b (x0 : Option Addr) (x1 : Int) (x2 : Int) (H : AH) (k : Int → AH → Prop) : Prop :=
 qar x0 x1 H fun b10 H10 => bcase (!b10) (k (1 : Int) H10) (onPtr x0 fun a14 => elB (AH.cell? H10 (qkW a14 39)) fun b16 => bcase b16 (k (2 : Int) H10) (qax x0 H10 fun n18 H18 => bcase (((andI .i64 n18 (1 : Int)) : Int) == (1 : Int)) (onPtr x0 fun a24 => (0 ≤ x1 ∧ x1 < ((35 : Nat) : Int)) ∧ stC H18 (qkW (qkW a24 1) (qk5 x1 * 1)) [(qkT .u64 x2)] fun Hs2 => qA.j1 x0 k Hs2) (qA.j1 x0 k H18)))
theorem qA.link {x0 : Option Addr} {x1 : Int} {x2 : Int} {H : AH} {k : Int → AH → Prop} (h : qA.b x0 x1 x2 H k) : qA x0 x1 x2 H k := lk1 pan hT hm Tryz.func118 (by kernel_rfl) (A := ann0) (by kernel_rfl) (by simp) (by kernel_rfl) h
def qaj.l1 (x0 : Option Addr) (x1 : Int) (k : Int → AH → Prop) (o5 : Nat) (t11 : Int × Int) (HL11 : AH) (it11 : (Int × Int) → AH → Prop) : Prop :=
 onPtr x0 fun a43 => elI .i64 (AH.cell? HL11 (qkW a43 2)) fun n45 => bcase (decide ((t11.2 : Int) < n45)) (onPtr x0 fun a53 => elP (AH.cell? HL11 (qkW a53 0)) fun p55 => onPtr x0 fun a57 => elI .i64 (AH.cell? HL11 (qkW a57 1)) fun n59 => ldA HL11 ⟨o5, 0, none⟩ 8 fun c62 => qJ p55 (qkU .i64 (n59 + t11.2)) c62 HL11 fun n63 H63 => bcase ((n63 : Int) == (0 : Int)) (onPtr x0 fun a69 => elP (AH.cell? H63 (qkW a69 0)) fun p71 => qA p71 (qkU .i64 ((3 : Int) + t11.2)) (qkU .u64 ((qkU .u64 x1) + (1 : Int))) H63 fun n75 H75 => k n75 H75) (bcase ((n63 : Int) == (3 : Int)) (onPtr x0 fun a79 => elI .i64 (AH.cell? H63 (qkW a79 1)) fun n81 => qbJ n81 H63 fun n82 H82 => onPtr x0 fun a84 => elP (AH.cell? H82 (qkW a84 0)) fun p86 => qA p86 (qkU .i64 ((3 : Int) + t11.2)) n82 H82 fun n90 H90 => bcase ((n90 : Int) != (0 : Int)) (k n90 H90) (it11 (t11.1, (qkU .i64 (t11.2 + (1 : Int)))) H90)) (k n63 H63))) (k (3 : Int) HL11)
def qaj.b (x0 : Option Addr) (x1 : Int) (x2 : List Value) (H : AH) (k : Int → AH → Prop) : Prop :=
 newC H ⟨x2, .rw, 0⟩ fun o5 H5 => qac x0 x1 H5 fun n19a s19b n19c H19 => bcase ((n19c : Int) != (0 : Int)) (k n19c H19) (onPtr x0 fun a27 => elP (AH.cell? H19 (qkW a27 0)) fun p29 => ldA H19 ⟨o5, 0, none⟩ 8 fun c31 => qJ p29 n19a c31 H19 fun n32 H32 => bcase ((n32 : Int) != (3 : Int)) (k n32 H32) (qa6 s19b H32 fun n37 H37 => bcase (decide ((n37 : Int) < (0 : Int))) (k (3 : Int) H37) (loopT (qaj.l1 x0 x1 k o5) (((0 : Int), n37) : Int × Int) H37)))
def qaj.ann : Ann := { keep := fun r => match r with | 11 => [(6, .int .i64), (12, .int .i64)] | _ => [], ord := fun r => match r with | 4 => [0, 1, 2, 3, 4, 5, 6, 7] | 14 => [0, 1, 2, 3, 4, 5, 6, 7, 8, 9, 10, 11, 12] | _ => [] }
theorem qaj.link {x0 : Option Addr} {x1 : Int} {x2 : List Value} {H : AH} {k : Int → AH → Prop} (h : qaj.b x0 x1 x2 H k) : qaj x0 x1 x2 H k := lk1 pan hT hm Tryz.func101 (by kernel_rfl) (A := qaj.ann) (by kernel_rfl) (by simp) (by kernel_rfl) h
def qbe.b (x0 : Option Addr) (H : AH) (k : Int → AH → Prop) : Prop :=
 qa1 x0 H fun n10 H10 => onPtr x0 fun a13 => elI .i64 (AH.cell? H10 (qkW a13 2)) fun n15 => qcs n15 n10 H10 fun n17a n17b H17 => onPtr x0 fun a22 => elP (AH.cell? H17 (qkW a22 1)) fun p24 => qbo p24 n17a H17 fun c26a n26b H26 => newC H26 ⟨[(qkT .u64 (0 : Int)), (qkT .u64 (0 : Int)), (qkT .u64 (0 : Int)), (qkT .u64 (0 : Int)), (qkT .u64 (0 : Int)), (qkT .u64 (0 : Int)), (qkT .u64 (0 : Int)), (qkT .u64 (0 : Int))], .rw, 0⟩ fun o6 H6 => (qk8 c26a = 8 ∧ qly c26a qn = true) ∧ stC H6 ⟨o6, 0, none⟩ c26a fun Hs2 => bcase ((n26b : Int) != (0 : Int)) (k n26b Hs2) (onPtr x0 fun a33 => elP (AH.cell? Hs2 (qkW a33 1)) fun p35 => ldA Hs2 ⟨o6, 0, none⟩ 8 fun c37 => qaj p35 n17b c37 Hs2 fun n38 H38 => bcase ((n38 : Int) != (0 : Int)) (k n38 H38) (onPtr x0 fun a43 => elP (AH.cell? H38 (qkW a43 0)) fun p45 => qA p45 (0 : Int) (qkU .u64 ((qkU .u64 n10) + (1 : Int))) H38 fun n49 H49 => k n49 H49))
def qbe.ann : Ann := { keep := fun r => match r with  | _ => [], ord := fun r => match r with | 6 => [0, 1, 2, 3, 4, 5, 6, 7] | _ => [] }
theorem qbe.link {x0 : Option Addr} {H : AH} {k : Int → AH → Prop} (h : qbe.b x0 H k) : qbe x0 H k := lk1 pan hT hm Tryz.func100 (by kernel_rfl) (A := qbe.ann) (by kernel_rfl) (by simp) (by kernel_rfl) h
def qal.j1 (x0 : Option Addr) (x1 : Int) (k : Int → AH → Prop) (o5 : Nat) (Hj : AH) : Prop :=
 onPtr x0 fun a40 => elP (AH.cell? Hj (qkW a40 1)) fun p42 => onPtr x0 fun a44 => elI .i64 (AH.cell? Hj (qkW a44 2)) fun n46 => ldA Hj ⟨o5, 0, none⟩ 8 fun c51 => qa1 x0 Hj fun n48 H48 => AH.row? H48 ⟨o5, 0, none⟩ 8 = some c51 ∧ AH.cell? H48 (qkW a44 2) = some (qkT .i64 n46) ∧ AH.cell? H48 (qkW a40 1) = some (qkZ p42) ∧ qbt n46 n48 x1 H48 fun n50 H50 => AH.row? H50 ⟨o5, 0, none⟩ 8 = some c51 ∧ AH.cell? H50 (qkW a40 1) = some (qkZ p42) ∧ qaj p42 n50 c51 H50 fun n52 H52 => k n52 H52
def qal.b (x0 : Option Addr) (x1 : Int) (x2 : List Value) (H : AH) (k : Int → AH → Prop) : Prop :=
 newC H ⟨x2, .rw, 0⟩ fun o5 H5 => qaD x0 x1 H5 fun n11 H11 => bcase ((n11 : Int) != (0 : Int)) (k n11 H11) (onPtr x0 fun a16 => elI .i64 (AH.cell? H11 (qkW a16 4)) fun n18 => onPtr x0 fun a20 => stC H11 (qkW a20 4) [(qkT .i64 (qkU .i64 (n18 + (1 : Int))))] fun Hs2 => onPtr x0 fun a23 => elI .i64 (AH.cell? Hs2 (qkW a23 4)) fun n25 => onPtr x0 fun a27 => elI .i64 (AH.cell? Hs2 (qkW a27 3)) fun n29 => bcase ((n25 : Int) == n29) (onPtr x0 fun a32 => stC Hs2 (qkW a32 4) [(qkT .i64 (0 : Int))] fun Hs4 => qbe x0 Hs4 fun n35 H35 => bcase ((n35 : Int) != (0 : Int)) (k n35 H35) (qal.j1 x0 x1 k o5 H35)) (qal.j1 x0 x1 k o5 Hs2))
def qal.ann : Ann := { keep := fun r => match r with  | _ => [], ord := fun r => match r with | 5 => [0, 1, 2, 3, 4, 5, 6, 7, 8] | 10 => [0, 1, 2, 3, 4, 5, 6, 7, 8, 10, 12, 9, 11, 13, 14] | _ => [] }
theorem qal.link {x0 : Option Addr} {x1 : Int} {x2 : List Value} {H : AH} {k : Int → AH → Prop} (h : qal.b x0 x1 x2 H k) : qal x0 x1 x2 H k := lk1 pan hT hm Tryz.func57 (by kernel_rfl) (A := qal.ann) (by kernel_rfl) (by simp) (by kernel_rfl) h
def qF.j1 (k : Int → AH → Prop) (t14 : Int × Int) (it14 : (Int × Int) → AH → Prop) (x13 : Int) (Hj : AH) : Prop :=
 bcase ((x13 : Int) != (0 : Int)) (k x13 Hj) (it14 (t14.1, (qkU .i64 (t14.2 + (1 : Int)))) Hj)
def qF.j2 (k : Int → AH → Prop) (o3 : Nat) (p34 : Option Addr) (s37 : Sl) (t14 : Int × Int) (it14 : (Int × Int) → AH → Prop) (n48b : Int) (x59 : Bool) (Hj : AH) : Prop :=
 bcase x59 (ldA Hj ⟨o3, 0, none⟩ 4 fun c61 => qa5 c61 t14.2 Hj fun n63 H63 => qaW s37 t14.2 H63 fun c66 H66 => qal p34 n63 c66 H66 fun n67 H67 => qF.j1 k t14 it14 n67 H67) (qF.j1 k t14 it14 n48b Hj)
def qF.l3 (k : Int → AH → Prop) (o3 : Nat) (p34 : Option Addr) (s37 : Sl) (n39 : Int) (t14 : Int × Int) (HL14 : AH) (it14 : (Int × Int) → AH → Prop) : Prop :=
 bcase (decide ((t14.2 : Int) < n39)) (ldA HL14 ⟨o3, 0, none⟩ 4 fun c45 => qa5 c45 t14.2 HL14 fun n47 H47 => qaF p34 n47 H47 fun c48a n48b H48 => newC H48 ⟨[(qkT .u64 (0 : Int)), (qkT .u64 (0 : Int)), (qkT .u64 (0 : Int)), (qkT .u64 (0 : Int)), (qkT .u64 (0 : Int)), (qkT .u64 (0 : Int)), (qkT .u64 (0 : Int)), (qkT .u64 (0 : Int))], .rw, 0⟩ fun o12 H12 => (qk8 c48a = 8 ∧ qly c48a qn = true) ∧ stC H12 ⟨o12, 0, none⟩ c48a fun Hs2 => bcase ((n48b : Int) == (0 : Int)) (ldA Hs2 ⟨o12, 0, none⟩ 8 fun c54 => qaW s37 t14.2 Hs2 fun c57 H57 => AH.row? H57 ⟨o12, 0, none⟩ 8 = some c54 ∧ elO (eqCells (List.replicate 8 (K.int .u64)) c54 c57) fun e58 => qF.j2 k o3 p34 s37 t14 it14 n48b (!e58) H57) (qF.j2 k o3 p34 s37 t14 it14 n48b false Hs2)) (k (0 : Int) HL14)
def qF.j4 (x0 : Option Addr) (k : Int → AH → Prop) (o3 : Nat) (t5 : Int × Int) (HL5 : AH) : Prop :=
 ldA HL5 ⟨o3, 0, none⟩ 4 fun c33 => qbn x0 c33 HL5 fun p34 H34 => ldA H34 ⟨o3, 0, none⟩ 4 fun c35 => qb3 c35 H34 fun n36 H36 => qbU n36 H36 fun s37 H37 => elI .i64 (AH.cell? H37 (qkW ⟨o3, 0, none⟩ 0)) fun n39 => loopT (qF.l3 k o3 p34 s37 n39) ((t5.1, (0 : Int)) : Int × Int) H37
def qF.l5 (x0 : Option Addr) (k : Int → AH → Prop) (o3 : Nat) (t5 : Int × Int) (HL5 : AH) (it5 : (Int × Int) → AH → Prop) : Prop :=
 bcase (decide ((t5.2 : Int) < (35 : Int))) (qD x0 t5.2 HL5 fun n26a n26b H26 => bcase ((n26a : Int) != (0 : Int)) (k (5 : Int) H26) (it5 (t5.1, (qkU .i64 (t5.2 + (1 : Int)))) H26)) (qF.j4 x0 k o3 t5 HL5)
def qF.b (x0 : Option Addr) (x1 : List Value) (H : AH) (k : Int → AH → Prop) : Prop :=
 newC H ⟨x1, .rw, 0⟩ fun o3 H3 => ldA H3 ⟨o3, 0, none⟩ 4 fun c15 => qbk x0 c15 H3 fun n16 H16 => bcase ((n16 : Int) != (0 : Int)) (k n16 H16) (loopT (qF.l5 x0 k o3) (((0 : Int), (0 : Int)) : Int × Int) H16)
def qF.ann : Ann := { keep := fun r => match r with | 5 => [(4, .int .i64), (20, .int .i64)] | 14 => [(4, .int .i64), (40, .int .i64)] | _ => [], ord := fun r => match r with | 17 => [0, 1, 2, 3, 4, 5, 6, 7, 8] | _ => [] }
theorem qF.link {x0 : Option Addr} {x1 : List Value} {H : AH} {k : Int → AH → Prop} (h : qF.b x0 x1 H k) : qF x0 x1 H k := lk1 pan hT hm Tryz.func16 (by kernel_rfl) (A := qF.ann) (by kernel_rfl) (by simp) (by kernel_rfl) h
def qav.b (x0 : Option Addr) (H : AH) (k : Int → AH → Prop) : Prop :=
 bcase (qlt x0) (k (0 : Int) H) (onPtr x0 fun a6 => elI .i64 (AH.cell? H (qkW a6 2)) fun n8 => k n8 H)
theorem qav.link {x0 : Option Addr} {H : AH} {k : Int → AH → Prop} (h : qav.b x0 H k) : qav x0 H k := lk1 pan hT hm Tryz.func102 (by kernel_rfl) (A := ann0) (by kernel_rfl) (by simp) (by kernel_rfl) h
def log_New.j1 (x0 : Option Addr) (x1 : Option Addr) (k : Option Addr → AH → Prop) (x15 : Bool) (Hj : AH) : Prop :=
 bcase x15 (k none Hj) (newC Hj ⟨[(qkZ x0), (qkZ x1)], .rw, 0⟩ fun o19 H19 => k (some ⟨o19, 0, none⟩) H19)
def log_New.b (x0 : Option Addr) (x1 : Option Addr) (H : AH) (k : Option Addr → AH → Prop) : Prop :=
 bcase (qlt x0) (log_New.j1 x0 x1 k true H) (bcase (qlt x1) (log_New.j1 x0 x1 k true H) (qav x1 H fun n13 H13 => log_New.j1 x0 x1 k (decide ((n13 : Int) ≤ (16 : Int))) H13))
theorem log_New.link {x0 : Option Addr} {x1 : Option Addr} {H : AH} {k : Option Addr → AH → Prop} (h : log_New.b x0 x1 H k) : log_New x0 x1 H k := lk1 pan hT hm Tryz.func58 (by kernel_rfl) (A := ann0) (by kernel_rfl) (by simp) (by kernel_rfl) h
def qbY.b (x0 : Int) (H : AH) (k : Int → AH → Prop) : Prop :=
 ((8 : Int) : Int) ≠ 0 ∧ k (qkU .i64 (qmf (qkU .i64 ((qkU .i64 (x0 + (8 : Int))) - (1 : Int))) (8 : Int))) H
theorem qbY.link {x0 : Int} {H : AH} {k : Int → AH → Prop} (h : qbY.b x0 H k) : qbY x0 H k := lk1 pan hT hm Tryz.func141 (by kernel_rfl) (A := ann0) (by kernel_rfl) (by simp) (by kernel_rfl) h
def qaa.j1 (t8 : Sl × Int × Sl × Int) (it8 : (Sl × Int × Sl × Int) → AH → Prop) (o10 : Nat) (H71 : AH) (x11 : Int) : Prop :=
 ldA H71 ⟨o10, 0, none⟩ 8 fun c78 => (qk8 c78 = 8) ∧ (qk8 (setMany [(qkT .i64 x11), (qkT .u64 (0 : Int)), (qkT .u64 (0 : Int)), (qkT .u64 (0 : Int)), (qkT .u64 (0 : Int)), (qkT .u64 (0 : Int)), (qkT .u64 (0 : Int)), (qkT .u64 (0 : Int)), (qkT .u64 (0 : Int))] 1 c78) = 9) ∧ newC H71 ⟨(setMany [(qkT .i64 (0 : Int)), (qkT .u64 (0 : Int)), (qkT .u64 (0 : Int)), (qkT .u64 (0 : Int)), (qkT .u64 (0 : Int)), (qkT .u64 (0 : Int)), (qkT .u64 (0 : Int)), (qkT .u64 (0 : Int)), (qkT .u64 (0 : Int))] 0 (setMany [(qkT .i64 x11), (qkT .u64 (0 : Int)), (qkT .u64 (0 : Int)), (qkT .u64 (0 : Int)), (qkT .u64 (0 : Int)), (qkT .u64 (0 : Int)), (qkT .u64 (0 : Int)), (qkT .u64 (0 : Int)), (qkT .u64 (0 : Int))] 1 c78)), .rw, 9⟩ fun o80 H80 => appendC 9 H80 t8.2.2.1 ⟨(some ⟨o80, 0, none⟩), 1, 1⟩ fun s81 H81 => it8 (t8.1, t8.2.1, s81, (qkU .i64 (t8.2.2.2 + (1 : Int)))) H81
def qaa.l2 (x0 : Option Addr) (k : Sl → Int → AH → Prop) (n18a : Int) (t8 : Sl × Int × Sl × Int) (HL8 : AH) (it8 : (Sl × Int × Sl × Int) → AH → Prop) : Prop :=
 bcase (decide ((t8.2.2.2 : Int) < (qkU .i64 n18a))) (onPtr x0 fun a35 => elP (AH.cell? HL8 (qkW a35 1)) fun p37 => ((8 : Int) : Int) ≠ 0 ∧ qaF p37 (qkU .i64 (qmf t8.2.2.2 (8 : Int))) HL8 fun c40a n40b H40 => newC H40 ⟨[(qkT .u64 (0 : Int)), (qkT .u64 (0 : Int)), (qkT .u64 (0 : Int)), (qkT .u64 (0 : Int)), (qkT .u64 (0 : Int)), (qkT .u64 (0 : Int)), (qkT .u64 (0 : Int)), (qkT .u64 (0 : Int))], .rw, 0⟩ fun o8 H8 => (qk8 c40a = 8 ∧ qly c40a qn = true) ∧ stC H8 ⟨o8, 0, none⟩ c40a fun Hs2 => bcase ((n40b : Int) != (0 : Int)) (k ⟨none, 0, 0⟩ n40b Hs2) (onPtr x0 fun a48 => elP (AH.cell? Hs2 (qkW a48 1)) fun p50 => newC Hs2 ⟨[(qkT .u64 (0 : Int)), (qkT .u64 (0 : Int)), (qkT .u64 (0 : Int)), (qkT .u64 (0 : Int)), (qkT .u64 (0 : Int)), (qkT .u64 (0 : Int)), (qkT .u64 (0 : Int)), (qkT .u64 (0 : Int))], .rw, 0⟩ fun o10 H10 => qbY (qkU .i64 n18a) H10 fun n53 H53 => AH.cell? H53 (qkW a48 1) = some (qkZ p50) ∧ qaF p50 (qkU .i64 (n53 + t8.2.2.2)) H53 fun c56a n56b H56 => (qk8 c56a = 8 ∧ qly c56a qn = true) ∧ stC H56 ⟨o10, 0, none⟩ c56a fun Hs4 => bcase ((n56b : Int) != (0 : Int)) (k ⟨none, 0, 0⟩ n56b Hs4) (((8 : Int) : Int) ≠ 0 ∧ (0 ≤ (qlW t8.2.2.2 (8 : Int)) ∧ (qlW t8.2.2.2 (8 : Int)) < ((8 : Nat) : Int)) ∧ elI .u64 (AH.cell? Hs4 (qkW ⟨o8, 0, none⟩ (qk5 (qlW t8.2.2.2 (8 : Int)) * 1))) fun n65 => onPtr x0 fun a68 => elP (AH.cell? Hs4 (qkW a68 1)) fun p70 => qav p70 Hs4 fun n71 H71 => bcase (decide ((n65 : Int) < (qkU .u64 n71))) (qaa.j1 t8 it8 o10 H71 (qkU .i64 n65)) (qaa.j1 t8 it8 o10 H71 (-1 : Int))))) (k t8.2.2.1 (0 : Int) HL8)
def qaa.b (x0 : Option Addr) (H : AH) (k : Sl → Int → AH → Prop) : Prop :=
 onPtr x0 fun a15 => elP (AH.cell? H (qkW a15 0)) fun p17 => qD p17 (1 : Int) H fun n18a n18b H18 => bcase ((n18b : Int) != (0 : Int)) (k ⟨none, 0, 0⟩ n18b H18) (bcase (decide ((n18a : Int) > (14 : Int))) (k ⟨none, 0, 0⟩ (6 : Int) H18) (loopT (qaa.l2 x0 k n18a) ((⟨none, 0, 0⟩, (0 : Int), ⟨none, 0, 0⟩, (0 : Int)) : Sl × Int × Sl × Int) H18))
def qaa.ann : Ann := { keep := fun r => match r with | 8 => [(2, .sl), (3, .int .i64), (6, .sl), (30, .int .i64)] | _ => [], ord := fun r => match r with | 13 => [0, 1, 2, 3, 4, 5, 7, 13, 6, 8, 9, 10, 11, 12, 14, 15] | _ => [] }
theorem qaa.link {x0 : Option Addr} {H : AH} {k : Sl → Int → AH → Prop} (h : qaa.b x0 H k) : qaa x0 H k := lk2 pan hT hm Tryz.func103 (by kernel_rfl) (A := qaa.ann) (by kernel_rfl) (by simp) (by simp) (by kernel_rfl) h
def qaf.j1 (x0 : Option Addr) (k : Int → AH → Prop) (HL2 : AH) : Prop :=
 onPtr x0 fun a31 => elP (AH.cell? HL2 (qkW a31 0)) fun p33 => qA p33 (1 : Int) (0 : Int) HL2 fun n34 H34 => k n34 H34
def qaf.l2 (x0 : Option Addr) (x1 : Sl) (k : Int → AH → Prop) (t2 : Int × Int) (HL2 : AH) (it2 : (Int × Int) → AH → Prop) : Prop :=
 bcase (decide ((t2.2 : Int) < ((x1.n : Nat) : Int))) ((0 ≤ t2.2 ∧ t2.2 < ((x1.n : Nat) : Int)) ∧ onPtr x1.a fun a12 => ldA HL2 (qkW a12 (qk5 t2.2 * 9)) 9 fun c13 => newC HL2 ⟨[(qkT .i64 (0 : Int)), (qkT .u64 (0 : Int)), (qkT .u64 (0 : Int)), (qkT .u64 (0 : Int)), (qkT .u64 (0 : Int)), (qkT .u64 (0 : Int)), (qkT .u64 (0 : Int)), (qkT .u64 (0 : Int)), (qkT .u64 (0 : Int))], .rw, 0⟩ fun o6 H6 => (qk8 c13 = 9 ∧ qly c13 qn = true) ∧ stC H6 ⟨o6, 0, none⟩ c13 fun Hs2 => onPtr x0 fun a15 => elP (AH.cell? Hs2 (qkW a15 1)) fun p17 => elI .i64 (AH.cell? Hs2 (qkW ⟨o6, 0, none⟩ 0)) fun n19 => ldA Hs2 (qkW ⟨o6, 0, none⟩ 1) 8 fun c21 => qal p17 n19 c21 Hs2 fun n22 H22 => bcase ((n22 : Int) == (0 : Int)) (it2 (t2.1, (qkU .i64 (t2.2 + (1 : Int)))) H22) (bcase ((n22 : Int) == (3 : Int)) (k (0 : Int) H22) (k n22 H22))) (qaf.j1 x0 k HL2)
def qaf.b (x0 : Option Addr) (x1 : Sl) (H : AH) (k : Int → AH → Prop) : Prop :=
 loopT (qaf.l2 x0 x1 k) (((0 : Int), (0 : Int)) : Int × Int) H
def qaf.ann : Ann := { keep := fun r => match r with | 2 => [(4, .int .i64), (10, .int .i64)] | _ => [], ord := fun r => match r with | 4 => [0, 1, 2, 3, 4, 5, 6, 7, 8, 9] | _ => [] }
theorem qaf.link {x0 : Option Addr} {x1 : Sl} {H : AH} {k : Int → AH → Prop} (h : qaf.b x0 x1 H k) : qaf x0 x1 H k := lk1 pan hT hm Tryz.func105 (by kernel_rfl) (A := qaf.ann) (by kernel_rfl) (by simp) (by kernel_rfl) h
def qbF.b (x0 : Option Addr) (H : AH) (k : Int → AH → Prop) : Prop :=
 bcase (qlt x0) (k (1 : Int) H) (qaa x0 H fun s9a n9b H9 => bcase ((n9b : Int) != (0 : Int)) (k n9b H9) (bcase ((((s9a.n : Nat) : Int) : Int) == (0 : Int)) (k (0 : Int) H9) (onPtr x0 fun a22 => elP (AH.cell? H9 (qkW a22 1)) fun p24 => qav p24 H9 fun n25 H25 => log_May n25 s9a H25 fun b27 H27 => bcase (!b27) (k (6 : Int) H27) (qaf x0 s9a H27 fun n31 H31 => k n31 H31))))
theorem qbF.link {x0 : Option Addr} {H : AH} {k : Int → AH → Prop} (h : qbF.b x0 H k) : qbF x0 H k := lk1 pan hT hm Tryz.func59 (by kernel_rfl) (A := ann0) (by kernel_rfl) (by simp) (by kernel_rfl) h
def qY.j1 (x0 : Option Addr) (x1 : Int) (k : List Value → Int → AH → Prop) (o4 : Nat) (x5 : Int) (Hj : AH) : Prop :=
 onPtr x0 fun a56 => elP (AH.cell? Hj (qkW a56 1)) fun p58 => qaF p58 x1 Hj fun c60a n60b H60 => (qk8 c60a = 8 ∧ qly c60a qn = true) ∧ stC H60 ⟨o4, 0, none⟩ c60a fun Hs6 => ldA Hs6 ⟨o4, 0, none⟩ 8 fun r0 => k r0 n60b Hs6
def qY.l2 (x0 : Option Addr) (x1 : Int) (k : List Value → Int → AH → Prop) (o4 : Nat) (s28a : Sl) (t8 : Int × Int) (HL8 : AH) (it8 : (Int × Int) → AH → Prop) : Prop :=
 bcase (decide ((t8.2 : Int) < ((s28a.n : Nat) : Int))) ((0 ≤ t8.2 ∧ t8.2 < ((s28a.n : Nat) : Int)) ∧ onPtr s28a.a fun a46 => ldA HL8 (qkW a46 (qk5 t8.2 * 9)) 9 fun c47 => newC HL8 ⟨[(qkT .i64 (0 : Int)), (qkT .u64 (0 : Int)), (qkT .u64 (0 : Int)), (qkT .u64 (0 : Int)), (qkT .u64 (0 : Int)), (qkT .u64 (0 : Int)), (qkT .u64 (0 : Int)), (qkT .u64 (0 : Int)), (qkT .u64 (0 : Int))], .rw, 0⟩ fun o9 H9 => (qk8 c47 = 9 ∧ qly c47 qn = true) ∧ stC H9 ⟨o9, 0, none⟩ c47 fun Hs8 => elI .i64 (AH.cell? Hs8 (qkW ⟨o9, 0, none⟩ 0)) fun n49 => bcase ((n49 : Int) == x1) (ldA Hs8 (qkW ⟨o9, 0, none⟩ 1) 8 fun c53 => (qk8 c53 = 8 ∧ qly c53 qn = true) ∧ stC Hs8 ⟨o4, 0, none⟩ c53 fun Hs10 => ldA Hs10 ⟨o4, 0, none⟩ 8 fun r0 => k r0 (0 : Int) Hs10) (it8 (t8.1, (qkU .i64 (t8.2 + (1 : Int)))) Hs8)) (qY.j1 x0 x1 k o4 t8.1 HL8)
def qY.j3 (x0 : Option Addr) (x1 : Int) (k : List Value → Int → AH → Prop) (o4 : Nat) (x24 : Bool) (Hj : AH) : Prop :=
 bcase x24 ((qk8 [(qkT .u64 (0 : Int)), (qkT .u64 (0 : Int)), (qkT .u64 (0 : Int)), (qkT .u64 (0 : Int)), (qkT .u64 (0 : Int)), (qkT .u64 (0 : Int)), (qkT .u64 (0 : Int)), (qkT .u64 (0 : Int))] = 8 ∧ qly [(qkT .u64 (0 : Int)), (qkT .u64 (0 : Int)), (qkT .u64 (0 : Int)), (qkT .u64 (0 : Int)), (qkT .u64 (0 : Int)), (qkT .u64 (0 : Int)), (qkT .u64 (0 : Int)), (qkT .u64 (0 : Int))] qn = true) ∧ stC Hj ⟨o4, 0, none⟩ [(qkT .u64 (0 : Int)), (qkT .u64 (0 : Int)), (qkT .u64 (0 : Int)), (qkT .u64 (0 : Int)), (qkT .u64 (0 : Int)), (qkT .u64 (0 : Int)), (qkT .u64 (0 : Int)), (qkT .u64 (0 : Int))] fun Hs2 => ldA Hs2 ⟨o4, 0, none⟩ 8 fun r0 => k r0 (1 : Int) Hs2) (qaa x0 Hj fun s28a n28b H28 => bcase ((n28b : Int) == (2 : Int)) ((qk8 [(qkT .u64 (0 : Int)), (qkT .u64 (0 : Int)), (qkT .u64 (0 : Int)), (qkT .u64 (0 : Int)), (qkT .u64 (0 : Int)), (qkT .u64 (0 : Int)), (qkT .u64 (0 : Int)), (qkT .u64 (0 : Int))] = 8 ∧ qly [(qkT .u64 (0 : Int)), (qkT .u64 (0 : Int)), (qkT .u64 (0 : Int)), (qkT .u64 (0 : Int)), (qkT .u64 (0 : Int)), (qkT .u64 (0 : Int)), (qkT .u64 (0 : Int)), (qkT .u64 (0 : Int))] qn = true) ∧ stC H28 ⟨o4, 0, none⟩ [(qkT .u64 (0 : Int)), (qkT .u64 (0 : Int)), (qkT .u64 (0 : Int)), (qkT .u64 (0 : Int)), (qkT .u64 (0 : Int)), (qkT .u64 (0 : Int)), (qkT .u64 (0 : Int)), (qkT .u64 (0 : Int))] fun Hs4 => ldA Hs4 ⟨o4, 0, none⟩ 8 fun r0 => k r0 n28b Hs4) (onPtr x0 fun a36 => elP (AH.cell? H28 (qkW a36 1)) fun p38 => qav p38 H28 fun n39 H39 => log_May n39 s28a H39 fun b41 H41 => bcase b41 (loopT (qY.l2 x0 x1 k o4 s28a) (((0 : Int), (0 : Int)) : Int × Int) H41) (qY.j1 x0 x1 k o4 (0 : Int) H41)))
def qY.b (x0 : Option Addr) (x1 : Int) (H : AH) (k : List Value → Int → AH → Prop) : Prop :=
 newC H ⟨[(qkT .u64 (0 : Int)), (qkT .u64 (0 : Int)), (qkT .u64 (0 : Int)), (qkT .u64 (0 : Int)), (qkT .u64 (0 : Int)), (qkT .u64 (0 : Int)), (qkT .u64 (0 : Int)), (qkT .u64 (0 : Int))], .rw, 0⟩ fun o4 H4 => bcase (qlt x0) (qY.j3 x0 x1 k o4 true H4) (bcase (decide ((x1 : Int) < (16 : Int))) (qY.j3 x0 x1 k o4 true H4) (onPtr x0 fun a19 => elP (AH.cell? H4 (qkW a19 1)) fun p21 => qav p21 H4 fun n22 H22 => qY.j3 x0 x1 k o4 (decide ((x1 : Int) ≥ n22)) H22))
def qY.ann : Ann := { keep := fun r => match r with | 8 => [(5, .int .i64), (44, .int .i64)] | _ => [], ord := fun r => match r with  | _ => [] }
theorem qY.link {x0 : Option Addr} {x1 : Int} {H : AH} {k : List Value → Int → AH → Prop} (h : qY.b x0 x1 H k) : qY x0 x1 H k := lk2 pan hT hm Tryz.func87 (by kernel_rfl) (A := qY.ann) (by kernel_rfl) (by simp) (by simp) (by kernel_rfl) h
def qS.l1 (x0 : Option Addr) (k : Sl → Int → AH → Prop) (n14 : Int) (t5 : Sl × Int × Sl × Int) (HL5 : AH) (it5 : (Sl × Int × Sl × Int) → AH → Prop) : Prop :=
 bcase (decide ((t5.2.2.2 : Int) < n14)) (onPtr x0 fun a20 => elP (AH.cell? HL5 (qkW a20 6)) fun p22 => onPtr x0 fun a24 => ldA HL5 (qkW a24 1) 4 fun c26 => newC HL5 ⟨[(qkT .u64 (0 : Int)), (qkT .u64 (0 : Int)), (qkT .u64 (0 : Int)), (qkT .u64 (0 : Int)), (qkT .u64 (0 : Int)), (qkT .u64 (0 : Int)), (qkT .u64 (0 : Int)), (qkT .u64 (0 : Int))], .rw, 0⟩ fun o6 H6 => qa5 c26 t5.2.2.2 H6 fun n28 H28 => AH.cell? H28 (qkW a20 6) = some (qkZ p22) ∧ qY p22 n28 H28 fun c29a n29b H29 => (qk8 c29a = 8 ∧ qly c29a qn = true) ∧ stC H29 ⟨o6, 0, none⟩ c29a fun Hs2 => bcase ((n29b : Int) != (0 : Int)) (k ⟨none, 0, 0⟩ n29b Hs2) (appendC 1 Hs2 t5.2.2.1 ⟨(some ⟨o6, 0, none⟩), 8, 0⟩ fun s37 H37 => it5 (t5.1, t5.2.1, s37, (qkU .i64 (t5.2.2.2 + (1 : Int)))) H37)) (k t5.2.2.1 (0 : Int) HL5)
def qS.b (x0 : Option Addr) (H : AH) (k : Sl → Int → AH → Prop) : Prop :=
 bcase (qlt x0) (k ⟨none, 0, 0⟩ (1 : Int) H) (onPtr x0 fun a11 => elI .i64 (AH.cell? H (qkW (qkW a11 1) 0)) fun n14 => loopT (qS.l1 x0 k n14) ((⟨none, 0, 0⟩, (0 : Int), ⟨none, 0, 0⟩, (0 : Int)) : Sl × Int × Sl × Int) H)
def qS.ann : Ann := { keep := fun r => match r with | 5 => [(2, .sl), (3, .int .i64), (4, .sl), (15, .int .i64)] | _ => [], ord := fun r => match r with | 7 => [0, 1, 2, 3, 4, 5, 6, 7, 8, 14, 9, 10, 11, 12, 13, 15, 16] | _ => [] }
theorem qS.link {x0 : Option Addr} {H : AH} {k : Sl → Int → AH → Prop} (h : qS.b x0 H k) : qS x0 H k := lk2 pan hT hm Tryz.func44 (by kernel_rfl) (A := qS.ann) (by kernel_rfl) (by simp) (by simp) (by kernel_rfl) h
def qa3.j1 (x0 : Int) (k : Int → Bool → Bool → AH → Prop) (x14 : Bool) (Hj : AH) : Prop :=
 bcase x14 (k (0 : Int) false false Hj) ((0 : Int) ≤ (1 : Int) ∧ k (qkU .i64 (shrI .u64 x0 (1 : Int))) (((andI .u64 x0 (1 : Int)) : Int) == (1 : Int)) true Hj)
def qa3.b (x0 : Int) (H : AH) (k : Int → Bool → Bool → AH → Prop) : Prop :=
 (0 : Int) ≤ (1 : Int) ∧ bcase (decide (((shrI .u64 x0 (1 : Int)) : Int) > (512 : Int))) (qa3.j1 x0 k true H) ((0 : Int) ≤ (1 : Int) ∧ qaU (qkU .i64 (shrI .u64 x0 (1 : Int))) H fun b12 H12 => qa3.j1 x0 k (!b12) H12)
theorem qa3.link {x0 : Int} {H : AH} {k : Int → Bool → Bool → AH → Prop} (h : qa3.b x0 H k) : qa3 x0 H k := lk3 pan hT hm Tryz.func88 (by kernel_rfl) (A := ann0) (by kernel_rfl) (by simp) (by simp) (by simp) (by kernel_rfl) h
def qR.j1 (k : Bool → AH → Prop) (t5 : Bool × Int × Bool × Int) (it5 : (Bool × Int × Bool × Int) → AH → Prop) (o8 : Nat) (x43 : Bool) (Hj : AH) : Prop :=
 bcase x43 (k false Hj) (elI .i64 (AH.cell? Hj (qkW ⟨o8, 0, none⟩ 1)) fun n46 => elB (AH.cell? Hj (qkW ⟨o8, 0, none⟩ 2)) fun b49 => it5 (t5.1, (qkU .i64 (t5.2.1 + n46)), (!b49), (qkU .i64 (t5.2.2.2 + (1 : Int)))) Hj)
def qR.l2 (x0 : Sl) (x1 : Int) (k : Bool → AH → Prop) (t5 : Bool × Int × Bool × Int) (HL5 : AH) (it5 : (Bool × Int × Bool × Int) → AH → Prop) : Prop :=
 bcase (decide ((t5.2.2.2 : Int) < ((x0.n : Nat) : Int))) ((0 ≤ t5.2.2.2 ∧ t5.2.2.2 < ((x0.n : Nat) : Int)) ∧ onPtr x0.a fun a16 => ldA HL5 (qkW a16 (qk5 t5.2.2.2 * 3)) 3 fun c17 => newC HL5 ⟨[(qkT .i64 (0 : Int)), (qkT .i64 (0 : Int)), (qlS false)], .rw, 0⟩ fun o8 H8 => (qk8 c17 = 3 ∧ qly c17 qn = true) ∧ stC H8 ⟨o8, 0, none⟩ c17 fun Hs2 => elI .i64 (AH.cell? Hs2 (qkW ⟨o8, 0, none⟩ 0)) fun n19 => bcase ((n19 : Int) != t5.2.1) (qR.j1 k t5 it5 o8 true Hs2) (elI .i64 (AH.cell? Hs2 (qkW ⟨o8, 0, none⟩ 1)) fun n24 => qaU n24 Hs2 fun b25 H25 => bcase (!b25) (qR.j1 k t5 it5 o8 true H25) (bcase t5.2.2.1 (elB (AH.cell? H25 (qkW ⟨o8, 0, none⟩ 2)) fun b32 => bcase (!b32) (qR.j1 k t5 it5 o8 true H25) (elI .i64 (AH.cell? H25 (qkW ⟨o8, 0, none⟩ 1)) fun n38 => qR.j1 k t5 it5 o8 (decide ((n38 : Int) > (qkU .i64 (x1 - t5.2.1)))) H25)) (elI .i64 (AH.cell? H25 (qkW ⟨o8, 0, none⟩ 1)) fun n38 => qR.j1 k t5 it5 o8 (decide ((n38 : Int) > (qkU .i64 (x1 - t5.2.1)))) H25)))) (k ((t5.2.1 : Int) == x1) HL5)
def qR.b (x0 : Sl) (x1 : Int) (H : AH) (k : Bool → AH → Prop) : Prop :=
 qaN x1 H fun b10 H10 => bcase (!b10) (k false H10) (loopT (qR.l2 x0 x1 k) ((false, (0 : Int), false, (0 : Int)) : Bool × Int × Bool × Int) H10)
def qR.ann : Ann := { keep := fun r => match r with | 5 => [(4, .bool), (5, .int .i64), (6, .bool), (14, .int .i64)] | _ => [], ord := fun r => match r with  | _ => [] }
theorem qR.link {x0 : Sl} {x1 : Int} {H : AH} {k : Bool → AH → Prop} (h : qR.b x0 x1 H k) : qR x0 x1 H k := lk1 pan hT hm Tryz.func89 (by kernel_rfl) (A := qR.ann) (by kernel_rfl) (by simp) (by kernel_rfl) h
def qK.j1 (x0 : Sl) (k : Sl → Bool → AH → Prop) (t3 : Sl × Bool × Sl × Int) (HL3 : AH) : Prop :=
 qR t3.2.2.1 ((x0.n : Nat) : Int) HL3 fun b37 H37 => bcase (!b37) (k ⟨none, 0, 0⟩ false H37) (k t3.2.2.1 true H37)
def qK.l2 (x0 : Sl) (k : Sl → Bool → AH → Prop) (t3 : Sl × Bool × Sl × Int) (HL3 : AH) (it3 : (Sl × Bool × Sl × Int) → AH → Prop) : Prop :=
 bcase (decide ((t3.2.2.2 : Int) < ((x0.n : Nat) : Int))) ((0 ≤ t3.2.2.2 ∧ t3.2.2.2 < ((x0.n : Nat) : Int)) ∧ onPtr x0.a fun a16 => elI .u64 (AH.cell? HL3 (qkW a16 (qk5 t3.2.2.2 * 1))) fun n17 => qa3 n17 HL3 fun n18a b18b b18c H18 => bcase (!b18c) (k ⟨none, 0, 0⟩ false H18) ((qk8 [(qkT .i64 t3.2.2.2), (qkT .i64 n18a), (qlS b18b)] = 3) ∧ newC H18 ⟨[(qkT .i64 t3.2.2.2), (qkT .i64 n18a), (qlS b18b)], .rw, 3⟩ fun o29 H29 => appendC 3 H29 t3.2.2.1 ⟨(some ⟨o29, 0, none⟩), 1, 1⟩ fun s30 H30 => it3 (t3.1, t3.2.1, s30, (qkU .i64 (t3.2.2.2 + n18a))) H30)) (qK.j1 x0 k t3 HL3)
def qK.b (x0 : Sl) (H : AH) (k : Sl → Bool → AH → Prop) : Prop :=
 loopT (qK.l2 x0 k) ((⟨none, 0, 0⟩, false, ⟨none, 0, 0⟩, (0 : Int)) : Sl × Bool × Sl × Int) H
def qK.ann : Ann := { keep := fun r => match r with | 3 => [(2, .sl), (3, .bool), (4, .sl), (5, .int .i64)] | _ => [], ord := fun r => match r with  | _ => [] }
theorem qK.link {x0 : Sl} {H : AH} {k : Sl → Bool → AH → Prop} (h : qK.b x0 H k) : qK x0 H k := lk2 pan hT hm Tryz.func45 (by kernel_rfl) (A := qK.ann) (by kernel_rfl) (by simp) (by simp) (by kernel_rfl) h
def qaV.j1 (k : Int → AH → Prop) (o1 : Nat) (H1 : AH) (x10 : Bool) : Prop :=
 bcase x10 (k (0 : Int) H1) (elI .i64 (AH.cell? H1 (qkW ⟨o1, 0, none⟩ 0)) fun n12 => k (qkU .i64 ((qkU .i64 (n12 + (1 : Int))) * (8 : Int))) H1)
def qaV.b (x0 : List Value) (H : AH) (k : Int → AH → Prop) : Prop :=
 newC H ⟨x0, .rw, 0⟩ fun o1 H1 => elI .i64 (AH.cell? H1 (qkW ⟨o1, 0, none⟩ 0)) fun n4 => bcase (decide ((n4 : Int) < (0 : Int))) (qaV.j1 k o1 H1 true) (elI .i64 (AH.cell? H1 (qkW ⟨o1, 0, none⟩ 0)) fun n8 => qaV.j1 k o1 H1 (decide ((n8 : Int) > (512 : Int))))
theorem qaV.link {x0 : List Value} {H : AH} {k : Int → AH → Prop} (h : qaV.b x0 H k) : qaV x0 H k := lk1 pan hT hm Tryz.func144 (by kernel_rfl) (A := ann0) (by kernel_rfl) (by simp) (by kernel_rfl) h
def qbb.b (x0 : List Value) (x1 : Option Addr) (H : AH) (k : Bool → AH → Prop) : Prop :=
 newC H ⟨x0, .rw, 0⟩ fun o2 H2 => elB (AH.cell? H2 (qkW ⟨o2, 0, none⟩ 2)) fun b5 => bcase b5 (ldA H2 ⟨o2, 0, none⟩ 3 fun c7 => onPtr x1 fun a9 => elI .i64 (AH.cell? H2 a9) fun n9 => qaV c7 H2 fun n8 H8 => AH.cell? H8 a9 = some (qkT .i64 n9) ∧ k ((n8 : Int) == n9) H8) (k false H2)
def qbb.ann : Ann := { keep := fun r => match r with  | _ => [], ord := fun r => match r with | 1 => [0, 1, 2, 3, 5, 4, 6, 7, 8] | _ => [] }
theorem qbb.link {x0 : List Value} {x1 : Option Addr} {H : AH} {k : Bool → AH → Prop} (h : qbb.b x0 x1 H k) : qbb x0 x1 H k := lk1 pan hT hm Tryz.func143 (by kernel_rfl) (A := qbb.ann) (by kernel_rfl) (by simp) (by kernel_rfl) h
def qbL.b (x0 : Sl) (x1 : Int) (H : AH) (k : Sl → Int → AH → Prop) : Prop :=
 newC H ⟨[(qkT .i64 x1)], .rw, 0⟩ fun o3 H3 => qK x0 H3 fun s10a b10b H10 => qv s10a (some ⟨o3, 0, none⟩) H10 fun n16 H16 => k s10a n16 H16
theorem qbL.link {x0 : Sl} {x1 : Int} {H : AH} {k : Sl → Int → AH → Prop} (h : qbL.b x0 x1 H k) : qbL x0 x1 H k := lk2 pan hT hm Tryz.func106 (by kernel_rfl) (A := ann0) (by kernel_rfl) (by simp) (by simp) (by kernel_rfl) h
def qb0.b (x0 : Sl) (x1 : Int) (H : AH) (k : Bool → AH → Prop) : Prop :=
 qbL x0 x1 H fun s10a n10b H10 => k (decide ((n10b : Int) ≥ (0 : Int))) H10
theorem qb0.link {x0 : Sl} {x1 : Int} {H : AH} {k : Bool → AH → Prop} (h : qb0.b x0 x1 H k) : qb0 x0 x1 H k := lk1 pan hT hm Tryz.func60 (by kernel_rfl) (A := ann0) (by kernel_rfl) (by simp) (by kernel_rfl) h
def qbX.b (x0 : Int) (H : AH) (k : Int → AH → Prop) : Prop :=
 ((4 : Int) : Int) ≠ 0 ∧ k (qkU .i64 (qmf (if (0 : Int) > x0 then (0 : Int) else x0) (4 : Int))) H
theorem qbX.link {x0 : Int} {H : AH} {k : Int → AH → Prop} (h : qbX.b x0 H k) : qbX x0 H k := lk1 pan hT hm Tryz.func107 (by kernel_rfl) (A := ann0) (by kernel_rfl) (by simp) (by kernel_rfl) h
def qb4.b (x0 : List Value) (H : AH) (k : Int → AH → Prop) : Prop :=
 newC H ⟨x0, .rw, 0⟩ fun o1 H1 => ldA H1 ⟨o1, 0, none⟩ 4 fun c3 => qaA c3 H1 fun b4 H4 => bcase (!b4) (k (0 : Int) H4) (elI .i64 (AH.cell? H4 (qkW ⟨o1, 0, none⟩ 0)) fun n7 => qbX (qkU .i64 (n7 - (1 : Int))) H4 fun n9 H9 => k (qkU .i64 (n9 + (1 : Int))) H9)
theorem qb4.link {x0 : List Value} {H : AH} {k : Int → AH → Prop} (h : qb4.b x0 H k) : qb4 x0 H k := lk1 pan hT hm Tryz.func61 (by kernel_rfl) (A := ann0) (by kernel_rfl) (by simp) (by kernel_rfl) h
def qaI.l1 (x1 : Sl) (k : Option Addr → AH → Prop) (o21 : Nat) (t5 : Int) (HL5 : AH) (it5 : (Int) → AH → Prop) : Prop :=
 bcase (decide ((t5 : Int) < ((x1.n : Nat) : Int))) ((0 ≤ t5 ∧ t5 < ((x1.n : Nat) : Int)) ∧ onPtr x1.a fun a26 => elI .i64 (AH.cell? HL5 (qkW a26 (qk5 t5 * 1))) fun n27 => elL (AH.cell? HL5 (qkW ⟨o21, 0, none⟩ 1)) fun s36 => newC HL5 ⟨[(qkT .i64 (if (1099511627776 : Int) < (if (0 : Int) > n27 then (0 : Int) else n27) then (1099511627776 : Int) else (if (0 : Int) > n27 then (0 : Int) else n27)))], .rw, 1⟩ fun o38 H38 => elL (AH.cell? H38 (qkW ⟨o21, 0, none⟩ 2)) fun s43 => newC H38 ⟨[(qkT .i64 (if (1099511627776 : Int) < (if (0 : Int) > n27 then (0 : Int) else n27) then (1099511627776 : Int) else (if (0 : Int) > n27 then (0 : Int) else n27)))], .rw, 1⟩ fun o45 H45 => appendC 1 H45 s36 ⟨(some ⟨o38, 0, none⟩), 1, 1⟩ fun s39 H39 => AH.cell? H39 (qkW ⟨o21, 0, none⟩ 2) = some (Sl.val s43) ∧ appendC 1 H39 s43 ⟨(some ⟨o45, 0, none⟩), 1, 1⟩ fun s46 H46 => stC H46 (qkW ⟨o21, 0, none⟩ 1) [(Sl.val s39)] fun Hs2 => stC Hs2 (qkW ⟨o21, 0, none⟩ 2) [(Sl.val s46)] fun Hs4 => it5 (qkU .i64 (t5 + (1 : Int))) Hs4) (k (some ⟨o21, 0, none⟩) HL5)
def qaI.j2 (x0 : Int) (x1 : Sl) (H : AH) (k : Option Addr → AH → Prop) (x18 : Bool) : Prop :=
 bcase x18 (k none H) (newC H ⟨[(qkT .i64 x0), (qle none 0 0), (qle none 0 0)], .rw, 0⟩ fun o21 H21 => loopT (qaI.l1 x1 k o21) (((0 : Int)) : Int) H21)
def qaI.b (x0 : Int) (x1 : Sl) (H : AH) (k : Option Addr → AH → Prop) : Prop :=
 bcase (decide ((x0 : Int) < (1 : Int))) (qaI.j2 x0 x1 H k true) (bcase (decide ((x0 : Int) > (100 : Int))) (qaI.j2 x0 x1 H k true) (qaI.j2 x0 x1 H k (decide ((((x1.n : Nat) : Int) : Int) > (16 : Int)))))
def qaI.ann : Ann := { keep := fun r => match r with | 5 => [(24, .int .i64)] | _ => [], ord := fun r => match r with | 8 => [0, 1, 2, 3, 4, 5, 6, 7, 9, 10, 11, 12, 13, 14, 8, 15, 16, 17, 18, 19, 20, 21] | _ => [] }
theorem qaI.link {x0 : Int} {x1 : Sl} {H : AH} {k : Option Addr → AH → Prop} (h : qaI.b x0 x1 H k) : qaI x0 x1 H k := lk1 pan hT hm Tryz.func62 (by kernel_rfl) (A := qaI.ann) (by kernel_rfl) (by simp) (by kernel_rfl) h
def qP.j1 (k : Option Addr → Int → AH → Prop) (o3 : Nat) (o30 : Nat) (t22 : Option Addr × Int × Sl × Int) (HL22 : AH) : Prop :=
 elI .i64 (AH.cell? HL22 (qkW ⟨o3, 0, none⟩ 3)) fun n115 => qaI n115 t22.2.2.1 HL22 fun p117 H117 => stC H117 (qkW ⟨o30, 0, none⟩ 7) [(qkZ p117)] fun Hs4 => k (some ⟨o30, 0, none⟩) (0 : Int) Hs4
def qP.l2 (x0 : Option Addr) (k : Option Addr → Int → AH → Prop) (o3 : Nat) (o30 : Nat) (n92 : Int) (t22 : Option Addr × Int × Sl × Int) (HL22 : AH) (it22 : (Option Addr × Int × Sl × Int) → AH → Prop) : Prop :=
 bcase (decide ((t22.2.2.2 : Int) < n92)) (qD x0 (qkU .i64 ((19 : Int) + t22.2.2.2)) HL22 fun n100a n100b H100 => bcase ((n100b : Int) != (0 : Int)) (k none n100b H100) (newC H100 ⟨[(qkT .i64 (qkU .i64 (if (1099511627776 : Int) < n100a then (1099511627776 : Int) else n100a)))], .rw, 1⟩ fun o110 H110 => appendC 1 H110 t22.2.2.1 ⟨(some ⟨o110, 0, none⟩), 1, 1⟩ fun s111 H111 => it22 (t22.1, t22.2.1, s111, (qkU .i64 (t22.2.2.2 + (1 : Int)))) H111)) (qP.j1 k o3 o30 t22 HL22)
def qP.j3 (x0 : Option Addr) (k : Option Addr → Int → AH → Prop) (o3 : Nat) (o30 : Nat) (x90 : Bool) (Hj : AH) : Prop :=
 bcase x90 (k none (6 : Int) Hj) (ldA Hj ⟨o3, 0, none⟩ 4 fun c91 => qb4 c91 Hj fun n92 H92 => loopT (qP.l2 x0 k o3 o30 n92) ((none, (0 : Int), ⟨none, 0, 0⟩, (0 : Int)) : Option Addr × Int × Sl × Int) H92)
def qP.b (x0 : Option Addr) (x1 : List Value) (H : AH) (k : Option Addr → Int → AH → Prop) : Prop :=
 newC H ⟨x1, .rw, 0⟩ fun o3 H3 => ldA H3 ⟨o3, 0, none⟩ 4 fun c19 => qbk x0 c19 H3 fun n20 H20 => bcase ((n20 : Int) != (0 : Int)) (k none n20 H20) (ldA H20 ⟨o3, 0, none⟩ 4 fun c25 => ldA H20 ⟨o3, 0, none⟩ 4 fun c27 => qbn x0 c27 H20 fun p28 H28 => AH.row? H28 ⟨o3, 0, none⟩ 4 = some c25 ∧ (qk8 c25 = 4) ∧ newC H28 ⟨(List.set (setMany [(qkZ x0), (qkT .i64 (0 : Int)), (qkT .i64 (0 : Int)), (qkT .i64 (0 : Int)), (qkT .i64 (0 : Int)), (qkZ none), (qkZ none), (qkZ none), (qlS false)] 1 c25) 5 (qkZ p28)), .rw, 0⟩ fun o30 H30 => elP (AH.cell? H30 (qkW ⟨o30, 0, none⟩ 5)) fun p36 => log_New x0 p36 H30 fun p37 H37 => stC H37 (qkW ⟨o30, 0, none⟩ 6) [(qkZ p37)] fun Hs2 => elP (AH.cell? Hs2 (qkW ⟨o30, 0, none⟩ 6)) fun p43 => bcase (qlt p43) (k none (6 : Int) Hs2) (elP (AH.cell? Hs2 (qkW ⟨o30, 0, none⟩ 6)) fun p48 => qbF p48 Hs2 fun n49 H49 => bcase ((n49 : Int) != (0 : Int)) (k none n49 H49) (qS (some ⟨o30, 0, none⟩) H49 fun s55a n55b H55 => bcase ((n55b : Int) != (0 : Int)) (k none n55b H55) (qD x0 (2 : Int) H55 fun n63a n63b H63 => bcase ((n63b : Int) != (0 : Int)) (k none n63b H63) (qK s55a H63 fun s71a b71b H71 => bcase (!b71b) (qP.j3 x0 k o3 o30 true H71) (bcase ((n63a : Int) != (0 : Int)) (bcase (decide ((n63a : Int) > (1048576 : Int))) (qP.j3 x0 k o3 o30 true H71) (qb0 s55a (qkU .i64 n63a) H71 fun b86 H86 => qP.j3 x0 k o3 o30 (!b86) H86)) (qP.j3 x0 k o3 o30 false H71)))))))
def qP.ann : Ann := { keep := fun r => match r with | 22 => [(4, .ptr), (5, .int .i64), (14, .sl), (93, .int .i64)] | _ => [], ord := fun r => match r with | 4 => [0, 1, 2, 3, 4, 5, 6, 7] | _ => [] }
theorem qP.link {x0 : Option Addr} {x1 : List Value} {H : AH} {k : Option Addr → Int → AH → Prop} (h : qP.b x0 x1 H k) : qP x0 x1 H k := lk2 pan hT hm Tryz.func17 (by kernel_rfl) (A := qP.ann) (by kernel_rfl) (by simp) (by simp) (by kernel_rfl) h
def qaH.b (x0 : Option Addr) (H : AH) (k : Int → AH → Prop) : Prop :=
 onPtr x0 fun a7 => elP (AH.cell? H (qkW a7 4)) fun p9 => onPtr x0 fun a11 => ldA H (qkW a11 0) 4 fun c13 => qP p9 c13 H fun p14a n14b H14 => onPtr x0 fun a19 => stC H14 (qkW a19 5) [(qkZ p14a)] fun Hs2 => k n14b Hs2
def qaH.ann : Ann := { keep := fun r => match r with  | _ => [], ord := fun r => match r with | 1 => [0, 1, 2, 3, 4, 5, 6, 7, 8, 9, 10, 11, 12, 13] | _ => [] }
theorem qaH.link {x0 : Option Addr} {H : AH} {k : Int → AH → Prop} (h : qaH.b x0 H k) : qaH x0 H k := lk1 pan hT hm Tryz.func72 (by kernel_rfl) (A := qaH.ann) (by kernel_rfl) (by simp) (by kernel_rfl) h
def qbr.b (x0 : List Value) (x1 : Sl) (H : AH) (k : Option Addr → Int → AH → Prop) : Prop :=
 newC H ⟨x0, .rw, 0⟩ fun o2 H2 => ldA H2 ⟨o2, 0, none⟩ 4 fun c9 => qaA c9 H2 fun b10 H10 => bcase (!b10) (k none (1 : Int) H10) (ldA H10 ⟨o2, 0, none⟩ 4 fun c12 => ldA H10 ⟨o2, 0, none⟩ 4 fun c13 => qaY c13 H10 fun n14 H14 => AH.row? H14 ⟨o2, 0, none⟩ 4 = some c12 ∧ nvm_New n14 x1 H14 fun p16 H16 => AH.row? H16 ⟨o2, 0, none⟩ 4 = some c12 ∧ (qk8 c12 = 4) ∧ newC H16 ⟨(List.set (setMany [(qkT .i64 (0 : Int)), (qkT .i64 (0 : Int)), (qkT .i64 (0 : Int)), (qkT .i64 (0 : Int)), (qkZ none), (qkZ none), (qkT .i64 (0 : Int))] 0 c12) 4 (qkZ p16)), .rw, 0⟩ fun o18 H18 => elP (AH.cell? H18 (qkW ⟨o18, 0, none⟩ 4)) fun p22 => ldA H18 ⟨o2, 0, none⟩ 4 fun c23 => qF p22 c23 H18 fun n24 H24 => bcase ((n24 : Int) != (0 : Int)) (k none n24 H24) (qaH (some ⟨o18, 0, none⟩) H24 fun n29 H29 => bcase ((n29 : Int) != (0 : Int)) (k none n29 H29) (k (some ⟨o18, 0, none⟩) (0 : Int) H29)))
def qbr.ann : Ann := { keep := fun r => match r with  | _ => [], ord := fun r => match r with | 3 => [0, 1, 3, 2, 4, 5, 6, 7] | 4 => [0, 1, 2, 3, 4, 5, 6] | _ => [] }
theorem qbr.link {x0 : List Value} {x1 : Sl} {H : AH} {k : Option Addr → Int → AH → Prop} (h : qbr.b x0 x1 H k) : qbr x0 x1 H k := lk2 pan hT hm Tryz.func24 (by kernel_rfl) (A := qbr.ann) (by kernel_rfl) (by simp) (by simp) (by kernel_rfl) h
def qad.b (x0 : Option Addr) (H : AH) (k : Int → AH → Prop) : Prop :=
 bcase (qlt x0) (k (0 : Int) H) (onPtr x0 fun a6 => elI .i64 (AH.cell? H (qkW a6 36)) fun n8 => k n8 H)
theorem qad.link {x0 : Option Addr} {H : AH} {k : Int → AH → Prop} (h : qad.b x0 H k) : qad x0 H k := lk1 pan hT hm Tryz.func26 (by kernel_rfl) (A := ann0) (by kernel_rfl) (by simp) (by kernel_rfl) h
def qaC.b (x0 : Option Addr) (x1 : Int) (x2 : Int) (H : AH) (k : AH → Prop) : Prop :=
 bcase (!(qlt x0)) (onPtr x0 fun a13 => stC H (qkW a13 37) [(qkT .i64 (if (-1 : Int) > x1 then (-1 : Int) else x1))] fun Hs2 => onPtr x0 fun a15 => stC Hs2 (qkW a15 38) [(qkT .i64 x2)] fun Hs4 => k Hs4) (k H)
theorem qaC.link {x0 : Option Addr} {x1 : Int} {x2 : Int} {H : AH} {k : AH → Prop} (h : qaC.b x0 x1 x2 H k) : qaC x0 x1 x2 H k := lk0 pan hT hm Tryz.func120 (by kernel_rfl) (A := ann0) (by kernel_rfl) (by kernel_rfl) h
def qaq.b (x0 : Option Addr) (H : AH) (k : AH → Prop) : Prop :=
 bcase (!(qlt x0)) (onPtr x0 fun a6 => stC H (qkW a6 37) [(qkT .i64 (-1 : Int))] fun Hs2 => onPtr x0 fun a8 => stC Hs2 (qkW a8 39) [(qlS false)] fun Hs4 => k Hs4) (k H)
theorem qaq.link {x0 : Option Addr} {H : AH} {k : AH → Prop} (h : qaq.b x0 H k) : qaq x0 H k := lk0 pan hT hm Tryz.func121 (by kernel_rfl) (A := ann0) (by kernel_rfl) (by kernel_rfl) h
def qaT.b (x0 : Option Addr) (x1 : List Value) (H : AH) (k : List Value → AH → Prop) : Prop :=
 newC H ⟨x1, .rw, 0⟩ fun o3 H3 => newC H3 ⟨[(qkT .i64 (0 : Int)), (qkT .i64 (0 : Int)), (qle none 0 0)], .rw, 0⟩ fun o4 H4 => elI .i64 (AH.cell? H4 (qkW ⟨o3, 0, none⟩ 0)) fun n7 => bcase ((n7 : Int) == (7 : Int)) (onPtr x0 fun a10 => elP (AH.cell? H4 (qkW a10 4)) fun p12 => elI .i64 (AH.cell? H4 (qkW ⟨o3, 0, none⟩ 2)) fun n14 => elI .i64 (AH.cell? H4 (qkW ⟨o3, 0, none⟩ 3)) fun n16 => qaC p12 n14 n16 H4 fun H17 => (qk8 [(qkT .i64 (0 : Int)), (qkT .i64 (0 : Int)), (qle none 0 0)] = 3 ∧ qly [(qkT .i64 (0 : Int)), (qkT .i64 (0 : Int)), (qle none 0 0)] qn = true) ∧ stC H17 ⟨o4, 0, none⟩ [(qkT .i64 (0 : Int)), (qkT .i64 (0 : Int)), (qle none 0 0)] fun Hs2 => ldA Hs2 ⟨o4, 0, none⟩ 3 fun r0 => k r0 Hs2) (elI .i64 (AH.cell? H4 (qkW ⟨o3, 0, none⟩ 0)) fun n21 => bcase ((n21 : Int) == (8 : Int)) (onPtr x0 fun a24 => elP (AH.cell? H4 (qkW a24 4)) fun p26 => qaq p26 H4 fun H27 => qaH x0 H27 fun n29 H29 => (qk8 [(qkT .i64 n29), (qkT .i64 (0 : Int)), (qle none 0 0)] = 3 ∧ qly [(qkT .i64 n29), (qkT .i64 (0 : Int)), (qle none 0 0)] qn = true) ∧ stC H29 ⟨o4, 0, none⟩ [(qkT .i64 n29), (qkT .i64 (0 : Int)), (qle none 0 0)] fun Hs4 => ldA Hs4 ⟨o4, 0, none⟩ 3 fun r0 => k r0 Hs4) (onPtr x0 fun a33 => elP (AH.cell? H4 (qkW a33 5)) fun p35 => bcase (qlt p35) ((qk8 [(qkT .i64 (5 : Int)), (qkT .i64 (0 : Int)), (qle none 0 0)] = 3 ∧ qly [(qkT .i64 (5 : Int)), (qkT .i64 (0 : Int)), (qle none 0 0)] qn = true) ∧ stC H4 ⟨o4, 0, none⟩ [(qkT .i64 (5 : Int)), (qkT .i64 (0 : Int)), (qle none 0 0)] fun Hs6 => ldA Hs6 ⟨o4, 0, none⟩ 3 fun r0 => k r0 Hs6) (onPtr x0 fun a39 => elP (AH.cell? H4 (qkW a39 5)) fun p41 => ldA H4 ⟨o3, 0, none⟩ 5 fun c42 => qs p41 c42 H4 fun c43 H43 => (qk8 c43 = 3 ∧ qly c43 qn = true) ∧ stC H43 ⟨o4, 0, none⟩ c43 fun Hs8 => ldA Hs8 ⟨o4, 0, none⟩ 3 fun r0 => k r0 Hs8)))
def qaT.ann : Ann := { keep := fun r => match r with  | _ => [], ord := fun r => match r with | 2 => [0, 1, 2, 3, 4, 5, 6, 7, 8] | 9 => [0, 1, 2, 3, 4, 5, 6] | _ => [] }
theorem qaT.link {x0 : Option Addr} {x1 : List Value} {H : AH} {k : List Value → AH → Prop} (h : qaT.b x0 x1 H k) : qaT x0 x1 H k := lk1 pan hT hm Tryz.func73 (by kernel_rfl) (A := qaT.ann) (by kernel_rfl) (by simp) (by kernel_rfl) h
def qX.b (x0 : Option Addr) (x1 : List Value) (H : AH) (k : List Value → AH → Prop) : Prop :=
 newC H ⟨x1, .rw, 0⟩ fun o3 H3 => newC H3 ⟨[(qkT .i64 (0 : Int)), (qkT .i64 (0 : Int)), (qle none 0 0)], .rw, 0⟩ fun o4 H4 => bcase (qlt x0) ((qk8 [(qkT .i64 (1 : Int)), (qkT .i64 (0 : Int)), (qle none 0 0)] = 3 ∧ qly [(qkT .i64 (1 : Int)), (qkT .i64 (0 : Int)), (qle none 0 0)] qn = true) ∧ stC H4 ⟨o4, 0, none⟩ [(qkT .i64 (1 : Int)), (qkT .i64 (0 : Int)), (qle none 0 0)] fun Hs2 => ldA Hs2 ⟨o4, 0, none⟩ 3 fun r0 => k r0 Hs2) (onPtr x0 fun a11 => elP (AH.cell? H4 (qkW a11 4)) fun p13 => qad p13 H4 fun n14 H14 => ldA H14 ⟨o3, 0, none⟩ 5 fun c16 => qaT x0 c16 H14 fun c17 H17 => newC H17 ⟨[(qkT .i64 (0 : Int)), (qkT .i64 (0 : Int)), (qle none 0 0)], .rw, 0⟩ fun o6 H6 => (qk8 c17 = 3 ∧ qly c17 qn = true) ∧ stC H6 ⟨o6, 0, none⟩ c17 fun Hs4 => onPtr x0 fun a20 => elP (AH.cell? Hs4 (qkW a20 4)) fun p22 => qad p22 Hs4 fun n23 H23 => onPtr x0 fun a26 => stC H23 (qkW a26 6) [(qkT .i64 (qkU .i64 (n23 - n14)))] fun Hs6 => ldA Hs6 ⟨o6, 0, none⟩ 3 fun c28 => (qk8 c28 = 3 ∧ qly c28 qn = true) ∧ stC Hs6 ⟨o4, 0, none⟩ c28 fun Hs8 => ldA Hs8 ⟨o4, 0, none⟩ 3 fun r0 => k r0 Hs8)
theorem qX.link {x0 : Option Addr} {x1 : List Value} {H : AH} {k : List Value → AH → Prop} (h : qX.b x0 x1 H k) : qX x0 x1 H k := lk1 pan hT hm Tryz.func28 (by kernel_rfl) (A := ann0) (by kernel_rfl) (by simp) (by kernel_rfl) h
def qap.j1 (k : Bool → AH → Prop) (H9 : AH) (p9a : Option Addr) (x17 : Bool) : Prop :=
 bcase x17 (k false H9) (qX p9a [(qkT .i64 (1 : Int)), (qkT .i64 (0 : Int)), (qkT .i64 (9 : Int)), (qkT .i64 (0 : Int)), (qle none 0 0)] H9 fun c20 H20 => newC H20 ⟨[(qkT .i64 (0 : Int)), (qkT .i64 (0 : Int)), (qle none 0 0)], .rw, 0⟩ fun o3 H3 => (qk8 c20 = 3 ∧ qly c20 qn = true) ∧ stC H3 ⟨o3, 0, none⟩ c20 fun Hs2 => qX p9a [(qkT .i64 (7 : Int)), (qkT .i64 (0 : Int)), (qkT .i64 (0 : Int)), (qkT .i64 (0 : Int)), (qle none 0 0)] Hs2 fun c23 H23 => qX p9a [(qkT .i64 (2 : Int)), (qkT .i64 (8 : Int)), (qkT .i64 (0 : Int)), (qkT .i64 (0 : Int)), (qle none 0 0)] H23 fun c26 H26 => newC H26 ⟨[(qkT .i64 (0 : Int)), (qkT .i64 (0 : Int)), (qle none 0 0)], .rw, 0⟩ fun o4 H4 => (qk8 c26 = 3 ∧ qly c26 qn = true) ∧ stC H4 ⟨o4, 0, none⟩ c26 fun Hs4 => qX p9a [(qkT .i64 (8 : Int)), (qkT .i64 (0 : Int)), (qkT .i64 (0 : Int)), (qkT .i64 (0 : Int)), (qle none 0 0)] Hs4 fun c29 H29 => newC H29 ⟨[(qkT .i64 (0 : Int)), (qkT .i64 (0 : Int)), (qle none 0 0)], .rw, 0⟩ fun o5 H5 => (qk8 c29 = 3 ∧ qly c29 qn = true) ∧ stC H5 ⟨o5, 0, none⟩ c29 fun Hs6 => qX p9a [(qkT .i64 (3 : Int)), (qkT .i64 (8 : Int)), (qkT .i64 (9 : Int)), (qkT .i64 (0 : Int)), (qle none 0 0)] Hs6 fun c32 H32 => newC H32 ⟨[(qkT .i64 (0 : Int)), (qkT .i64 (0 : Int)), (qle none 0 0)], .rw, 0⟩ fun o6 H6 => (qk8 c32 = 3 ∧ qly c32 qn = true) ∧ stC H6 ⟨o6, 0, none⟩ c32 fun Hs8 => elI .i64 (AH.cell? Hs8 (qkW ⟨o3, 0, none⟩ 1)) fun n34 => bcase ((n34 : Int) == (8 : Int)) (elI .i64 (AH.cell? Hs8 (qkW ⟨o4, 0, none⟩ 0)) fun n38 => bcase ((n38 : Int) == (2 : Int)) (elI .i64 (AH.cell? Hs8 (qkW ⟨o5, 0, none⟩ 0)) fun n43 => bcase ((n43 : Int) == (0 : Int)) (elL (AH.cell? Hs8 (qkW ⟨o6, 0, none⟩ 2)) fun s48 => k ((((s48.n : Nat) : Int) : Int) == (9 : Int)) Hs8) (k false Hs8)) (k false Hs8)) (k false Hs8))
def qap.b (H : AH) (k : Bool → AH → Prop) : Prop :=
 qbr [(qkT .i64 (4 : Int)), (qkT .i64 (1 : Int)), (qkT .i64 (2 : Int)), (qkT .i64 (2 : Int))] ⟨none, 0, 0⟩ H fun p9a n9b H9 => bcase ((n9b : Int) != (0 : Int)) (qap.j1 k H9 p9a true) (qap.j1 k H9 p9a (qlt p9a))
theorem qap.link {_u : Unit} {H : AH} {k : Bool → AH → Prop} (h : qap.b  H k) : qap  H k := lk1 pan hT hm Tryz.func13 (by kernel_rfl) (A := ann0) (by kernel_rfl) (by simp) (by kernel_rfl) h
def qbq.b (x0 : Option Addr) (H : AH) (k : Bool → AH → Prop) : Prop :=
 bcase (qlt x0) (k false H) (onPtr x0 fun a9 => elP (AH.cell? H (qkW a9 0)) fun p11 => qD p11 (1 : Int) H fun n12a n12b H12 => k ((n12a : Int) != (0 : Int)) H12)
theorem qbq.link {x0 : Option Addr} {H : AH} {k : Bool → AH → Prop} (h : qbq.b x0 H k) : qbq x0 H k := lk1 pan hT hm Tryz.func71 (by kernel_rfl) (A := ann0) (by kernel_rfl) (by simp) (by kernel_rfl) h
def qbP.b (x0 : Option Addr) (H : AH) (k : Bool → AH → Prop) : Prop :=
 bcase (!(qlt x0)) (onPtr x0 fun a7 => elB (AH.cell? H (qkW a7 8)) fun b9 => bcase b9 (k true H) (onPtr x0 fun a12 => elP (AH.cell? H (qkW a12 6)) fun p14 => qbq p14 H fun b15 H15 => k b15 H15)) (k false H)
theorem qbP.link {x0 : Option Addr} {H : AH} {k : Bool → AH → Prop} (h : qbP.b x0 H k) : qbP x0 H k := lk1 pan hT hm Tryz.func20 (by kernel_rfl) (A := ann0) (by kernel_rfl) (by simp) (by kernel_rfl) h
def qt.j1 (k : Int → AH → Prop) (t4 : Int × Int) (it4 : (Int × Int) → AH → Prop) (Hs2 : AH) (x24 : Bool) : Prop :=
 bcase x24 (k (qkU .i64 (t4.2 + (1 : Int))) Hs2) (it4 (t4.1, (qkU .i64 (t4.2 + (1 : Int)))) Hs2)
def qt.l2 (x0 : Sl) (k : Int → AH → Prop) (t4 : Int × Int) (HL4 : AH) (it4 : (Int × Int) → AH → Prop) : Prop :=
 bcase (decide ((t4.2 : Int) < ((x0.n : Nat) : Int))) ((0 ≤ t4.2 ∧ t4.2 < ((x0.n : Nat) : Int)) ∧ onPtr x0.a fun a15 => ldA HL4 (qkW a15 (qk5 t4.2 * 5)) 5 fun c16 => newC HL4 ⟨[(qkT .i64 (0 : Int)), (qkT .i64 (0 : Int)), (qkT .i64 (0 : Int)), (qkT .i64 (0 : Int)), (qle none 0 0)], .rw, 0⟩ fun o6 H6 => (qk8 c16 = 5 ∧ qly c16 qn = true) ∧ stC H6 ⟨o6, 0, none⟩ c16 fun Hs2 => bcase (decide ((t4.2 : Int) ≥ (80 : Int))) (qt.j1 k t4 it4 Hs2 true) (elL (AH.cell? Hs2 (qkW ⟨o6, 0, none⟩ 4)) fun s21 => qt.j1 k t4 it4 Hs2 (decide ((((s21.n : Nat) : Int) : Int) > (500 : Int))))) (k (0 : Int) HL4)
def qt.b (x0 : Sl) (x1 : Sl) (H : AH) (k : Int → AH → Prop) : Prop :=
 bcase (decide ((((x1.n : Nat) : Int) : Int) > (200 : Int))) (k (1 : Int) H) (loopT (qt.l2 x0 k) (((0 : Int), (0 : Int)) : Int × Int) H)
def qt.ann : Ann := { keep := fun r => match r with | 4 => [(4, .int .i64), (12, .int .i64)] | _ => [], ord := fun r => match r with  | _ => [] }
theorem qt.link {x0 : Sl} {x1 : Sl} {H : AH} {k : Int → AH → Prop} (h : qt.b x0 x1 H k) : qt x0 x1 H k := lk1 pan hT hm Tryz.func23 (by kernel_rfl) (A := qt.ann) (by kernel_rfl) (by simp) (by kernel_rfl) h
def qa4.b (x0 : Option Addr) (H : AH) (k : Option Addr → AH → Prop) : Prop :=
 bcase (qlt x0) (k none H) (onPtr x0 fun a6 => elP (AH.cell? H (qkW a6 4)) fun p8 => k p8 H)
theorem qa4.link {x0 : Option Addr} {H : AH} {k : Option Addr → AH → Prop} (h : qa4.b x0 H k) : qa4 x0 H k := lk1 pan hT hm Tryz.func25 (by kernel_rfl) (A := ann0) (by kernel_rfl) (by simp) (by kernel_rfl) h
def qbS.b (x0 : List Value) (H : AH) (k : Int → AH → Prop) : Prop :=
 newC H ⟨x0, .rw, 0⟩ fun o1 H1 => ldA H1 ⟨o1, 0, none⟩ 4 fun c3 => qaA c3 H1 fun b4 H4 => bcase (!b4) (k (0 : Int) H4) (k (200 : Int) H4)
theorem qbS.link {x0 : List Value} {H : AH} {k : Int → AH → Prop} (h : qbS.b x0 H k) : qbS x0 H k := lk1 pan hT hm Tryz.func27 (by kernel_rfl) (A := ann0) (by kernel_rfl) (by simp) (by kernel_rfl) h
def qaS.b (x0 : Option Addr) (H : AH) (k : Int → AH → Prop) : Prop :=
 bcase (qlt x0) (k (0 : Int) H) (onPtr x0 fun a6 => elI .i64 (AH.cell? H (qkW a6 6)) fun n8 => k n8 H)
theorem qaS.link {x0 : Option Addr} {H : AH} {k : Int → AH → Prop} (h : qaS.b x0 H k) : qaS x0 H k := lk1 pan hT hm Tryz.func29 (by kernel_rfl) (A := ann0) (by kernel_rfl) (by simp) (by kernel_rfl) h
def qcc.b (x0 : Int) (H : AH) (k : Bool → AH → Prop) : Prop :=
 bcase (decide ((x0 : Int) ≥ (0 : Int))) (k (decide ((x0 : Int) ≤ (16 : Int))) H) (k false H)
theorem qcc.link {x0 : Int} {H : AH} {k : Bool → AH → Prop} (h : qcc.b x0 H k) : qcc x0 H k := lk1 pan hT hm Tryz.func74 (by kernel_rfl) (A := ann0) (by kernel_rfl) (by simp) (by kernel_rfl) h
def cost_of.b (x0 : Int) (x1 : Int) (H : AH) (k : Int → AH → Prop) : Prop :=
 k (qkU .i64 ((qkU .i64 ((qkU .i64 ((12 : Int) * x0)) + (24 : Int))) + (qkU .i64 ((4 : Int) * x1)))) H
theorem cost_of.link {x0 : Int} {x1 : Int} {H : AH} {k : Int → AH → Prop} (h : cost_of.b x0 x1 H k) : cost_of x0 x1 H k := lk1 pan hT hm Tryz.func75 (by kernel_rfl) (A := ann0) (by kernel_rfl) (by simp) (by kernel_rfl) h
def qbG.b (x0 : Int) (H : AH) (k : Int → AH → Prop) : Prop :=
 qcc x0 H fun b4 H4 => bcase (!b4) (k (0 : Int) H4) (cost_of (14 : Int) x0 H4 fun n7 H7 => k n7 H7)
theorem qbG.link {x0 : Int} {H : AH} {k : Int → AH → Prop} (h : qbG.b x0 H k) : qbG x0 H k := lk1 pan hT hm Tryz.func30 (by kernel_rfl) (A := ann0) (by kernel_rfl) (by simp) (by kernel_rfl) h
def qbm.j1 (k : Int → AH → Prop) (o1 : Nat) (H1 : AH) (x14 : Bool) : Prop :=
 bcase x14 (elI .i64 (AH.cell? H1 (qkW ⟨o1, 0, none⟩ 2)) fun n16 => ((64 : Int) : Int) ≠ 0 ∧ k (qkU .i64 ((qkU .i64 (qmf n16 (64 : Int))) + (4 : Int))) H1) (k (0 : Int) H1)
def qbm.b (x0 : List Value) (H : AH) (k : Int → AH → Prop) : Prop :=
 newC H ⟨x0, .rw, 0⟩ fun o1 H1 => elI .i64 (AH.cell? H1 (qkW ⟨o1, 0, none⟩ 0)) fun n4 => bcase ((n4 : Int) == (1 : Int)) (elI .i64 (AH.cell? H1 (qkW ⟨o1, 0, none⟩ 2)) fun n8 => bcase (decide ((n8 : Int) ≥ (0 : Int))) (elI .i64 (AH.cell? H1 (qkW ⟨o1, 0, none⟩ 2)) fun n12 => qbm.j1 k o1 H1 (decide ((n12 : Int) ≤ (448 : Int)))) (qbm.j1 k o1 H1 false)) (bcase ((n4 : Int) == (4 : Int)) (elL (AH.cell? H1 (qkW ⟨o1, 0, none⟩ 4)) fun s22 => bcase (decide ((((s22.n : Nat) : Int) : Int) ≤ (448 : Int))) (elL (AH.cell? H1 (qkW ⟨o1, 0, none⟩ 4)) fun s26 => ((64 : Int) : Int) ≠ 0 ∧ k (qkU .i64 ((qkU .i64 (qmf ((s26.n : Nat) : Int) (64 : Int))) + (2 : Int))) H1) (k (0 : Int) H1)) (bcase ((n4 : Int) == (2 : Int)) (k (1 : Int) H1) (k (0 : Int) H1)))
theorem qbm.link {x0 : List Value} {H : AH} {k : Int → AH → Prop} (h : qbm.b x0 H k) : qbm x0 H k := lk1 pan hT hm Tryz.func76 (by kernel_rfl) (A := ann0) (by kernel_rfl) (by simp) (by kernel_rfl) h
def cost_Op.b (x0 : List Value) (x1 : Int) (H : AH) (k : Int → AH → Prop) : Prop :=
 newC H ⟨x0, .rw, 0⟩ fun o2 H2 => ldA H2 ⟨o2, 0, none⟩ 5 fun c6 => qbm c6 H2 fun n7 H7 => qcc x1 H7 fun b10 H10 => bcase (!b10) (k (0 : Int) H10) (elI .i64 (AH.cell? H10 (qkW ⟨o2, 0, none⟩ 0)) fun n14 => bcase ((n14 : Int) == (5 : Int)) (k (1 : Int) H10) (bcase ((n7 : Int) == (0 : Int)) (k (0 : Int) H10) (cost_of n7 x1 H10 fun n21 H21 => k n21 H21)))
theorem cost_Op.link {x0 : List Value} {x1 : Int} {H : AH} {k : Int → AH → Prop} (h : cost_Op.b x0 x1 H k) : cost_Op x0 x1 H k := lk1 pan hT hm Tryz.func31 (by kernel_rfl) (A := ann0) (by kernel_rfl) (by simp) (by kernel_rfl) h
def qm.j1 (k : Bool → AH → Prop) (HL9 : AH) : Prop :=
 qap  HL9 fun b84 H84 => k b84 H84
def qm.j2 (k : Bool → AH → Prop) (p17a : Option Addr) (t9 : Bool × Int) (it9 : (Bool × Int) → AH → Prop) (o8 : Nat) (Hs4 : AH) (x50 : Bool) : Prop :=
 bcase x50 (qaS p17a Hs4 fun n75 H75 => bcase ((n75 : Int) != (0 : Int)) (k false H75) (it9 (t9.1, (qkU .i64 (t9.2 + (1 : Int)))) H75)) (ldA Hs4 ⟨o8, 0, none⟩ 5 fun c80 => qaS p17a Hs4 fun n79 H79 => AH.row? H79 ⟨o8, 0, none⟩ 5 = some c80 ∧ cost_Op c80 (0 : Int) H79 fun n81 H81 => bcase (decide ((n79 : Int) > n81)) (k false H81) (it9 (t9.1, (qkU .i64 (t9.2 + (1 : Int)))) H81))
def qm.l3 (x1 : Sl) (k : Bool → AH → Prop) (p17a : Option Addr) (t9 : Bool × Int) (HL9 : AH) (it9 : (Bool × Int) → AH → Prop) : Prop :=
 bcase (decide ((t9.2 : Int) < ((x1.n : Nat) : Int))) ((0 ≤ t9.2 ∧ t9.2 < ((x1.n : Nat) : Int)) ∧ onPtr x1.a fun a37 => ldA HL9 (qkW a37 (qk5 t9.2 * 5)) 5 fun c38 => newC HL9 ⟨[(qkT .i64 (0 : Int)), (qkT .i64 (0 : Int)), (qkT .i64 (0 : Int)), (qkT .i64 (0 : Int)), (qle none 0 0)], .rw, 0⟩ fun o8 H8 => (qk8 c38 = 5 ∧ qly c38 qn = true) ∧ stC H8 ⟨o8, 0, none⟩ c38 fun Hs2 => ldA Hs2 ⟨o8, 0, none⟩ 5 fun c40 => qX p17a c40 Hs2 fun c41 H41 => newC H41 ⟨[(qkT .i64 (0 : Int)), (qkT .i64 (0 : Int)), (qle none 0 0)], .rw, 0⟩ fun o9 H9 => (qk8 c41 = 3 ∧ qly c41 qn = true) ∧ stC H9 ⟨o9, 0, none⟩ c41 fun Hs4 => elI .i64 (AH.cell? Hs4 (qkW ⟨o8, 0, none⟩ 0)) fun n44 => bcase ((n44 : Int) == (8 : Int)) (qaS p17a Hs4 fun n47 H47 => qbG (0 : Int) H47 fun n48 H48 => bcase (decide ((n47 : Int) > n48)) (k false H48) (it9 (t9.1, (qkU .i64 (t9.2 + (1 : Int)))) H48)) (elI .i64 (AH.cell? Hs4 (qkW ⟨o8, 0, none⟩ 0)) fun n52 => bcase ((n52 : Int) == (7 : Int)) (qm.j2 k p17a t9 it9 o8 Hs4 true) (elI .i64 (AH.cell? Hs4 (qkW ⟨o8, 0, none⟩ 0)) fun n56 => bcase ((n56 : Int) == (3 : Int)) (qm.j2 k p17a t9 it9 o8 Hs4 true) (elI .i64 (AH.cell? Hs4 (qkW ⟨o8, 0, none⟩ 0)) fun n61 => bcase ((n61 : Int) == (6 : Int)) (qm.j2 k p17a t9 it9 o8 Hs4 true) (elI .i64 (AH.cell? Hs4 (qkW ⟨o9, 0, none⟩ 0)) fun n66 => bcase ((n66 : Int) != (0 : Int)) (elI .i64 (AH.cell? Hs4 (qkW ⟨o9, 0, none⟩ 0)) fun n70 => qm.j2 k p17a t9 it9 o8 Hs4 ((n70 : Int) != (2 : Int))) (qm.j2 k p17a t9 it9 o8 Hs4 false)))))) (qm.j1 k HL9)
def qm.j4 (x1 : Sl) (k : Bool → AH → Prop) (o2 : Nat) (H17 : AH) (p17a : Option Addr) (x25 : Bool) : Prop :=
 bcase x25 (k false H17) (ldA H17 ⟨o2, 0, none⟩ 4 fun c29 => qa4 p17a H17 fun p27 H27 => AH.row? H27 ⟨o2, 0, none⟩ 4 = some c29 ∧ qad p27 H27 fun n28 H28 => AH.row? H28 ⟨o2, 0, none⟩ 4 = some c29 ∧ qa9 c29 H28 fun c30 H30 => qbS c30 H30 fun n31 H31 => bcase (decide ((n28 : Int) > n31)) (k false H31) (loopT (qm.l3 x1 k p17a) ((false, (0 : Int)) : Bool × Int) H31))
def qm.b (x0 : List Value) (x1 : Sl) (H : AH) (k : Bool → AH → Prop) : Prop :=
 newC H ⟨x0, .rw, 0⟩ fun o2 H2 => qt x1 ⟨none, 0, 0⟩ H2 fun n11 H11 => bcase (decide ((n11 : Int) > (0 : Int))) (qap  H11 fun b13 H13 => k b13 H13) (ldA H11 ⟨o2, 0, none⟩ 4 fun c15 => qa9 c15 H11 fun c16 H16 => qbr c16 ⟨none, 0, 0⟩ H16 fun p17a n17b H17 => bcase ((n17b : Int) != (0 : Int)) (qm.j4 x1 k o2 H17 p17a true) (qm.j4 x1 k o2 H17 p17a (qlt p17a)))
def qm.ann : Ann := { keep := fun r => match r with | 9 => [(4, .bool), (35, .int .i64)] | _ => [], ord := fun r => match r with | 6 => [0, 3, 1, 2, 4, 5, 6] | 18 => [0, 2, 1, 3, 4, 5] | _ => [] }
theorem qm.link {x0 : List Value} {x1 : Sl} {H : AH} {k : Bool → AH → Prop} (h : qm.b x0 x1 H k) : qm x0 x1 H k := lk1 pan hT hm Tryz.func5 (by kernel_rfl) (A := qm.ann) (by kernel_rfl) (by simp) (by kernel_rfl) h
def qbA.j1 (x0 : Int) (H : AH) (k : Int → AH → Prop) (x8 : Bool) : Prop :=
 bcase x8 (k (0 : Int) H) (((8 : Int) : Int) ≠ 0 ∧ k (qkU .i64 ((qkU .i64 (qmf (qkU .i64 (x0 + (7 : Int))) (8 : Int))) + (1 : Int))) H)
def qbA.b (x0 : Int) (H : AH) (k : Int → AH → Prop) : Prop :=
 bcase (decide ((x0 : Int) < (1 : Int))) (qbA.j1 x0 H k true) (qbA.j1 x0 H k (decide ((x0 : Int) > (448 : Int))))
theorem qbA.link {x0 : Int} {H : AH} {k : Int → AH → Prop} (h : qbA.b x0 H k) : qbA x0 H k := lk1 pan hT hm Tryz.func109 (by kernel_rfl) (A := ann0) (by kernel_rfl) (by simp) (by kernel_rfl) h
def qO.j1 (t3 : Sl × Int) (it3 : (Sl × Int) → AH → Prop) (Hs2 : AH) (x5 : Sl) (x56 : Bool) : Prop :=
 bcase x56 (newC Hs2 ⟨[(qkT .i64 t3.2)], .rw, 1⟩ fun o59 H59 => appendC 1 H59 x5 ⟨(some ⟨o59, 0, none⟩), 1, 1⟩ fun s60 H60 => it3 (s60, (qkU .i64 (t3.2 + (1 : Int)))) H60) (it3 (x5, (qkU .i64 (t3.2 + (1 : Int)))) Hs2)
def qO.j2 (x0 : Sl) (t3 : Sl × Int) (it3 : (Sl × Int) → AH → Prop) (o7 : Nat) (Hs2 : AH) (x5 : Sl) : Prop :=
 bcase ((((x5.n : Nat) : Int) : Int) == (0 : Int)) (qO.j1 t3 it3 Hs2 x5 true) (elI .i64 (AH.cell? Hs2 (qkW ⟨o7, 0, none⟩ 1)) fun n47 => (0 ≤ (0 : Int) ∧ (0 : Int) < ((x5.n : Nat) : Int)) ∧ onPtr x5.a fun a50 => elI .i64 (AH.cell? Hs2 (qkW a50 (qk5 (0 : Int) * 1))) fun n51 => (0 ≤ n51 ∧ n51 < ((x0.n : Nat) : Int)) ∧ onPtr x0.a fun a52 => elI .i64 (AH.cell? Hs2 (qkW (qkW a52 (qk5 n51 * 3)) 1)) fun n54 => qO.j1 t3 it3 Hs2 x5 ((n47 : Int) == n54))
def qO.j3 (x0 : Sl) (t3 : Sl × Int) (it3 : (Sl × Int) → AH → Prop) (o7 : Nat) (Hs2 : AH) (x41 : Bool) : Prop :=
 bcase x41 (qO.j2 x0 t3 it3 o7 Hs2 ⟨none, 0, 0⟩) (qO.j2 x0 t3 it3 o7 Hs2 t3.1)
def qO.j4 (x0 : Sl) (t3 : Sl × Int) (it3 : (Sl × Int) → AH → Prop) (o7 : Nat) (Hs2 : AH) (x26 : Bool) : Prop :=
 bcase x26 (it3 (t3.1, (qkU .i64 (t3.2 + (1 : Int)))) Hs2) (bcase (decide ((((t3.1.n : Nat) : Int) : Int) > (0 : Int))) (elI .i64 (AH.cell? Hs2 (qkW ⟨o7, 0, none⟩ 1)) fun n32 => (0 ≤ (0 : Int) ∧ (0 : Int) < ((t3.1.n : Nat) : Int)) ∧ onPtr t3.1.a fun a35 => elI .i64 (AH.cell? Hs2 (qkW a35 (qk5 (0 : Int) * 1))) fun n36 => (0 ≤ n36 ∧ n36 < ((x0.n : Nat) : Int)) ∧ onPtr x0.a fun a37 => elI .i64 (AH.cell? Hs2 (qkW (qkW a37 (qk5 n36 * 3)) 1)) fun n39 => qO.j3 x0 t3 it3 o7 Hs2 (decide ((n32 : Int) < n39))) (qO.j3 x0 t3 it3 o7 Hs2 false))
def qO.l5 (x0 : Sl) (x1 : Int) (k : Sl → AH → Prop) (t3 : Sl × Int) (HL3 : AH) (it3 : (Sl × Int) → AH → Prop) : Prop :=
 bcase (decide ((t3.2 : Int) < ((x0.n : Nat) : Int))) ((0 ≤ t3.2 ∧ t3.2 < ((x0.n : Nat) : Int)) ∧ onPtr x0.a fun a13 => ldA HL3 (qkW a13 (qk5 t3.2 * 3)) 3 fun c14 => newC HL3 ⟨[(qkT .i64 (0 : Int)), (qkT .i64 (0 : Int)), (qlS false)], .rw, 0⟩ fun o7 H7 => (qk8 c14 = 3 ∧ qly c14 qn = true) ∧ stC H7 ⟨o7, 0, none⟩ c14 fun Hs2 => bcase (decide ((x1 : Int) < (2 : Int))) (qO.j4 x0 t3 it3 o7 Hs2 true) (elB (AH.cell? Hs2 (qkW ⟨o7, 0, none⟩ 2)) fun b19 => bcase b19 (qO.j4 x0 t3 it3 o7 Hs2 true) (elI .i64 (AH.cell? Hs2 (qkW ⟨o7, 0, none⟩ 1)) fun n23 => qO.j4 x0 t3 it3 o7 Hs2 (decide ((n23 : Int) < x1))))) (k t3.1 HL3)
def qO.b (x0 : Sl) (x1 : Int) (H : AH) (k : Sl → AH → Prop) : Prop :=
 loopT (qO.l5 x0 x1 k) ((⟨none, 0, 0⟩, (0 : Int)) : Sl × Int) H
def qO.ann : Ann := { keep := fun r => match r with | 3 => [(5, .sl), (10, .int .i64)] | _ => [], ord := fun r => match r with | 6 => [0, 1, 2, 3, 4, 5, 6, 7, 8, 9, 10, 11, 12, 13, 14] | 8 => [0, 1, 2, 3, 4, 5, 6, 7, 8, 9, 10, 11, 12, 13, 14] | _ => [] }
theorem qO.link {x0 : Sl} {x1 : Int} {H : AH} {k : Sl → AH → Prop} (h : qO.b x0 x1 H k) : qO x0 x1 H k := lk1 pan hT hm Tryz.func164 (by kernel_rfl) (A := qO.ann) (by kernel_rfl) (by simp) (by kernel_rfl) h
def qbD.j1 (x0 : Int) (x1 : Int) (H : AH) (k : Int → AH → Prop) (x5 : Bool) : Prop :=
 bcase x5 (k (0 : Int) H) (bcase (decide (((qkU .i64 (x0 - x1)) : Int) < (2 : Int))) (k x0 H) (k x1 H))
def qbD.b (x0 : Int) (x1 : Int) (H : AH) (k : Int → AH → Prop) : Prop :=
 bcase (decide ((x1 : Int) < (2 : Int))) (qbD.j1 x0 x1 H k true) (qbD.j1 x0 x1 H k (decide ((x1 : Int) > x0)))
theorem qbD.link {x0 : Int} {x1 : Int} {H : AH} {k : Int → AH → Prop} (h : qbD.b x0 x1 H k) : qbD x0 x1 H k := lk1 pan hT hm Tryz.func162 (by kernel_rfl) (A := ann0) (by kernel_rfl) (by simp) (by kernel_rfl) h
def qZ.b (x0 : Int) (H : AH) (pk : Value → AH → Prop) (k : AH → Prop) : Prop :=
 bcase ((x0 : Int) != (0 : Int)) (pk (Value.iface 31 (qkT .i64 x0)) H) (k H)
theorem qZ.link {x0 : Int} {H : AH} {pk : Value → AH → Prop} {k : AH → Prop} (h : qZ.b x0 H pk k) : qZ x0 H pk k := lk0 pan hT hm Tryz.func113 (by kernel_rfl) (A := ann0) (by kernel_rfl) (by kernel_rfl) h
def qaE.b (x0 : Option Addr) (H : AH) (pk : Value → AH → Prop) (k : Sl → AH → Prop) : Prop :=
 qS x0 H fun s7a n7b H7 => qZ n7b H7 (fun pv11 Hp11 => pk pv11 Hp11) fun H11 => k s7a H11
theorem qaE.link {x0 : Option Addr} {H : AH} {pk : Value → AH → Prop} {k : Sl → AH → Prop} (h : qaE.b x0 H pk k) : qaE x0 H pk k := lk1 pan hT hm Tryz.func108 (by kernel_rfl) (A := ann0) (by kernel_rfl) (by simp) (by kernel_rfl) h
def qag.b (x0 : Option Addr) (H : AH) (pk : Value → AH → Prop) (k : AH → Prop) : Prop :=
 qbP x0 H fun b3 H3 => bcase b3 (pk (Value.iface 31 (qkT .i64 (3 : Int))) H3) (k H3)
theorem qag.link {x0 : Option Addr} {H : AH} {pk : Value → AH → Prop} {k : AH → Prop} (h : qag.b x0 H pk k) : qag x0 H pk k := lk0 pan hT hm Tryz.func110 (by kernel_rfl) (A := ann0) (by kernel_rfl) (by kernel_rfl) h
def qaw.b (x0 : Sl) (H : AH) (k : Sl → AH → Prop) : Prop :=
 bcase (qlt x0.a) (k ⟨none, 0, 0⟩ H) (newC H ⟨[], .rw, 1⟩ fun o5 H5 => appendC 1 H5 ⟨(some ⟨o5, 0, none⟩), 0, 1⟩ x0 fun s7 H7 => k s7 H7)
theorem qaw.link {x0 : Sl} {H : AH} {k : Sl → AH → Prop} (h : qaw.b x0 H k) : qaw x0 H k := lk1 pan hT hm Tryz.func147 (by kernel_rfl) (A := ann0) (by kernel_rfl) (by simp) (by kernel_rfl) h
def qbB.b (x0 : Option Addr) (H : AH) (k : Sl → AH → Prop) : Prop :=
 bcase (qlt x0) (k ⟨none, 0, 0⟩ H) (onPtr x0 fun a6 => elL (AH.cell? H (qkW a6 1)) fun s8 => qaw s8 H fun s9 H9 => k s9 H9)
theorem qbB.link {x0 : Option Addr} {H : AH} {k : Sl → AH → Prop} (h : qbB.b x0 H k) : qbB x0 H k := lk1 pan hT hm Tryz.func112 (by kernel_rfl) (A := ann0) (by kernel_rfl) (by simp) (by kernel_rfl) h
def qbg.j1 (x1 : Sl) (k : Int → AH → Prop) (o2 : Nat) (H2 : AH) (x15 : Bool) : Prop :=
 bcase x15 (k (0 : Int) H2) (elI .i64 (AH.cell? H2 (qkW ⟨o2, 0, none⟩ 0)) fun n18 => ((32 : Int) : Int) ≠ 0 ∧ (0 ≤ (qkU .i64 (qmf n18 (32 : Int))) ∧ (qkU .i64 (qmf n18 (32 : Int))) < ((x1.n : Nat) : Int)) ∧ onPtr x1.a fun a20 => elI .i64 (AH.cell? H2 (qkW a20 (qk5 (qkU .i64 (qmf n18 (32 : Int))) * 1))) fun n21 => k n21 H2)
def qbg.b (x0 : List Value) (x1 : Sl) (H : AH) (k : Int → AH → Prop) : Prop :=
 newC H ⟨x0, .rw, 0⟩ fun o2 H2 => elI .i64 (AH.cell? H2 (qkW ⟨o2, 0, none⟩ 0)) fun n6 => bcase (decide ((n6 : Int) < (0 : Int))) (qbg.j1 x1 k o2 H2 true) (elI .i64 (AH.cell? H2 (qkW ⟨o2, 0, none⟩ 0)) fun n10 => ((32 : Int) : Int) ≠ 0 ∧ qbg.j1 x1 k o2 H2 (decide (((qkU .i64 (qmf n10 (32 : Int))) : Int) ≥ ((x1.n : Nat) : Int))))
theorem qbg.link {x0 : List Value} {x1 : Sl} {H : AH} {k : Int → AH → Prop} (h : qbg.b x0 x1 H k) : qbg x0 x1 H k := lk1 pan hT hm Tryz.func173 (by kernel_rfl) (A := ann0) (by kernel_rfl) (by simp) (by kernel_rfl) h
def qat.j1 (t3 : Int × Int) (it3 : (Int × Int) → AH → Prop) (n19 : Int) (H34 : AH) (x55 : Bool) : Prop :=
 bcase x55 (it3 (n19, (qkU .i64 (t3.2 + (1 : Int)))) H34) (it3 (t3.1, (qkU .i64 (t3.2 + (1 : Int)))) H34)
def qat.l2 (x0 : Sl) (x2 : Sl) (k : Int → AH → Prop) (s14 : Sl) (t3 : Int × Int) (HL3 : AH) (it3 : (Int × Int) → AH → Prop) : Prop :=
 bcase (decide ((t3.2 : Int) < ((s14.n : Nat) : Int))) ((0 ≤ t3.2 ∧ t3.2 < ((s14.n : Nat) : Int)) ∧ onPtr s14.a fun a18 => elI .i64 (AH.cell? HL3 (qkW a18 (qk5 t3.2 * 1))) fun n19 => bcase (decide ((t3.1 : Int) < (0 : Int))) (it3 (n19, (qkU .i64 (t3.2 + (1 : Int)))) HL3) ((0 ≤ n19 ∧ n19 < ((x0.n : Nat) : Int)) ∧ onPtr x0.a fun a25 => ldA HL3 (qkW a25 (qk5 n19 * 3)) 3 fun c26 => (0 ≤ t3.1 ∧ t3.1 < ((x0.n : Nat) : Int)) ∧ onPtr x0.a fun a31 => ldA HL3 (qkW a31 (qk5 t3.1 * 3)) 3 fun c32 => qbg c26 x2 HL3 fun n28 H28 => AH.row? H28 (qkW a31 (qk5 t3.1 * 3)) 3 = some c32 ∧ qbg c32 x2 H28 fun n34 H34 => bcase (decide ((n28 : Int) < n34)) (qat.j1 t3 it3 n19 H34 true) (bcase ((n28 : Int) == n34) ((0 ≤ n19 ∧ n19 < ((x0.n : Nat) : Int)) ∧ onPtr x0.a fun a45 => elI .i64 (AH.cell? H34 (qkW (qkW a45 (qk5 n19 * 3)) 0)) fun n47 => (0 ≤ t3.1 ∧ t3.1 < ((x0.n : Nat) : Int)) ∧ onPtr x0.a fun a50 => elI .i64 (AH.cell? H34 (qkW (qkW a50 (qk5 t3.1 * 3)) 0)) fun n52 => qat.j1 t3 it3 n19 H34 (decide ((n47 : Int) < n52))) (qat.j1 t3 it3 n19 H34 false)))) (k t3.1 HL3)
def qat.b (x0 : Sl) (x1 : Int) (x2 : Sl) (H : AH) (k : Int → AH → Prop) : Prop :=
 qO x0 x1 H fun s14 H14 => loopT (qat.l2 x0 x2 k s14) (((-1 : Int), (0 : Int)) : Int × Int) H14
def qat.ann : Ann := { keep := fun r => match r with | 3 => [(7, .int .i64), (16, .int .i64)] | _ => [], ord := fun r => match r with | 7 => [0, 1, 2, 3, 4, 6, 7, 8, 9, 10, 5, 11, 12, 13] | 8 => [0, 1, 2, 3, 4, 5, 6, 7, 8, 9, 10, 11, 12, 13, 14, 15, 16, 17, 18, 19, 20] | _ => [] }
theorem qat.link {x0 : Sl} {x1 : Int} {x2 : Sl} {H : AH} {k : Int → AH → Prop} (h : qat.b x0 x1 x2 H k) : qat x0 x1 x2 H k := lk1 pan hT hm Tryz.func145 (by kernel_rfl) (A := qat.ann) (by kernel_rfl) (by simp) (by kernel_rfl) h
def qas.j1 (k : Int → AH → Prop) (t3 : Int × Int × Int) (it3 : (Int × Int × Int) → AH → Prop) (o5 : Nat) (H14 : AH) (x19 : Bool) : Prop :=
 bcase x19 (k (0 : Int) H14) (elI .i64 (AH.cell? H14 (qkW ⟨o5, 0, none⟩ 1)) fun n22 => it3 (t3.1, (qkU .i64 (t3.2.1 + n22)), (qkU .i64 (t3.2.2 + (1 : Int)))) H14)
def qas.l2 (x0 : Sl) (k : Int → AH → Prop) (t3 : Int × Int × Int) (HL3 : AH) (it3 : (Int × Int × Int) → AH → Prop) : Prop :=
 bcase (decide ((t3.2.2 : Int) < ((x0.n : Nat) : Int))) ((0 ≤ t3.2.2 ∧ t3.2.2 < ((x0.n : Nat) : Int)) ∧ onPtr x0.a fun a10 => ldA HL3 (qkW a10 (qk5 t3.2.2 * 3)) 3 fun c11 => newC HL3 ⟨[(qkT .i64 (0 : Int)), (qkT .i64 (0 : Int)), (qlS false)], .rw, 0⟩ fun o5 H5 => (qk8 c11 = 3 ∧ qly c11 qn = true) ∧ stC H5 ⟨o5, 0, none⟩ c11 fun Hs2 => elI .i64 (AH.cell? Hs2 (qkW ⟨o5, 0, none⟩ 1)) fun n13 => qaU n13 Hs2 fun b14 H14 => bcase (!b14) (qas.j1 k t3 it3 o5 H14 true) (qas.j1 k t3 it3 o5 H14 (decide ((t3.2.1 : Int) > (512 : Int))))) (k t3.2.1 HL3)
def qas.b (x0 : Sl) (H : AH) (k : Int → AH → Prop) : Prop :=
 loopT (qas.l2 x0 k) (((0 : Int), (0 : Int), (0 : Int)) : Int × Int × Int) H
def qas.ann : Ann := { keep := fun r => match r with | 3 => [(2, .int .i64), (3, .int .i64), (8, .int .i64)] | _ => [], ord := fun r => match r with  | _ => [] }
theorem qas.link {x0 : Sl} {H : AH} {k : Int → AH → Prop} (h : qas.b x0 H k) : qas x0 H k := lk1 pan hT hm Tryz.func189 (by kernel_rfl) (A := qas.ann) (by kernel_rfl) (by simp) (by kernel_rfl) h
def qaL.j1 (x0 : Sl) (x1 : Int) (x2 : Int) (k : Sl → AH → Prop) (H13 : AH) (x31 : Bool) : Prop :=
 bcase x31 (k ⟨none, 0, 0⟩ H13) ((0 ≤ x1 ∧ x1 < ((x0.n : Nat) : Int)) ∧ onPtr x0.a fun a34 => ldA H13 (qkW a34 (qk5 x1 * 3)) 3 fun c35 => newC H13 ⟨[(qkT .i64 (0 : Int)), (qkT .i64 (0 : Int)), (qlS false)], .rw, 0⟩ fun o7 H7 => (qk8 c35 = 3 ∧ qly c35 qn = true) ∧ stC H7 ⟨o7, 0, none⟩ c35 fun Hs2 => elI .i64 (AH.cell? Hs2 (qkW ⟨o7, 0, none⟩ 1)) fun n37 => qbD n37 x2 Hs2 fun n39 H39 => bcase ((n39 : Int) == (0 : Int)) (k ⟨none, 0, 0⟩ H39) (elI .i64 (AH.cell? H39 (qkW ⟨o7, 0, none⟩ 0)) fun n43 => (qk8 [(qkT .i64 n43), (qkT .i64 n39), (qlS true)] = 3) ∧ newC H39 ⟨[(qkT .i64 n43), (qkT .i64 n39), (qlS true)], .rw, 3⟩ fun o46 H46 => elI .i64 (AH.cell? H46 (qkW ⟨o7, 0, none⟩ 1)) fun n49 => bcase (decide ((n39 : Int) < n49)) (elI .i64 (AH.cell? H46 (qkW ⟨o7, 0, none⟩ 0)) fun n53 => elI .i64 (AH.cell? H46 (qkW ⟨o7, 0, none⟩ 1)) fun n57 => (qk8 [(qkT .i64 (qkU .i64 (n53 + n39))), (qkT .i64 (qkU .i64 (n57 - n39))), (qlS false)] = 3) ∧ newC H46 ⟨[(qkT .i64 (qkU .i64 (n53 + n39))), (qkT .i64 (qkU .i64 (n57 - n39))), (qlS false)], .rw, 3⟩ fun o61 H61 => appendC 3 H61 ⟨(some ⟨o46, 0, none⟩), 1, 1⟩ ⟨(some ⟨o61, 0, none⟩), 1, 1⟩ fun s62 H62 => k s62 H62) (k ⟨(some ⟨o46, 0, none⟩), 1, 1⟩ H46)))
def qaL.b (x0 : Sl) (x1 : Int) (x2 : Int) (H : AH) (k : Sl → AH → Prop) : Prop :=
 qas x0 H fun n12 H12 => qR x0 n12 H12 fun b13 H13 => bcase (!b13) (qaL.j1 x0 x1 x2 k H13 true) (bcase (decide ((x1 : Int) < (0 : Int))) (qaL.j1 x0 x1 x2 k H13 true) (bcase (decide ((x1 : Int) ≥ ((x0.n : Nat) : Int))) (qaL.j1 x0 x1 x2 k H13 true) ((0 ≤ x1 ∧ x1 < ((x0.n : Nat) : Int)) ∧ onPtr x0.a fun a28 => elB (AH.cell? H13 (qkW (qkW a28 (qk5 x1 * 3)) 2)) fun b30 => qaL.j1 x0 x1 x2 k H13 b30)))
theorem qaL.link {x0 : Sl} {x1 : Int} {x2 : Int} {H : AH} {k : Sl → AH → Prop} (h : qaL.b x0 x1 x2 H k) : qaL x0 x1 x2 H k := lk1 pan hT hm Tryz.func174 (by kernel_rfl) (A := ann0) (by kernel_rfl) (by simp) (by kernel_rfl) h
def qU.j1 (t3 : Sl × Int) (it3 : (Sl × Int) → AH → Prop) (o9 : Nat) (t7 : Sl × Int) (it7 : (Sl × Int) → AH → Prop) (HL7 : AH) (x38 : Bool) : Prop :=
 bcase x38 (elI .i64 (AH.cell? HL7 (qkW ⟨o9, 0, none⟩ 0)) fun n43 => (qk8 [(qkT .i64 (qkU .i64 (n43 + t7.2))), (qkT .u64 (0 : Int))] = 2) ∧ newC HL7 ⟨[(qkT .i64 (qkU .i64 (n43 + t7.2))), (qkT .u64 (0 : Int))], .rw, 2⟩ fun o47 H47 => appendC 2 H47 t7.1 ⟨(some ⟨o47, 0, none⟩), 1, 1⟩ fun s48 H48 => it7 (s48, (qkU .i64 (t7.2 + (1 : Int)))) H48) (it3 (t7.1, (qkU .i64 (t3.2 + (1 : Int)))) HL7)
def qU.l2 (t3 : Sl × Int) (it3 : (Sl × Int) → AH → Prop) (o9 : Nat) (t7 : Sl × Int) (HL7 : AH) (it7 : (Sl × Int) → AH → Prop) : Prop :=
 elI .i64 (AH.cell? HL7 (qkW ⟨o9, 0, none⟩ 1)) fun n33 => bcase (decide ((t7.2 : Int) < n33)) (elB (AH.cell? HL7 (qkW ⟨o9, 0, none⟩ 2)) fun b37 => qU.j1 t3 it3 o9 t7 it7 HL7 b37) (qU.j1 t3 it3 o9 t7 it7 HL7 false)
def qU.l3 (k : Sl → AH → Prop) (s14 : Sl) (t3 : Sl × Int) (HL3 : AH) (it3 : (Sl × Int) → AH → Prop) : Prop :=
 bcase (decide ((t3.2 : Int) < ((s14.n : Nat) : Int))) ((0 ≤ t3.2 ∧ t3.2 < ((s14.n : Nat) : Int)) ∧ onPtr s14.a fun a18 => ldA HL3 (qkW a18 (qk5 t3.2 * 3)) 3 fun c19 => newC HL3 ⟨[(qkT .i64 (0 : Int)), (qkT .i64 (0 : Int)), (qlS false)], .rw, 0⟩ fun o9 H9 => (qk8 c19 = 3 ∧ qly c19 qn = true) ∧ stC H9 ⟨o9, 0, none⟩ c19 fun Hs2 => elI .i64 (AH.cell? Hs2 (qkW ⟨o9, 0, none⟩ 0)) fun n22 => elI .i64 (AH.cell? Hs2 (qkW ⟨o9, 0, none⟩ 1)) fun n24 => elB (AH.cell? Hs2 (qkW ⟨o9, 0, none⟩ 2)) fun b26 => qbl n24 b26 Hs2 fun n27 H27 => AH.cell? H27 (qkW ⟨o9, 0, none⟩ 0) = some (qkT .i64 n22) ∧ (qk8 [(qkT .i64 n22), (qkT .u64 n27)] = 2) ∧ newC H27 ⟨[(qkT .i64 n22), (qkT .u64 n27)], .rw, 2⟩ fun o29 H29 => appendC 2 H29 t3.1 ⟨(some ⟨o29, 0, none⟩), 1, 1⟩ fun s30 H30 => loopT (qU.l2 t3 it3 o9) ((s30, (1 : Int)) : Sl × Int) H30) (k t3.1 HL3)
def qU.b (x0 : Sl) (x1 : Int) (x2 : Int) (H : AH) (k : Sl → AH → Prop) : Prop :=
 qaL x0 x1 x2 H fun s14 H14 => loopT (qU.l3 k s14) ((⟨none, 0, 0⟩, (0 : Int)) : Sl × Int) H14
def qU.ann : Ann := { keep := fun r => match r with | 3 => [(7, .sl), (16, .int .i64)] | 7 => [(7, .sl), (10, .int .i64)] | _ => [], ord := fun r => match r with | 5 => [0, 1, 2, 3, 4, 5, 6, 7, 8, 9, 10, 11] | _ => [] }
theorem qU.link {x0 : Sl} {x1 : Int} {x2 : Int} {H : AH} {k : Sl → AH → Prop} (h : qU.b x0 x1 x2 H k) : qU x0 x1 x2 H k := lk1 pan hT hm Tryz.func146 (by kernel_rfl) (A := qU.ann) (by kernel_rfl) (by simp) (by kernel_rfl) h
def qbv.b (x0 : Sl) (x1 : Int) (x2 : Sl) (H : AH) (k : Sl → Int → Int → AH → Prop) : Prop :=
 qbA x1 H fun n14 H14 => bcase ((n14 : Int) == (0 : Int)) (k ⟨none, 0, 0⟩ (0 : Int) (1 : Int) H14) (qK x0 H14 fun s19a b19b H19 => bcase (!b19b) (k ⟨none, 0, 0⟩ (0 : Int) (6 : Int) H19) (qat s19a n14 x2 H19 fun n27 H27 => bcase (decide ((n27 : Int) < (0 : Int))) (k ⟨none, 0, 0⟩ (0 : Int) (4 : Int) H27) ((0 ≤ n27 ∧ n27 < ((s19a.n : Nat) : Int)) ∧ onPtr s19a.a fun a36 => ldA H27 (qkW a36 (qk5 n27 * 3)) 3 fun c37 => qU s19a n27 n14 H27 fun s33 H33 => AH.row? H33 (qkW a36 (qk5 n27 * 3)) 3 = some c37 ∧ qaV c37 H33 fun n38 H38 => k s33 n38 (0 : Int) H38)))
def qbv.ann : Ann := { keep := fun r => match r with  | _ => [], ord := fun r => match r with | 10 => [0, 1, 2, 4, 5, 6, 7, 3, 8, 9, 10, 11] | _ => [] }
theorem qbv.link {x0 : Sl} {x1 : Int} {x2 : Sl} {H : AH} {k : Sl → Int → Int → AH → Prop} (h : qbv.b x0 x1 x2 H k) : qbv x0 x1 x2 H k := lk3 pan hT hm Tryz.func111 (by kernel_rfl) (A := qbv.ann) (by kernel_rfl) (by simp) (by simp) (by simp) (by kernel_rfl) h
def qT.b (x0 : Sl) (H : AH) (k : Sl → AH → Prop) : Prop :=
 bcase (qlt x0.a) (k ⟨none, 0, 0⟩ H) (newC H ⟨[], .rw, 1⟩ fun o5 H5 => appendC 1 H5 ⟨(some ⟨o5, 0, none⟩), 0, 1⟩ x0 fun s7 H7 => k s7 H7)
theorem qT.link {x0 : Sl} {H : AH} {k : Sl → AH → Prop} (h : qT.b x0 H k) : qT x0 H k := lk1 pan hT hm Tryz.func175 (by kernel_rfl) (A := ann0) (by kernel_rfl) (by simp) (by kernel_rfl) h
def qaz.j1 (s9 : Sl) (t3 : Int) (it3 : (Int) → AH → Prop) (o7 : Nat) (Hs2 : AH) (x25 : Bool) : Prop :=
 bcase x25 (elI .i64 (AH.cell? Hs2 (qkW ⟨o7, 0, none⟩ 0)) fun n28 => elI .u64 (AH.cell? Hs2 (qkW ⟨o7, 0, none⟩ 1)) fun n30 => (0 ≤ n28 ∧ n28 < ((s9.n : Nat) : Int)) ∧ onPtr s9.a fun a31 => stC Hs2 (qkW a31 (qk5 n28 * 1)) [(qkT .u64 n30)] fun Hs4 => it3 (qkU .i64 (t3 + (1 : Int))) Hs4) (it3 (qkU .i64 (t3 + (1 : Int))) Hs2)
def qaz.l2 (x1 : Sl) (k : Sl → AH → Prop) (s9 : Sl) (t3 : Int) (HL3 : AH) (it3 : (Int) → AH → Prop) : Prop :=
 bcase (decide ((t3 : Int) < ((x1.n : Nat) : Int))) ((0 ≤ t3 ∧ t3 < ((x1.n : Nat) : Int)) ∧ onPtr x1.a fun a14 => ldA HL3 (qkW a14 (qk5 t3 * 2)) 2 fun c15 => newC HL3 ⟨[(qkT .i64 (0 : Int)), (qkT .u64 (0 : Int))], .rw, 0⟩ fun o7 H7 => (qk8 c15 = 2 ∧ qly c15 qn = true) ∧ stC H7 ⟨o7, 0, none⟩ c15 fun Hs2 => elI .i64 (AH.cell? Hs2 (qkW ⟨o7, 0, none⟩ 0)) fun n17 => bcase (decide ((n17 : Int) ≥ (0 : Int))) (elI .i64 (AH.cell? Hs2 (qkW ⟨o7, 0, none⟩ 0)) fun n21 => qaz.j1 s9 t3 it3 o7 Hs2 (decide ((n21 : Int) < ((s9.n : Nat) : Int)))) (qaz.j1 s9 t3 it3 o7 Hs2 false)) (k s9 HL3)
def qaz.b (x0 : Sl) (x1 : Sl) (H : AH) (k : Sl → AH → Prop) : Prop :=
 qT x0 H fun s9 H9 => loopT (qaz.l2 x1 k s9) (((0 : Int)) : Int) H9
def qaz.ann : Ann := { keep := fun r => match r with | 3 => [(12, .int .i64)] | _ => [], ord := fun r => match r with  | _ => [] }
theorem qaz.link {x0 : Sl} {x1 : Sl} {H : AH} {k : Sl → AH → Prop} (h : qaz.b x0 x1 H k) : qaz x0 x1 H k := lk1 pan hT hm Tryz.func148 (by kernel_rfl) (A := qaz.ann) (by kernel_rfl) (by simp) (by kernel_rfl) h
def qau.j1 (k : Sl → AH → Prop) (t3 : Sl × Int) (HL3 : AH) : Prop :=
 qb9 t3.1 HL3 fun H23 => qbQ t3.1 H23 fun s25 H25 => k s25 H25
def qau.l2 (x0 : Sl) (k : Sl → AH → Prop) (t3 : Sl × Int) (HL3 : AH) (it3 : (Sl × Int) → AH → Prop) : Prop :=
 bcase (decide ((t3.2 : Int) < ((x0.n : Nat) : Int))) ((0 ≤ t3.2 ∧ t3.2 < ((x0.n : Nat) : Int)) ∧ onPtr x0.a fun a10 => ldA HL3 (qkW a10 (qk5 t3.2 * 2)) 2 fun c11 => newC HL3 ⟨[(qkT .i64 (0 : Int)), (qkT .u64 (0 : Int))], .rw, 0⟩ fun o5 H5 => (qk8 c11 = 2 ∧ qly c11 qn = true) ∧ stC H5 ⟨o5, 0, none⟩ c11 fun Hs2 => elI .i64 (AH.cell? Hs2 (qkW ⟨o5, 0, none⟩ 0)) fun n13 => bcase (decide ((n13 : Int) ≥ (0 : Int))) (elI .i64 (AH.cell? Hs2 (qkW ⟨o5, 0, none⟩ 0)) fun n17 => ((8 : Int) : Int) ≠ 0 ∧ newC Hs2 ⟨[(qkT .i64 (qkU .i64 (qmf n17 (8 : Int))))], .rw, 1⟩ fun o19 H19 => appendC 1 H19 t3.1 ⟨(some ⟨o19, 0, none⟩), 1, 1⟩ fun s20 H20 => it3 (s20, (qkU .i64 (t3.2 + (1 : Int)))) H20) (it3 (t3.1, (qkU .i64 (t3.2 + (1 : Int)))) Hs2)) (qau.j1 k t3 HL3)
def qau.b (x0 : Sl) (H : AH) (k : Sl → AH → Prop) : Prop :=
 loopT (qau.l2 x0 k) ((⟨none, 0, 0⟩, (0 : Int)) : Sl × Int) H
def qau.ann : Ann := { keep := fun r => match r with | 3 => [(3, .sl), (8, .int .i64)] | _ => [], ord := fun r => match r with  | _ => [] }
theorem qau.link {x0 : Sl} {H : AH} {k : Sl → AH → Prop} (h : qau.b x0 H k) : qau x0 H k := lk1 pan hT hm Tryz.func149 (by kernel_rfl) (A := qau.ann) (by kernel_rfl) (by simp) (by kernel_rfl) h
def qL.j1 (x0 : Option Addr) (x1 : Sl) (k : Int → AH → Prop) (HL15 : AH) : Prop :=
 onPtr x0 fun a80 => elP (AH.cell? HL15 (qkW a80 0)) fun p82 => qA p82 (1 : Int) (qkU .u64 ((x1.n : Nat) : Int)) HL15 fun n86 H86 => bcase ((n86 : Int) != (0 : Int)) (k n86 H86) (qaf x0 x1 H86 fun n92 H92 => k n92 H92)
def qL.l2 (x0 : Option Addr) (x1 : Sl) (k : Int → AH → Prop) (t9 : Sl × Int) (t15 : Int × Int) (HL15 : AH) (it15 : (Int × Int) → AH → Prop) : Prop :=
 bcase (decide ((t15.2 : Int) < ((t9.1.n : Nat) : Int))) ((0 ≤ t15.2 ∧ t15.2 < ((t9.1.n : Nat) : Int)) ∧ onPtr t9.1.a fun a66 => ldA HL15 (qkW a66 (qk5 t15.2 * 8)) 8 fun c67 => newC HL15 ⟨[(qkT .u64 (0 : Int)), (qkT .u64 (0 : Int)), (qkT .u64 (0 : Int)), (qkT .u64 (0 : Int)), (qkT .u64 (0 : Int)), (qkT .u64 (0 : Int)), (qkT .u64 (0 : Int)), (qkT .u64 (0 : Int))], .rw, 0⟩ fun o9 H9 => (qk8 c67 = 8 ∧ qly c67 qn = true) ∧ stC H9 ⟨o9, 0, none⟩ c67 fun Hs6 => onPtr x0 fun a69 => elP (AH.cell? Hs6 (qkW a69 1)) fun p71 => ldA Hs6 ⟨o9, 0, none⟩ 8 fun c73 => qal p71 t15.2 c73 Hs6 fun n74 H74 => bcase ((n74 : Int) != (0 : Int)) (k n74 H74) (it15 (t15.1, (qkU .i64 (t15.2 + (1 : Int)))) H74)) (qL.j1 x0 x1 k HL15)
def qL.l3 (x0 : Option Addr) (x1 : Sl) (k : Int → AH → Prop) (t9 : Sl × Int) (HL9 : AH) (it9 : (Sl × Int) → AH → Prop) : Prop :=
 bcase (decide ((t9.2 : Int) < ((x1.n : Nat) : Int))) ((0 ≤ t9.2 ∧ t9.2 < ((x1.n : Nat) : Int)) ∧ onPtr x1.a fun a43 => ldA HL9 (qkW a43 (qk5 t9.2 * 9)) 9 fun c44 => newC HL9 ⟨[(qkT .i64 (0 : Int)), (qkT .u64 (0 : Int)), (qkT .u64 (0 : Int)), (qkT .u64 (0 : Int)), (qkT .u64 (0 : Int)), (qkT .u64 (0 : Int)), (qkT .u64 (0 : Int)), (qkT .u64 (0 : Int)), (qkT .u64 (0 : Int))], .rw, 0⟩ fun o7 H7 => (qk8 c44 = 9 ∧ qly c44 qn = true) ∧ stC H7 ⟨o7, 0, none⟩ c44 fun Hs2 => ((8 : Int) : Int) ≠ 0 ∧ ((8 : Int) : Int) ≠ 0 ∧ elI .i64 (AH.cell? Hs2 (qkW ⟨o7, 0, none⟩ 0)) fun n51 => (0 ≤ (qkU .i64 (qmf t9.2 (8 : Int))) ∧ (qkU .i64 (qmf t9.2 (8 : Int))) < ((t9.1.n : Nat) : Int)) ∧ onPtr t9.1.a fun a53 => (0 ≤ (qlW t9.2 (8 : Int)) ∧ (qlW t9.2 (8 : Int)) < ((8 : Nat) : Int)) ∧ stC Hs2 (qkW (qkW a53 (qk5 (qkU .i64 (qmf t9.2 (8 : Int))) * 8)) (qk5 (qlW t9.2 (8 : Int)) * 1)) [(qkT .u64 (qkU .u64 n51))] fun Hs4 => ldA Hs4 (qkW ⟨o7, 0, none⟩ 1) 8 fun c57 => (qk8 c57 = 8) ∧ newC Hs4 ⟨(setMany [(qkT .u64 (0 : Int)), (qkT .u64 (0 : Int)), (qkT .u64 (0 : Int)), (qkT .u64 (0 : Int)), (qkT .u64 (0 : Int)), (qkT .u64 (0 : Int)), (qkT .u64 (0 : Int)), (qkT .u64 (0 : Int))] 0 c57), .rw, 8⟩ fun o58 H58 => appendC 8 H58 t9.1 ⟨(some ⟨o58, 0, none⟩), 1, 1⟩ fun s59 H59 => it9 (s59, (qkU .i64 (t9.2 + (1 : Int)))) H59) (loopT (qL.l2 x0 x1 k t9) (((0 : Int), (0 : Int)) : Int × Int) HL9)
def qL.j4 (x0 : Option Addr) (x1 : Sl) (k : Int → AH → Prop) (x12 : Bool) (Hj : AH) : Prop :=
 bcase x12 (k (1 : Int) Hj) (onPtr x0 fun a27 => elP (AH.cell? Hj (qkW a27 0)) fun p29 => qV p29 Hj fun b30 H30 => bcase b30 (k (2 : Int) H30) (qbq x0 H30 fun b33 H33 => bcase b33 (k (5 : Int) H33) (qbY ((x1.n : Nat) : Int) H33 fun n36 H36 => (0 ≤ n36 ∧ n36 ≤ (16 : Int) ∧ (16 : Int) ≤ (lim : Int)) ∧ newC H36 ⟨zerosOf (qk5 n36) [(qkT .u64 (0 : Int)), (qkT .u64 (0 : Int)), (qkT .u64 (0 : Int)), (qkT .u64 (0 : Int)), (qkT .u64 (0 : Int)), (qkT .u64 (0 : Int)), (qkT .u64 (0 : Int)), (qkT .u64 (0 : Int))], .rw, 8⟩ fun o37 H37 => loopT (qL.l3 x0 x1 k) ((⟨(some ⟨o37, 0, none⟩), (qk5 n36), 1⟩, (0 : Int)) : Sl × Int) H37)))
def qL.b (x0 : Option Addr) (x1 : Sl) (H : AH) (k : Int → AH → Prop) : Prop :=
 bcase (qlt x0) (qL.j4 x0 x1 k true H) (onPtr x0 fun a17 => elP (AH.cell? H (qkW a17 1)) fun p19 => qav p19 H fun n20 H20 => log_May n20 x1 H20 fun b22 H22 => qL.j4 x0 x1 k (!b22) H22)
def qL.ann : Ann := { keep := fun r => match r with | 9 => [(5, .sl), (40, .int .i64)] | 15 => [(4, .int .i64), (63, .int .i64)] | _ => [], ord := fun r => match r with | 11 => [0, 1, 2, 3, 4, 5, 6, 7, 8, 9, 10] | 17 => [0, 1, 2, 3, 4, 5, 6, 7] | _ => [] }
theorem qL.link {x0 : Option Addr} {x1 : Sl} {H : AH} {k : Int → AH → Prop} (h : qL.b x0 x1 H k) : qL x0 x1 H k := lk1 pan hT hm Tryz.func150 (by kernel_rfl) (A := qL.ann) (by kernel_rfl) (by simp) (by kernel_rfl) h
def qbp.b (x0 : Option Addr) (x1 : Int) (H : AH) (k : Bool → AH → Prop) : Prop :=
 bcase (!(qlt x0)) (bcase (decide ((x1 : Int) ≥ (0 : Int))) (onPtr x0 fun a14 => elL (AH.cell? H (qkW a14 1)) fun s16 => k (decide ((x1 : Int) < ((s16.n : Nat) : Int))) H) (k false H)) (k false H)
theorem qbp.link {x0 : Option Addr} {x1 : Int} {H : AH} {k : Bool → AH → Prop} (h : qbp.b x0 x1 H k) : qbp x0 x1 H k := lk1 pan hT hm Tryz.func178 (by kernel_rfl) (A := ann0) (by kernel_rfl) (by simp) (by kernel_rfl) h
def qaZ.b (x0 : Option Addr) (x1 : Int) (H : AH) (k : Int → AH → Prop) : Prop :=
 qbp x0 x1 H fun b7 H7 => bcase (!b7) (k (0 : Int) H7) (onPtr x0 fun a10 => elL (AH.cell? H7 (qkW a10 1)) fun s12 => (0 ≤ x1 ∧ x1 < ((s12.n : Nat) : Int)) ∧ onPtr s12.a fun a14 => elI .i64 (AH.cell? H7 (qkW a14 (qk5 x1 * 1))) fun n15 => onPtr x0 fun a17 => elL (AH.cell? H7 (qkW a17 2)) fun s19 => (0 ≤ x1 ∧ x1 < ((s19.n : Nat) : Int)) ∧ onPtr s19.a fun a21 => elI .i64 (AH.cell? H7 (qkW a21 (qk5 x1 * 1))) fun n22 => k (qkU .i64 (n15 - n22)) H7)
def qaZ.ann : Ann := { keep := fun r => match r with  | _ => [], ord := fun r => match r with | 3 => [0, 1, 2, 3, 4, 5, 6, 7, 8, 9, 10, 11, 12, 13, 14, 15] | _ => [] }
theorem qaZ.link {x0 : Option Addr} {x1 : Int} {H : AH} {k : Int → AH → Prop} (h : qaZ.b x0 x1 H k) : qaZ x0 x1 H k := lk1 pan hT hm Tryz.func179 (by kernel_rfl) (A := qaZ.ann) (by kernel_rfl) (by simp) (by kernel_rfl) h
def qab.j1 (x0 : Option Addr) (x1 : Int) (k : Int → Bool → AH → Prop) (n26 : Int) (n22 : Int) (Hj : AH) : Prop :=
 onPtr x0 fun a43 => elL (AH.cell? Hj (qkW a43 1)) fun s45 => (0 ≤ x1 ∧ x1 < ((s45.n : Nat) : Int)) ∧ onPtr s45.a fun a47 => elI .i64 (AH.cell? Hj (qkW a47 (qk5 x1 * 1))) fun n48 => k n48 (decide ((n22 : Int) ≥ n26)) Hj
def qab.b (x0 : Option Addr) (x1 : Int) (H : AH) (k : Int → Bool → AH → Prop) : Prop :=
 qbp x0 x1 H fun b9 H9 => bcase (!b9) (k (0 : Int) false H9) (onPtr x0 fun a12 => elL (AH.cell? H9 (qkW a12 1)) fun s14 => (0 ≤ x1 ∧ x1 < ((s14.n : Nat) : Int)) ∧ onPtr s14.a fun a16 => elI .i64 (AH.cell? H9 (qkW a16 (qk5 x1 * 1))) fun n17 => (0 ≤ x1 ∧ x1 < ((s14.n : Nat) : Int)) ∧ onPtr s14.a fun a19 => stC H9 (qkW a19 (qk5 x1 * 1)) [(qkT .i64 (qkU .i64 (n17 + (1 : Int))))] fun Hs2 => onPtr x0 fun a24 => elI .i64 (AH.cell? Hs2 (qkW a24 0)) fun n26 => qaZ x0 x1 Hs2 fun n22 H22 => AH.cell? H22 (qkW a24 0) = some (qkT .i64 n26) ∧ bcase (decide ((n22 : Int) ≥ n26)) (onPtr x0 fun a30 => elL (AH.cell? H22 (qkW a30 2)) fun s32 => onPtr x0 fun a35 => elL (AH.cell? H22 (qkW a35 1)) fun s37 => (0 ≤ x1 ∧ x1 < ((s37.n : Nat) : Int)) ∧ onPtr s37.a fun a39 => elI .i64 (AH.cell? H22 (qkW a39 (qk5 x1 * 1))) fun n40 => (0 ≤ x1 ∧ x1 < ((s32.n : Nat) : Int)) ∧ onPtr s32.a fun a41 => stC H22 (qkW a41 (qk5 x1 * 1)) [(qkT .i64 n40)] fun Hs4 => qab.j1 x0 x1 k n26 n22 Hs4) (qab.j1 x0 x1 k n26 n22 H22))
def qab.ann : Ann := { keep := fun r => match r with  | _ => [], ord := fun r => match r with | 4 => [0, 1, 3, 4, 5, 6, 2, 7, 8] | 6 => [0, 1, 2, 3, 4, 5, 6, 7, 8, 9, 10, 11, 12, 13] | _ => [] }
theorem qab.link {x0 : Option Addr} {x1 : Int} {H : AH} {k : Int → Bool → AH → Prop} (h : qab.b x0 x1 H k) : qab x0 x1 H k := lk2 pan hT hm Tryz.func151 (by kernel_rfl) (A := qab.ann) (by kernel_rfl) (by simp) (by simp) (by kernel_rfl) h
def qz.l1 (x0 : Option Addr) (k : AH → Prop) (pk : Value → AH → Prop) (s59 : Sl) (t11 : Int) (HL11 : AH) (it11 : (Int) → AH → Prop) : Prop :=
 bcase (decide ((t11 : Int) < ((s59.n : Nat) : Int))) ((0 ≤ t11 ∧ t11 < ((s59.n : Nat) : Int)) ∧ onPtr s59.a fun a63 => elI .i64 (AH.cell? HL11 (qkW a63 (qk5 t11 * 1))) fun n64 => qbX n64 HL11 fun n66 H66 => onPtr x0 fun a69 => elP (AH.cell? H66 (qkW a69 7)) fun p71 => qab p71 n66 H66 fun n73a b73b H73 => bcase b73b (onPtr x0 fun a78 => elP (AH.cell? H73 (qkW a78 0)) fun p80 => qA p80 (qkU .i64 ((19 : Int) + n66)) (qkU .u64 n73a) H73 fun n85 H85 => qZ n85 H85 (fun pv86 Hp86 => pk pv86 Hp86) fun H86 => it11 (qkU .i64 (t11 + (1 : Int))) H86) (it11 (qkU .i64 (t11 + (1 : Int))) H73)) (k HL11)
def qz.j2 (x0 : Option Addr) (x2 : Sl) (k : AH → Prop) (pk : Value → AH → Prop) (n44 : Int) (Hj : AH) : Prop :=
 qZ n44 Hj (fun pv57 Hp57 => pk pv57 Hp57) fun H57 => qau x2 H57 fun s59 H59 => loopT (qz.l1 x0 k pk s59) (((0 : Int)) : Int) H59
def qz.j3 (x0 : Option Addr) (x2 : Sl) (k : AH → Prop) (pk : Value → AH → Prop) (t3 : Sl × Int) (HL3 : AH) : Prop :=
 onPtr x0 fun a40 => elP (AH.cell? HL3 (qkW a40 6)) fun p42 => qL p42 t3.1 HL3 fun n44 H44 => onPtr x0 fun a47 => elB (AH.cell? H44 (qkW a47 8)) fun b49 => bcase b49 (onPtr x0 fun a54 => stC H44 (qkW a54 8) [(qlS true)] fun Hs2 => qz.j2 x0 x2 k pk n44 Hs2) (onPtr x0 fun a54 => stC H44 (qkW a54 8) [(qlS ((n44 : Int) == (3 : Int)))] fun Hs4 => qz.j2 x0 x2 k pk n44 Hs4)
def qz.l4 (x0 : Option Addr) (x2 : Sl) (k : AH → Prop) (pk : Value → AH → Prop) (s17 : Sl) (s19 : Sl) (t3 : Sl × Int) (HL3 : AH) (it3 : (Sl × Int) → AH → Prop) : Prop :=
 bcase (decide ((t3.2 : Int) < ((s19.n : Nat) : Int))) ((0 ≤ t3.2 ∧ t3.2 < ((s19.n : Nat) : Int)) ∧ onPtr s19.a fun a23 => elI .i64 (AH.cell? HL3 (qkW a23 (qk5 t3.2 * 1))) fun n24 => onPtr x0 fun a27 => ldA HL3 (qkW a27 1) 4 fun c29 => qa5 c29 n24 HL3 fun n31 H31 => qaW s17 n24 H31 fun c34 H34 => (qk8 c34 = 8) ∧ (qk8 (setMany [(qkT .i64 n31), (qkT .u64 (0 : Int)), (qkT .u64 (0 : Int)), (qkT .u64 (0 : Int)), (qkT .u64 (0 : Int)), (qkT .u64 (0 : Int)), (qkT .u64 (0 : Int)), (qkT .u64 (0 : Int)), (qkT .u64 (0 : Int))] 1 c34) = 9) ∧ newC H34 ⟨(setMany [(qkT .i64 (0 : Int)), (qkT .u64 (0 : Int)), (qkT .u64 (0 : Int)), (qkT .u64 (0 : Int)), (qkT .u64 (0 : Int)), (qkT .u64 (0 : Int)), (qkT .u64 (0 : Int)), (qkT .u64 (0 : Int)), (qkT .u64 (0 : Int))] 0 (setMany [(qkT .i64 n31), (qkT .u64 (0 : Int)), (qkT .u64 (0 : Int)), (qkT .u64 (0 : Int)), (qkT .u64 (0 : Int)), (qkT .u64 (0 : Int)), (qkT .u64 (0 : Int)), (qkT .u64 (0 : Int)), (qkT .u64 (0 : Int))] 1 c34)), .rw, 9⟩ fun o36 H36 => appendC 9 H36 t3.1 ⟨(some ⟨o36, 0, none⟩), 1, 1⟩ fun s37 H37 => it3 (s37, (qkU .i64 (t3.2 + (1 : Int)))) H37) (qz.j3 x0 x2 k pk t3 HL3)
def qz.b (x0 : Option Addr) (x1 : Sl) (x2 : Sl) (H : AH) (pk : Value → AH → Prop) (k : AH → Prop) : Prop :=
 qaz x1 x2 H fun s17 H17 => qau x2 H17 fun s19 H19 => loopT (qz.l4 x0 x2 k pk s17 s19) ((⟨none, 0, 0⟩, (0 : Int)) : Sl × Int) H19
def qz.ann : Ann := { keep := fun r => match r with | 3 => [(6, .sl), (21, .int .i64)] | 11 => [(61, .int .i64)] | _ => [], ord := fun r => match r with  | _ => [] }
theorem qz.link {x0 : Option Addr} {x1 : Sl} {x2 : Sl} {H : AH} {pk : Value → AH → Prop} {k : AH → Prop} (h : qz.b x0 x1 x2 H pk k) : qz x0 x1 x2 H pk k := lk0 pan hT hm Tryz.func114 (by kernel_rfl) (A := qz.ann) (by kernel_rfl) (by kernel_rfl) h
def qbC.b (x0 : Option Addr) (x1 : Int) (H : AH) (pk : Value → AH → Prop) (k : Int → AH → Prop) : Prop :=
 qaE x0 H (fun pv10 Hp10 => pk pv10 Hp10) fun s10 H10 => qbA x1 H10 fun n12 H12 => bcase ((n12 : Int) == (0 : Int)) (pk (Value.iface 31 (qkT .i64 (1 : Int))) H12) (qag x0 H12 (fun pv16 Hp16 => pk pv16 Hp16) fun H16 => onPtr x0 fun a21 => elP (AH.cell? H16 (qkW a21 7)) fun p23 => qbB p23 H16 fun s24 H24 => qbv s10 x1 s24 H24 fun s25a n25b n25c H25 => qZ n25c H25 (fun pv30 Hp30 => pk pv30 Hp30) fun H30 => qz x0 s10 s25a H30 (fun pv34 Hp34 => pk pv34 Hp34) fun H34 => k n25b H34)
theorem qbC.link {x0 : Option Addr} {x1 : Int} {H : AH} {pk : Value → AH → Prop} {k : Int → AH → Prop} (h : qbC.b x0 x1 H pk k) : qbC x0 x1 H pk k := lk1 pan hT hm Tryz.func64 (by kernel_rfl) (A := ann0) (by kernel_rfl) (by simp) (by kernel_rfl) h
def qae.j1 (k : Int → AH → Prop) (t3 : Int × Int × Int) (it3 : (Int × Int × Int) → AH → Prop) (o5 : Nat) (H14 : AH) (x19 : Bool) : Prop :=
 bcase x19 (k (0 : Int) H14) (elI .i64 (AH.cell? H14 (qkW ⟨o5, 0, none⟩ 1)) fun n22 => it3 (t3.1, (qkU .i64 (t3.2.1 + n22)), (qkU .i64 (t3.2.2 + (1 : Int)))) H14)
def qae.l2 (x0 : Sl) (k : Int → AH → Prop) (t3 : Int × Int × Int) (HL3 : AH) (it3 : (Int × Int × Int) → AH → Prop) : Prop :=
 bcase (decide ((t3.2.2 : Int) < ((x0.n : Nat) : Int))) ((0 ≤ t3.2.2 ∧ t3.2.2 < ((x0.n : Nat) : Int)) ∧ onPtr x0.a fun a10 => ldA HL3 (qkW a10 (qk5 t3.2.2 * 3)) 3 fun c11 => newC HL3 ⟨[(qkT .i64 (0 : Int)), (qkT .i64 (0 : Int)), (qlS false)], .rw, 0⟩ fun o5 H5 => (qk8 c11 = 3 ∧ qly c11 qn = true) ∧ stC H5 ⟨o5, 0, none⟩ c11 fun Hs2 => elI .i64 (AH.cell? Hs2 (qkW ⟨o5, 0, none⟩ 1)) fun n13 => qaU n13 Hs2 fun b14 H14 => bcase (!b14) (qae.j1 k t3 it3 o5 H14 true) (qae.j1 k t3 it3 o5 H14 (decide ((t3.2.1 : Int) > (512 : Int))))) (k t3.2.1 HL3)
def qae.b (x0 : Sl) (H : AH) (k : Int → AH → Prop) : Prop :=
 loopT (qae.l2 x0 k) (((0 : Int), (0 : Int), (0 : Int)) : Int × Int × Int) H
def qae.ann : Ann := { keep := fun r => match r with | 3 => [(2, .int .i64), (3, .int .i64), (8, .int .i64)] | _ => [], ord := fun r => match r with  | _ => [] }
theorem qae.link {x0 : Sl} {H : AH} {k : Int → AH → Prop} (h : qae.b x0 H k) : qae x0 H k := lk1 pan hT hm Tryz.func181 (by kernel_rfl) (A := qae.ann) (by kernel_rfl) (by simp) (by kernel_rfl) h
def qx.j1 (x1 : Int) (k : Int → Int → Bool → AH → Prop) (H10 : AH) (x4 : Int) (x57 : Bool) : Prop :=
 bcase x57 (k x4 (qkU .i64 ((qkU .i64 (x1 + (1 : Int))) + (1 : Int))) true H10) (k x4 (qkU .i64 (x1 + (1 : Int))) true H10)
def qx.j2 (x0 : Sl) (x1 : Int) (k : Int → Int → Bool → AH → Prop) (H10 : AH) (x4 : Int) : Prop :=
 bcase (decide (((qkU .i64 (x1 + (1 : Int))) : Int) < ((x0.n : Nat) : Int))) ((0 ≤ (qkU .i64 (x1 + (1 : Int))) ∧ (qkU .i64 (x1 + (1 : Int))) < ((x0.n : Nat) : Int)) ∧ onPtr x0.a fun a53 => elB (AH.cell? H10 (qkW (qkW a53 (qk5 (qkU .i64 (x1 + (1 : Int))) * 3)) 2)) fun b55 => qx.j1 x1 k H10 x4 (!b55)) (qx.j1 x1 k H10 x4 false)
def qx.j3 (x0 : Sl) (x1 : Int) (k : Int → Int → Bool → AH → Prop) (H10 : AH) (x43 : Bool) : Prop :=
 bcase x43 (qx.j2 x0 x1 k H10 (qkU .i64 (x1 - (1 : Int)))) (qx.j2 x0 x1 k H10 x1)
def qx.j4 (x0 : Sl) (x1 : Int) (k : Int → Int → Bool → AH → Prop) (H10 : AH) (x29 : Bool) : Prop :=
 bcase x29 (k (0 : Int) (0 : Int) false H10) (bcase (decide ((x1 : Int) > (0 : Int))) ((0 ≤ (qkU .i64 (x1 - (1 : Int))) ∧ (qkU .i64 (x1 - (1 : Int))) < ((x0.n : Nat) : Int)) ∧ onPtr x0.a fun a39 => elB (AH.cell? H10 (qkW (qkW a39 (qk5 (qkU .i64 (x1 - (1 : Int))) * 3)) 2)) fun b41 => qx.j3 x0 x1 k H10 (!b41)) (qx.j3 x0 x1 k H10 false))
def qx.b (x0 : Sl) (x1 : Int) (H : AH) (k : Int → Int → Bool → AH → Prop) : Prop :=
 qae x0 H fun n9 H9 => qR x0 n9 H9 fun b10 H10 => bcase (!b10) (qx.j4 x0 x1 k H10 true) (bcase (decide ((x1 : Int) < (0 : Int))) (qx.j4 x0 x1 k H10 true) (bcase (decide ((x1 : Int) ≥ ((x0.n : Nat) : Int))) (qx.j4 x0 x1 k H10 true) ((0 ≤ x1 ∧ x1 < ((x0.n : Nat) : Int)) ∧ onPtr x0.a fun a25 => elB (AH.cell? H10 (qkW (qkW a25 (qk5 x1 * 3)) 2)) fun b27 => qx.j4 x0 x1 k H10 (!b27))))
theorem qx.link {x0 : Sl} {x1 : Int} {H : AH} {k : Int → Int → Bool → AH → Prop} (h : qx.b x0 x1 H k) : qx x0 x1 H k := lk3 pan hT hm Tryz.func180 (by kernel_rfl) (A := ann0) (by kernel_rfl) (by simp) (by simp) (by simp) (by kernel_rfl) h
def qaP.b (x0 : Sl) (x1 : Int) (H : AH) (k : List Value → Bool → AH → Prop) : Prop :=
 newC H ⟨[(qkT .i64 (0 : Int)), (qkT .u64 (0 : Int))], .rw, 0⟩ fun o4 H4 => qx x0 x1 H4 fun n12a n12b b12c H12 => bcase (!b12c) ((qk8 [(qkT .i64 (0 : Int)), (qkT .u64 (0 : Int))] = 2 ∧ qly [(qkT .i64 (0 : Int)), (qkT .u64 (0 : Int))] qn = true) ∧ stC H12 ⟨o4, 0, none⟩ [(qkT .i64 (0 : Int)), (qkT .u64 (0 : Int))] fun Hs2 => ldA Hs2 ⟨o4, 0, none⟩ 2 fun r0 => k r0 false Hs2) ((0 ≤ n12a ∧ n12a < ((x0.n : Nat) : Int)) ∧ onPtr x0.a fun a21 => elI .i64 (AH.cell? H12 (qkW (qkW a21 (qk5 n12a * 3)) 0)) fun n23 => (0 ≤ n12a ∧ n12a ≤ n12b ∧ n12b ≤ ((x0.n : Nat) : Int)) ∧ qae ⟨(Option.map (fun x => qkW x (qk5 n12a * 3)) x0.a), (qk5 n12b - qk5 n12a), 0⟩ H12 fun n28 H28 => AH.cell? H28 (qkW (qkW a21 (qk5 n12a * 3)) 0) = some (qkT .i64 n23) ∧ qbl n28 false H28 fun n29 H29 => AH.cell? H29 (qkW (qkW a21 (qk5 n12a * 3)) 0) = some (qkT .i64 n23) ∧ (qk8 [(qkT .i64 n23), (qkT .u64 n29)] = 2 ∧ qly [(qkT .i64 n23), (qkT .u64 n29)] qn = true) ∧ stC H29 ⟨o4, 0, none⟩ [(qkT .i64 n23), (qkT .u64 n29)] fun Hs4 => ldA Hs4 ⟨o4, 0, none⟩ 2 fun r0 => k r0 true Hs4)
def qaP.ann : Ann := { keep := fun r => match r with  | _ => [], ord := fun r => match r with | 4 => [0, 1, 2, 3, 4, 5, 6, 7, 8, 9, 10, 11, 12, 13] | _ => [] }
theorem qaP.link {x0 : Sl} {x1 : Int} {H : AH} {k : List Value → Bool → AH → Prop} (h : qaP.b x0 x1 H k) : qaP x0 x1 H k := lk2 pan hT hm Tryz.func152 (by kernel_rfl) (A := qaP.ann) (by kernel_rfl) (by simp) (by simp) (by kernel_rfl) h
def qb8.b (x0 : Sl) (x1 : Int) (H : AH) (k : Sl → Int → AH → Prop) : Prop :=
 qbL x0 x1 H fun s13a n13b H13 => bcase ((((s13a.n : Nat) : Int) : Int) == (0 : Int)) (k ⟨none, 0, 0⟩ (6 : Int) H13) (qaP s13a n13b H13 fun c22a b22b H22 => newC H22 ⟨[(qkT .i64 (0 : Int)), (qkT .u64 (0 : Int))], .rw, 0⟩ fun o8 H8 => (qk8 c22a = 2 ∧ qly c22a qn = true) ∧ stC H8 ⟨o8, 0, none⟩ c22a fun Hs2 => bcase (!b22b) (k ⟨none, 0, 0⟩ (1 : Int) Hs2) (ldA Hs2 ⟨o8, 0, none⟩ 2 fun c27 => (qk8 c27 = 2) ∧ newC Hs2 ⟨(setMany [(qkT .i64 (0 : Int)), (qkT .u64 (0 : Int))] 0 c27), .rw, 2⟩ fun o28 H28 => k ⟨(some ⟨o28, 0, none⟩), 1, 1⟩ (0 : Int) H28))
theorem qb8.link {x0 : Sl} {x1 : Int} {H : AH} {k : Sl → Int → AH → Prop} (h : qb8.b x0 x1 H k) : qb8 x0 x1 H k := lk2 pan hT hm Tryz.func115 (by kernel_rfl) (A := ann0) (by kernel_rfl) (by simp) (by simp) (by kernel_rfl) h
def qbf.b (x0 : Option Addr) (H : AH) (pk : Value → AH → Prop) (k : Int → AH → Prop) : Prop :=
 onPtr x0 fun a7 => elP (AH.cell? H (qkW a7 0)) fun p9 => qD p9 (2 : Int) H fun n10a n10b H10 => qZ n10b H10 (fun pv14 Hp14 => pk pv14 Hp14) fun H14 => k (qkU .i64 n10a) H14
theorem qbf.link {x0 : Option Addr} {H : AH} {pk : Value → AH → Prop} {k : Int → AH → Prop} (h : qbf.b x0 H pk k) : qbf x0 H pk k := lk1 pan hT hm Tryz.func69 (by kernel_rfl) (A := ann0) (by kernel_rfl) (by simp) (by kernel_rfl) h
def qbN.b (x0 : Option Addr) (x1 : Int) (H : AH) (pk : Value → AH → Prop) (k : AH → Prop) : Prop :=
 qaE x0 H (fun pv8 Hp8 => pk pv8 Hp8) fun s8 H8 => qb8 s8 x1 H8 fun s12a n12b H12 => qZ n12b H12 (fun pv16 Hp16 => pk pv16 Hp16) fun H16 => qbf x0 H16 (fun pv18 Hp18 => pk pv18 Hp18) fun n18 H18 => bcase ((n18 : Int) == x1) (pk (Value.iface 31 (qkT .i64 (5 : Int))) H18) (qag x0 H18 (fun pv23 Hp23 => pk pv23 Hp23) fun H23 => qz x0 s8 s12a H23 (fun pv27 Hp27 => pk pv27 Hp27) fun H27 => k H27)
theorem qbN.link {x0 : Option Addr} {x1 : Int} {H : AH} {pk : Value → AH → Prop} {k : AH → Prop} (h : qbN.b x0 x1 H pk k) : qbN x0 x1 H pk k := lk0 pan hT hm Tryz.func65 (by kernel_rfl) (A := ann0) (by kernel_rfl) (by kernel_rfl) h
def qaX.b (x0 : List Value) (x1 : Option Addr) (x2 : Option Addr) (H : AH) (k : Bool → AH → Prop) : Prop :=
 newC H ⟨x0, .rw, 0⟩ fun o3 H3 => elB (AH.cell? H3 (qkW ⟨o3, 0, none⟩ 2)) fun b6 => bcase b6 (onPtr x1 fun a8 => elI .i64 (AH.cell? H3 a8) fun n8 => ldA H3 ⟨o3, 0, none⟩ 3 fun c9 => qaV c9 H3 fun n10 H10 => AH.cell? H10 a8 = some (qkT .i64 n8) ∧ bcase (decide ((n8 : Int) ≥ n10)) (onPtr x1 fun a14 => elI .i64 (AH.cell? H10 a14) fun n14 => elI .i64 (AH.cell? H10 (qkW ⟨o3, 0, none⟩ 0)) fun n16 => elI .i64 (AH.cell? H10 (qkW ⟨o3, 0, none⟩ 1)) fun n18 => onPtr x2 fun a21 => elI .i64 (AH.cell? H10 a21) fun n21 => k (decide ((n14 : Int) ≤ (qkU .i64 ((qkU .i64 ((qkU .i64 (n16 + n18)) * (8 : Int))) - n21)))) H10) (k false H10)) (k false H3)
def qaX.ann : Ann := { keep := fun r => match r with  | _ => [], ord := fun r => match r with | 1 => [0, 1, 2, 3, 4, 5, 6, 7, 8, 9, 10, 11, 12, 13, 14, 15, 16, 17, 18, 19, 20] | _ => [] }
theorem qaX.link {x0 : List Value} {x1 : Option Addr} {x2 : Option Addr} {H : AH} {k : Bool → AH → Prop} (h : qaX.b x0 x1 x2 H k) : qaX x0 x1 x2 H k := lk1 pan hT hm Tryz.func193 (by kernel_rfl) (A := qaX.ann) (by kernel_rfl) (by simp) (by kernel_rfl) h
def qa0.j1 (x0 : Sl) (k : Bool → AH → Prop) (o4 : Nat) (o5 : Nat) (H5 : AH) (x14 : Bool) : Prop :=
 bcase x14 (k false H5) (qK x0 H5 fun s17a b17b H17 => qG s17a (some ⟨o4, 0, none⟩) (some ⟨o5, 0, none⟩) H17 fun b22 H22 => k b22 H22)
def qa0.b (x0 : Sl) (x1 : Int) (x2 : Int) (H : AH) (k : Bool → AH → Prop) : Prop :=
 newC H ⟨[(qkT .i64 x1)], .rw, 0⟩ fun o4 H4 => newC H4 ⟨[(qkT .i64 x2)], .rw, 0⟩ fun o5 H5 => elI .i64 (AH.cell? H5 ⟨o5, 0, none⟩) fun n9 => bcase (decide ((n9 : Int) < (0 : Int))) (qa0.j1 x0 k o4 o5 H5 true) (elI .i64 (AH.cell? H5 ⟨o5, 0, none⟩) fun n12 => qa0.j1 x0 k o4 o5 H5 (decide ((n12 : Int) > (448 : Int))))
theorem qa0.link {x0 : Sl} {x1 : Int} {x2 : Int} {H : AH} {k : Bool → AH → Prop} (h : qa0.b x0 x1 x2 H k) : qa0 x0 x1 x2 H k := lk1 pan hT hm Tryz.func182 (by kernel_rfl) (A := ann0) (by kernel_rfl) (by simp) (by kernel_rfl) h
def qbu.b (x0 : Sl) (x1 : Int) (x2 : Int) (H : AH) (k : Int → AH → Prop) : Prop :=
 qK x0 H fun s11a b11b H11 => bcase (!b11b) (k (6 : Int) H11) (qa0 x0 x1 x2 H11 fun b19 H19 => bcase (!b19) (k (1 : Int) H19) (k (0 : Int) H19))
theorem qbu.link {x0 : Sl} {x1 : Int} {x2 : Int} {H : AH} {k : Int → AH → Prop} (h : qbu.b x0 x1 x2 H k) : qbu x0 x1 x2 H k := lk1 pan hT hm Tryz.func153 (by kernel_rfl) (A := ann0) (by kernel_rfl) (by simp) (by kernel_rfl) h
def qbw.b (x0 : Sl) (x1 : Int) (x2 : Int) (H : AH) (k : Bool → AH → Prop) : Prop :=
 bcase (decide ((x1 : Int) ≥ (0 : Int))) (bcase (decide ((x2 : Int) ≥ (0 : Int))) (bcase (decide ((x2 : Int) ≤ (448 : Int))) (k (decide ((x1 : Int) ≤ (qkU .i64 ((qkU .i64 (((x0.n : Nat) : Int) * (8 : Int))) - x2)))) H) (k false H)) (k false H)) (k false H)
theorem qbw.link {x0 : Sl} {x1 : Int} {x2 : Int} {H : AH} {k : Bool → AH → Prop} (h : qbw.b x0 x1 x2 H k) : qbw x0 x1 x2 H k := lk1 pan hT hm Tryz.func183 (by kernel_rfl) (A := ann0) (by kernel_rfl) (by simp) (by kernel_rfl) h
def qbs.l1 (x0 : Sl) (x1 : Int) (x2 : Int) (k : Sl → Bool → AH → Prop) (t5 : Sl × Int) (HL5 : AH) (it5 : (Sl × Int) → AH → Prop) : Prop :=
 bcase (decide ((t5.2 : Int) < (qkU .i64 (x1 + x2)))) (((8 : Int) : Int) ≠ 0 ∧ (0 ≤ (qkU .i64 (qmf t5.2 (8 : Int))) ∧ (qkU .i64 (qmf t5.2 (8 : Int))) < ((x0.n : Nat) : Int)) ∧ onPtr x0.a fun a27 => elI .u64 (AH.cell? HL5 (qkW a27 (qk5 (qkU .i64 (qmf t5.2 (8 : Int))) * 1))) fun n28 => ((8 : Int) : Int) ≠ 0 ∧ (0 : Int) ≤ (qkU .i64 ((qlW t5.2 (8 : Int)) * (8 : Int))) ∧ newC HL5 ⟨[(qkT .u8 (qkU .u8 (shrI .u64 n28 (qkU .i64 ((qlW t5.2 (8 : Int)) * (8 : Int))))))], .rw, 1⟩ fun o34 H34 => appendC 1 H34 t5.1 ⟨(some ⟨o34, 0, none⟩), 1, 1⟩ fun s35 H35 => it5 (s35, (qkU .i64 (t5.2 + (1 : Int)))) H35) (k t5.1 true HL5)
def qbs.b (x0 : Sl) (x1 : Int) (x2 : Int) (H : AH) (k : Sl → Bool → AH → Prop) : Prop :=
 qbw x0 x1 x2 H fun b13 H13 => bcase (!b13) (k ⟨none, 0, 0⟩ false H13) (loopT (qbs.l1 x0 x1 x2 k) ((⟨none, 0, 0⟩, x1) : Sl × Int) H13)
def qbs.ann : Ann := { keep := fun r => match r with | 5 => [(8, .sl), (9, .int .i64)] | _ => [], ord := fun r => match r with  | _ => [] }
theorem qbs.link {x0 : Sl} {x1 : Int} {x2 : Int} {H : AH} {k : Sl → Bool → AH → Prop} (h : qbs.b x0 x1 x2 H k) : qbs x0 x1 x2 H k := lk2 pan hT hm Tryz.func154 (by kernel_rfl) (A := qbs.ann) (by kernel_rfl) (by simp) (by simp) (by kernel_rfl) h
def qb5.b (x0 : Sl) (x1 : Int) (x2 : Int) (H : AH) (k : Sl → Int → AH → Prop) : Prop :=
 qbu x0 x1 x2 H fun n14 H14 => bcase ((n14 : Int) != (0 : Int)) (k ⟨none, 0, 0⟩ n14 H14) (qbs x0 x1 x2 H14 fun s22a b22b H22 => k s22a (0 : Int) H22)
theorem qb5.link {x0 : Sl} {x1 : Int} {x2 : Int} {H : AH} {k : Sl → Int → AH → Prop} (h : qb5.b x0 x1 x2 H k) : qb5 x0 x1 x2 H k := lk2 pan hT hm Tryz.func116 (by kernel_rfl) (A := ann0) (by kernel_rfl) (by simp) (by simp) (by kernel_rfl) h
def qbO.b (x0 : Option Addr) (x1 : Int) (x2 : Int) (H : AH) (pk : Value → AH → Prop) (k : Sl → AH → Prop) : Prop :=
 qaE x0 H (fun pv11 Hp11 => pk pv11 Hp11) fun s11 H11 => qb5 s11 x1 x2 H11 fun s14a n14b H14 => qZ n14b H14 (fun pv18 Hp18 => pk pv18 Hp18) fun H18 => k s14a H18
theorem qbO.link {x0 : Option Addr} {x1 : Int} {x2 : Int} {H : AH} {pk : Value → AH → Prop} {k : Sl → AH → Prop} (h : qbO.b x0 x1 x2 H pk k) : qbO x0 x1 x2 H pk k := lk1 pan hT hm Tryz.func66 (by kernel_rfl) (A := ann0) (by kernel_rfl) (by simp) (by kernel_rfl) h
def qW.j1 (x1 : Int) (t5 : Sl × Int) (it5 : (Sl × Int) → AH → Prop) (n25 : Int) (x8 : Sl) (Hj : AH) : Prop :=
 (0 ≤ (qkU .i64 (((x8.n : Nat) : Int) - (1 : Int))) ∧ (qkU .i64 (((x8.n : Nat) : Int) - (1 : Int))) < ((x8.n : Nat) : Int)) ∧ onPtr x8.a fun a59 => elI .u64 (AH.cell? Hj (qkW (qkW a59 (qk5 (qkU .i64 (((x8.n : Nat) : Int) - (1 : Int))) * 2)) 1)) fun n64 => ((8 : Int) : Int) ≠ 0 ∧ (0 : Int) ≤ (qkU .i64 ((qlW (qkU .i64 (x1 + t5.2)) (8 : Int)) * (8 : Int))) ∧ ((8 : Int) : Int) ≠ 0 ∧ (0 : Int) ≤ (qkU .i64 ((qlW (qkU .i64 (x1 + t5.2)) (8 : Int)) * (8 : Int))) ∧ stC Hj (qkW (qkW a59 (qk5 (qkU .i64 (((x8.n : Nat) : Int) - (1 : Int))) * 2)) 1) [(qkT .u64 (orI .u64 (andNotI .u64 n64 (shlI .u64 (255 : Int) (qkU .i64 ((qlW (qkU .i64 (x1 + t5.2)) (8 : Int)) * (8 : Int))))) (shlI .u64 (qkU .u64 n25) (qkU .i64 ((qlW (qkU .i64 (x1 + t5.2)) (8 : Int)) * (8 : Int))))))] fun Hs2 => it5 (x8, (qkU .i64 (t5.2 + (1 : Int)))) Hs2
def qW.j2 (x0 : Sl) (x1 : Int) (t5 : Sl × Int) (it5 : (Sl × Int) → AH → Prop) (HL5 : AH) (n25 : Int) (x43 : Bool) : Prop :=
 bcase x43 (((8 : Int) : Int) ≠ 0 ∧ ((8 : Int) : Int) ≠ 0 ∧ (0 ≤ (qkU .i64 (qmf (qkU .i64 (x1 + t5.2)) (8 : Int))) ∧ (qkU .i64 (qmf (qkU .i64 (x1 + t5.2)) (8 : Int))) < ((x0.n : Nat) : Int)) ∧ onPtr x0.a fun a50 => elI .u64 (AH.cell? HL5 (qkW a50 (qk5 (qkU .i64 (qmf (qkU .i64 (x1 + t5.2)) (8 : Int))) * 1))) fun n51 => (qk8 [(qkT .i64 (qkU .i64 (qmf (qkU .i64 (x1 + t5.2)) (8 : Int)))), (qkT .u64 n51)] = 2) ∧ newC HL5 ⟨[(qkT .i64 (qkU .i64 (qmf (qkU .i64 (x1 + t5.2)) (8 : Int)))), (qkT .u64 n51)], .rw, 2⟩ fun o53 H53 => appendC 2 H53 t5.1 ⟨(some ⟨o53, 0, none⟩), 1, 1⟩ fun s54 H54 => qW.j1 x1 t5 it5 n25 s54 H54) (qW.j1 x1 t5 it5 n25 t5.1 HL5)
def qW.l3 (x0 : Sl) (x1 : Int) (x2 : Sl) (k : Sl → Bool → AH → Prop) (t5 : Sl × Int) (HL5 : AH) (it5 : (Sl × Int) → AH → Prop) : Prop :=
 bcase (decide ((t5.2 : Int) < ((x2.n : Nat) : Int))) ((0 ≤ t5.2 ∧ t5.2 < ((x2.n : Nat) : Int)) ∧ onPtr x2.a fun a24 => elI .u8 (AH.cell? HL5 (qkW a24 (qk5 t5.2 * 1))) fun n25 => bcase ((((t5.1.n : Nat) : Int) : Int) == (0 : Int)) (qW.j2 x0 x1 t5 it5 HL5 n25 true) ((0 ≤ (qkU .i64 (((t5.1.n : Nat) : Int) - (1 : Int))) ∧ (qkU .i64 (((t5.1.n : Nat) : Int) - (1 : Int))) < ((t5.1.n : Nat) : Int)) ∧ onPtr t5.1.a fun a37 => elI .i64 (AH.cell? HL5 (qkW (qkW a37 (qk5 (qkU .i64 (((t5.1.n : Nat) : Int) - (1 : Int))) * 2)) 0)) fun n39 => ((8 : Int) : Int) ≠ 0 ∧ qW.j2 x0 x1 t5 it5 HL5 n25 ((n39 : Int) != (qkU .i64 (qmf (qkU .i64 (x1 + t5.2)) (8 : Int)))))) (k t5.1 true HL5)
def qW.b (x0 : Sl) (x1 : Int) (x2 : Sl) (H : AH) (k : Sl → Bool → AH → Prop) : Prop :=
 qbw x0 x1 ((x2.n : Nat) : Int) H fun b17 H17 => bcase (!b17) (k ⟨none, 0, 0⟩ false H17) (loopT (qW.l3 x0 x1 x2 k) ((⟨none, 0, 0⟩, (0 : Int)) : Sl × Int) H17)
def qW.ann : Ann := { keep := fun r => match r with | 5 => [(8, .sl), (21, .int .i64)] | _ => [], ord := fun r => match r with | 11 => [0, 1, 2, 3, 4, 5, 6, 7, 8, 9, 10, 11, 12, 13, 14, 15, 16, 17, 18, 19] | _ => [] }
theorem qW.link {x0 : Sl} {x1 : Int} {x2 : Sl} {H : AH} {k : Sl → Bool → AH → Prop} (h : qW.b x0 x1 x2 H k) : qW x0 x1 x2 H k := lk2 pan hT hm Tryz.func155 (by kernel_rfl) (A := qW.ann) (by kernel_rfl) (by simp) (by simp) (by kernel_rfl) h
def qbT.b (x0 : Sl) (x1 : Int) (x2 : Sl) (H : AH) (k : Sl → Int → AH → Prop) : Prop :=
 qbu x0 x1 ((x2.n : Nat) : Int) H fun n15 H15 => bcase ((n15 : Int) != (0 : Int)) (k ⟨none, 0, 0⟩ n15 H15) (qW x0 x1 x2 H15 fun s23a b23b H23 => k s23a (0 : Int) H23)
theorem qbT.link {x0 : Sl} {x1 : Int} {x2 : Sl} {H : AH} {k : Sl → Int → AH → Prop} (h : qbT.b x0 x1 x2 H k) : qbT x0 x1 x2 H k := lk2 pan hT hm Tryz.func117 (by kernel_rfl) (A := ann0) (by kernel_rfl) (by simp) (by simp) (by kernel_rfl) h
def qbE.b (x0 : Option Addr) (x1 : Int) (x2 : Sl) (H : AH) (pk : Value → AH → Prop) (k : AH → Prop) : Prop :=
 qaE x0 H (fun pv10 Hp10 => pk pv10 Hp10) fun s10 H10 => qbT s10 x1 x2 H10 fun s15a n15b H15 => qZ n15b H15 (fun pv19 Hp19 => pk pv19 Hp19) fun H19 => bcase ((((s15a.n : Nat) : Int) : Int) == (0 : Int)) (k H19) (qag x0 H19 (fun pv24 Hp24 => pk pv24 Hp24) fun H24 => qz x0 s10 s15a H24 (fun pv28 Hp28 => pk pv28 Hp28) fun H28 => k H28)
theorem qbE.link {x0 : Option Addr} {x1 : Int} {x2 : Sl} {H : AH} {pk : Value → AH → Prop} {k : AH → Prop} (h : qbE.b x0 x1 x2 H pk k) : qbE x0 x1 x2 H pk k := lk0 pan hT hm Tryz.func67 (by kernel_rfl) (A := ann0) (by kernel_rfl) (by kernel_rfl) h
def qak.j1 (x0 : Option Addr) (x1 : Int) (k : AH → Prop) (pk : Value → AH → Prop) (x14 : Bool) (Hj : AH) : Prop :=
 bcase x14 (pk (Value.iface 31 (qkT .i64 (1 : Int))) Hj) (qag x0 Hj (fun pv17 Hp17 => pk pv17 Hp17) fun H17 => onPtr x0 fun a19 => elP (AH.cell? H17 (qkW a19 0)) fun p21 => qA p21 (2 : Int) (qkU .u64 x1) H17 fun n24 H24 => qZ n24 H24 (fun pv25 Hp25 => pk pv25 Hp25) fun H25 => k H25)
def qak.b (x0 : Option Addr) (x1 : Int) (H : AH) (pk : Value → AH → Prop) (k : AH → Prop) : Prop :=
 qaE x0 H (fun pv6 Hp6 => pk pv6 Hp6) fun s6 H6 => bcase ((x1 : Int) != (0 : Int)) (qb0 s6 x1 H6 fun b12 H12 => qak.j1 x0 x1 k pk (!b12) H12) (qak.j1 x0 x1 k pk false H6)
theorem qak.link {x0 : Option Addr} {x1 : Int} {H : AH} {pk : Value → AH → Prop} {k : AH → Prop} (h : qak.b x0 x1 H pk k) : qak x0 x1 H pk k := lk0 pan hT hm Tryz.func68 (by kernel_rfl) (A := ann0) (by kernel_rfl) (by kernel_rfl) h
def pl (a b c d : Int) : List Value := [.int .i64 a, .int .i64 b, .int .i64 c, .int .i64 d]
def mayP (a b c d : Int) : Bool := decide (1 ≤ a ∧ a ≤ 64 ∧ 0 ≤ b ∧ b ≤ 16 ∧ 1 ≤ c ∧ c ≤ 1000 ∧ 1 ≤ d ∧ d ≤ 100)
def wordsP (a b c d : Int) : Int := if mayP a b c d = true then 8 * a else 0
def pagesP (a b c d : Int) : Int := if mayP a b c d = true then (a + 3) / 4 else 0
def logicalP (a b c d : Int) : Int := if mayP a b c d = true then 16 + a else 0
def deviceP (a b c d : Int) : Int := if mayP a b c d = true then 17 + a + b else 0
def homeP (a b c d x : Int) : Int := if mayP a b c d = true ∧ 0 ≤ x ∧ x < a then 16 + x else -1
section
variable {a b c d x : Int} {H : AH} {e : Nat}
theorem pl_row : AH.row? (H.push ⟨pl a b c d, .rw, e⟩) ⟨H.size, 0, none⟩ 4 = some (pl a b c d) := row_new rfl rfl
theorem pl_ld {k : List Value → Prop} : ldA (H.push ⟨pl a b c d, .rw, e⟩) ⟨H.size, 0, none⟩ 4 k ↔ k (pl a b c d) := qr pl_row
theorem pl_0 : AH.cell? (H.push ⟨pl a b c d, .rw, e⟩) (qkW ⟨H.size, 0, none⟩ 0) = some (.int .i64 a) := qcB _ _ _ _
theorem pl_1 : AH.cell? (H.push ⟨pl a b c d, .rw, e⟩) (qkW ⟨H.size, 0, none⟩ 1) = some (.int .i64 b) := qcB _ _ _ _
theorem pl_2 : AH.cell? (H.push ⟨pl a b c d, .rw, e⟩) (qkW ⟨H.size, 0, none⟩ 2) = some (.int .i64 c) := qcB _ _ _ _
theorem pl_3 : AH.cell? (H.push ⟨pl a b c d, .rw, e⟩) (qkW ⟨H.size, 0, none⟩ 3) = some (.int .i64 d) := qcB _ _ _ _
theorem qM : mayP a b c d = true ↔ 1 ≤ a ∧ a ≤ 64 ∧ 0 ≤ b ∧ b ≤ 16 ∧ 1 ≤ c ∧ c ≤ 1000 ∧ 1 ≤ d ∧ d ≤ 100 := by simp [mayP]
theorem hK {o : AObj} {P : Prop} : (qa H (H.push o) ∧ P) ↔ P := ⟨fun h => h.2, fun h => ⟨(qa.refl H).push _, h⟩⟩
theorem qaA.s {k : Bool → AH → Prop} (h : k (mayP a b c d) H) : qaA (pl a b c d) H k := by
 refine gcB (mayP a b c d) (qaA.link ?_) h
 simp only [qaA.b, qu, pl_0, pl_1, pl_2, pl_3, qg, qh, decide_eq_true_eq, hK]
 repeat' split
 all_goals simp only [mayP, decide_eq_decide, Bool.false_eq, decide_eq_false_iff_not]
 all_goals omega
theorem qb3.s {k : Int → AH → Prop} (h : k (wordsP a b c d) H) : qb3 (pl a b c d) H k := by
 refine gcI (wordsP a b c d) (qb3.link ?_) h
 simp only [qb3.b, qu, pl_ld]
 refine qaA.s ?_
 simp only [pl_0, qg, qh, hK, wordsP, ql4]
 cases hm : mayP a b c d
 ·simp
 ·have := qM.1 hm
  simp only [Bool.true_eq_false, eq_self, if_false, if_true]
  rw [qe (by omega) (by omega)]
  omega
theorem qbX.s {k : Int → AH → Prop} (hx : -9223372036854775808 ≤ x ∧ x ≤ 9223372036854775807) (h : k ((if 0 > x then 0 else x) / 4) H) : qbX x H k := by
 refine gcI ((if 0 > x then 0 else x) / 4) (qbX.link ?_) h
 refine ⟨by decide, qa.refl H, ?_⟩
 have : (0 : Int) ≤ (if 0 > x then 0 else x) := by split <;> omega
 rw [qlG this, qe (by split <;> omega) (by split <;> omega)]
theorem qb4.s {k : Int → AH → Prop} (h : k (pagesP a b c d) H) : qb4 (pl a b c d) H k := by
 refine gcI (pagesP a b c d) (qb4.link ?_) h
 simp only [qb4.b, qu, pl_ld]
 refine qaA.s ?_
 simp only [pl_0, qg, qh, hK, pagesP, ql4]
 cases hm : mayP a b c d
 ·simp
 ·have := qM.1 hm
  simp only [Bool.true_eq_false, eq_self, if_false, if_true]
  rw [qe (by omega) (by omega)]
  refine qbX.s (by omega) ?_
  rw [qe (by split <;> omega) (by split <;> omega)]
  simp only [hK]
  split <;> omega
theorem qbc.s {k : Int → AH → Prop} (h : k (logicalP a b c d) H) : qbc (pl a b c d) H k := by
 refine gcI (logicalP a b c d) (qbc.link ?_) h
 simp only [qbc.b, qu, pl_ld]
 refine qaA.s ?_
 simp only [pl_0, qg, qh, hK, logicalP, ql4]
 cases hm : mayP a b c d
 ·simp
 ·have := qM.1 hm
  simp only [Bool.true_eq_false, eq_self, if_false, if_true]
  rw [qe (by omega) (by omega)]
theorem qaY.s {k : Int → AH → Prop} (h : k (deviceP a b c d) H) : qaY (pl a b c d) H k := by
 refine gcI (deviceP a b c d) (qaY.link ?_) h
 simp only [qaY.b, qu, pl_ld]
 refine qaA.s ?_
 simp only [pl_0, pl_1, qg, qh, hK, deviceP, ql4]
 cases hm : mayP a b c d
 ·simp
 ·have := qM.1 hm
  simp only [Bool.true_eq_false, eq_self, if_false, if_true]
  rw [pl_ld]
  refine qbc.s ?_
  refine ⟨pl_1, ?_⟩
  simp only [logicalP, hm, if_true, hK]
  rw [qe (n := 16 + a + 1) (by omega) (by omega), qe (by omega) (by omega)]
  omega
theorem qa5.s {k : Int → AH → Prop} (h : k (homeP a b c d x) H) : qa5 (pl a b c d) x H k := by
 refine gcI (homeP a b c d x) (qa5.link ?_) h
 simp only [qa5.b, qu, pl_ld]
 refine qaA.s ?_
 simp only [pl_0, pl_1, qg, qh, hK, homeP, ql4, decide_eq_true_eq]
 cases hm : mayP a b c d
 ·simp
 ·have := qM.1 hm
  simp only [Bool.true_eq_false, eq_self, if_false, true_and]
  split
  ·rw [if_neg (by omega)]
  ·split
   ·rw [if_neg (by omega)]
   ·rw [if_pos (by omega), qe (by omega) (by omega)]
end
def opl (K a b c : Int) (s : Sl) : List Value := [.int .i64 K, .int .i64 a, .int .i64 b, .int .i64 c, s.val]
def linesP (K b : Int) (n : Nat) : Int :=
 if K = 1 then (if 0 ≤ b ∧ b ≤ 448 then b / 64 + 4 else 0) else if K = 4 then (if n ≤ 448 then (n : Int) / 64 + 2 else 0) else if K = 2 then 1 else 0
def costP (K b : Int) (n : Nat) (m : Int) : Int :=
 if 0 ≤ m ∧ m ≤ 16 then (if K = 5 then 1 else if linesP K b n = 0 then 0 else 12 * linesP K b n + 24 + 4 * m) else 0
def recP (m : Int) : Int := if 0 ≤ m ∧ m ≤ 16 then 192 + 4 * m else 0
section
variable {K a b c d m x : Int} {sl : Sl} {H : AH} {e : Nat}
theorem op_row : AH.row? (H.push ⟨opl K a b c sl, .rw, e⟩) ⟨H.size, 0, none⟩ 5 = some (opl K a b c sl) := row_new rfl rfl
theorem op_ld {k : List Value → Prop} : ldA (H.push ⟨opl K a b c sl, .rw, e⟩) ⟨H.size, 0, none⟩ 5 k ↔ k (opl K a b c sl) := qr op_row
theorem op_0 : AH.cell? (H.push ⟨opl K a b c sl, .rw, e⟩) (qkW ⟨H.size, 0, none⟩ 0) = some (.int .i64 K) := qcB _ _ _ _
theorem op_2 : AH.cell? (H.push ⟨opl K a b c sl, .rw, e⟩) (qkW ⟨H.size, 0, none⟩ 2) = some (.int .i64 b) := qcB _ _ _ _
theorem op_4 : AH.cell? (H.push ⟨opl K a b c sl, .rw, e⟩) (qkW ⟨H.size, 0, none⟩ 4) = some sl.val := qcB _ _ _ _
theorem elL_val {k : Sl → Prop} : elL (some sl.val) k ↔ k sl := qba _ _ _ _
theorem qdh : 0 ≤ linesP K b sl.n ∧ linesP K b sl.n ≤ 11 := by
 unfold linesP
 repeat' split
 all_goals omega
theorem qbm.s {k : Int → AH → Prop} (h : k (linesP K b sl.n) H) : qbm (opl K a b c sl) H k := by
 refine gcI (linesP K b sl.n) (qbm.link ?_) h
 simp only [qbm.b, qu, op_0, op_2, op_4, qg, elL_val, qc, qh, decide_eq_true_eq, beq_iff_eq, qbm.j1, hK]
 unfold linesP
 by_cases h1 : K = 1
 ·rw [if_pos h1, if_pos h1]
  by_cases h2 : 0 ≤ b ∧ b ≤ 448
  ·rw [if_pos h2.1, if_pos h2.2, if_pos h2]
   refine ⟨by decide, ?_⟩
   rw [qlG h2.1, qe (n := b / 64) (by omega) (by omega), qe (by omega) (by omega)]
  ·rw [if_neg h2]
   by_cases h3 : b ≥ 0
   ·rw [if_pos h3, if_neg (by omega)]
   ·rw [if_neg h3]
 ·rw [if_neg h1, if_neg h1]
  by_cases h4 : K = 4
  ·rw [if_pos h4, if_pos h4]
   by_cases h2 : sl.n ≤ 448
   ·rw [if_pos (by omega), if_pos h2]
    refine ⟨by decide, ?_⟩
    rw [qlG (by omega), qe (n := (sl.n : Int) / 64) (by omega) (by omega), qe (by omega) (by omega)]
   ·rw [if_neg (by omega), if_neg h2]
  ·rw [if_neg h4, if_neg h4]
   by_cases h2 : K = 2
   ·rw [if_pos h2, if_pos h2]
   ·rw [if_neg h2, if_neg h2]
theorem qcc.s {k : Bool → AH → Prop} (h : k (decide (0 ≤ m ∧ m ≤ 16)) H) : qcc m H k := by
 refine gcB (decide (0 ≤ m ∧ m ≤ 16)) (qcc.link ?_) h
 simp only [qcc.b, qh, decide_eq_true_eq, qa.refl, true_and]
 split
 ·simp only [decide_eq_decide]; omega
 ·simp; omega
theorem cost_of.s {k : Int → AH → Prop} (hx : 0 ≤ x ∧ x ≤ 100) (hm : 0 ≤ m ∧ m ≤ 16) (h : k (12 * x + 24 + 4 * m) H) : cost_of x m H k := by
 refine gcI (12 * x + 24 + 4 * m) (cost_of.link ?_) h
 refine ⟨qa.refl _, ?_⟩
 rw [qe (n := 12 * x) (by omega) (by omega), qe (n := 4 * m) (by omega) (by omega), qe (n := 12 * x + 24) (by omega) (by omega), qe (by omega) (by omega)]
theorem cost_Op.s {k : Int → AH → Prop} (h : k (costP K b sl.n m) H) : cost_Op (opl K a b c sl) m H k := by
 refine gcI (costP K b sl.n m) (cost_Op.link ?_) h
 simp only [cost_Op.b, qu, op_ld]
 refine qbm.s (qcc.s ?_)
 have hl := qdh (K := K) (b := b) (sl := sl)
 simp only [op_0, qg, qh, beq_iff_eq, hK, ql4, decide_eq_false_iff_not, costP]
 by_cases hm : 0 ≤ m ∧ m ≤ 16
 ·rw [if_neg (by simpa using hm), if_pos hm]
  split
  ·rfl
  ·split
   ·rfl
   ·refine cost_of.s (by omega) hm ?_
    simp only [hK]
 ·rw [if_pos hm, if_neg hm]
theorem qbG.s {k : Int → AH → Prop} (h : k (recP m) H) : qbG m H k := by
 refine gcI (recP m) (qbG.link ?_) h
 simp only [qbG.b]
 refine qcc.s ?_
 simp only [qh, ql4, decide_eq_false_iff_not, recP]
 by_cases hm : 0 ≤ m ∧ m ≤ 16
 ·rw [if_neg (by simpa using hm), if_pos hm]
  refine cost_of.s (by omega) hm ⟨qa.refl _, by omega⟩
 ·rw [if_pos hm, if_neg hm]; exact ⟨qa.refl _, rfl⟩
theorem qbS.s {k : Int → AH → Prop} (h : k (if mayP a b c d = true then 200 else 0) H) : qbS (pl a b c d) H k := by
 refine gcI (if mayP a b c d = true then 200 else 0) (qbS.link ?_) h
 simp only [qbS.b, qu, pl_ld]
 refine qaA.s ?_
 simp only [qh, hK]
 cases mayP a b c d <;> simp
theorem op_len : (opl K a b c sl).length = 5 := rfl
theorem op_ok : (opl K a b c sl).all qn = true := rfl
end
def isU (n : Int) : Prop := 0 ≤ n ∧ n ≤ 18446744073709551615
def isI (n : Int) : Prop := -9223372036854775808 ≤ n ∧ n ≤ 9223372036854775807
def isB (n : Int) : Prop := 0 ≤ n ∧ n ≤ 255
def iV (v : Int) : List Value := [.int .i64 v]
def wU (v : Int) : List Value := [.int .u64 v]
def bU (v : Int) : List Value := [.int .u8 v]
end Go.Proofs.YtdcbkjgoaknmkaaGreat
namespace Go.Abs
theorem own_len {α : Type} {B : Nat} {H : AH} {s : Sl} {z : Nat} {f : α → List Value} {l : List α} (h : Own B H s z f l) : s.n = l.length := by
 rcases h with ⟨rfl, rfl⟩ | ⟨b, rfl, _, _, _⟩ <;> rfl
theorem qjK {α : Type} {cells : List Value} {z : Nat} {f : α → List Value} : ∀ {l : List α} {o : Nat}, (∀ i x, l[i]? = some x → (cells.drop (o + i * z)).take z = f x ∧ (f x).length = z) → (cells.drop o).take (l.length * z) = l.flatMap f := by
 intro l
 induction l with
 | nil => intro o _; simp
 | cons a r ih =>
  intro o h
  have h0 := h 0 a rfl
  rw [Nat.zero_mul, Nat.add_zero] at h0
  have hr := ih (o := o + z) fun i x hx => by
   have := h (i + 1) x (by simpa using hx)
   rw [show o + z + i * z = o + (i + 1) * z by rw [Nat.add_mul]; omega]
   exact this
  simp only [qk9, qlH]
  rw [Nat.add_mul, Nat.one_mul, Nat.add_comm, List.take_add, h0.1, List.drop_drop, hr]
theorem qjG {α : Type} {H : AH} {s : Sl} {z : Nat} {f : α → List Value} {l : List α} (hf : ∀ x, (f x).length = z) (hc : ∀ x, (f x).all qn = true) (h : Rows H s z f l) : AH.rowS? H s z = some (l.flatMap f) := by
 simp only [AH.rowS?]
 by_cases h0 : s.n = 0
 ·rw [if_pos h0]
  have : l = [] := List.length_eq_zero_iff.1 (by rw [← h.1]; exact h0)
  subst this; rfl
 ·rw [if_neg h0]
  have hpos : 0 < l.length := by rw [← h.1]; omega
  obtain ⟨b, o, ha, hb, _⟩ := h.at hpos
  have hrow : ∀ i x, l[i]? = some x → AH.row? H ⟨b, o + i * z, none⟩ z = some (f x) := by
   intro i x hx
   obtain ⟨a, e1, e2, e3, e4⟩ := h.2 i x hx
   rw [ha] at e1
   injection e1 with e1
   subst e1
   exact e4
  have hun : ∀ i x, l[i]? = some x → (H.get b).md ≠ .dead ∧ ((H.get b).cells.drop (o + i * z)).take z = f x ∧ o + i * z + z ≤ (H.get b).cells.length := by
   intro i x hx
   have := hrow i x hx
   simp only [AH.row?, qld, qk4, if_false] at this
   split at this
   ·cases this
   ·rename_i hd
    split at this
    ·rename_i hh
     injection this with this
     exact ⟨hd, this, hh.1⟩
    ·cases this
  have hl := hun (l.length - 1) l[l.length - 1] (qkV (by omega))
  have hflat := qjK (cells := (H.get b).cells) (z := z) (f := f) (l := l) (o := o) fun i x hx => ⟨(hun i x hx).2.1, hf x⟩
  have hle : o + l.length * z ≤ (H.get b).cells.length := by
   have := hl.2.2
   obtain ⟨n, hn⟩ : ∃ n, l.length = n + 1 := ⟨l.length - 1, by omega⟩
   rw [hn] at this ⊢
   rw [Nat.add_sub_cancel] at this
   rw [Nat.add_mul]
   omega
  have hall : (l.flatMap f).all qn = true := by simp [List.all_flatMap, hc]
  rw [ha]
  simp only [AH.row?, qld, qk4, if_false]
  rw [if_neg hl.1, h.1, hflat, if_pos ⟨hle, hall⟩]
theorem qhR {α : Type} {H0 H : AH} {B : Nat} {s t : Sl} {z : Nat} {f : α → List Value} {l r : List α} {k : Sl → AH → Prop} (hf : ∀ x, (f x).length = z) (hc : ∀ x, (f x).all qn = true)
  (hO : Own B H s z f l) (hR : Rows H t z f r) (hB : H0.size ≤ B) (hBH : B ≤ H.size) (hK : qa H0 H) (hlim : l.length + r.length ≤ limS z)
  (h : ∀ s' H', Own B H' s' z f (l ++ r) → qa H0 H' → H.size ≤ H'.size → (∀ b, b < H.size → (∀ a, s.a = some a → b ≠ a.block) → H'.get b = H.get b) → k s' H') :
  appendC z H s t k := by
 have hrow := qjG hf hc hR
 have hge := hK.1
 have hs : s.n = l.length := own_len hO
 refine ⟨by rw [hs, hR.1]; exact hlim, ?_⟩
 by_cases h0 : t.n = 0
 ·rw [if_pos h0]
  have : r = [] := List.length_eq_zero_iff.1 (by rw [← hR.1]; exact h0)
  subst this
  refine h _ _ (by rw [List.append_nil]; exact hO) hK (qk2 _) fun _ _ _ => rfl
 rw [if_neg h0]
 refine ⟨_, hrow, ?_⟩
 have ht := hR.1
 rcases hO with ⟨rfl, rfl⟩ | ⟨b, rfl, hb1, hb2, hg⟩
 ·refine h _ _ (.inr ⟨H.size, ?_, ?_, ?_, ?_⟩) (hK.push _) (by simp [qi]) ?_
  ·simp [newAt, ht]
  ·omega
  ·simp [qi]
  ·simp [qq]
  ·intro b hb _; exact qH (by omega)
 ·refine ⟨⟨rfl, rfl, rfl, by rw [hg], by rw [hg, qdS hf], by rw [hg]⟩, ?_⟩
  refine h _ _ (.inr ⟨H.size, ?_, ?_, ?_, ?_⟩) ((hK.kill (b := b) (Nat.le_trans hB hb1)).push _) (by simp [qi, qaQ]) ?_
  ·simp [newAt, ht]
  ·omega
  ·simp [qi, qaQ]
  ·simp only [qq, qaQ, if_true]
   rw [hg]
   simp
  ·intro b' hb' hne
   have hne' : b' ≠ b := hne _ rfl
   rw [qH (by simp only [qaQ]; omega), qdu hne']
theorem qfy {α : Type} {H0 H : AH} {B : Nat} {s t : Sl} {z : Nat} {f : α → List Value} {l r : List α} {k : Sl → AH → Prop} (hf : ∀ x, (f x).length = z) (hc : ∀ x, (f x).all qn = true)
  (hO : Own B H s z f l) (hR : Rows H t z f r) (hB : H0.size ≤ B) (hBH : B ≤ H.size) (hK : qa H0 H) (hlim : l.length + r.length ≤ lim)
  (h : ∀ s' H', Own B H' s' z f (l ++ r) → qa H0 H' → H.size ≤ H'.size → (∀ b, b < H.size → (∀ a, s.a = some a → b ≠ a.block) → H'.get b = H.get b) → k s' H') :
  appendC z H s t k := qhR hf hc hO hR hB hBH hK (le_limS hlim z) h
theorem qfZ {α : Type} {H : AH} {s : Sl} {z : Nat} {f : α → List Value} {l : List α} {k : Nat} (h : Rows H s z f l) (hk : k ≤ l.length) : Rows H ⟨s.a, k, 0⟩ z f (l.take k) := by
 refine ⟨by simp; omega, fun i x hi => h.2 i x ?_⟩
 rw [qlN] at hi
 split at hi
 ·exact hi
 ·cases hi
theorem qfT {α : Type} {H : AH} {s : Sl} {z : Nat} {f : α → List Value} {l : List α} {k : Nat} (h : Rows H s z f l) (hk : k ≤ l.length) : Rows H ⟨Option.map (fun x => qkW x (k * z)) s.a, s.n - k, 0⟩ z f (l.drop k) := by
 refine ⟨by simp [h.1], fun i x hi => ?_⟩
 rw [qlO] at hi
 obtain ⟨a, h1, h2, h3, h4⟩ := h.2 _ _ hi
 obtain ⟨b, o, sp⟩ := a
 simp only at h2 h3 h4
 subst h2
 refine ⟨⟨b, o + k * z, none⟩, by rw [h1, Option.map_some, qj], rfl, h3, ?_⟩
 rw [← h4]
 simp only
 congr 2
 rw [Nat.add_mul]; omega
def getB (v : Int) (j : Nat) : Int := (v / 2 ^ (8 * j)) % 256
def setB (v : Int) (j : Nat) (c : Int) : Int :=
 ((((qlI 64 v) &&& ~~~(BitVec.ofNat 64 (255 * 2 ^ (8 * j)))) ||| (BitVec.ofNat 64 (c.toNat * 2 ^ (8 * j)))).toNat : Int)
theorem qi5 (v : Int) (j : Nat) (c : Int) : 0 ≤ setB v j c ∧ setB v j c ≤ 18446744073709551615 := by
 unfold setB
 have := (((qlI 64 v) &&& ~~~(BitVec.ofNat 64 (255 * 2 ^ (8 * j)))) ||| (BitVec.ofNat 64 (c.toNat * 2 ^ (8 * j)))).isLt
 omega
theorem qfQ (n j : Nat) : getB (n : Int) j = ((n / 2 ^ (8 * j)) % 256 : Nat) := by
 unfold getB
 rw [Int.natCast_emod, Int.natCast_ediv, Int.natCast_pow]
 rfl
theorem qdV (n j t : Nat) : ((n / 2 ^ (8 * j)) % 256).testBit t = (decide (t < 8) && n.testBit (8 * j + t)) := by
 have : (256 : Nat) = 2 ^ 8 := rfl
 rw [this, Nat.testBit_mod_two_pow, Nat.testBit_div_two_pow, Nat.add_comm]
theorem qgr {v c : Int} {j : Nat} (hj : j < 8) (hc : 0 ≤ c ∧ c ≤ 255) : getB (setB v j c) j = c := by
 obtain ⟨n, rfl⟩ := qlh hc.1
 unfold setB
 rw [qfQ]
 congr 1
 apply Nat.eq_of_testBit_eq
 intro t
 rw [qdV, BitVec.testBit_toNat]
 simp only [qk0]
 have hn : n < 2 ^ 8 := by omega
 by_cases ht : t < 8
 ·have h64 : 8 * j + t < 64 := by omega
  simp only [ht, decide_true, Bool.true_and, BitVec.getLsbD_or, BitVec.getLsbD_and, BitVec.getLsbD_not, BitVec.getLsbD_ofNat, h64, Nat.testBit_mul_two_pow]
  rw [show decide (8 * j + t ≥ 8 * j) = true from by simp, show 8 * j + t - 8 * j = t from by omega]
  have h255 : Nat.testBit 255 t = true := by
   have : (255 : Nat) = 2 ^ 8 - 1 := rfl
   rw [this, Nat.testBit_two_pow_sub_one]; simpa using ht
  simp [h255]
 ·have : n.testBit t = false := Nat.testBit_lt_two_pow (ql5 hn (Nat.pow_le_pow_right (by omega) (by omega)))
  simp [ht, this]
theorem qga {v c : Int} {j i : Nat} (hv : 0 ≤ v ∧ v ≤ 18446744073709551615) (hj : j < 8) (hi : i < 8) (hij : i ≠ j) (hc : 0 ≤ c ∧ c ≤ 255) : getB (setB v j c) i = getB v i := by
 obtain ⟨n, rfl⟩ := qlh hc.1
 obtain ⟨m, rfl⟩ := qlh hv.1
 unfold setB
 rw [qfQ, qfQ]
 congr 1
 apply Nat.eq_of_testBit_eq
 intro t
 rw [qdV, qdV, BitVec.testBit_toNat]
 simp only [qk0]
 have hn : n < 2 ^ 8 := by omega
 by_cases ht : t < 8
 ·have h64 : 8 * i + t < 64 := by omega
  simp only [ht, decide_true, Bool.true_and, BitVec.getLsbD_or, BitVec.getLsbD_and, BitVec.getLsbD_not, BitVec.getLsbD_ofNat, h64, Nat.testBit_mul_two_pow, BitVec.ofInt_natCast]
  have hz : ∀ q : Nat, q < 2 ^ 8 → (decide (8 * i + t ≥ 8 * j) && q.testBit (8 * i + t - 8 * j)) = false := by
   intro q hq
   by_cases hge : 8 * i + t ≥ 8 * j
   ·have : 8 ≤ 8 * i + t - 8 * j := by omega
    rw [Nat.testBit_lt_two_pow (ql5 hq (Nat.pow_le_pow_right (by omega) this))]; simp
   ·simp [hge]
  rw [hz 255 (by omega), hz n hn]
  simp
 ·simp [ht]
theorem qkA {v : Int} (hv : 0 ≤ v ∧ v ≤ 18446744073709551615) {j : Nat} (hj : j < 8) : qkU .u8 (shrI .u64 v (8 * (j : Int))) = getB v j := by
 unfold shrI getB
 rw [show (min ((8 * (j : Int)).toNat) (qlT .u64)) = 8 * j from by simp [qlT]; omega]
 rw [Int.fdiv_eq_ediv_of_nonneg _ (Int.pow_nonneg (by omega))]
 simp only [qkU, qlT, IntKind.signed, Bool.false_and, Int.reducePow, qk4, if_false]
theorem qdB (x : Int) : qlI 64 (qkU .u64 x) = qlI 64 x := by
 simp only [qkU, qlT, IntKind.signed, Bool.false_and, qk4, if_false]
 apply BitVec.eq_of_toInt_eq
 simp only [BitVec.toInt_ofInt]
 exact Int.emod_bmod x (2 ^ 64)
theorem qkv (n : Nat) (h : n < 2 ^ 64) : qkU .u64 (n : Int) = n := qbi (by omega) (by omega)
theorem qkk {v c : Int} (hc : 0 ≤ c ∧ c ≤ 255) {j : Nat} (hj : j < 8) :
  orI .u64 (andNotI .u64 v (shlI .u64 255 (8 * (j : Int)))) (shlI .u64 (qkU .u64 c) (8 * (j : Int))) = setB v j c := by
 have h1 : ∀ x : Int, shlI .u64 x (8 * (j : Int)) = qkU .u64 (x * 2 ^ (8 * j)) := by
  intro x
  unfold shlI
  rw [show (min ((8 * (j : Int)).toNat) (qlT .u64)) = 8 * j from by simp [qlT]; omega]
 have h2 : ∀ a b : Int, andNotI .u64 a b = qkU .u64 ((qlI 64 a &&& ~~~(qlI 64 b)).toNat : Int) := fun _ _ => rfl
 have h3 : ∀ a b : Int, orI .u64 a b = qkU .u64 ((qlI 64 a ||| qlI 64 b).toNat : Int) := fun _ _ => rfl
 rw [h3, h2, h1, h1, qbi (n := c) (by omega) (by omega), qdB, qdB, qdB, qkv _ (BitVec.isLt _)]
 unfold setB
 obtain ⟨n, rfl⟩ := qlh hc.1
 have e1 : (255 : Int) * 2 ^ (8 * j) = ((255 * 2 ^ (8 * j) : Nat) : Int) := by rw [Int.natCast_mul, Int.natCast_pow]; rfl
 have e2 : (n : Int) * 2 ^ (8 * j) = ((n * 2 ^ (8 * j) : Nat) : Int) := by rw [Int.natCast_mul, Int.natCast_pow]; rfl
 rw [e1, e2]
 simp only [BitVec.ofInt_natCast, qk0, BitVec.ofNat_toNat, BitVec.setWidth_eq]
end Go.Abs
namespace Go.Proofs.YtdcbkjgoaknmkaaGreat
open Go Go.Abs
theorem qj6 {H : AH} {b o : Nat} {v : Value} (h : AH.row? H ⟨b, o, none⟩ 1 = some [v]) : AH.cell? H ⟨b, o, none⟩ = some v := by
 have := (AH.row?_cell h).2.2.2.2 0 v rfl
 simpa using this
theorem qb6 {α : Type} {H : AH} {s : Sl} {g : α → Value} {l : List α} (h : qlo H s 1 (fun x => [g x]) l) {i : Nat} (hi : i < l.length) :
  ∃ b o, s.a = some ⟨b, o, none⟩ ∧ b < H.size ∧ AH.cell? H (qkW ⟨b, o, none⟩ (i * 1)) = some (g (l[i])) := by
 obtain ⟨b, o, h1, h2, h3⟩ := h.at hi
 refine ⟨b, o, h1, h2, ?_⟩
 rw [qj] at h3 ⊢
 exact qj6 h3
def inside (len : Nat) (off n : Int) : Prop := 0 ≤ off ∧ 0 ≤ n ∧ n ≤ 448 ∧ off ≤ 8 * len - n
instance (len : Nat) (off n : Int) : Decidable (inside len off n) := by unfold inside; infer_instance
def byteAt (ws : List Int) (i : Nat) : Int := getB (ws.getD (i / 8) 0) (i % 8)
def bytesOf (ws : List Int) (off n : Nat) : List Int := (qlE n).map fun j => byteAt ws (off + j)
def qam (ws : List Int) : Prop := ∀ v ∈ ws, 0 ≤ v ∧ v ≤ 18446744073709551615
section
variable {off n : Int} {H : AH} {sl : Sl}
theorem qbw.s {k : Bool → AH → Prop} (hs : sl.n ≤ 1000000000) (ho : -9223372036854775808 ≤ off ∧ off ≤ 9223372036854775807) (h : k (decide (inside sl.n off n)) H) : qbw sl off n H k := by
 refine gcB (decide (inside sl.n off n)) (qbw.link ?_) h
 simp only [qbw.b, qh, decide_eq_true_eq, qa.refl, true_and]
 by_cases h1 : off ≥ 0
 ·rw [if_pos h1]
  by_cases h2 : n ≥ 0
  ·rw [if_pos h2]
   by_cases h3 : n ≤ 448
   ·rw [if_pos h3, qe (n := (sl.n : Int) * 8) (by omega) (by omega), qe (by omega) (by omega)]
    refine decide_eq_decide.2 ?_; unfold inside; omega
   ·rw [if_neg h3]; refine (decide_eq_false ?_).symm; unfold inside; omega
  ·rw [if_neg h2]; refine (decide_eq_false ?_).symm; unfold inside; omega
 ·rw [if_neg h1]; refine (decide_eq_false ?_).symm; unfold inside; omega
theorem qbs.s {ws : List Int} {k : Sl → Bool → AH → Prop} (hw : qlo H sl 1 wU ws) (h64 : qam ws) (hlen : ws.length ≤ 1000000) (ho : -9223372036854775808 ≤ off ∧ off ≤ 9223372036854775807)
  (h1 : inside ws.length off n → ∀ s H', qa H H' → Own H.size H' s 1 bU (bytesOf ws off.toNat n.toNat) → k s true H') (h0 : ¬ inside ws.length off n → k ⟨none, 0, 0⟩ false H) : qbs sl off n H k := by
 refine qbs.link ?_
 unfold qbs.b
 have hn : sl.n = ws.length := hw.1
 refine qbw.s (by omega) ho ?_
 rw [hn]
 by_cases hin : inside ws.length off n
 ·rw [show decide (inside ws.length off n) = true from by simpa using hin, Bool.not_true, qc]
  have hin' := hin
  unfold inside at hin
  refine qI (t := ((⟨none, 0, 0⟩, off) : Sl × Int)) (H := H) (I := fun (t : Sl × Int) H' => ∃ j : Nat, t.2 = off + j ∧ (j : Int) ≤ n ∧ qa H H' ∧ Own H.size H' t.1 1 bU (bytesOf ws off.toNat j)) (m := fun (t : Sl × Int) _ => qk5 (off + n - t.2)) ?_ ?_
  ·intro t H1 hI it hit
   obtain ⟨s, i⟩ := t
   obtain ⟨j, hi, hj, hK, hO⟩ := hI
   simp only at hi hO
   subst hi
   have hR := hw.keep hK
   unfold qbs.l1
   simp only
   rw [qe (n := off + n) (by omega) (by omega)]
   by_cases hlt : (j : Int) < n
   ·rw [show decide (off + (j : Int) < off + n) = true from by simp; omega, qk]
    rw [qlG (by omega), Int.tmod_eq_emod_of_nonneg (by omega), qe (n := (off + (j : Int)) / 8) (by omega) (by omega), hn]
    have hidx : ((off + (j : Int)) / 8).toNat < ws.length := by omega
    obtain ⟨b, o, ha, hb, hcell⟩ := qb6 (g := fun v => qkT .u64 v) hR hidx
    refine ⟨by decide, ⟨by omega, by omega⟩, ?_⟩
    rw [ha, qd, hcell, qg, qe (n := (off + (j : Int)) % 8 * 8) (by omega) (by omega)]
    refine ⟨by decide, by omega, ?_⟩
    have hjm : ((off + (j : Int)) % 8) = (((off.toNat + j) % 8 : Nat) : Int) := by omega
    have hidx' : ((off + (j : Int)) / 8).toNat = (off.toNat + j) / 8 := by omega
    have hv := h64 _ (qla hidx)
    have hbyte : qkU .u8 (shrI .u64 ws[((off + (j : Int)) / 8).toNat] ((off + (j : Int)) % 8 * 8)) = byteAt ws (off.toNat + j) := by
     rw [Int.mul_comm, hjm, qkA hv (by omega)]
     unfold byteAt
     rw [qkX, ← hidx', qkV hidx, qlw]
    rw [hbyte]
    simp only [qu]
    refine qbK (H0 := H) (B := H.size) (f := bU) (x := byteAt ws (off.toNat + j)) (l := bytesOf ws off.toNat j) (fun _ => rfl) rfl hO (qk2 _) hK.1 hK (by simp only [bytesOf, List.length_map, List.length_range, lim]; omega) ?_
    intro s' H' hO' hK' _ _
    rw [qe (n := off + (j : Int) + 1) (by omega) (by omega)]
    refine hit _ _ ⟨j + 1, by simp only; omega, by omega, hK', ?_⟩ (by simp only; omega)
    have : bytesOf ws off.toNat (j + 1) = bytesOf ws off.toNat j ++ [byteAt ws (off.toNat + j)] := by simp [bytesOf, ql3]
    rw [this]; exact hO'
   ·rw [show decide (off + (j : Int) < off + n) = false from by simp; omega, qc]
    have hjn : n.toNat = j := by omega
    exact h1 hin' _ _ hK (hjn ▸ hO)
  ·exact ⟨0, by simp, by omega, qa.refl H, .inl ⟨rfl, rfl⟩⟩
 ·rw [show decide (inside ws.length off n) = false from by simpa using hin, Bool.not_false, qk]
  exact h0 hin
end
end Go.Proofs.YtdcbkjgoaknmkaaGreat
namespace Go.Abs
theorem qki {α : Type} {f : α → List Value} {z : Nat} (hf : ∀ x, (f x).length = z) {j : Nat} {v : Value} (hj : j < z) : ∀ (l : List α) (i : Nat) (x y : α), l[i]? = some x → f y = (f x).set j v →
  (l.flatMap f).set (i * z + j) v = (l.set i y).flatMap f := by
 intro l
 induction l with
 | nil => intro i x y h; simp at h
 | cons a l ih =>
  intro i x y h hy
  cases i with
  | zero =>
   simp only [List.getElem?_cons_zero, Option.some.injEq] at h
   subst h
   simp only [Nat.zero_mul, qli, qlH, List.set_cons_zero]
   rw [hy, List.set_append_left _ _ (by rw [hf]; exact hj)]
  | succ i =>
   simp only [List.getElem?_cons_succ] at h
   simp only [qlH, List.set_cons_succ]
   rw [← ih i x y h hy, List.set_append_right _ _ (by rw [hf, Nat.succ_mul]; omega)]
   congr 2
   rw [hf, Nat.succ_mul]; omega
theorem Own.cell {α : Type} {B : Nat} {H : AH} {s : Sl} {z : Nat} {f : α → List Value} {l : List α} (h : Own B H s z f l) (hf : ∀ x, (f x).length = z) {i : Nat} {x : α} (hi : l[i]? = some x) {j : Nat} (hj : j < z) :
  ∃ b, s.a = some ⟨b, 0, none⟩ ∧ B ≤ b ∧ b < H.size ∧ AH.cell? H ⟨b, i * z + j, none⟩ = (f x)[j]? := by
 rcases h with ⟨_, rfl⟩ | ⟨b, rfl, h1, h2, hg⟩
 ·simp at hi
 ·refine ⟨b, rfl, h1, h2, ?_⟩
  simp only [AH.cell?, hg, qld, qk4, if_false]
  rw [if_neg (by simp)]
  have := qhw hf l i x hi
  rw [← this, qlN, if_pos hj, qlO]
theorem Own.put {α : Type} {B : Nat} {H : AH} {s : Sl} {z : Nat} {f : α → List Value} {l : List α} (h : Own B H s z f l) (hf : ∀ x, (f x).length = z) {i : Nat} {x y : α} (hi : l[i]? = some x) {j : Nat} (hj : j < z) {v : Value}
  (hy : f y = (f x).set j v) : ∃ b, s.a = some ⟨b, 0, none⟩ ∧ B ≤ b ∧ b < H.size ∧ AH.canPut H ⟨b, i * z + j, none⟩ 1 ∧ Own B (H.put ⟨b, i * z + j, none⟩ [v]) s z f (l.set i y) ∧
   ∀ b', b' ≠ b → (H.put ⟨b, i * z + j, none⟩ [v]).get b' = H.get b' := by
 rcases h with ⟨_, rfl⟩ | ⟨b, rfl, h1, h2, hg⟩
 ·simp at hi
 ·have hlt : i < l.length := (List.getElem?_eq_some_iff.1 hi).1
  have hle : i * z + j + 1 ≤ (l.flatMap f).length := by
   rw [qdS hf]
   calc i * z + j + 1 ≤ i * z + z := by omega
    _ = (i + 1) * z := by rw [Nat.succ_mul]
    _ ≤ l.length * z := Nat.mul_le_mul_right _ hlt
  refine ⟨b, rfl, h1, h2, ⟨rfl, by rw [hg], by rw [hg]; exact hle⟩, .inr ⟨b, by simp, h1, h2, ?_⟩, fun b' hb' => ?_⟩
  ·simp only [AH.put, qB, if_true, hg, setMany]
   rw [qki hf hj l i x y hi hy]
  ·simp only [AH.put, qB]; rw [if_neg hb']
end Go.Abs
namespace Go.Proofs.YtdcbkjgoaknmkaaGreat
open Go Go.Abs
def putB (ws : List Int) (i : Nat) (c : Int) : List Int := ws.set (i / 8) (setB (ws.getD (i / 8) 0) (i % 8) c)
def putBs : List Int → Nat → List Int → List Int
 | ws, _, [] => ws
 | ws, i, c :: r => putBs (putB ws i c) (i + 1) r
def eU (x : Int × Int) : List Value := [.int .i64 x.1, .int .u64 x.2]
def editsOf (cur : List Int) (q m : Nat) : List (Int × Int) := (qlE m).map fun j => (((q + j : Nat) : Int), cur.getD (q + j) 0)
def touched (off k : Nat) : Nat := if k = 0 then 0 else (off + k - 1) / 8 - off / 8 + 1
def qca (bs : List Int) : Prop := ∀ v ∈ bs, 0 ≤ v ∧ v ≤ 255
theorem qds (ws : List Int) (i : Nat) (c : Int) : (putB ws i c).length = ws.length := by simp [putB]
theorem qct : ∀ (bs ws : List Int) (i : Nat), (putBs ws i bs).length = ws.length := by
 intro bs
 induction bs with
 | nil => intro ws i; rfl
 | cons c r ih => intro ws i; simp [putBs, ih, qds]
theorem qi9 : ∀ (bs ws : List Int) (i : Nat) (c : Int), putBs ws i (bs ++ [c]) = putB (putBs ws i bs) (i + bs.length) c := by
 intro bs
 induction bs with
 | nil => intro ws i c; rfl
 | cons b r ih => intro ws i c; simp only [qlz, putBs, ih, qk9]; congr 1; omega
theorem qeP (ws : List Int) (i : Nat) (c : Int) (w : Nat) (h : i / 8 < ws.length) : (putB ws i c).getD w 0 = if w = i / 8 then setB (ws.getD (i / 8) 0) (i % 8) c else ws.getD w 0 := by
 unfold putB
 simp only [qkX]
 by_cases hw : w = i / 8
 ·subst hw; simp [h]
 ·rw [if_neg hw, qlj (by omega)]
theorem qfa : ∀ (bs ws : List Int) (i w : Nat), (i + bs.length ≤ w * 8 ∨ w < i / 8) → i + bs.length ≤ ws.length * 8 → (putBs ws i bs).getD w 0 = ws.getD w 0 := by
 intro bs
 induction bs with
 | nil => intro ws i w _ _; rfl
 | cons c r ih =>
  intro ws i w h hl
  simp only [qk9] at h hl
  simp only [putBs]
  rw [ih _ _ _ (by omega) (by rw [qds]; omega), qeP _ _ _ _ (by omega), if_neg (by omega)]
section
variable {off : Nat} {H : AH} {x0 x2 : Sl}
theorem qby (cur : List Int) (q m : Nat) : (editsOf cur q m).length = m := by simp [editsOf]
theorem qdt {cur : List Int} {q m i : Nat} (h : i < m) : (editsOf cur q m)[i]? = some (((q + i : Nat) : Int), cur.getD (q + i) 0) := by
 simp [editsOf, h]
theorem qeN {ws : List Int} (h : qam ws) (i : Nat) (c : Int) : qam (putB ws i c) := by
 intro v hv
 unfold putB at hv
 rcases qlY hv with hv | rfl
 ·exact h v hv
 ·exact qi5 _ _ _
theorem qiB {cur : List Int} {q m i : Nat} {c : Int} (hm : 1 ≤ m) (hi : i / 8 = q + m - 1) (hl : i / 8 < cur.length) :
  (editsOf cur q m).set (m - 1) (((i / 8 : Nat) : Int), setB (cur.getD (i / 8) 0) (i % 8) c) = editsOf (putB cur i c) q m := by
 apply qlk
 intro j
 by_cases hj : j < m
 ·rw [qdt hj, qeP _ _ _ _ hl]
  by_cases hjm : j = m - 1
  ·subst hjm
   rw [qlC (by rw [qby]; omega), if_pos (by omega), show q + (m - 1) = i / 8 from by omega]
  ·rw [qlj (by omega), qdt hj, if_neg (by omega)]
 ·rw [qk1 (by rw [List.length_set, qby]; omega), qk1 (by rw [qby]; omega)]
theorem qhT {it : Sl × Int → AH → Prop} {H0 H1 : AH} {s : Sl} {cur : List Int} {k m : Nat} {c : Int} {t : Sl × Int} (ht : t.2 = (k : Int)) (hK : qa H0 H1) (hO : Own H0.size H1 s 2 eU (editsOf cur (off / 8) m)) (hm : 1 ≤ m) (hm' : m ≤ 1000)
  (hi : (off + k) / 8 = off / 8 + m - 1) (hl : (off + k) / 8 < cur.length) (hc : 0 ≤ c ∧ c ≤ 255) (hoff : off + k ≤ 100000000)
  (hit : ∀ H', qa H0 H' → Own H0.size H' s 2 eU (editsOf (putB cur (off + k) c) (off / 8) m) → it (s, (k : Int) + 1) H') : qW.j1 (off : Int) t it c s H1 := by
 unfold qW.j1
 have hlen : s.n = m := by
  rcases hO with ⟨rfl, h⟩ | ⟨b, rfl, _, _, _⟩
  ·have := qby cur (off / 8) m
   rw [h] at this; simpa using this
  ·simp [qby]
 rw [hlen, ht, qe (n := (m : Int) - 1) (by omega) (by omega), qe (n := (off : Int) + (k : Int)) (by omega) (by omega)]
 have hidx : ((m : Int) - 1).toNat = m - 1 := by omega
 have hget := qdt (cur := cur) (q := off / 8) (show m - 1 < m from by omega)
 have hq : off / 8 + (m - 1) = (off + k) / 8 := by omega
 rw [hq] at hget
 obtain ⟨b, ha, hb1, hb2, hcell⟩ := hO.cell (fun _ => rfl) hget (j := 1) (by omega)
 refine ⟨⟨by omega, by omega⟩, ?_⟩
 rw [ha, qd, hidx, qj, qj, qli, hcell]
 have hmod : ((off : Int) + (k : Int)).tmod 8 = (((off + k) % 8 : Nat) : Int) := by rw [Int.tmod_eq_emod_of_nonneg (by omega)]; omega
 rw [hmod]
 show elI .u64 (some (qkT .u64 (cur.getD ((off + k) / 8) 0))) _
 rw [qg, qe (n := (((off + k) % 8 : Nat) : Int) * 8) (by omega) (by omega), Int.mul_comm _ 8, qkk hc (by omega)]
 refine ⟨by decide, by omega, by decide, by omega, ?_⟩
 obtain ⟨b', ha', _, _, hcan, hO', hsame⟩ := hO.put (y := ((((off + k) / 8 : Nat) : Int), setB (cur.getD ((off + k) / 8) 0) ((off + k) % 8) c)) (fun _ => rfl) hget (j := 1) (by omega) (v := .int .u64 (setB (cur.getD ((off + k) / 8) 0) ((off + k) % 8) c)) rfl
 rw [ha] at ha'
 injection ha' with ha'
 injection ha' with ha'
 subst ha'
 refine ⟨hcan, ?_⟩
 rw [qe (n := (k : Int) + 1) (by omega) (by omega)]
 rw [qiB hm hi hl] at hO'
 exact hit _ (hK.put hb1 _) hO'
theorem own_n {α : Type} {B : Nat} {H : AH} {s : Sl} {z : Nat} {f : α → List Value} {l : List α} (h : Own B H s z f l) : s.n = l.length := by
 rcases h with ⟨rfl, rfl⟩ | ⟨b, rfl, _, _, _⟩ <;> rfl
theorem qhD {it : Sl × Int → AH → Prop} {H0 H1 : AH} {s : Sl} {ws cur : List Int} {k m : Nat} {c : Int} {t : Sl × Int} (ht : t = (s, (k : Int))) (hw : qlo H1 x0 1 wU ws) (hcl : cur.length = ws.length) (hcw : cur.getD ((off + k) / 8) 0 = ws.getD ((off + k) / 8) 0)
  (hK : qa H0 H1) (hO : Own H0.size H1 s 2 eU (editsOf cur (off / 8) m)) (hm' : m ≤ 900)
  (hi : (off + k) / 8 = off / 8 + m) (hl : (off + k) / 8 < cur.length) (hc : 0 ≤ c ∧ c ≤ 255) (hoff : off + k ≤ 100000000) (hwl : ws.length ≤ 1000000)
  (hit : ∀ s' H', qa H0 H' → Own H0.size H' s' 2 eU (editsOf (putB cur (off + k) c) (off / 8) (m + 1)) → it (s', (k : Int) + 1) H') : qW.j2 x0 (off : Int) t it H1 c true := by
 subst ht
 unfold qW.j2
 rw [qk]
 simp only
 rw [qe (n := (off : Int) + (k : Int)) (by omega) (by omega), qlG (by omega), qe (n := ((off : Int) + (k : Int)) / 8) (by omega) (by omega), hw.1]
 refine ⟨by decide, by decide, ⟨by omega, by omega⟩, ?_⟩
 have hidx : (((off : Int) + (k : Int)) / 8).toNat = (off + k) / 8 := by omega
 have hlt : (off + k) / 8 < ws.length := by omega
 obtain ⟨b, o, ha, hb, hcell⟩ := qb6 (g := fun v => qkT .u64 v) hw hlt
 rw [ha, qd, hidx, hcell, qg]
 refine ⟨rfl, ?_⟩
 rw [qu]
 have hx : [qkT .i64 (((off : Int) + (k : Int)) / 8), qkT .u64 ws[(off + k) / 8]] = eU ((((off + k) / 8 : Nat) : Int), cur.getD ((off + k) / 8) 0) := by
  rw [hcw]
  simp only [eU, qkX, qkV hlt, qlw]
  congr 1
 rw [hx]
 refine qbK (H0 := H0) (B := H0.size) (f := eU) (x := ((((off + k) / 8 : Nat) : Int), cur.getD ((off + k) / 8) 0)) (l := editsOf cur (off / 8) m) (fun _ => rfl) rfl hO (qk2 _) hK.1 hK (by rw [qby]; simp only [lim]; omega) ?_
 intro s' H' hO' hK' _ _
 have hl' : editsOf cur (off / 8) m ++ [((((off + k) / 8 : Nat) : Int), cur.getD ((off + k) / 8) 0)] = editsOf cur (off / 8) (m + 1) := by
  simp only [editsOf, ql3, List.map_append, qlX, List.map_nil, hi]
 rw [hl'] at hO'
 exact qhT rfl hK' hO' (by omega) (by omega) (by omega) hl hc hoff (fun H'' hK'' hO'' => hit s' H'' hK'' hO'')
theorem qW.s {ws bs : List Int} {k : Sl → Bool → AH → Prop} {offI : Int} (hw : qlo H x0 1 wU ws) (h64 : qam ws) (hwl : ws.length ≤ 1000000) (hb : qlo H x2 1 bU bs) (h8 : qca bs) (ho : -9223372036854775808 ≤ offI ∧ offI ≤ 9223372036854775807)
  (h1 : inside ws.length offI bs.length → ∀ s H', qa H H' → Own H.size H' s 2 eU (editsOf (putBs ws offI.toNat bs) (offI.toNat / 8) (touched offI.toNat bs.length)) → k s true H')
  (h0 : ¬ inside ws.length offI bs.length → k ⟨none, 0, 0⟩ false H) : qW x0 offI x2 H k := by
 refine qW.link ?_
 unfold qW.b
 rw [hb.1]
 refine qbw.s (by rw [hw.1]; omega) ho ?_
 rw [hw.1]
 by_cases hin : inside ws.length offI bs.length
 ·rw [show decide (inside ws.length offI bs.length) = true from by simpa using hin, Bool.not_true, qc]
  have hin' := hin
  unfold inside at hin
  obtain ⟨off, rfl⟩ := qlh hin.1
  simp only [qk0] at h1
  refine qI (t := ((⟨none, 0, 0⟩, (0 : Int)) : Sl × Int)) (H := H) (I := fun (t : Sl × Int) H' => ∃ j : Nat, t.2 = (j : Int) ∧ j ≤ bs.length ∧ qa H H' ∧ Own H.size H' t.1 2 eU (editsOf (putBs ws off (bs.take j)) (off / 8) (touched off j))) (m := fun (t : Sl × Int) _ => qk5 ((bs.length : Int) - t.2)) ?_ ?_
  ·intro t H1 hI it hit
   obtain ⟨s, i⟩ := t
   obtain ⟨j, hi, hj, hK, hO⟩ := hI
   simp only at hi hO
   subst hi
   have hR := hw.keep hK
   have hB := hb.keep hK
   unfold qW.l3
   simp only
   rw [hb.1]
   by_cases hlt : j < bs.length
   ·rw [show decide ((j : Int) < (bs.length : Int)) = true from by simpa using hlt, qk]
    obtain ⟨b, o, ha, hbb, hcell⟩ := qb6 (g := fun v => qkT .u8 v) hB hlt
    refine ⟨⟨by omega, by omega⟩, ?_⟩
    rw [ha, qd, qk0, hcell, qg]
    have hc := h8 _ (qla hlt)
    have hcl : (putBs ws off (bs.take j)).length = ws.length := qct _ _ _
    have hstep : putB (putBs ws off (bs.take j)) (off + j) bs[j] = putBs ws off (bs.take (j + 1)) := by
     rw [List.take_succ, qkV hlt, qml, qi9, List.length_take, Nat.min_eq_left (by omega)]
    have hnext : ∀ s' H', qa H H' → Own H.size H' s' 2 eU (editsOf (putB (putBs ws off (bs.take j)) (off + j) bs[j]) (off / 8) (touched off (j + 1))) → it (s', (j : Int) + 1) H' := by
     intro s' H' hK' hO'
     rw [hstep] at hO'
     exact hit _ _ ⟨j + 1, by simp, by omega, hK', hO'⟩ (by simp only; omega)
    rw [own_n hO, qby]
    have hlw : (off + j) / 8 < (putBs ws off (bs.take j)).length := by rw [hcl]; omega
    by_cases hj0 : j = 0
    ·subst hj0
     rw [show (((touched off 0 : Nat) : Int) == 0) = true from rfl, qk]
     refine qhD (m := 0) (cur := putBs ws off (bs.take 0)) rfl hR hcl rfl hK hO (by omega) (by omega) hlw hc (by omega) hwl ?_
     intro s' H' hK' hO'
     have : touched off (0 + 1) = 0 + 1 := by simp [touched]
     exact hnext s' H' hK' (by rw [this]; exact hO')
    ·have htm : touched off j = (off + j - 1) / 8 - off / 8 + 1 := by simp [touched, hj0]
     have htn : touched off (j + 1) = (off + j) / 8 - off / 8 + 1 := by simp [touched]
     have hle : touched off j ≤ 60 := by omega
     rw [show (((touched off j : Nat) : Int) == 0) = false from by simp; omega, qc, qe (n := ((touched off j : Nat) : Int) - 1) (by omega) (by omega)]
     refine ⟨⟨by omega, by omega⟩, ?_⟩
     have hget := qdt (cur := putBs ws off (bs.take j)) (q := off / 8) (show touched off j - 1 < touched off j from by omega)
     obtain ⟨b', ha', _, _, hcell'⟩ := hO.cell (fun _ => rfl) hget (j := 0) (by omega)
     have hidx : (((touched off j : Nat) : Int) - 1).toNat = touched off j - 1 := by omega
     rw [ha', qd, hidx, qj, qj, qli, hcell']
     show elI .i64 (some (qkT .i64 ((off / 8 + (touched off j - 1) : Nat) : Int))) _
     rw [qg, qe (n := (off : Int) + (j : Int)) (by omega) (by omega), qlG (by omega), qe (n := ((off : Int) + (j : Int)) / 8) (by omega) (by omega)]
     refine ⟨by decide, ?_⟩
     by_cases hsame : (off + j) / 8 = off / 8 + touched off j - 1
     ·rw [show ((((off / 8 + (touched off j - 1) : Nat) : Int)) != ((off : Int) + (j : Int)) / 8) = false from by simp; omega]
      unfold qW.j2
      rw [qc]
      refine qhT (m := touched off j) (cur := putBs ws off (bs.take j)) rfl hK hO (by omega) (by omega) hsame hlw hc (by omega) ?_
      intro H' hK' hO'
      exact hnext s H' hK' (by rw [show touched off (j + 1) = touched off j from by omega]; exact hO')
     ·rw [show ((((off / 8 + (touched off j - 1) : Nat) : Int)) != ((off : Int) + (j : Int)) / 8) = true from by simp; omega]
      refine qhD (m := touched off j) (cur := putBs ws off (bs.take j)) rfl hR hcl ?_ hK hO (by omega) (by omega) hlw hc (by omega) hwl ?_
      ·exact qfa _ _ _ _ (.inl (by rw [List.length_take]; omega)) (by rw [List.length_take]; omega)
      ·intro s' H' hK' hO'
       exact hnext s' H' hK' (by rw [show touched off (j + 1) = touched off j + 1 from by omega]; exact hO')
   ·rw [show decide ((j : Int) < (bs.length : Int)) = false from by simpa using hlt, qc]
    have hjn : j = bs.length := by omega
    subst hjn
    rw [List.take_length] at hO
    exact h1 hin' _ _ hK hO
  ·exact ⟨0, rfl, by omega, qa.refl H, .inl ⟨rfl, rfl⟩⟩
 ·rw [show decide (inside ws.length offI bs.length) = false from by simpa using hin, Bool.not_false, qk]
  exact h0 hin
end
theorem qfo {α : Type} (g : α → Value) (l : List α) : (l.flatMap fun x => [g x]) = l.map g := by
 induction l with
 | nil => rfl
 | cons a l ih => simp [ih]
theorem qfC {α : Type} {H : AH} {s : Sl} {g : α → Value} {l : List α} (hg : ∀ x, qn (g x) = true) (h : qlo H s 1 (fun x => [g x]) l) : AH.rowS? H s 1 = some (l.map g) := by
 simp only [AH.rowS?]
 by_cases h0 : s.n = 0
 ·rw [if_pos h0]
  have : l = [] := List.length_eq_zero_iff.1 (by rw [← h.1]; exact h0)
  subst this; rfl
 ·rw [if_neg h0]
  have hpos : 0 < l.length := by rw [← h.1]; omega
  obtain ⟨b, o, ha, hb, hr0⟩ := h.at hpos
  rw [ha]
  simp only [Nat.mul_one]
  have hcell : ∀ i (hi : i < l.length), AH.cell? H ⟨b, o + i, none⟩ = some (g l[i]) := by
   intro i hi
   obtain ⟨b', o', ha', _, hr⟩ := qb6 h hi
   rw [ha] at ha'
   injection ha' with ha'
   injection ha' with e1 e2 _
   subst e1 e2
   rw [qj, Nat.mul_one] at hr
   exact hr
  have hm : (H.get b).md ≠ .dead := by
   intro hm
   have := hcell 0 hpos
   simp [AH.cell?, hm] at this
  have hc : ∀ i (hi : i < l.length), (H.get b).cells[o + i]? = some (g l[i]) := by
   intro i hi
   have := hcell i hi
   simpa [AH.cell?, hm] using this
  have hlen : o + s.n ≤ (H.get b).cells.length := by
   have h1 := hc (l.length - 1) (by omega)
   have := (List.getElem?_eq_some_iff.1 h1).1
   have := h.1
   omega
  have htake : ((H.get b).cells.drop o).take s.n = l.map g := by
   apply qlk
   intro i
   by_cases hi : i < s.n
   ·have hi' : i < l.length := by rw [← h.1]; exact hi
    rw [qlN, if_pos hi, qlO, hc i hi', List.getElem?_map, qkV hi', Option.map_some]
   ·rw [qk1 (by simp; omega), qk1 (by rw [List.length_map, ← h.1]; omega)]
  simp only [AH.row?, qld, qk4, if_false]
  rw [if_neg hm, htake, if_pos ⟨hlen, by simp [hg]⟩]
theorem qT.s {H : AH} {sl : Sl} {ws : List Int} {k : Sl → AH → Prop} (hw : qlo H sl 1 wU ws) (hwl : ws.length ≤ 1000000)
  (h : ∀ s H', qa H H' → Own H.size H' s 1 wU ws ∨ (ws = [] ∧ s.n = 0) → k s H') : qT sl H k := by
 refine qT.link ?_
 unfold qT.b
 cases ha : sl.a with
 | none =>
  rw [Option.isNone_none, qk]
  refine h _ _ (qa.refl H) (.inr ⟨?_, rfl⟩)
  cases ws with
  | nil => rfl
  | cons x r =>
   obtain ⟨a, h1, _⟩ := hw.2 0 x rfl
   rw [ha] at h1; cases h1
 | some a =>
  rw [Option.isNone_some, qc, qu]
  refine ⟨le_limS (by have := hw.1; simp only [lim]; omega) _, ?_⟩
  by_cases h0 : sl.n = 0
  ·rw [if_pos h0]
   refine h _ _ ((qa.refl H).push _) (.inr ⟨List.length_eq_zero_iff.1 (by rw [← hw.1]; exact h0), rfl⟩)
  ·rw [if_neg h0]
   have hr := qfC (g := fun v => qkT .u64 v) (fun _ => rfl) (hw.keep ((qa.refl H).push ⟨[], .rw, 1⟩))
   refine ⟨_, hr, ⟨rfl, rfl, rfl, by simp [qq], by simp [qq], by simp [qq]⟩, ?_⟩
   refine h _ _ ((((qa.refl H).push _).kill (b := H.size) (qk2 _)).push _) (.inl (.inr ⟨H.size + 1, ?_, by omega, by simp [qi, qaQ], ?_⟩))
   ·simp [newAt, qi, hw.1]
   ·simp only [qq, qaQ, qi, if_true]
    simp only [List.nil_append, AObj.mk.injEq, and_true]
    exact (qfo (fun v => qkT .u64 v) ws).symm
def putE (ws : List Int) (x : Int × Int) : List Int := if 0 ≤ x.1 ∧ x.1 < ws.length then ws.set x.1.toNat x.2 else ws
def applyE (ws : List Int) (l : List (Int × Int)) : List Int := l.foldl putE ws
theorem qiz (ws : List Int) (x : Int × Int) : (putE ws x).length = ws.length := by unfold putE; split <;> simp
theorem qah (l : List (Int × Int)) : ∀ ws, (applyE ws l).length = ws.length := by
 induction l with
 | nil => intro ws; rfl
 | cons x r ih => intro ws; simp only [applyE, List.foldl_cons]; exact (ih _).trans (qiz _ _)
theorem ed_put {H : AH} (x y : Int × Int) : AH.put (H.push ⟨eU x, .rw, 0⟩) ⟨H.size, 0, none⟩ (eU y) = H.push ⟨eU y, .rw, 0⟩ := qcR _ _ _ _ _
theorem ed_can {H : AH} (x : Int × Int) : AH.canPut (H.push ⟨eU x, .rw, 0⟩) ⟨H.size, 0, none⟩ 2 := qb2.2 (by simp [eU])
theorem ed_0 {H : AH} (x : Int × Int) : AH.cell? (H.push ⟨eU x, .rw, 0⟩) (qkW ⟨H.size, 0, none⟩ 0) = some (.int .i64 x.1) := qcB _ _ _ _
theorem ed_1 {H : AH} (x : Int × Int) : AH.cell? (H.push ⟨eU x, .rw, 0⟩) (qkW ⟨H.size, 0, none⟩ 1) = some (.int .u64 x.2) := qcB _ _ _ _
theorem ed_nil : ([(qkT .i64 (0 : Int)), (qkT .u64 (0 : Int))] : List Value) = eU (0, 0) := rfl
theorem qaz.s {H : AH} {x0 x1 : Sl} {ws : List Int} {l : List (Int × Int)} {k : Sl → AH → Prop} (hw : qlo H x0 1 wU ws) (hwl : ws.length ≤ 1000000) (hl : qlo H x1 2 eU l) (hll : l.length ≤ 1000000)
  (h : ∀ s H', qa H H' → Own H.size H' s 1 wU (applyE ws l) ∨ (ws = [] ∧ s.n = 0) → k s H') : qaz x0 x1 H k := by
 refine qaz.link ?_
 unfold qaz.b
 refine qT.s hw hwl ?_
 intro s9 H9 hK9 hO9
 refine qI (t := (0 : Int)) (H := H9) (I := fun (t : Int) H' => ∃ j : Nat, t = (j : Int) ∧ j ≤ l.length ∧ qa H H' ∧ (Own H.size H' s9 1 wU (applyE ws (l.take j)) ∨ (ws = [] ∧ s9.n = 0))) (m := fun (t : Int) _ => qk5 ((l.length : Int) - t)) ?_ ⟨0, rfl, by omega, hK9, hO9⟩
 intro t H1 hI it hit
 obtain ⟨j, rfl, hj, hK, hO⟩ := hI
 have hR := hl.keep hK
 unfold qaz.l2
 rw [hl.1]
 by_cases hlt : j < l.length
 ·rw [show decide ((j : Int) < (l.length : Int)) = true from by simpa using hlt, qk]
  obtain ⟨b, o, ha, hb, hrow⟩ := hR.at hlt
  refine ⟨⟨by omega, by omega⟩, ?_⟩
  rw [ha, qd, qk0, qr hrow]
  generalize hx : l[j] = x at *
  have htk : applyE ws (l.take (j + 1)) = putE (applyE ws (l.take j)) x := by
   rw [List.take_succ, qkV hlt, hx, qml]
   simp [applyE, List.foldl_append]
  have hn : s9.n = ws.length := by
   rcases hO with hO | ⟨rfl, h0⟩
   ·rw [own_n hO, qah]
   ·rw [h0]; rfl
  simp only [qu, qaR, ed_nil, ed_put, ed_can, ed_0, ed_1, qg, show (eU x).length = 2 from rfl, show (eU x).all qn = true from rfl, true_and]
  have hnext : ∀ H', qa H H' → (Own H.size H' s9 1 wU (putE (applyE ws (l.take j)) x) ∨ (ws = [] ∧ s9.n = 0)) → it ((j : Int) + 1) H' := by
   intro H' hK' hO'
   rw [← htk] at hO'
   exact hit _ _ ⟨j + 1, by simp, by omega, hK', hO'⟩ (by omega)
  have hO1 : Own H.size (H1.push ⟨eU x, .rw, 0⟩) s9 1 wU (applyE ws (l.take j)) ∨ (ws = [] ∧ s9.n = 0) :=
   hO.imp (fun hO => hO.keep (by simp [qi]) (fun b _ hb => qH (by omega))) id
  unfold qaz.j1
  simp only [ed_0, ed_1, qg]
  rw [qe (n := (j : Int) + 1) (by omega) (by omega), hn]
  by_cases h0 : x.1 ≥ 0
  ·rw [show decide (x.1 ≥ 0) = true from by simpa using h0, qk]
   by_cases h1 : x.1 < (ws.length : Int)
   ·rw [show decide (x.1 < (ws.length : Int)) = true from by simpa using h1, qk]
    refine ⟨⟨h0, h1⟩, ?_⟩
    rcases hO1 with hO1 | ⟨rfl, _⟩
    ·have hlw : x.1.toNat < (applyE ws (l.take j)).length := by rw [qah]; omega
     obtain ⟨b', ha', hb1, hb2, hcan, hO', _⟩ := hO1.put (y := x.2) (fun _ => rfl) (qkV hlw) (j := 0) (by omega) (v := .int .u64 x.2) rfl
     rw [ha', qd, qj, qli]
     refine ⟨hcan, ?_⟩
     refine hnext _ ((hK.push _).put hb1 _) (.inl ?_)
     have hp : putE (applyE ws (l.take j)) x = (applyE ws (l.take j)).set x.1.toNat x.2 := by
      unfold putE; rw [if_pos ⟨h0, by rw [qah]; exact h1⟩]
     rw [hp]; exact hO'
    ·simp at h1; omega
   ·rw [show decide (x.1 < (ws.length : Int)) = false from by simpa using h1, qc]
    refine hnext _ (hK.push _) (hO1.imp (fun hO => ?_) id)
    have hp : putE (applyE ws (l.take j)) x = applyE ws (l.take j) := by unfold putE; rw [if_neg (by rw [qah]; omega)]
    rw [hp]; exact hO
  ·rw [show decide (x.1 ≥ 0) = false from by simpa using h0, qc, qc]
   refine hnext _ (hK.push _) (hO1.imp (fun hO => ?_) id)
   have hp : putE (applyE ws (l.take j)) x = applyE ws (l.take j) := by unfold putE; rw [if_neg (by omega)]
   rw [hp]; exact hO
 ·rw [show decide ((j : Int) < (l.length : Int)) = false from by simpa using hlt, qc]
  have : j = l.length := by omega
  subst this
  rw [List.take_length] at hO
  exact h _ _ hK hO
theorem qig {ws : List Int} (h64 : qam ws) {i p : Nat} {c : Int} (hi : i / 8 < ws.length) (hp : p / 8 < ws.length) (hc : 0 ≤ c ∧ c ≤ 255) : byteAt (putB ws i c) p = if p = i then c else byteAt ws p := by
 unfold byteAt
 rw [qeP _ _ _ _ hi]
 by_cases hw : p / 8 = i / 8
 ·rw [if_pos hw]
  by_cases hpi : p = i
  ·subst hpi; rw [if_pos rfl, qgr (by omega) hc]
  ·rw [if_neg hpi, ← hw]
   have hv : 0 ≤ ws.getD (p / 8) 0 ∧ ws.getD (p / 8) 0 ≤ 18446744073709551615 := by
    rw [qkX, qkV hp, qlw]
    exact h64 _ (qla hp)
   exact qga hv (by omega) (by omega) (by omega) hc
 ·rw [if_neg hw, if_neg (by intro h; exact hw (by rw [h]))]
theorem qdC : ∀ (bs ws : List Int) (i : Nat), qam ws → qam (putBs ws i bs) := by
 intro bs
 induction bs with
 | nil => intro ws i h; exact h
 | cons c r ih => intro ws i h; exact ih _ _ (qeN h i c)
theorem qhO : ∀ (bs ws : List Int) (i p : Nat), qam ws → qca bs → i + bs.length ≤ ws.length * 8 → p / 8 < ws.length →
  byteAt (putBs ws i bs) p = if i ≤ p ∧ p < i + bs.length then bs.getD (p - i) 0 else byteAt ws p := by
 intro bs
 induction bs with
 | nil => intro ws i p _ _ _ _; rw [if_neg (by simp)]; rfl
 | cons c r ih =>
  intro ws i p h64 h8 hl hp
  simp only [qk9] at hl
  simp only [putBs]
  rw [ih _ _ _ (qeN h64 i c) (fun v hv => h8 v (by simp [hv])) (by rw [qds]; omega) (by rw [qds]; exact hp), qig h64 (by omega) hp (h8 c (by simp))]
  simp only [qk9]
  by_cases h1 : i + 1 ≤ p ∧ p < i + 1 + r.length
  ·rw [if_pos h1, if_pos (by omega)]
   obtain ⟨d, hd⟩ : ∃ d, p - i = d + 1 := ⟨p - i - 1, by omega⟩
   rw [hd, List.getD_cons_succ]
   congr 1; omega
  ·rw [if_neg h1]
   by_cases h2 : p = i
   ·subst h2; rw [if_pos rfl, if_pos (by omega)]; simp
   ·rw [if_neg h2, if_neg (by omega)]
theorem qjP {a b : List Int} (hl : a.length = b.length) (h : ∀ w, w < a.length → a.getD w 0 = b.getD w 0) : a = b := by
 apply qlk
 intro w
 by_cases hw : w < a.length
 ·have := h w hw
  simp only [qkX, qkV hw, qkV (show w < b.length by omega), qlw] at this
  rw [qkV hw, qkV (show w < b.length by omega), this]
 ·rw [qk1 (by omega), qk1 (by omega)]
theorem qhc (cur : List Int) (q m : Nat) : editsOf cur q (m + 1) = editsOf cur q m ++ [(((q + m : Nat) : Int), cur.getD (q + m) 0)] := by
 simp only [editsOf, ql3, List.map_append, qlX, List.map_nil]
theorem qir {ws cur : List Int} {q : Nat} : ∀ (m w : Nat), q + m ≤ ws.length → (applyE ws (editsOf cur q m)).getD w 0 = if q ≤ w ∧ w < q + m then cur.getD w 0 else ws.getD w 0 := by
 intro m
 induction m with
 | zero => intro w _; rw [if_neg (by omega)]; rfl
 | succ m ih =>
  intro w hm
  rw [qhc]
  have : applyE ws (editsOf cur q m ++ [(((q + m : Nat) : Int), cur.getD (q + m) 0)]) = putE (applyE ws (editsOf cur q m)) (((q + m : Nat) : Int), cur.getD (q + m) 0) := by simp [applyE, List.foldl_append]
  rw [this]
  unfold putE
  rw [if_pos ⟨by simp only; omega, by simp only [qah]; omega⟩]
  simp only [qk0]
  by_cases hw : w = q + m
  ·subst hw
   rw [if_pos (by omega), qkX, qlC (by rw [qah]; omega), qlw]
  ·have h2 : ((applyE ws (editsOf cur q m)).set (q + m) (cur.getD (q + m) 0)).getD w 0 = (applyE ws (editsOf cur q m)).getD w 0 := by
    simp only [qkX]
    rw [qlj (by omega)]
   rw [h2, ih w (by omega)]
   by_cases h3 : q ≤ w ∧ w < q + m
   ·rw [if_pos h3, if_pos (by omega)]
   ·rw [if_neg h3, if_neg (by omega)]
theorem qhb {ws bs : List Int} {off : Nat} (hl : off + bs.length ≤ ws.length * 8) : applyE ws (editsOf (putBs ws off bs) (off / 8) (touched off bs.length)) = putBs ws off bs := by
 have hm : off / 8 + touched off bs.length ≤ ws.length ∨ bs = [] := by
  cases bs with
  | nil => exact .inr rfl
  | cons c r => left; simp only [qk9, touched] at hl ⊢; rw [if_neg (by omega)]; omega
 rcases hm with hm | rfl
 ·refine qjP (by rw [qah, qct]) fun w _ => ?_
  rw [qir _ _ hm]
  split
  ·rfl
  ·rename_i hw
   by_cases h0 : bs.length = 0
   ·have : bs = [] := List.length_eq_zero_iff.1 h0
    subst this; rfl
   ·have : touched off bs.length = (off + bs.length - 1) / 8 - off / 8 + 1 := by simp [touched, h0]
    exact (qfa _ _ _ _ (by omega) hl).symm
 ·rfl
abbrev Bk : Type := Int × Int × Bool
def bkV (b : Bk) : List Value := [.int .i64 b.1, .int .i64 b.2.1, .bool b.2.2]
theorem bkV_len (b : Bk) : (bkV b).length = 3 := rfl
theorem bkV_ok (b : Bk) : (bkV b).all qn = true := rfl
def needN (n : Int) : Int := if 1 ≤ n ∧ n ≤ 448 then 1 + (n + 7) / 8 else 0
def takesN (size need : Int) : Int := if 2 ≤ need ∧ need ≤ size then (if size - need < 2 then size else need) else 0
def mayS (n : Int) : Prop := 2 ≤ n ∧ n ≤ 512
instance (n : Int) : Decidable (mayS n) := by unfold mayS; infer_instance
def wordN (n : Int) (u : Bool) : Int := if mayS n then 2 * n + (if u then 1 else 0) else 0
def offN (pt : Int) : Int := if 0 ≤ pt ∧ pt ≤ 512 then (pt + 1) * 8 else 0
def mayW (n : Int) : Prop := 8 ≤ n ∧ n ≤ 512 ∧ n % 8 = 0
instance (n : Int) : Decidable (mayW n) := by unfold mayW; infer_instance
theorem shr1 {v : Int} (h : 0 ≤ v) : shrI .u64 v 1 = v / 2 := by
 unfold shrI
 rw [Int.fdiv_eq_ediv_of_nonneg _ (by decide)]
 rfl
theorem and1w {v : Int} (h : isU v) : andI .u64 v 1 = v % 2 := by
 unfold isU at h
 obtain ⟨n, rfl⟩ := qlh h.1
 have hn : n < 2 ^ 64 := by omega
 unfold andI
 have e : (qlI (qlT .u64) (n : Int) &&& qlI (qlT .u64) 1).toNat = n % 2 := by
  rw [BitVec.toNat_and]
  have e1 : (qlI (qlT .u64) (n : Int)).toNat = n := by
   show (qlI 64 (n : Int)).toNat = n
   rw [BitVec.toNat_ofInt]
   omega
  have e2 : (qlI (qlT .u64) 1).toNat = 1 := rfl
  rw [e1, e2, Nat.and_one_is_mod]
 rw [e, qbi (by omega) (by omega)]
 omega
theorem shl1 {n : Int} (h : mayS n) : shlI .u64 (qkU .u64 n) 1 = 2 * n := by
 unfold mayS at h
 unfold shlI
 rw [qbi (n := n) (by omega) (by omega)]
 have : (2 : Int) ^ (min (qk5 1) (qlT .u64)) = 2 := rfl
 rw [this, qbi (by omega) (by omega)]; omega
theorem or1 {n : Int} (h : mayS n) : orI .u64 (2 * n) 1 = 2 * n + 1 := by
 unfold mayS at h
 obtain ⟨m, rfl⟩ := qlh (show 0 ≤ n by omega)
 have hm : m < 513 := by omega
 have key : ∀ m : Fin 513, orI .u64 (2 * ((m.val : Nat) : Int)) 1 = 2 * ((m.val : Nat) : Int) + 1 := by decide +kernel
 exact key ⟨m, hm⟩
section
variable {H : AH}
def BkAt (H : AH) (o : Nat) (b : Bk) : Prop := ∃ e, H.get o = ⟨bkV b, .rw, e⟩
theorem BkAt.c0 {o : Nat} {b : Bk} (h : BkAt H o b) : AH.cell? H (qkW ⟨o, 0, none⟩ 0) = some (.int .i64 b.1) := by obtain ⟨e, h⟩ := h; simp [qj, AH.cell?, h, bkV]
theorem BkAt.c1 {o : Nat} {b : Bk} (h : BkAt H o b) : AH.cell? H (qkW ⟨o, 0, none⟩ 1) = some (.int .i64 b.2.1) := by obtain ⟨e, h⟩ := h; simp [qj, AH.cell?, h, bkV]
theorem BkAt.c2 {o : Nat} {b : Bk} (h : BkAt H o b) : AH.cell? H (qkW ⟨o, 0, none⟩ 2) = some (.bool b.2.2) := by obtain ⟨e, h⟩ := h; simp [qj, AH.cell?, h, bkV]
theorem BkAt.row {o : Nat} {b : Bk} (h : BkAt H o b) : AH.row? H ⟨o, 0, none⟩ 3 = some (bkV b) := by
 obtain ⟨e, h⟩ := h
 simp only [AH.row?, h, qld, qk4, if_false, List.drop_zero]
 rw [if_neg (by simp), qlR (by rw [bkV_len]; omega), if_pos ⟨by rw [bkV_len]; omega, bkV_ok _⟩]
theorem BkAt.keep {H' : AH} {o : Nat} {b : Bk} (h : BkAt H o b) (hg : H'.get o = H.get o) : BkAt H' o b := by obtain ⟨e, h⟩ := h; exact ⟨e, hg.trans h⟩
theorem BkAt.new {b : Bk} {e : Nat} : BkAt (H.push ⟨bkV b, .rw, e⟩) H.size b := ⟨e, by rw [qq, if_pos rfl]⟩
theorem qbx {α : Type} {s : Sl} {z : Nat} {f : α → List Value} {l : List α} (h : qlo H s z f l) (hp : 0 < l.length) :
  ∃ b o, s.a = some ⟨b, o, none⟩ ∧ b < H.size ∧ ∀ i x, l[i]? = some x → AH.row? H (qkW ⟨b, o, none⟩ (i * z)) z = some (f x) ∧ ∀ j v, (f x)[j]? = some v → AH.cell? H (qkW (qkW ⟨b, o, none⟩ (i * z)) j) = some v := by
 obtain ⟨b, o, h1, h2, _⟩ := h.at hp
 refine ⟨b, o, h1, h2, fun i x hx => ?_⟩
 obtain ⟨a, e1, e2, e3, e4⟩ := h.2 i x hx
 rw [h1] at e1
 injection e1 with e1
 subst e1
 rw [qj]
 refine ⟨e4, fun j v hv => ?_⟩
 rw [qj]
 exact (AH.row?_cell e4).2.2.2.2 j v hv
theorem qbM {cs vs : List Value} {e n : Nat} {K : Nat → AH → Prop} (hc : cs.length = n) (hv : vs.length = n) (ho : vs.all qn = true)
  (hK : K H.size (H.push ⟨vs, .rw, e⟩)) : newC H ⟨cs, .rw, e⟩ fun o H1 => (vs.length = n ∧ vs.all qn = true) ∧ stC H1 ⟨o, 0, none⟩ vs fun Hs => K o Hs := by
 rw [qu]
 refine ⟨⟨hv, ho⟩, ?_⟩
 rw [qaR]
 have e1 : AH.put (H.push ⟨cs, .rw, e⟩) ⟨H.size, 0, none⟩ vs = H.push ⟨vs, .rw, e⟩ := by
  rw [qcR]
  congr 2
  apply qlk
  intro t
  rw [qbH _ _ _ _ (by omega)]
  by_cases ht : t < vs.length
  ·rw [if_pos (by omega)]; rfl
  ·rw [if_neg (by omega), qk1 (by omega), qk1 (by omega)]
 rw [e1]
 exact ⟨qb2.2 (by omega), hK⟩
end
def chainB (words : Int) : Int → Bool → List Bk → Prop
 | pt, _, [] => pt = words
 | pt, pu, b :: r => b.1 = pt ∧ mayS b.2.1 ∧ b.2.1 ≤ words - pt ∧ (pu = true ∨ b.2.2 = true) ∧ chainB words (pt + b.2.1) b.2.2 r
instance chainB.dec {words : Int} : ∀ (l : List Bk) (pt : Int) (pu : Bool), Decidable (chainB words pt pu l)
 | [], pt, pu => by unfold chainB; infer_instance
 | b :: r, pt, pu => by
  unfold chainB
  have := chainB.dec (words := words) r (pt + b.2.1) b.2.2
  infer_instance
def MayB (l : List Bk) (words : Int) : Prop := mayW words ∧ chainB words 0 true l
instance {l : List Bk} {words : Int} : Decidable (MayB l words) := by unfold MayB; infer_instance
def puAt (l : List Bk) : Nat → Bool
 | 0 => true
 | i + 1 => (l.getD i (0, 0, false)).2.2
theorem qeU {α : Type} {l : List α} {i : Nat} (hi : i < l.length) : l.drop i = l[i] :: l.drop (i + 1) := by
 rw [List.drop_eq_getElem_cons hi]
section
variable {H : AH}
def blkFrom (ws : List Int) (pt : Nat) : Option (List Bk) :=
 if h : pt < ws.length then
  if h2 : mayS (ws.getD pt 0 / 2) then (blkFrom ws (pt + (ws.getD pt 0 / 2).toNat)).map (((pt : Int), ws.getD pt 0 / 2, (ws.getD pt 0 % 2 == 1)) :: ·) else none
 else some []
termination_by ws.length - pt
decreasing_by unfold mayS at h2; omega
theorem qdf (ws : List Int) (pt : Nat) : blkFrom ws pt = if h : pt < ws.length then
  if h2 : mayS (ws.getD pt 0 / 2) then (blkFrom ws (pt + (ws.getD pt 0 / 2).toNat)).map (((pt : Int), ws.getD pt 0 / 2, (ws.getD pt 0 % 2 == 1)) :: ·) else none
 else some [] := by rw [blkFrom]
def blocksN (ws : List Int) : Option (List Bk) := (blkFrom ws 0).bind fun l => if MayB l ws.length then some l else none
theorem qa2 {ws : List Int} {l : List Bk} (h : blocksN ws = some l) : MayB l ws.length := by
 unfold blocksN at h
 rw [Option.bind_eq_some_iff] at h
 obtain ⟨l', _, h2⟩ := h
 split at h2
 ·injection h2 with h2; subst h2; assumption
 ·cases h2
theorem chainB.le {words : Int} : ∀ {l : List Bk} {pt : Int} {pu : Bool}, chainB words pt pu l → pt + 2 * l.length ≤ words := by
 intro l
 induction l with
 | nil => intro pt pu h; simp only [chainB] at h; simp; omega
 | cons b r ih =>
  intro pt pu h
  have := ih h.2.2.2.2
  have := h.2.1
  unfold mayS at this
  simp only [qk9]; omega
theorem chainB.mem {words : Int} : ∀ {l : List Bk} {pt : Int} {pu : Bool}, chainB words pt pu l → ∀ b ∈ l, pt ≤ b.1 ∧ b.1 + b.2.1 ≤ words ∧ mayS b.2.1 := by
 intro l
 induction l with
 | nil => intro pt pu h b hb; cases hb
 | cons a r ih =>
  intro pt pu h b hb
  have hs := h.2.1
  unfold mayS at hs
  rw [qlg] at hb
  rcases hb with rfl | hb
  ·have := h.2.2.1; have := h.1; exact ⟨by omega, by omega, h.2.1⟩
  ·have := ih h.2.2.2.2 b hb; exact ⟨by omega, this.2⟩
theorem MayB.len {l : List Bk} {words : Int} (h : MayB l words) : 2 * (l.length : Int) ≤ words ∧ words ≤ 512 := by
 have := h.2.le; have := h.1.2.1; omega
theorem MayB.mem {l : List Bk} {words : Int} (h : MayB l words) {b : Bk} (hb : b ∈ l) : 0 ≤ b.1 ∧ b.1 + b.2.1 ≤ words ∧ 2 ≤ b.2.1 ∧ b.2.1 ≤ 512 := by
 have := h.2.mem b hb; have h2 := this.2.2; unfold mayS at h2; omega
end
def nV (i : Nat) : List Value := [.int .i64 (i : Int)]
def bkAt (l : List Bk) (i : Nat) : Bk := l.getD i (0, 0, false)
def fitStep (l : List Bk) (need : Int) (out : List Nat) (i : Nat) : List Nat :=
 if (bkAt l i).2.2 = true ∨ (bkAt l i).2.1 < need then out else
 let out1 := if 0 < out.length ∧ (bkAt l (out.getD 0 0)).2.1 > (bkAt l i).2.1 then [] else out
 if out1.length = 0 ∨ (bkAt l (out1.getD 0 0)).2.1 = (bkAt l i).2.1 then out1 ++ [i] else out1
def fitsTo (l : List Bk) (need : Int) (j : Nat) : List Nat := (qlE j).foldl (fitStep l need) []
def fitsL (l : List Bk) (need : Int) : List Nat := if need < 2 then [] else fitsTo l need l.length
theorem qd7 (l : List Bk) (need : Int) (j : Nat) : fitsTo l need (j + 1) = fitStep l need (fitsTo l need j) j := by
 unfold fitsTo; rw [ql3, List.foldl_append]; rfl
theorem qia {l : List Bk} {need : Int} {out : List Nat} {i j : Nat} (h : j ∈ fitStep l need out i) : j ∈ out ∨ (j = i ∧ (bkAt l i).2.2 = false ∧ need ≤ (bkAt l i).2.1) := by
 unfold fitStep at h
 split at h
 ·exact .inl h
 ·rename_i h1
  simp only at h
  have h3 : (bkAt l i).2.2 = false ∧ need ≤ (bkAt l i).2.1 := by
   constructor
   ·cases hh : (bkAt l i).2.2
    ·rfl
    ·exact absurd (.inl hh) h1
   ·exact Int.not_lt.1 fun hh => h1 (.inr hh)
  have hsub : ∀ x, x ∈ (if 0 < out.length ∧ (bkAt l (out.getD 0 0)).2.1 > (bkAt l i).2.1 then [] else out) → x ∈ out := by
   intro x hx
   split at hx
   ·cases hx
   ·exact hx
  generalize (if 0 < out.length ∧ (bkAt l (out.getD 0 0)).2.1 > (bkAt l i).2.1 then [] else out) = o1 at h hsub
  split at h
  ·rw [List.mem_append] at h
   rcases h with h | h
   ·exact .inl (hsub _ h)
   ·simp at h; exact .inr ⟨h, h3⟩
  ·exact .inl (hsub _ h)
theorem qdI {l : List Bk} {need : Int} : ∀ {j i : Nat}, i ∈ fitsTo l need j → i < j ∧ (bkAt l i).2.2 = false ∧ need ≤ (bkAt l i).2.1 := by
 intro j
 induction j with
 | zero => intro i h; cases h
 | succ j ih =>
  intro i h
  rw [qd7] at h
  rcases qia h with h | ⟨rfl, h⟩
  ·have := ih h; exact ⟨by omega, this.2⟩
  ·exact ⟨by omega, h⟩
theorem qf0 {l : List Bk} {need : Int} : ∀ {j : Nat}, (fitsTo l need j).length ≤ j := by
 intro j
 induction j with
 | zero => exact qk2 _
 | succ j ih =>
  rw [qd7]
  unfold fitStep
  split
  ·omega
  ·simp only
   have hx : (if 0 < (fitsTo l need j).length ∧ (bkAt l ((fitsTo l need j).getD 0 0)).2.1 > (bkAt l j).2.1 then [] else fitsTo l need j).length ≤ j := by
    split
    ·exact Nat.zero_le _
    ·exact ih
   generalize (if 0 < (fitsTo l need j).length ∧ (bkAt l ((fitsTo l need j).getD 0 0)).2.1 > (bkAt l j).2.1 then [] else fitsTo l need j) = o1 at *
   split
   ·rw [List.length_append]; simp only [qk9, List.length_nil]; omega
   ·omega
theorem qaG {l : List Bk} {i : Nat} (hi : i < l.length) : l[i]? = some (bkAt l i) := by
 unfold bkAt; rw [qkX, qkV hi]; rfl
def countN (pt : Int) (cs : List Int) : Int := if pt < 0 ∨ (cs.length : Int) ≤ pt / 32 then 0 else cs.getD (pt / 32).toNat 0
def chStep (l : List Bk) (cs : List Int) (best : Int) (i : Nat) : Int :=
 if best < 0 ∨ countN (bkAt l i).1 cs < countN (bkAt l best.toNat).1 cs ∨ (countN (bkAt l i).1 cs = countN (bkAt l best.toNat).1 cs ∧ (bkAt l i).1 < (bkAt l best.toNat).1) then (i : Int) else best
def chooseN (l : List Bk) (need : Int) (cs : List Int) : Int := (fitsL l need).foldl (chStep l cs) (-1)
theorem qek {l : List Bk} {cs : List Int} : ∀ {f : List Nat} {b : Int}, f.foldl (chStep l cs) b = b ∨ ∃ i ∈ f, f.foldl (chStep l cs) b = (i : Int) := by
 intro f
 induction f with
 | nil => intro b; exact .inl rfl
 | cons a r ih =>
  intro b
  simp only [List.foldl_cons]
  rcases ih (b := chStep l cs b a) with h | ⟨i, hi, h⟩
  ·rw [h]
   unfold chStep
   split
   ·exact .inr ⟨a, by simp, rfl⟩
   ·exact .inl rfl
  ·exact .inr ⟨i, by simp [hi], h⟩
theorem qee {l : List Bk} {need : Int} {cs : List Int} : chooseN l need cs = -1 ∨ ∃ i : Nat, chooseN l need cs = (i : Int) ∧ i < l.length ∧ (bkAt l i).2.2 = false ∧ need ≤ (bkAt l i).2.1 ∧ 2 ≤ need := by
 unfold chooseN
 rcases qek (l := l) (cs := cs) (f := fitsL l need) (b := -1) with h | ⟨i, hi, h⟩
 ·exact .inl h
 ·unfold fitsL at hi
  split at hi
  ·cases hi
  ·obtain ⟨h1, h2, h3⟩ := qdI hi
   exact .inr ⟨i, h, h1, h2, h3, by omega⟩
def isN (off : Int) : List Bk → Nat → Int
 | [], _ => -1
 | b :: r, i => if b.2.2 = true ∧ offN b.1 = off then (i : Int) else isN off r (i + 1)
theorem qdv (off : Int) : ∀ (l : List Bk) (i : Nat), isN off l i = -1 ∨ ∃ j : Nat, isN off l i = ((i + j : Nat) : Int) ∧ j < l.length ∧ (bkAt l j).2.2 = true ∧ offN (bkAt l j).1 = off := by
 intro l
 induction l with
 | nil => intro i; exact .inl rfl
 | cons b r ih =>
  intro i
  unfold isN
  split
  ·rename_i h; exact .inr ⟨0, rfl, by simp, h.1, h.2⟩
  ·rcases ih (i + 1) with h | ⟨j, h1, h2, h3⟩
   ·exact .inl h
   ·exact .inr ⟨j + 1, by rw [h1]; congr 1; omega, by simpa using h2, h3⟩
def inB (off n : Int) (b : Bk) : Prop := b.2.2 = true ∧ offN b.1 ≤ off ∧ off ≤ (b.1 + b.2.1) * 8 ∧ n ≤ (b.1 + b.2.1) * 8 - off
def withinN (l : List Bk) (off n : Int) : Prop := 0 ≤ n ∧ n ≤ 448 ∧ ∃ b ∈ l, inB off n b
def carveTo (pt tk : Int) (j : Nat) : List (Int × Int) := (pt, wordN tk true) :: (qlE (j - 1)).map fun (t : Nat) => (pt + ((t : Int) + 1), (0 : Int))
def carveE (b : Bk) (need : Int) : List (Int × Int) :=
 carveTo b.1 (takesN b.2.1 need) (takesN b.2.1 need).toNat ++ (if takesN b.2.1 need < b.2.1 then [(b.1 + takesN b.2.1 need, wordN (b.2.1 - takesN b.2.1 need) false)] else [])
theorem qe0 (pt tk : Int) {j : Nat} (hj : 1 ≤ j) : carveTo pt tk (j + 1) = carveTo pt tk j ++ [(pt + (j : Int), 0)] := by
 unfold carveTo
 obtain ⟨i, rfl⟩ : ∃ i, j = i + 1 := ⟨j - 1, by omega⟩
 simp only [Nat.add_sub_cancel, ql3, List.map_append, qlX, List.map_nil, qlz]
 congr 2
theorem eU_len (x : Int × Int) : (eU x).length = 2 := rfl
theorem eU_ok (x : Int × Int) : (eU x).all qn = true := rfl
def mFrom (l : List Bk) (i : Nat) : Nat := if 0 < i ∧ (bkAt l (i - 1)).2.2 = false then i - 1 else i
def mTo (l : List Bk) (i : Nat) : Nat := if i + 1 < l.length ∧ (bkAt l (i + 1)).2.2 = false then i + 2 else i + 1
def sumTo (l : List Bk) (a : Nat) : Nat → Int
 | 0 => 0
 | j + 1 => sumTo l a j + (bkAt l (a + j)).2.1
theorem qcl {α : Type} {B B' : Nat} {H : AH} {s : Sl} {z : Nat} {f : α → List Value} {l : List α} (h : Own B H s z f l) (hb : B' ≤ B) : Own B' H s z f l :=
 h.imp id fun ⟨b, e, h1, h2, h3⟩ => ⟨b, e, Nat.le_trans hb h1, h2, h3⟩
theorem qc5 {α : Type} {H : AH} {z : Nat} {f : α → List Value} : qlo H ⟨none, 0, 0⟩ z f [] := ⟨rfl, fun i x h => by simp at h⟩
instance {off n : Int} {b : Bk} : Decidable (inB off n b) := by unfold inB; infer_instance
instance {l : List Bk} {off n : Int} : Decidable (withinN l off n) := by unfold withinN; infer_instance
def imgAlloc (ws : List Int) (n : Int) (cs : List Int) : List (Int × Int) × Int × Int :=
 if needN n = 0 then ([], 0, 1) else
 match blocksN ws with
 | none => ([], 0, 6)
 | some l => if chooseN l (needN n) cs < 0 then ([], 0, 4) else (carveE (bkAt l (chooseN l (needN n) cs).toNat) (needN n), offN (bkAt l (chooseN l (needN n) cs).toNat).1, 0)
def imgFree (ws : List Int) (off : Int) : List (Int × Int) × Int :=
 match blocksN ws with
 | none => ([], 6)
 | some l => if isN off l 0 < 0 then ([], 1) else
  ([((bkAt l (mFrom l (isN off l 0).toNat)).1, wordN (sumTo l (mFrom l (isN off l 0).toNat) (mTo l (isN off l 0).toNat - mFrom l (isN off l 0).toNat)) false)], 0)
def imgWrite (ws : List Int) (off : Int) (bs : List Int) : List (Int × Int) × Int :=
 match blocksN ws with
 | none => ([], 6)
 | some l => if withinN l off bs.length then (editsOf (putBs ws off.toNat bs) (off.toNat / 8) (touched off.toNat bs.length), 0) else ([], 1)
theorem qcC {ws : List Int} {l : List Bk} {off n : Int} (hB : MayB l ws.length) (h : withinN l off n) : inside ws.length off n := by
 obtain ⟨h1, h2, b, hb, hi⟩ := h
 have hm := hB.mem hb
 have hl := hB.len
 obtain ⟨_, h3, h4, h5⟩ := hi
 have : offN b.1 = (b.1 + 1) * 8 := by unfold offN; rw [if_pos (by omega)]
 unfold inside
 omega
section
variable {H : AH}
def firstN (n : Int) : List Int := if mayW n then wordN n false :: List.replicate (n.toNat - 1) 0 else []
theorem wordN_u (n : Int) (u : Bool) : isU (wordN n u) := by
 unfold wordN isU
 split
 ·rename_i h; unfold mayS at h; split <;> omega
 ·omega
theorem qdO (n : Int) : qam (firstN n) := by
 intro v hv
 unfold firstN at hv
 split at hv
 ·rw [qlg] at hv
  rcases hv with rfl | hv
  ·exact wordN_u _ _
  ·rw [List.eq_of_mem_replicate hv]; omega
 ·cases hv
end
def insS (n : Int) : List Int → List Int
 | [] => [n]
 | a :: r => if a < n then a :: insS n r else if a = n then a :: r else n :: a :: r
def posN (n : Int) : List Int → Nat
 | [] => 0
 | a :: r => if a < n then posN n r + 1 else 0
def eStep (out : List Int) (e : Int × Int) : List Int := if e.1 < 0 then out else insS (e.1 / 8) out
def eLines (l : List (Int × Int)) : List Int := l.foldl eStep []
theorem posN_le (n : Int) : ∀ l : List Int, posN n l ≤ l.length := by
 intro l
 induction l with
 | nil => exact qk2 _
 | cons a r ih => simp only [posN, qk9]; split <;> omega
theorem insS_eq (n : Int) : ∀ out : List Int, insS n out = if posN n out = out.length ∨ out.getD (posN n out) 0 ≠ n then out.take (posN n out) ++ [n] ++ out.drop (posN n out) else out := by
 intro out
 induction out with
 | nil => simp [insS, posN]
 | cons a r ih =>
  by_cases h1 : a < n
  ·have e : posN n (a :: r) = posN n r + 1 := by simp only [posN]; rw [if_pos h1]
   have e2 : insS n (a :: r) = a :: insS n r := by simp only [insS]; rw [if_pos h1]
   simp only [e, e2, ih, qk9, List.getD_cons_succ, List.take_succ_cons, List.drop_succ_cons, Nat.add_right_cancel_iff]
   split <;> rfl
  ·have e : posN n (a :: r) = 0 := by simp only [posN]; rw [if_neg h1]
   have e2 : insS n (a :: r) = if a = n then a :: r else n :: a :: r := by simp only [insS]; rw [if_neg h1]
   simp only [e, e2]
   by_cases h2 : a = n
   ·subst h2; rw [if_pos rfl, if_neg (by simp)]
   ·rw [if_neg h2, if_pos (.inr (by simpa using h2))]; rfl
theorem qfG (n : Int) : ∀ out : List Int, ∀ x, x ∈ insS n out ↔ x = n ∨ x ∈ out := by
 intro out
 induction out with
 | nil => intro x; simp [insS]
 | cons a r ih =>
  intro x
  simp only [insS]
  split
  ·rw [qlg, ih, qlg]
   constructor
   ·rintro (h | h | h)
    ·exact .inr (.inl h)
    ·exact .inl h
    ·exact .inr (.inr h)
   ·rintro (h | h | h)
    ·exact .inr (.inl h)
    ·exact .inl h
    ·exact .inr (.inr h)
  ·split
   ·rename_i h2; subst h2; simp
   ·simp
theorem qiy (n : Int) : ∀ out : List Int, out.Pairwise (· < ·) → (insS n out).Pairwise (· < ·) := by
 intro out
 induction out with
 | nil => intro _; simp [insS]
 | cons a r ih =>
  intro h
  rw [List.pairwise_cons] at h
  simp only [insS]
  split
  ·rename_i h1
   rw [List.pairwise_cons]
   refine ⟨fun x hx => ?_, ih h.2⟩
   rw [qfG] at hx
   rcases hx with rfl | hx
   ·exact h1
   ·exact h.1 x hx
  ·rename_i h1
   split
   ·rw [List.pairwise_cons]; exact h
   ·rename_i h2
    rw [List.pairwise_cons, List.pairwise_cons]
    refine ⟨fun x hx => ?_, h⟩
    rw [qlg] at hx
    rcases hx with rfl | hx
    ·omega
    ·have := h.1 x hx; omega
theorem qkE (n : Int) (out : List Int) : (insS n out).length ≤ out.length + 1 := by
 rw [insS_eq]
 have := posN_le n out
 split
 ·simp; omega
 ·omega
theorem eFold (l : List (Int × Int)) : ∀ out : List Int, out.Pairwise (· < ·) → (l.foldl eStep out).Pairwise (· < ·) ∧ (∀ x, x ∈ l.foldl eStep out → x ∈ out ∨ ∃ e ∈ l, 0 ≤ e.1 ∧ x = e.1 / 8) ∧ (l.foldl eStep out).length ≤ out.length + l.length := by
 induction l with
 | nil => intro out h; exact ⟨h, fun x hx => .inl hx, by simp⟩
 | cons e r ih =>
  intro out h
  simp only [List.foldl_cons]
  have hs : (eStep out e).Pairwise (· < ·) := by
   unfold eStep; split
   ·exact h
   ·exact qiy _ _ h
  obtain ⟨h1, h2, h3⟩ := ih _ hs
  refine ⟨h1, fun x hx => ?_, ?_⟩
  ·rcases h2 x hx with h | ⟨e', he', h⟩
   ·unfold eStep at h
    split at h
    ·exact .inl h
    ·rename_i hn
     rw [qfG] at h
     rcases h with h | h
     ·exact .inr ⟨e, by simp, by omega, h⟩
     ·exact .inl h
   ·exact .inr ⟨e', by simp [he'], h⟩
  ·have : (eStep out e).length ≤ out.length + 1 := by
    unfold eStep; split
    ·omega
    ·exact qkE _ _
   simp only [qk9]; omega
theorem qjb {hi : Int} : ∀ {l : List Int} {lo : Int}, l.Pairwise (· < ·) → (∀ x ∈ l, lo ≤ x ∧ x ≤ hi) → lo ≤ hi + 1 → (l.length : Int) ≤ hi - lo + 1 := by
 intro l
 induction l with
 | nil => intro lo _ _ h; simp; omega
 | cons a r ih =>
  intro lo hs hb h
  rw [List.pairwise_cons] at hs
  have ha := hb a (by simp)
  have := ih (lo := a + 1) hs.2 (fun x hx => ⟨by have := hs.1 x hx; omega, (hb x (by simp [hx])).2⟩) (by omega)
  simp only [qk9]; omega
theorem qdH {l : List (Int × Int)} {lo hi : Int} (h : ∀ e ∈ l, lo ≤ e.1 ∧ e.1 ≤ hi) (hlh : lo ≤ hi) : ((eLines l).length : Int) ≤ hi / 8 - lo / 8 + 1 := by
 obtain ⟨h1, h2, _⟩ := eFold l [] List.Pairwise.nil
 refine qjb h1 (fun x hx => ?_) (by omega)
 rcases h2 x hx with hx | ⟨e, he, _, rfl⟩
 ·cases hx
 ·have := h e he; omega
theorem qf9 {b : Bk} {need : Int} (hn : 2 ≤ need ∧ need ≤ b.2.1) : (∀ e ∈ carveE b need, b.1 ≤ e.1 ∧ e.1 ≤ b.1 + need ∧ isU e.2) ∧ ((carveE b need).length : Int) ≤ need + 3 := by
 have htk : takesN b.2.1 need = (if b.2.1 - need < 2 then b.2.1 else need) := by unfold takesN; rw [if_pos hn]
 have ht : 2 ≤ takesN b.2.1 need ∧ takesN b.2.1 need ≤ need + 1 ∧ (takesN b.2.1 need < b.2.1 → takesN b.2.1 need = need) := by
  rw [htk]; split <;> omega
 unfold carveE carveTo
 generalize takesN b.2.1 need = tk at *
 refine ⟨fun e he => ?_, ?_⟩
 ·rw [qlz, qlg, List.mem_append] at he
  rcases he with rfl | he | he
  ·exact ⟨by simp only; omega, by simp only; omega, wordN_u _ _⟩
  ·rw [List.mem_map] at he
   obtain ⟨t, ht1, rfl⟩ := he
   rw [List.mem_range] at ht1
   refine ⟨by simp only; omega, by simp only; omega, by unfold isU; omega⟩
  ·split at he
   ·rename_i hlt
    have := ht.2.2 hlt
    simp at he
    subst he
    exact ⟨by simp only; omega, by simp only; omega, wordN_u _ _⟩
   ·cases he
 ·split <;> simp <;> omega
structure EdOK (E : List (Int × Int)) (most : Int) : Prop where
 mem : ∀ e ∈ E, 0 ≤ e.1 ∧ e.1 ≤ 5000 ∧ isU e.2
 len : E.length ≤ 5000
 most : ((eLines E).length : Int) ≤ most
theorem EdOK.nil {m : Int} (h : 0 ≤ m) : EdOK [] m := ⟨fun e he => (by cases he), (by simp), (by simpa [eLines] using h)⟩
theorem qeh {ws : List Int} {n : Int} {cs : List Int} : EdOK (imgAlloc ws n cs).1 (linesP 1 n 0) := by
 have h0 : 0 ≤ linesP 1 n 0 := qdh (sl := ⟨none, 0, 0⟩).1
 unfold imgAlloc
 split
 ·exact EdOK.nil h0
 ·rename_i hn0
  split
  ·exact EdOK.nil h0
  ·rename_i l hb
   have hB := qa2 hb
   have hlen := hB.len
   split
   ·exact EdOK.nil h0
   ·rename_i hc
    rcases qee (l := l) (need := needN n) (cs := cs) with h | ⟨i, h, hi, hu, hn1, hn2⟩
    ·omega
    ·rw [h, qk0]
     have hm := hB.mem (qk6 (qaG hi))
     generalize bkAt l i = b at *
     obtain ⟨h1, h2⟩ := qf9 ⟨hn2, hn1⟩
     have hneed : 1 ≤ n ∧ n ≤ 448 ∧ needN n = 1 + (n + 7) / 8 := by
      unfold needN at hn0 ⊢
      split at hn0
      ·rename_i hh; rw [if_pos hh]; exact ⟨hh.1, hh.2, rfl⟩
      ·exact absurd rfl hn0
     show EdOK (carveE b (needN n)) (linesP 1 n 0)
     refine ⟨fun e he => ?_, by omega, ?_⟩
     ·have := h1 e he; exact ⟨by omega, by omega, this.2.2⟩
     ·have := qdH (lo := b.1) (hi := b.1 + needN n) (fun e he => ⟨(h1 e he).1, (h1 e he).2.1⟩) (by omega)
      unfold linesP
      rw [if_pos rfl, if_pos ⟨by omega, by omega⟩]
      omega
theorem qdF {ws : List Int} {off : Int} : EdOK (imgFree ws off).1 (linesP 2 0 0) := by
 unfold imgFree
 split
 ·exact EdOK.nil (by decide)
 ·rename_i l hb
  have hB := qa2 hb
  have hlen := hB.len
  split
  ·exact EdOK.nil (by decide)
  ·rename_i hc
   rcases qdv off l 0 with h | ⟨i, h, hi, hu, ho⟩
   ·omega
   ·rw [qli] at h
    rw [h, qk0]
    have hF : mFrom l i < l.length := by unfold mFrom; split <;> omega
    have hm := hB.mem (qk6 (qaG hF))
    simp only
    refine ⟨fun e he => ?_, by simp, ?_⟩
    ·simp at he
     subst he
     exact ⟨by simp only; omega, by simp only; omega, wordN_u _ _⟩
    ·have := qdH (l := [((bkAt l (mFrom l i)).1, wordN (sumTo l (mFrom l i) (mTo l i - mFrom l i)) false)]) (lo := (bkAt l (mFrom l i)).1) (hi := (bkAt l (mFrom l i)).1) (fun e he => by simp at he; subst he; exact ⟨by simp, by simp⟩) (by omega)
     have e1 : linesP 2 0 0 = 1 := by decide
     rw [e1]; omega
theorem qed {ws : List Int} (h64 : qam ws) {off : Int} {bs : List Int} : EdOK (imgWrite ws off bs).1 (linesP 4 0 bs.length) := by
 have h0 : 0 ≤ linesP 4 0 bs.length := qdh (sl := ⟨none, bs.length, 0⟩).1
 unfold imgWrite
 split
 ·exact EdOK.nil h0
 ·rename_i l hb
  have hB := qa2 hb
  have hlen := hB.len
  split
  ·rename_i hw
   have hin := qcC hB hw
   unfold inside at hin
   obtain ⟨o, rfl⟩ := qlh hin.1
   rw [qk0]
   have hcur := qdC bs ws o h64
   have hcl := qct bs ws o
   by_cases hz : bs.length = 0
   ·have ht : touched o bs.length = 0 := by rw [hz]; rfl
    rw [ht]
    exact EdOK.nil h0
   have ht : touched o bs.length = (o + bs.length - 1) / 8 - o / 8 + 1 := by unfold touched; rw [if_neg hz]
   have hmem : ∀ e ∈ editsOf (putBs ws o bs) (o / 8) (touched o bs.length), ((o / 8 : Nat) : Int) ≤ e.1 ∧ e.1 ≤ (((o + bs.length - 1) / 8 : Nat) : Int) ∧ isU e.2 := by
    intro e he
    unfold editsOf at he
    rw [List.mem_map] at he
    obtain ⟨j, hj, rfl⟩ := he
    rw [List.mem_range] at hj
    refine ⟨by simp only; omega, by simp only; omega, ?_⟩
    have hlt : o / 8 + j < (putBs ws o bs).length := by omega
    simp only
    rw [qkX, qkV hlt, qlw]
    exact hcur _ (qla hlt)
   simp only
   refine ⟨fun e he => ?_, by rw [qby]; omega, ?_⟩
   ·have := hmem e he; exact ⟨by omega, by omega, this.2.2⟩
   ·have := qdH (lo := ((o / 8 : Nat) : Int)) (hi := (((o + bs.length - 1) / 8 : Nat) : Int)) (fun e he => ⟨(hmem e he).1, (hmem e he).2.1⟩) (by omega)
    unfold linesP
    rw [if_neg (by omega), if_pos rfl, if_pos (by omega)]
    omega
  ·exact EdOK.nil h0
theorem qfL : ∀ (l : List (Int × Int)) (ws : List Int), qam ws → (∀ e ∈ l, isU e.2) → qam (applyE ws l) := by
 intro l
 induction l with
 | nil => intro ws h _; exact h
 | cons e r ih =>
  intro ws h he
  simp only [applyE, List.foldl_cons]
  refine ih _ ?_ fun e' he' => he e' (by simp [he'])
  unfold putE
  split
  ·intro v hv
   rcases qlY hv with hv | rfl
   ·exact h v hv
   ·exact he e (by simp)
  ·exact h
def OpAt (H : AH) (o : Nat) (K a b c : Int) (sl : Sl) : Prop := ∃ e, H.get o = ⟨opl K a b c sl, .rw, e⟩
section
variable {H : AH} {o : Nat} {K a b c : Int} {sl : Sl}
theorem OpAt.c0 (h : OpAt H o K a b c sl) : AH.cell? H (qkW ⟨o, 0, none⟩ 0) = some (.int .i64 K) := by obtain ⟨e, h⟩ := h; simp [qj, AH.cell?, h, opl]
theorem OpAt.c2 (h : OpAt H o K a b c sl) : AH.cell? H (qkW ⟨o, 0, none⟩ 2) = some (.int .i64 b) := by obtain ⟨e, h⟩ := h; simp [qj, AH.cell?, h, opl]
theorem OpAt.c3 (h : OpAt H o K a b c sl) : AH.cell? H (qkW ⟨o, 0, none⟩ 3) = some (.int .i64 c) := by obtain ⟨e, h⟩ := h; simp [qj, AH.cell?, h, opl]
theorem OpAt.c4 (h : OpAt H o K a b c sl) : AH.cell? H (qkW ⟨o, 0, none⟩ 4) = some sl.val := by obtain ⟨e, h⟩ := h; simp [qj, AH.cell?, h, opl]
theorem OpAt.row (h : OpAt H o K a b c sl) : AH.row? H ⟨o, 0, none⟩ 5 = some (opl K a b c sl) := by
 obtain ⟨e, h⟩ := h
 simp only [AH.row?, h, qld, qk4, if_false, List.drop_zero]
 rw [if_neg (by simp), qlR (by rw [op_len]; omega), if_pos ⟨by rw [op_len]; omega, op_ok⟩]
theorem OpAt.keep {H' : AH} (h : OpAt H o K a b c sl) (hg : H'.get o = H.get o) : OpAt H' o K a b c sl := by obtain ⟨e, h⟩ := h; exact ⟨e, hg.trans h⟩
theorem OpAt.new {e : Nat} : OpAt (H.push ⟨opl K a b c sl, .rw, e⟩) H.size K a b c sl := ⟨e, by rw [qq, if_pos rfl]⟩
end
end Go.Proofs.YtdcbkjgoaknmkaaGreat
