/- Lemmas for the law: an abstract machine, and what the functions do on it. No condition. -/
import Derived.Test.YtdcbkjgoaknmkaaGreatET7
import Derived.Test.YtdcbkjgoaknmkaaGreatProg
set_option linter.all false
open Go.Value renaming int → qld, pointer → qlk, slice → qly, bool → ql6, agg → qme
open List renaming getElem?_eq_getElem → qle, getD_eq_getElem?_getD → qlh, getElem?_eq_none → qll, getElem?_eq_some_iff → qlm, getElem_mem → qlt, length → qlu, length_cons → qlw, ext_getElem? → qlF, getElem?_set_ne → qlJ, length_eq_zero_iff → qlO, toArray → qlP, getElem?_drop → qlQ, flatMap_cons → qlR, getElem?_take → qlU, getElem?_set_self → ql0, all → ql3, range → ql4, range_succ → qmt, length_take → qmL
open Go.IntKind renaming wrap → qlf, bits → qmk
open Go.Addr renaming add → qlg
open Int renaming toNat_natCast → qlj, toNat → qlp, eq_ofNat_of_zero_le → qlG, tdiv_eq_ediv_of_nonneg → qmd, tmod → qmp, tdiv → qmy
open Nat renaming le_refl → qln, zero_add → qlz, lt_of_lt_of_le → qmu
open Bool renaming false_eq_true → qlo, not_eq_true' → qmF
open Option renaming isSome_none → qlx, isNone → qlH, getD_some → qlW, toList_some → qmO
open Go.Abs renaming Rows → qlA
open BitVec renaming ofInt → qmb
open Option.some renaming injEq → qml
namespace Go.Proofs.YtdcbkjgoaknmkaaGreat
open Go Go.Abs
set_option linter.unusedVariables false
set_option maxRecDepth 100000
def tyL : List (Nat × TyE) := [
 (3, { k := .int .i64, sub := .none, size := 1, bytes := 8, zero := [(qld .i64 (0 : Int))], eqs := false }),
 (4, { k := .bool, sub := .none, size := 1, bytes := 1, zero := [(ql6 false)], eqs := false }),
 (5, { k := .int .u8, sub := .none, size := 1, bytes := 1, zero := [(qld .u8 (0 : Int))], eqs := false }),
 (9, { k := .str, sub := .none, size := 1, bytes := 16, zero := [(Value.string ⟨#[]⟩)], eqs := false }),
 (23, { k := .agg, sub := (.fields [(0, 3), (1, 3), (2, 3), (3, 3)]), size := 4, bytes := 32, zero := [(qld .i64 (0 : Int)), (qld .i64 (0 : Int)), (qld .i64 (0 : Int)), (qld .i64 (0 : Int))], eqs := true }),
 (24, { k := .sl, sub := (.elem 3), size := 1, bytes := 24, zero := [(qly none 0 0)], eqs := false }),
 (26, { k := .int .u64, sub := .none, size := 1, bytes := 8, zero := [(qld .u64 (0 : Int))], eqs := false }),
 (28, { k := .ptr, sub := (.elem 78), size := 1, bytes := 8, zero := [(qlk none)], eqs := false }),
 (31, { k := .int .i64, sub := .none, size := 1, bytes := 8, zero := [(qld .i64 (0 : Int))], eqs := false }),
 (33, { k := .ptr, sub := (.elem 96), size := 1, bytes := 8, zero := [(qlk none)], eqs := false }),
 (36, { k := .sl, sub := (.elem 5), size := 1, bytes := 24, zero := [(qly none 0 0)], eqs := false }),
 (38, { k := .agg, sub := (.fields [(0, 31), (1, 3), (2, 36)]), size := 3, bytes := 40, zero := [(qld .i64 (0 : Int)), (qld .i64 (0 : Int)), (qly none 0 0)], eqs := false }),
 (41, { k := .agg, sub := (.fields [(0, 3), (1, 3), (2, 3), (3, 3), (4, 36)]), size := 5, bytes := 56, zero := [(qld .i64 (0 : Int)), (qld .i64 (0 : Int)), (qld .i64 (0 : Int)), (qld .i64 (0 : Int)), (qly none 0 0)], eqs := false }),
 (44, { k := .sl, sub := (.elem 38), size := 1, bytes := 24, zero := [(qly none 0 0)], eqs := false }),
 (47, { k := .sl, sub := (.elem 41), size := 1, bytes := 24, zero := [(qly none 0 0)], eqs := false }),
 (51, { k := .ptr, sub := (.elem 106), size := 1, bytes := 8, zero := [(qlk none)], eqs := false }),
 (64, { k := .ptr, sub := (.elem 115), size := 1, bytes := 8, zero := [(qlk none)], eqs := false }),
 (67, { k := .sl, sub := (.elem 26), size := 1, bytes := 24, zero := [(qly none 0 0)], eqs := false }),
 (70, { k := .sl, sub := (.elem 121), size := 1, bytes := 24, zero := [(qly none 0 0)], eqs := false }),
 (75, { k := .sl, sub := (.elem 82), size := 1, bytes := 24, zero := [(qly none 0 0)], eqs := false }),
 (76, { k := .agg, sub := (.arr 35 26), size := 35, bytes := 280, zero := [(qld .u64 (0 : Int)), (qld .u64 (0 : Int)), (qld .u64 (0 : Int)), (qld .u64 (0 : Int)), (qld .u64 (0 : Int)), (qld .u64 (0 : Int)), (qld .u64 (0 : Int)), (qld .u64 (0 : Int)), (qld .u64 (0 : Int)), (qld .u64 (0 : Int)), (qld .u64 (0 : Int)), (qld .u64 (0 : Int)), (qld .u64 (0 : Int)), (qld .u64 (0 : Int)), (qld .u64 (0 : Int)), (qld .u64 (0 : Int)), (qld .u64 (0 : Int)), (qld .u64 (0 : Int)), (qld .u64 (0 : Int)), (qld .u64 (0 : Int)), (qld .u64 (0 : Int)), (qld .u64 (0 : Int)), (qld .u64 (0 : Int)), (qld .u64 (0 : Int)), (qld .u64 (0 : Int)), (qld .u64 (0 : Int)), (qld .u64 (0 : Int)), (qld .u64 (0 : Int)), (qld .u64 (0 : Int)), (qld .u64 (0 : Int)), (qld .u64 (0 : Int)), (qld .u64 (0 : Int)), (qld .u64 (0 : Int)), (qld .u64 (0 : Int)), (qld .u64 (0 : Int))], eqs := true }),
 (78, { k := .agg, sub := (.fields [(0, 75), (1, 76), (36, 3), (37, 3), (38, 3), (39, 4)]), size := 40, bytes := 336, zero := [(qly none 0 0), (qld .u64 (0 : Int)), (qld .u64 (0 : Int)), (qld .u64 (0 : Int)), (qld .u64 (0 : Int)), (qld .u64 (0 : Int)), (qld .u64 (0 : Int)), (qld .u64 (0 : Int)), (qld .u64 (0 : Int)), (qld .u64 (0 : Int)), (qld .u64 (0 : Int)), (qld .u64 (0 : Int)), (qld .u64 (0 : Int)), (qld .u64 (0 : Int)), (qld .u64 (0 : Int)), (qld .u64 (0 : Int)), (qld .u64 (0 : Int)), (qld .u64 (0 : Int)), (qld .u64 (0 : Int)), (qld .u64 (0 : Int)), (qld .u64 (0 : Int)), (qld .u64 (0 : Int)), (qld .u64 (0 : Int)), (qld .u64 (0 : Int)), (qld .u64 (0 : Int)), (qld .u64 (0 : Int)), (qld .u64 (0 : Int)), (qld .u64 (0 : Int)), (qld .u64 (0 : Int)), (qld .u64 (0 : Int)), (qld .u64 (0 : Int)), (qld .u64 (0 : Int)), (qld .u64 (0 : Int)), (qld .u64 (0 : Int)), (qld .u64 (0 : Int)), (qld .u64 (0 : Int)), (qld .i64 (0 : Int)), (qld .i64 (0 : Int)), (qld .i64 (0 : Int)), (ql6 false)], eqs := false }),
 (80, { k := .agg, sub := (.arr 8 26), size := 8, bytes := 64, zero := [(qld .u64 (0 : Int)), (qld .u64 (0 : Int)), (qld .u64 (0 : Int)), (qld .u64 (0 : Int)), (qld .u64 (0 : Int)), (qld .u64 (0 : Int)), (qld .u64 (0 : Int)), (qld .u64 (0 : Int))], eqs := true }),
 (82, { k := .agg, sub := (.fields [(0, 80), (8, 3), (9, 3)]), size := 10, bytes := 80, zero := [(qld .u64 (0 : Int)), (qld .u64 (0 : Int)), (qld .u64 (0 : Int)), (qld .u64 (0 : Int)), (qld .u64 (0 : Int)), (qld .u64 (0 : Int)), (qld .u64 (0 : Int)), (qld .u64 (0 : Int)), (qld .i64 (0 : Int)), (qld .i64 (0 : Int))], eqs := false }),
 (85, { k := .ptr, sub := (.elem 128), size := 1, bytes := 8, zero := [(qlk none)], eqs := false }),
 (93, { k := .ptr, sub := (.elem 131), size := 1, bytes := 8, zero := [(qlk none)], eqs := false }),
 (94, { k := .ptr, sub := (.elem 140), size := 1, bytes := 8, zero := [(qlk none)], eqs := false }),
 (96, { k := .agg, sub := (.fields [(0, 28), (1, 23), (5, 85), (6, 93), (7, 94), (8, 4)]), size := 9, bytes := 72, zero := [(qlk none), (qld .i64 (0 : Int)), (qld .i64 (0 : Int)), (qld .i64 (0 : Int)), (qld .i64 (0 : Int)), (qlk none), (qlk none), (qlk none), (ql6 false)], eqs := false }),
 (106, { k := .agg, sub := (.fields [(0, 23), (4, 28), (5, 33), (6, 3)]), size := 7, bytes := 56, zero := [(qld .i64 (0 : Int)), (qld .i64 (0 : Int)), (qld .i64 (0 : Int)), (qld .i64 (0 : Int)), (qlk none), (qlk none), (qld .i64 (0 : Int))], eqs := false }),
 (112, { k := .ptr, sub := (.elem 156), size := 1, bytes := 8, zero := [(qlk none)], eqs := false }),
 (115, { k := .agg, sub := (.fields [(0, 112), (1, 4)]), size := 2, bytes := 16, zero := [(qlk none), (ql6 false)], eqs := false }),
 (121, { k := .agg, sub := (.fields [(0, 3), (1, 3), (2, 4)]), size := 3, bytes := 24, zero := [(qld .i64 (0 : Int)), (qld .i64 (0 : Int)), (ql6 false)], eqs := true }),
 (126, { k := .ptr, sub := (.elem 173), size := 1, bytes := 8, zero := [(qlk none)], eqs := false }),
 (128, { k := .agg, sub := (.fields [(0, 28), (1, 126), (2, 3), (3, 3), (4, 3)]), size := 5, bytes := 40, zero := [(qlk none), (qlk none), (qld .i64 (0 : Int)), (qld .i64 (0 : Int)), (qld .i64 (0 : Int))], eqs := false }),
 (131, { k := .agg, sub := (.fields [(0, 28), (1, 85)]), size := 2, bytes := 16, zero := [(qlk none), (qlk none)], eqs := false }),
 (132, { k := .sl, sub := (.elem 164), size := 1, bytes := 24, zero := [(qly none 0 0)], eqs := false }),
 (140, { k := .agg, sub := (.fields [(0, 3), (1, 24), (2, 24)]), size := 3, bytes := 56, zero := [(qld .i64 (0 : Int)), (qly none 0 0), (qly none 0 0)], eqs := false }),
 (142, { k := .sl, sub := (.elem 190), size := 1, bytes := 24, zero := [(qly none 0 0)], eqs := false }),
 (154, { k := .sl, sub := (.elem 168), size := 1, bytes := 24, zero := [(qly none 0 0)], eqs := false }),
 (156, { k := .agg, sub := (.fields [(0, 3), (1, 154), (2, 3)]), size := 3, bytes := 40, zero := [(qld .i64 (0 : Int)), (qly none 0 0), (qld .i64 (0 : Int))], eqs := false }),
 (164, { k := .agg, sub := (.fields [(0, 3), (1, 80)]), size := 9, bytes := 72, zero := [(qld .i64 (0 : Int)), (qld .u64 (0 : Int)), (qld .u64 (0 : Int)), (qld .u64 (0 : Int)), (qld .u64 (0 : Int)), (qld .u64 (0 : Int)), (qld .u64 (0 : Int)), (qld .u64 (0 : Int)), (qld .u64 (0 : Int))], eqs := false }),
 (168, { k := .agg, sub := (.fields [(0, 3), (1, 3), (2, 36)]), size := 3, bytes := 40, zero := [(qld .i64 (0 : Int)), (qld .i64 (0 : Int)), (qly none 0 0)], eqs := false }),
 (173, { k := .agg, sub := (.fields [(0, 28), (1, 3), (2, 3)]), size := 3, bytes := 24, zero := [(qlk none), (qld .i64 (0 : Int)), (qld .i64 (0 : Int))], eqs := false }),
 (181, { k := .any, sub := .none, size := 1, bytes := 8, zero := [Value.nilFunc], eqs := false }),
 (190, { k := .agg, sub := (.fields [(0, 3), (1, 26)]), size := 2, bytes := 16, zero := [(qld .i64 (0 : Int)), (qld .u64 (0 : Int))], eqs := true }),
 (211, { k := .sl, sub := (.elem 80), size := 1, bytes := 24, zero := [(qly none 0 0)], eqs := false }),
 (225, { k := .any, sub := .none, size := 1, bytes := 8, zero := [Value.nilFunc], eqs := false }),
 (0, { k := .bad, sub := .tup [], size := 0, bytes := 0, zero := [], eqs := false }),
 (34, { k := .bad, sub := .tup [33, 31], size := 0, bytes := 0, zero := [], eqs := false }),
 (45, { k := .bad, sub := .tup [44, 31], size := 0, bytes := 0, zero := [], eqs := false }),
 (52, { k := .bad, sub := .tup [51, 31], size := 0, bytes := 0, zero := [], eqs := false }),
 (68, { k := .bad, sub := .tup [67, 31], size := 0, bytes := 0, zero := [], eqs := false }),
 (71, { k := .bad, sub := .tup [70, 4], size := 0, bytes := 0, zero := [], eqs := false }),
 (83, { k := .bad, sub := .tup [26, 31], size := 0, bytes := 0, zero := [], eqs := false }),
 (88, { k := .bad, sub := .tup [80, 31], size := 0, bytes := 0, zero := [], eqs := false }),
 (110, { k := .bad, sub := .tup [41, 4], size := 0, bytes := 0, zero := [], eqs := false }),
 (116, { k := .bad, sub := .tup [36, 31], size := 0, bytes := 0, zero := [], eqs := false }),
 (118, { k := .bad, sub := .tup [3, 4, 4], size := 0, bytes := 0, zero := [], eqs := false }),
 (133, { k := .bad, sub := .tup [132, 31], size := 0, bytes := 0, zero := [], eqs := false }),
 (137, { k := .bad, sub := .tup [70, 3], size := 0, bytes := 0, zero := [], eqs := false }),
 (143, { k := .bad, sub := .tup [142, 3, 31], size := 0, bytes := 0, zero := [], eqs := false }),
 (148, { k := .bad, sub := .tup [142, 31], size := 0, bytes := 0, zero := [], eqs := false }),
 (170, { k := .bad, sub := .tup [3, 67, 31], size := 0, bytes := 0, zero := [], eqs := false }),
 (174, { k := .bad, sub := .tup [3, 3], size := 0, bytes := 0, zero := [], eqs := false }),
 (187, { k := .bad, sub := .tup [3, 4], size := 0, bytes := 0, zero := [], eqs := false }),
 (191, { k := .bad, sub := .tup [190, 4], size := 0, bytes := 0, zero := [], eqs := false }),
 (194, { k := .bad, sub := .tup [36, 4], size := 0, bytes := 0, zero := [], eqs := false }),
 (196, { k := .bad, sub := .tup [142, 4], size := 0, bytes := 0, zero := [], eqs := false }),
 (212, { k := .bad, sub := .tup [3, 3, 4], size := 0, bytes := 0, zero := [], eqs := false })]
def T : Nat → TyE := tyLook tyL
theorem hT : qV Tryz.prog T := qjB (by kernel_rfl)
theorem hm : Tryz.prog.follows .mixedOrders = true := by kernel_rfl
def pan (f : Nat) : Bool := ([63, 64, 65, 66, 67, 68, 69, 108, 110, 113, 114] : List Nat).contains f
def log_May (x0 : Int) (x1 : Sl) (H : AH) (k : Bool → AH → Prop) : Prop :=
 qh Tryz.prog 104 [(qld .i64 x0), (Sl.val x1)] H fun e H' => in1 .bool e ql (fun r0 => k r0 H')
def qu (x0 : Option Addr) (x1 : List Value) (H : AH) (k : List Value → AH → Prop) : Prop :=
 qh Tryz.prog 18 [(qlk x0), (qme (qlP x1))] H fun e H' => in1 .agg e ql (fun r0 => k r0 H')
def qcg (x0 : Sl) (x1 : Int) (x2 : Sl) (H : AH) (k : Sl → AH → Prop) : Prop :=
 qh Tryz.prog 163 [(Sl.val x0), (qld .i64 x1), (Sl.val x2)] H fun e H' => in1 .sl e ql (fun r0 => k r0 H')
def qcf (x0 : Sl) (x1 : Int) (x2 : Int) (H : AH) (k : Sl → AH → Prop) : Prop :=
 qh Tryz.prog 188 [(Sl.val x0), (qld .i64 x1), (qld .i64 x2)] H fun e H' => in1 .sl e ql (fun r0 => k r0 H')
def qcx (x0 : Sl) (H : AH) (k : AH → Prop) : Prop :=
 qh Tryz.prog 176 [(Sl.val x0)] H fun e H' => in0  e ql (k H')
def qb6 (x0 : Sl) (H : AH) (k : Sl → AH → Prop) : Prop :=
 qh Tryz.prog 177 [(Sl.val x0)] H fun e H' => in1 .sl e ql (fun r0 => k r0 H')
def qs (x0 : Sl) (x1b0 : Option Addr) (x1b1 : Option Addr) (H : AH) (k : Int → AH → Prop) : Prop :=
 qh Tryz.prog 142 [(Sl.val x0), (Value.func (.func 193) #[] #[(qlk x1b0), (qlk x1b1)])] H fun e H' => in1 (.int .i64) e ql (fun r0 => k r0 H')
def qN (x0 : Sl) (x1b0 : Option Addr) (x1b1 : Option Addr) (H : AH) (k : Bool → AH → Prop) : Prop :=
 qh Tryz.prog 192 [(Sl.val x0), (Value.func (.func 193) #[] #[(qlk x1b0), (qlk x1b1)])] H fun e H' => in1 .bool e ql (fun r0 => k r0 H')
def qo (x0 : Sl) (x1b0 : Option Addr) (H : AH) (k : Int → AH → Prop) : Prop :=
 qh Tryz.prog 195 [(Sl.val x0), (Value.func (.func 196) #[] #[(qlk x1b0)])] H fun e H' => in1 (.int .i64) e ql (fun r0 => k r0 H')
def qA (x0 : Sl) (x1b0 : Option Addr) (H : AH) (k : Int → AH → Prop) : Prop :=
 qh Tryz.prog 142 [(Sl.val x0), (Value.func (.func 143) #[] #[(qlk x1b0)])] H fun e H' => in1 (.int .i64) e ql (fun r0 => k r0 H')
def qaT (x0 : Int) (x1 : Int) (x2 : Int) (x3 : Int) (H : AH) (k : List Value → AH → Prop) : Prop :=
 qh Tryz.prog 36 [(qld .i64 x0), (qld .i64 x1), (qld .i64 x2), (qld .i64 x3)] H fun e H' => in1 .agg e ql (fun r0 => k r0 H')
def qbl (x0 : List Value) (H : AH) (k : Bool → AH → Prop) : Prop :=
 qh Tryz.prog 48 [(qme (qlP x0))] H fun e H' => in1 .bool e ql (fun r0 => k r0 H')
def qbw (x0 : List Value) (H : AH) (k : Int → AH → Prop) : Prop :=
 qh Tryz.prog 49 [(qme (qlP x0))] H fun e H' => in1 (.int .i64) e ql (fun r0 => k r0 H')
def qbf (x0 : List Value) (H : AH) (k : Int → AH → Prop) : Prop :=
 qh Tryz.prog 15 [(qme (qlP x0))] H fun e H' => in1 (.int .i64) e ql (fun r0 => k r0 H')
def nvm_New (x0 : Int) (x1 : Sl) (H : AH) (k : Option Addr → AH → Prop) : Prop :=
 qh Tryz.prog 14 [(qld .i64 x0), (Sl.val x1)] H fun e H' => in1 .ptr e ql (fun r0 => k r0 H')
def qab (x0 : Option Addr) (H : AH) (k : Int → AH → Prop) : Prop :=
 qh Tryz.prog 91 [(qlk x0)] H fun e H' => in1 (.int .i64) e ql (fun r0 => k r0 H')
def qal (x0 : Option Addr) (H : AH) (k : Bool → AH → Prop) : Prop :=
 qh Tryz.prog 38 [(qlk x0)] H fun e H' => in1 .bool e ql (fun r0 => k r0 H')
def qbG (x0 : Option Addr) (x1 : List Value) (H : AH) (k : Int → AH → Prop) : Prop :=
 qh Tryz.prog 50 [(qlk x0), (qme (qlP x1))] H fun e H' => in1 (.int .i64) e ql (fun r0 => k r0 H')
def qaH (x0 : Option Addr) (x1 : Int) (H : AH) (k : Bool → AH → Prop) : Prop :=
 qh Tryz.prog 92 [(qlk x0), (qld .i64 x1)] H fun e H' => in1 .bool e ql (fun r0 => k r0 H')
def qL (x0 : Option Addr) (x1 : Int) (H : AH) (k : Int → Int → AH → Prop) : Prop :=
 qh Tryz.prog 51 [(qlk x0), (qld .i64 x1)] H fun e H' => in2 (.int .u64) (.int .i64) e ql (fun r0 r1 => k r0 r1 H')
def qM (x0 : Option Addr) (H : AH) (k : Sl → Int → AH → Prop) : Prop :=
 qh Tryz.prog 158 [(qlk x0)] H fun e H' => in2 .sl (.int .i64) e ql (fun r0 r1 => k r0 r1 H')
def qb3 (x0 : Int) (H : AH) (k : Int → AH → Prop) : Prop :=
 qh Tryz.prog 140 [(qld .i64 x0)] H fun e H' => in1 (.int .u64) e ql (fun r0 => k r0 H')
def qaV (x0 : Sl) (x1 : Int) (H : AH) (k : Bool → AH → Prop) : Prop :=
 qh Tryz.prog 169 [(Sl.val x0), (qld .i64 x1)] H fun e H' => in1 .bool e ql (fun r0 => k r0 H')
def qaS (x0 : Option Addr) (x1 : Int) (x2 : Int) (H : AH) (k : Option Addr → AH → Prop) : Prop :=
 qh Tryz.prog 131 [(qlk x0), (qld .i64 x1), (qld .i64 x2)] H fun e H' => in1 .ptr e ql (fun r0 => k r0 H')
def qba (x0 : Option Addr) (x1 : Int) (x2 : Int) (x3 : Int) (H : AH) (k : Option Addr → AH → Prop) : Prop :=
 qh Tryz.prog 93 [(qlk x0), (qld .i64 x1), (qld .i64 x2), (qld .i64 x3)] H fun e H' => in1 .ptr e ql (fun r0 => k r0 H')
def qbK (x0 : Option Addr) (x1 : List Value) (H : AH) (k : Option Addr → AH → Prop) : Prop :=
 qh Tryz.prog 52 [(qlk x0), (qme (qlP x1))] H fun e H' => in1 .ptr e ql (fun r0 => k r0 H')
def qbW (x0 : List Value) (H : AH) (k : Int → AH → Prop) : Prop :=
 qh Tryz.prog 42 [(qme (qlP x0))] H fun e H' => in1 (.int .i64) e ql (fun r0 => k r0 H')
def qaZ (x0 : Int) (H : AH) (k : Bool → AH → Prop) : Prop :=
 qh Tryz.prog 94 [(qld .i64 x0)] H fun e H' => in1 .bool e ql (fun r0 => k r0 H')
def qbj (x0 : Int) (H : AH) (k : Bool → AH → Prop) : Prop :=
 qh Tryz.prog 129 [(qld .i64 x0)] H fun e H' => in1 .bool e ql (fun r0 => k r0 H')
def qbJ (x0 : Int) (x1 : Bool) (H : AH) (k : Int → AH → Prop) : Prop :=
 qh Tryz.prog 95 [(qld .i64 x0), (ql6 x1)] H fun e H' => in1 (.int .u64) e ql (fun r0 => k r0 H')
def qaX (x0 : Int) (H : AH) (k : Sl → AH → Prop) : Prop :=
 qh Tryz.prog 53 [(qld .i64 x0)] H fun e H' => in1 .sl e ql (fun r0 => k r0 H')
def qbr (x0 : List Value) (x1 : Int) (H : AH) (k : Int → AH → Prop) : Prop :=
 qh Tryz.prog 55 [(qme (qlP x0)), (qld .i64 x1)] H fun e H' => in1 (.int .i64) e ql (fun r0 => k r0 H')
def qa1 (x0 : Option Addr) (x1 : Int) (H : AH) (k : Int → AH → Prop) : Prop :=
 qh Tryz.prog 96 [(qlk x0), (qld .i64 x1)] H fun e H' => in1 (.int .i64) e ql (fun r0 => k r0 H')
def qbn (x0 : Option Addr) (H : AH) (k : Int → AH → Prop) : Prop :=
 qh Tryz.prog 99 [(qlk x0)] H fun e H' => in1 (.int .i64) e ql (fun r0 => k r0 H')
def gap_may (x0 : Int) (x1 : Int) (H : AH) (k : Bool → AH → Prop) : Prop :=
 qh Tryz.prog 134 [(qld .i64 x0), (qld .i64 x1)] H fun e H' => in1 .bool e ql (fun r0 => k r0 H')
def qct (x0 : Int) (x1 : Int) (H : AH) (k : Int → AH → Prop) : Prop :=
 qh Tryz.prog 135 [(qld .i64 x0), (qld .i64 x1)] H fun e H' => in1 (.int .i64) e ql (fun r0 => k r0 H')
def gap_Gap (x0 : Int) (x1 : Int) (H : AH) (k : Int → AH → Prop) : Prop :=
 qh Tryz.prog 136 [(qld .i64 x0), (qld .i64 x1)] H fun e H' => in1 (.int .i64) e ql (fun r0 => k r0 H')
def qbO (x0 : Int) (x1 : Int) (x2 : Int) (H : AH) (k : Int → AH → Prop) : Prop :=
 qh Tryz.prog 98 [(qld .i64 x0), (qld .i64 x1), (qld .i64 x2)] H fun e H' => in1 (.int .i64) e ql (fun r0 => k r0 H')
def qaF (x0 : Sl) (x1 : Int) (x2 : Int) (H : AH) (k : Int → AH → Prop) : Prop :=
 qh Tryz.prog 170 [(Sl.val x0), (qld .i64 x1), (qld .i64 x2)] H fun e H' => in1 (.int .i64) e ql (fun r0 => k r0 H')
def qat (x0 : Option Addr) (x1 : Int) (H : AH) (k : Int → Sl → Int → AH → Prop) : Prop :=
 qh Tryz.prog 132 [(qlk x0), (qld .i64 x1)] H fun e H' => in3 (.int .i64) .sl (.int .i64) e ql (fun r0 r1 r2 => k r0 r1 r2 H')
def qbb (x0 : Option Addr) (x1 : Int) (H : AH) (k : Bool → AH → Prop) : Prop :=
 qh Tryz.prog 171 [(qlk x0), (qld .i64 x1)] H fun e H' => in1 .bool e ql (fun r0 => k r0 H')
def qby (x0 : Option Addr) (x1 : Int) (H : AH) (k : List Value → Int → AH → Prop) : Prop :=
 qh Tryz.prog 133 [(qlk x0), (qld .i64 x1)] H fun e H' => in2 .agg (.int .i64) e ql (fun r0 r1 => k r0 r1 H')
def qbH (x0 : Option Addr) (x1 : Int) (H : AH) (k : List Value → Int → AH → Prop) : Prop :=
 qh Tryz.prog 97 [(qlk x0), (qld .i64 x1)] H fun e H' => in2 .agg (.int .i64) e ql (fun r0 r1 => k r0 r1 H')
def qa0 (x0 : Option Addr) (x1 : Int) (H : AH) (k : List Value → Int → AH → Prop) : Prop :=
 qh Tryz.prog 54 [(qlk x0), (qld .i64 x1)] H fun e H' => in2 .agg (.int .i64) e ql (fun r0 r1 => k r0 r1 H')
def qbi (x0 : Sl) (x1 : Int) (H : AH) (k : List Value → AH → Prop) : Prop :=
 qh Tryz.prog 56 [(Sl.val x0), (qld .i64 x1)] H fun e H' => in1 .agg e ql (fun r0 => k r0 H')
def qcJ (x0 : Int) (x1 : Int) (H : AH) (k : Int → Int → AH → Prop) : Prop :=
 qh Tryz.prog 137 [(qld .i64 x0), (qld .i64 x1)] H fun e H' => in2 (.int .i64) (.int .i64) e ql (fun r0 r1 => k r0 r1 H')
def qaO (x0 : Option Addr) (H : AH) (k : Int → AH → Prop) : Prop :=
 qh Tryz.prog 156 [(qlk x0)] H fun e H' => in1 (.int .i64) e ql (fun r0 => k r0 H')
def qbE (x0 : List Value) (x1 : List Value) (x2 : Int) (H : AH) (k : List Value → AH → Prop) : Prop :=
 qh Tryz.prog 172 [(qme (qlP x0)), (qme (qlP x1)), (qld .i64 x2)] H fun e H' => in1 .agg e ql (fun r0 => k r0 H')
def qaG (x0 : Option Addr) (x1 : Bool) (H : AH) (k : Int → AH → Prop) : Prop :=
 qh Tryz.prog 157 [(qlk x0), (ql6 x1)] H fun e H' => in1 (.int .i64) e ql (fun r0 => k r0 H')
def qR (x0 : Option Addr) (x1 : Int) (x2 : List Value) (H : AH) (k : Int → AH → Prop) : Prop :=
 qh Tryz.prog 138 [(qlk x0), (qld .i64 x1), (qme (qlP x2))] H fun e H' => in1 (.int .i64) e ql (fun r0 => k r0 H')
def qbu (x0 : Sl) (H : AH) (k : Int → AH → Prop) : Prop :=
 qh Tryz.prog 139 [(Sl.val x0)] H fun e H' => in1 (.int .i64) e ql (fun r0 => k r0 H')
def qF (x0 : Option Addr) (x1 : Int) (x2 : Int) (H : AH) (k : Int → AH → Prop) : Prop :=
 qh Tryz.prog 118 [(qlk x0), (qld .i64 x1), (qld .u64 x2)] H fun e H' => in1 (.int .i64) e ql (fun r0 => k r0 H')
def qay (x0 : Option Addr) (x1 : Int) (x2 : List Value) (H : AH) (k : Int → AH → Prop) : Prop :=
 qh Tryz.prog 101 [(qlk x0), (qld .i64 x1), (qme (qlP x2))] H fun e H' => in1 (.int .i64) e ql (fun r0 => k r0 H')
def qbz (x0 : Option Addr) (H : AH) (k : Int → AH → Prop) : Prop :=
 qh Tryz.prog 100 [(qlk x0)] H fun e H' => in1 (.int .i64) e ql (fun r0 => k r0 H')
def qaC (x0 : Option Addr) (x1 : Int) (x2 : List Value) (H : AH) (k : Int → AH → Prop) : Prop :=
 qh Tryz.prog 57 [(qlk x0), (qld .i64 x1), (qme (qlP x2))] H fun e H' => in1 (.int .i64) e ql (fun r0 => k r0 H')
def qJ (x0 : Option Addr) (x1 : List Value) (H : AH) (k : Int → AH → Prop) : Prop :=
 qh Tryz.prog 16 [(qlk x0), (qme (qlP x1))] H fun e H' => in1 (.int .i64) e ql (fun r0 => k r0 H')
def qaK (x0 : Option Addr) (H : AH) (k : Int → AH → Prop) : Prop :=
 qh Tryz.prog 102 [(qlk x0)] H fun e H' => in1 (.int .i64) e ql (fun r0 => k r0 H')
def log_New (x0 : Option Addr) (x1 : Option Addr) (H : AH) (k : Option Addr → AH → Prop) : Prop :=
 qh Tryz.prog 58 [(qlk x0), (qlk x1)] H fun e H' => in1 .ptr e ql (fun r0 => k r0 H')
def qck (x0 : Int) (H : AH) (k : Int → AH → Prop) : Prop :=
 qh Tryz.prog 141 [(qld .i64 x0)] H fun e H' => in1 (.int .i64) e ql (fun r0 => k r0 H')
def qaq (x0 : Option Addr) (H : AH) (k : Sl → Int → AH → Prop) : Prop :=
 qh Tryz.prog 103 [(qlk x0)] H fun e H' => in2 .sl (.int .i64) e ql (fun r0 r1 => k r0 r1 H')
def qav (x0 : Option Addr) (x1 : Sl) (H : AH) (k : Int → AH → Prop) : Prop :=
 qh Tryz.prog 105 [(qlk x0), (Sl.val x1)] H fun e H' => in1 (.int .i64) e ql (fun r0 => k r0 H')
def qbZ (x0 : Option Addr) (H : AH) (k : Int → AH → Prop) : Prop :=
 qh Tryz.prog 59 [(qlk x0)] H fun e H' => in1 (.int .i64) e ql (fun r0 => k r0 H')
def qao (x0 : Option Addr) (x1 : Int) (H : AH) (k : List Value → Int → AH → Prop) : Prop :=
 qh Tryz.prog 87 [(qlk x0), (qld .i64 x1)] H fun e H' => in2 .agg (.int .i64) e ql (fun r0 r1 => k r0 r1 H')
def qaf (x0 : Option Addr) (H : AH) (k : Sl → Int → AH → Prop) : Prop :=
 qh Tryz.prog 44 [(qlk x0)] H fun e H' => in2 .sl (.int .i64) e ql (fun r0 r1 => k r0 r1 H')
def qbq (x0 : Int) (H : AH) (k : Int → Bool → Bool → AH → Prop) : Prop :=
 qh Tryz.prog 88 [(qld .u64 x0)] H fun e H' => in3 (.int .i64) .bool .bool e ql (fun r0 r1 r2 => k r0 r1 r2 H')
def qad (x0 : Sl) (x1 : Int) (H : AH) (k : Bool → AH → Prop) : Prop :=
 qh Tryz.prog 89 [(Sl.val x0), (qld .i64 x1)] H fun e H' => in1 .bool e ql (fun r0 => k r0 H')
def qT (x0 : Sl) (H : AH) (k : Sl → Bool → AH → Prop) : Prop :=
 qh Tryz.prog 45 [(Sl.val x0)] H fun e H' => in2 .sl .bool e ql (fun r0 r1 => k r0 r1 H')
def qa4 (x0 : List Value) (H : AH) (k : Int → AH → Prop) : Prop :=
 qh Tryz.prog 144 [(qme (qlP x0))] H fun e H' => in1 (.int .i64) e ql (fun r0 => k r0 H')
def qbx (x0 : List Value) (x1 : Option Addr) (H : AH) (k : Bool → AH → Prop) : Prop :=
 qh Tryz.prog 143 [(qme (qlP x0)), (qlk x1)] H fun e H' => in1 .bool e ql (fun r0 => k r0 H')
def qb4 (x0 : Sl) (x1 : Int) (H : AH) (k : Sl → Int → AH → Prop) : Prop :=
 qh Tryz.prog 106 [(Sl.val x0), (qld .i64 x1)] H fun e H' => in2 .sl (.int .i64) e ql (fun r0 r1 => k r0 r1 H')
def qcn (x0 : Sl) (x1 : Int) (H : AH) (k : Bool → AH → Prop) : Prop :=
 qh Tryz.prog 60 [(Sl.val x0), (qld .i64 x1)] H fun e H' => in1 .bool e ql (fun r0 => k r0 H')
def qce (x0 : Int) (H : AH) (k : Int → AH → Prop) : Prop :=
 qh Tryz.prog 107 [(qld .i64 x0)] H fun e H' => in1 (.int .i64) e ql (fun r0 => k r0 H')
def qcr (x0 : List Value) (H : AH) (k : Int → AH → Prop) : Prop :=
 qh Tryz.prog 61 [(qme (qlP x0))] H fun e H' => in1 (.int .i64) e ql (fun r0 => k r0 H')
def qa5 (x0 : Int) (x1 : Sl) (H : AH) (k : Option Addr → AH → Prop) : Prop :=
 qh Tryz.prog 62 [(qld .i64 x0), (Sl.val x1)] H fun e H' => in1 .ptr e ql (fun r0 => k r0 H')
def qZ (x0 : Option Addr) (x1 : List Value) (H : AH) (k : Option Addr → Int → AH → Prop) : Prop :=
 qh Tryz.prog 17 [(qlk x0), (qme (qlP x1))] H fun e H' => in2 .ptr (.int .i64) e ql (fun r0 r1 => k r0 r1 H')
def qbM (x0 : Option Addr) (H : AH) (k : Bool → AH → Prop) : Prop :=
 qh Tryz.prog 71 [(qlk x0)] H fun e H' => in1 .bool e ql (fun r0 => k r0 H')
def qb7 (x0 : Option Addr) (H : AH) (k : Bool → AH → Prop) : Prop :=
 qh Tryz.prog 20 [(qlk x0)] H fun e H' => in1 .bool e ql (fun r0 => k r0 H')
def qw (x0 : Sl) (x1 : Sl) (H : AH) (k : Int → AH → Prop) : Prop :=
 qh Tryz.prog 23 [(Sl.val x0), (Sl.val x1)] H fun e H' => in1 (.int .i64) e ql (fun r0 => k r0 H')
def qcD (x0 : Int) (H : AH) (k : Option Addr → AH → Prop) : Prop :=
 qh Tryz.prog 81 [(qld .i64 x0)] H fun e H' => in1 .ptr e ql (fun r0 => k r0 H')
def qca (x0 : Int) (H : AH) (k : Option Addr → AH → Prop) : Prop :=
 qh Tryz.prog 41 [(qld .i64 x0)] H fun e H' => in1 .ptr e ql (fun r0 => k r0 H')
def qa9 (x0 : Int) (H : AH) (k : Int → AH → Prop) : Prop :=
 qh Tryz.prog 109 [(qld .i64 x0)] H fun e H' => in1 (.int .i64) e ql (fun r0 => k r0 H')
def qcc (x0 : Sl) (x1 : Sl) (H : AH) (k : Bool → AH → Prop) : Prop :=
 qh Tryz.prog 128 [(Sl.val x0), (Sl.val x1)] H fun e H' => in1 .bool e ql (fun r0 => k r0 H')
def qY (x0 : List Value) (x1 : List Value) (H : AH) (k : Bool → AH → Prop) : Prop :=
 qh Tryz.prog 85 [(qme (qlP x0)), (qme (qlP x1))] H fun e H' => in1 .bool e ql (fun r0 => k r0 H')
def qaM (x0 : Sl) (H : AH) (k : Sl → AH → Prop) : Prop :=
 qh Tryz.prog 130 [(Sl.val x0)] H fun e H' => in1 .sl e ql (fun r0 => k r0 H')
def qv (x0 : Option Addr) (H : AH) (k : Sl → AH → Prop) : Prop :=
 qh Tryz.prog 90 [(qlk x0)] H fun e H' => in1 .sl e ql (fun r0 => k r0 H')
def qW (x0 : Sl) (x1 : Int) (H : AH) (k : Sl → AH → Prop) : Prop :=
 qh Tryz.prog 164 [(Sl.val x0), (qld .i64 x1)] H fun e H' => in1 .sl e ql (fun r0 => k r0 H')
def qae (x0 : Option Addr) (x1 : Int) (H : AH) (k : Sl → AH → Prop) : Prop :=
 qh Tryz.prog 123 [(qlk x0), (qld .i64 x1)] H fun e H' => in1 .sl e ql (fun r0 => k r0 H')
def qX (x0 : Sl) (x1 : Int) (H : AH) (k : Int → AH → Prop) : Prop :=
 qh Tryz.prog 184 [(Sl.val x0), (qld .i64 x1)] H fun e H' => in1 (.int .i64) e ql (fun r0 => k r0 H')
def qax (x0 : Sl) (x1 : Int) (H : AH) (k : Bool → AH → Prop) : Prop :=
 qh Tryz.prog 160 [(Sl.val x0), (qld .i64 x1)] H fun e H' => in1 .bool e ql (fun r0 => k r0 H')
def qb5 (x0 : Sl) (x1 : Int) (H : AH) (k : Int → AH → Prop) : Prop :=
 qh Tryz.prog 161 [(Sl.val x0), (qld .i64 x1)] H fun e H' => in1 (.int .i64) e ql (fun r0 => k r0 H')
def qbC (x0 : Int) (x1 : Int) (H : AH) (k : Int → AH → Prop) : Prop :=
 qh Tryz.prog 162 [(qld .i64 x0), (qld .i64 x1)] H fun e H' => in1 (.int .i64) e ql (fun r0 => k r0 H')
def qH (x0 : Option Addr) (x1 : Int) (x2 : Int) (H : AH) (k : Bool → AH → Prop) : Prop :=
 qh Tryz.prog 122 [(qlk x0), (qld .i64 x1), (qld .i64 x2)] H fun e H' => in1 .bool e ql (fun r0 => k r0 H')
def qQ (x0 : Option Addr) (x1 : List Value) (x2 : List Value) (H : AH) (k : Bool → AH → Prop) : Prop :=
 qh Tryz.prog 82 [(qlk x0), (qme (qlP x1)), (qme (qlP x2))] H fun e H' => in1 .bool e ql (fun r0 => k r0 H')
def qaa (x0 : Sl) (H : AH) (k : Sl → AH → Prop) : Prop :=
 qh Tryz.prog 127 [(Sl.val x0)] H fun e H' => in1 .sl e ql (fun r0 => k r0 H')
def qar (x0 : Option Addr) (H : AH) (k : Option Addr → AH → Prop) : Prop :=
 qh Tryz.prog 124 [(qlk x0)] H fun e H' => in1 .ptr e ql (fun r0 => k r0 H')
def qaj (x0 : List Value) (H : AH) (k : Int → AH → Prop) : Prop :=
 qh Tryz.prog 168 [(qme (qlP x0))] H fun e H' => in1 (.int .i64) e ql (fun r0 => k r0 H')
def qaD (x0 : List Value) (x1 : Option Addr) (H : AH) (k : Bool → AH → Prop) : Prop :=
 qh Tryz.prog 196 [(qme (qlP x0)), (qlk x1)] H fun e H' => in1 .bool e ql (fun r0 => k r0 H')
def qaR (x0 : Option Addr) (x1 : Int) (H : AH) (k : Int → AH → Prop) : Prop :=
 qh Tryz.prog 187 [(qlk x0), (qld .i64 x1)] H fun e H' => in1 (.int .i64) e ql (fun r0 => k r0 H')
def qbh (x0 : Option Addr) (x1 : Int) (H : AH) (k : Int → AH → Prop) : Prop :=
 qh Tryz.prog 165 [(qlk x0), (qld .i64 x1)] H fun e H' => in1 (.int .i64) e ql (fun r0 => k r0 H')
def qz (x0 : Option Addr) (x1 : Int) (x2 : Int) (H : AH) (k : Sl → Int → AH → Prop) : Prop :=
 qh Tryz.prog 126 [(qlk x0), (qld .i64 x1), (qld .i64 x2)] H fun e H' => in2 .sl (.int .i64) e ql (fun r0 r1 => k r0 r1 H')
def qa7 (x0 : Option Addr) (x1 : Int) (x2 : Sl) (H : AH) (k : Int → AH → Prop) : Prop :=
 qh Tryz.prog 166 [(qlk x0), (qld .i64 x1), (Sl.val x2)] H fun e H' => in1 (.int .i64) e ql (fun r0 => k r0 H')
def qO (x0 : Option Addr) (x1 : Int) (H : AH) (k : Int → AH → Prop) : Prop :=
 qh Tryz.prog 167 [(qlk x0), (qld .i64 x1)] H fun e H' => in1 (.int .i64) e ql (fun r0 => k r0 H')
def qcs (x0 : Option Addr) (x1 : List Value) (H : AH) (k : Int → AH → Prop) : Prop :=
 qh Tryz.prog 125 [(qlk x0), (qme (qlP x1))] H fun e H' => in1 (.int .i64) e ql (fun r0 => k r0 H')
def qx (x0 : Option Addr) (x1 : List Value) (x2 : List Value) (H : AH) (k : Bool → AH → Prop) : Prop :=
 qh Tryz.prog 83 [(qlk x0), (qme (qlP x1)), (qme (qlP x2))] H fun e H' => in1 .bool e ql (fun r0 => k r0 H')
def qbd (x0 : Option Addr) (x1 : Int) (x2 : Int) (H : AH) (k : Sl → Int → AH → Prop) : Prop :=
 qh Tryz.prog 84 [(qlk x0), (qld .i64 x1), (qld .i64 x2)] H fun e H' => in2 .sl (.int .i64) e ql (fun r0 r1 => k r0 r1 H')
def qaQ (x0 : Option Addr) (H : AH) (k : Int → AH → Prop) : Prop :=
 qh Tryz.prog 86 [(qlk x0)] H fun e H' => in1 (.int .i64) e ql (fun r0 => k r0 H')
def qP (x0 : Option Addr) (x1 : List Value) (x2 : List Value) (H : AH) (k : Bool → AH → Prop) : Prop :=
 qh Tryz.prog 43 [(qlk x0), (qme (qlP x1)), (qme (qlP x2))] H fun e H' => in1 .bool e ql (fun r0 => k r0 H')
def qaY (x0 : Option Addr) (H : AH) (k : Sl → AH → Prop) : Prop :=
 qh Tryz.prog 47 [(qlk x0)] H fun e H' => in1 .sl e ql (fun r0 => k r0 H')
def qbe (x0 : Option Addr) (H : AH) (k : Bool → AH → Prop) : Prop :=
 qh Tryz.prog 79 [(qlk x0)] H fun e H' => in1 .bool e ql (fun r0 => k r0 H')
def qbg (x0 : Option Addr) (H : AH) (k : Int → AH → Prop) : Prop :=
 qh Tryz.prog 80 [(qlk x0)] H fun e H' => in1 (.int .i64) e ql (fun r0 => k r0 H')
def qam  (H : AH) (k : Bool → AH → Prop) : Prop :=
 qh Tryz.prog 40 [] H fun e H' => in1 .bool e ql (fun r0 => k r0 H')
def qt (x0 : List Value) (x1 : Sl) (x2 : Sl) (H : AH) (k : Bool → AH → Prop) : Prop :=
 qh Tryz.prog 10 [(qme (qlP x0)), (Sl.val x1), (Sl.val x2)] H fun e H' => in1 .bool e ql (fun r0 => k r0 H')
def qap (x0 : Int) (H : AH) (pk : Value → AH → Prop) (k : AH → Prop) : Prop :=
 qh Tryz.prog 113 [(qld .i64 x0)] H fun e H' => in0  e (fun v => pk v H') (k H')
def qa2 (x0 : Option Addr) (H : AH) (pk : Value → AH → Prop) (k : Sl → AH → Prop) : Prop :=
 qh Tryz.prog 108 [(qlk x0)] H fun e H' => in1 .sl e (fun v => pk v H') (fun r0 => k r0 H')
def qaw (x0 : Option Addr) (H : AH) (pk : Value → AH → Prop) (k : AH → Prop) : Prop :=
 qh Tryz.prog 110 [(qlk x0)] H fun e H' => in0  e (fun v => pk v H') (k H')
def qaN (x0 : Sl) (H : AH) (k : Sl → AH → Prop) : Prop :=
 qh Tryz.prog 147 [(Sl.val x0)] H fun e H' => in1 .sl e ql (fun r0 => k r0 H')
def qbY (x0 : Option Addr) (H : AH) (k : Sl → AH → Prop) : Prop :=
 qh Tryz.prog 112 [(qlk x0)] H fun e H' => in1 .sl e ql (fun r0 => k r0 H')
def qbD (x0 : List Value) (x1 : Sl) (H : AH) (k : Int → AH → Prop) : Prop :=
 qh Tryz.prog 173 [(qme (qlP x0)), (Sl.val x1)] H fun e H' => in1 (.int .i64) e ql (fun r0 => k r0 H')
def qaI (x0 : Sl) (x1 : Int) (x2 : Sl) (H : AH) (k : Int → AH → Prop) : Prop :=
 qh Tryz.prog 145 [(Sl.val x0), (qld .i64 x1), (Sl.val x2)] H fun e H' => in1 (.int .i64) e ql (fun r0 => k r0 H')
def qaJ (x0 : Sl) (H : AH) (k : Int → AH → Prop) : Prop :=
 qh Tryz.prog 189 [(Sl.val x0)] H fun e H' => in1 (.int .i64) e ql (fun r0 => k r0 H')
def qa8 (x0 : Sl) (x1 : Int) (x2 : Int) (H : AH) (k : Sl → AH → Prop) : Prop :=
 qh Tryz.prog 174 [(Sl.val x0), (qld .i64 x1), (qld .i64 x2)] H fun e H' => in1 .sl e ql (fun r0 => k r0 H')
def qag (x0 : Sl) (x1 : Int) (x2 : Int) (H : AH) (k : Sl → AH → Prop) : Prop :=
 qh Tryz.prog 146 [(Sl.val x0), (qld .i64 x1), (qld .i64 x2)] H fun e H' => in1 .sl e ql (fun r0 => k r0 H')
def qbT (x0 : Sl) (x1 : Int) (x2 : Sl) (H : AH) (k : Sl → Int → Int → AH → Prop) : Prop :=
 qh Tryz.prog 111 [(Sl.val x0), (qld .i64 x1), (Sl.val x2)] H fun e H' => in3 .sl (.int .i64) (.int .i64) e ql (fun r0 r1 r2 => k r0 r1 r2 H')
def qah (x0 : Sl) (H : AH) (k : Sl → AH → Prop) : Prop :=
 qh Tryz.prog 175 [(Sl.val x0)] H fun e H' => in1 .sl e ql (fun r0 => k r0 H')
def qaU (x0 : Sl) (x1 : Sl) (H : AH) (k : Sl → AH → Prop) : Prop :=
 qh Tryz.prog 148 [(Sl.val x0), (Sl.val x1)] H fun e H' => in1 .sl e ql (fun r0 => k r0 H')
def qaL (x0 : Sl) (H : AH) (k : Sl → AH → Prop) : Prop :=
 qh Tryz.prog 149 [(Sl.val x0)] H fun e H' => in1 .sl e ql (fun r0 => k r0 H')
def qS (x0 : Option Addr) (x1 : Sl) (H : AH) (k : Int → AH → Prop) : Prop :=
 qh Tryz.prog 150 [(qlk x0), (Sl.val x1)] H fun e H' => in1 (.int .i64) e ql (fun r0 => k r0 H')
def qbN (x0 : Option Addr) (x1 : Int) (H : AH) (k : Bool → AH → Prop) : Prop :=
 qh Tryz.prog 178 [(qlk x0), (qld .i64 x1)] H fun e H' => in1 .bool e ql (fun r0 => k r0 H')
def qbo (x0 : Option Addr) (x1 : Int) (H : AH) (k : Int → AH → Prop) : Prop :=
 qh Tryz.prog 179 [(qlk x0), (qld .i64 x1)] H fun e H' => in1 (.int .i64) e ql (fun r0 => k r0 H')
def qas (x0 : Option Addr) (x1 : Int) (H : AH) (k : Int → Bool → AH → Prop) : Prop :=
 qh Tryz.prog 151 [(qlk x0), (qld .i64 x1)] H fun e H' => in2 (.int .i64) .bool e ql (fun r0 r1 => k r0 r1 H')
def qE (x0 : Option Addr) (x1 : Sl) (x2 : Sl) (H : AH) (pk : Value → AH → Prop) (k : AH → Prop) : Prop :=
 qh Tryz.prog 114 [(qlk x0), (Sl.val x1), (Sl.val x2)] H fun e H' => in0  e (fun v => pk v H') (k H')
def qb1 (x0 : Option Addr) (x1 : Int) (H : AH) (pk : Value → AH → Prop) (k : Int → AH → Prop) : Prop :=
 qh Tryz.prog 64 [(qlk x0), (qld .i64 x1)] H fun e H' => in1 (.int .i64) e (fun v => pk v H') (fun r0 => k r0 H')
def qau (x0 : Sl) (H : AH) (k : Int → AH → Prop) : Prop :=
 qh Tryz.prog 181 [(Sl.val x0)] H fun e H' => in1 (.int .i64) e ql (fun r0 => k r0 H')
def qC (x0 : Sl) (x1 : Int) (H : AH) (k : Int → Int → Bool → AH → Prop) : Prop :=
 qh Tryz.prog 180 [(Sl.val x0), (qld .i64 x1)] H fun e H' => in3 (.int .i64) (.int .i64) .bool e ql (fun r0 r1 r2 => k r0 r1 r2 H')
def qbc (x0 : Sl) (x1 : Int) (H : AH) (k : List Value → Bool → AH → Prop) : Prop :=
 qh Tryz.prog 152 [(Sl.val x0), (qld .i64 x1)] H fun e H' => in2 .agg .bool e ql (fun r0 r1 => k r0 r1 H')
def qcv (x0 : Sl) (x1 : Int) (H : AH) (k : Sl → Int → AH → Prop) : Prop :=
 qh Tryz.prog 115 [(Sl.val x0), (qld .i64 x1)] H fun e H' => in2 .sl (.int .i64) e ql (fun r0 r1 => k r0 r1 H')
def qbA (x0 : Option Addr) (H : AH) (pk : Value → AH → Prop) (k : Int → AH → Prop) : Prop :=
 qh Tryz.prog 69 [(qlk x0)] H fun e H' => in1 (.int .i64) e (fun v => pk v H') (fun r0 => k r0 H')
def qb8 (x0 : Option Addr) (x1 : Int) (H : AH) (pk : Value → AH → Prop) (k : AH → Prop) : Prop :=
 qh Tryz.prog 65 [(qlk x0), (qld .i64 x1)] H fun e H' => in0  e (fun v => pk v H') (k H')
def qbk (x0 : List Value) (x1 : Option Addr) (x2 : Option Addr) (H : AH) (k : Bool → AH → Prop) : Prop :=
 qh Tryz.prog 193 [(qme (qlP x0)), (qlk x1), (qlk x2)] H fun e H' => in1 .bool e ql (fun r0 => k r0 H')
def qbm (x0 : Sl) (x1 : Int) (x2 : Int) (H : AH) (k : Bool → AH → Prop) : Prop :=
 qh Tryz.prog 182 [(Sl.val x0), (qld .i64 x1), (qld .i64 x2)] H fun e H' => in1 .bool e ql (fun r0 => k r0 H')
def qbQ (x0 : Sl) (x1 : Int) (x2 : Int) (H : AH) (k : Int → AH → Prop) : Prop :=
 qh Tryz.prog 153 [(Sl.val x0), (qld .i64 x1), (qld .i64 x2)] H fun e H' => in1 (.int .i64) e ql (fun r0 => k r0 H')
def qbS (x0 : Sl) (x1 : Int) (x2 : Int) (H : AH) (k : Bool → AH → Prop) : Prop :=
 qh Tryz.prog 183 [(Sl.val x0), (qld .i64 x1), (qld .i64 x2)] H fun e H' => in1 .bool e ql (fun r0 => k r0 H')
def qbP (x0 : Sl) (x1 : Int) (x2 : Int) (H : AH) (k : Sl → Bool → AH → Prop) : Prop :=
 qh Tryz.prog 154 [(Sl.val x0), (qld .i64 x1), (qld .i64 x2)] H fun e H' => in2 .sl .bool e ql (fun r0 r1 => k r0 r1 H')
def qco (x0 : Sl) (x1 : Int) (x2 : Int) (H : AH) (k : Sl → Int → AH → Prop) : Prop :=
 qh Tryz.prog 116 [(Sl.val x0), (qld .i64 x1), (qld .i64 x2)] H fun e H' => in2 .sl (.int .i64) e ql (fun r0 r1 => k r0 r1 H')
def qb9 (x0 : Option Addr) (x1 : Int) (x2 : Int) (H : AH) (pk : Value → AH → Prop) (k : Sl → AH → Prop) : Prop :=
 qh Tryz.prog 66 [(qlk x0), (qld .i64 x1), (qld .i64 x2)] H fun e H' => in1 .sl e (fun v => pk v H') (fun r0 => k r0 H')
def qan (x0 : Sl) (x1 : Int) (x2 : Sl) (H : AH) (k : Sl → Bool → AH → Prop) : Prop :=
 qh Tryz.prog 155 [(Sl.val x0), (qld .i64 x1), (Sl.val x2)] H fun e H' => in2 .sl .bool e ql (fun r0 r1 => k r0 r1 H')
def qcb (x0 : Sl) (x1 : Int) (x2 : Sl) (H : AH) (k : Sl → Int → AH → Prop) : Prop :=
 qh Tryz.prog 117 [(Sl.val x0), (qld .i64 x1), (Sl.val x2)] H fun e H' => in2 .sl (.int .i64) e ql (fun r0 r1 => k r0 r1 H')
def qb0 (x0 : Option Addr) (x1 : Int) (x2 : Sl) (H : AH) (pk : Value → AH → Prop) (k : AH → Prop) : Prop :=
 qh Tryz.prog 67 [(qlk x0), (qld .i64 x1), (Sl.val x2)] H fun e H' => in0  e (fun v => pk v H') (k H')
def qaB (x0 : Option Addr) (x1 : Int) (H : AH) (pk : Value → AH → Prop) (k : AH → Prop) : Prop :=
 qh Tryz.prog 68 [(qlk x0), (qld .i64 x1)] H fun e H' => in0  e (fun v => pk v H') (k H')
def qs.l1 (x0 : Sl) (x1b0 : Option Addr) (x1b1 : Option Addr) (k : Int → AH → Prop) (t2 : Int × Int) (HL2 : AH) (it2 : (Int × Int) → AH → Prop) : Prop :=
 bcase (decide ((t2.2 : Int) < ((x0.n : Nat) : Int))) ((0 ≤ t2.2 ∧ t2.2 < ((x0.n : Nat) : Int)) ∧ onPtr x0.a fun a14 => ldA HL2 (qlg a14 (qlp t2.2 * 3)) 3 fun c15 => qbk c15 x1b0 x1b1 HL2 fun b16 H16 => bcase b16 (k t2.2 H16) (it2 (t2.1, (qlf .i64 (t2.2 + (1 : Int)))) H16)) (k (-1 : Int) HL2)
def qs.b (x0 : Sl) (x1b0 : Option Addr) (x1b1 : Option Addr) (H : AH) (k : Int → AH → Prop) : Prop :=
 loopT (qs.l1 x0 x1b0 x1b1 k) (((0 : Int), (0 : Int)) : Int × Int) H
def qs.ann : Ann := { keep := fun r => match r with | 2 => [(4, .int .i64), (8, .int .i64)] | _ => [], ord := fun r => match r with  | _ => [] }
theorem qs.link {x0 : Sl} {x1b0 : Option Addr} {x1b1 : Option Addr} {H : AH} {k : Int → AH → Prop} (h : qs.b x0 x1b0 x1b1 H k) : qs x0 x1b0 x1b1 H k := lk1 pan hT hm Tryz.func142 (by kernel_rfl) (A := qs.ann) (by kernel_rfl) (by simp) (by kernel_rfl) h
def qN.b (x0 : Sl) (x1b0 : Option Addr) (x1b1 : Option Addr) (H : AH) (k : Bool → AH → Prop) : Prop :=
 qs x0 x1b0 x1b1 H fun n7 H7 => k (decide ((n7 : Int) ≥ (0 : Int))) H7
theorem qN.link {x0 : Sl} {x1b0 : Option Addr} {x1b1 : Option Addr} {H : AH} {k : Bool → AH → Prop} (h : qN.b x0 x1b0 x1b1 H k) : qN x0 x1b0 x1b1 H k := lk1 pan hT hm Tryz.func192 (by kernel_rfl) (A := ann0) (by kernel_rfl) (by simp) (by kernel_rfl) h
def qo.l1 (x0 : Sl) (x1b0 : Option Addr) (k : Int → AH → Prop) (t2 : Int × Int) (HL2 : AH) (it2 : (Int × Int) → AH → Prop) : Prop :=
 bcase (decide ((t2.2 : Int) < ((x0.n : Nat) : Int))) ((0 ≤ t2.2 ∧ t2.2 < ((x0.n : Nat) : Int)) ∧ onPtr x0.a fun a14 => ldA HL2 (qlg a14 (qlp t2.2 * 3)) 3 fun c15 => qaD c15 x1b0 HL2 fun b16 H16 => bcase b16 (k t2.2 H16) (it2 (t2.1, (qlf .i64 (t2.2 + (1 : Int)))) H16)) (k (-1 : Int) HL2)
def qo.b (x0 : Sl) (x1b0 : Option Addr) (H : AH) (k : Int → AH → Prop) : Prop :=
 loopT (qo.l1 x0 x1b0 k) (((0 : Int), (0 : Int)) : Int × Int) H
def qo.ann : Ann := { keep := fun r => match r with | 2 => [(4, .int .i64), (8, .int .i64)] | _ => [], ord := fun r => match r with  | _ => [] }
theorem qo.link {x0 : Sl} {x1b0 : Option Addr} {H : AH} {k : Int → AH → Prop} (h : qo.b x0 x1b0 H k) : qo x0 x1b0 H k := lk1 pan hT hm Tryz.func195 (by kernel_rfl) (A := qo.ann) (by kernel_rfl) (by simp) (by kernel_rfl) h
def qA.l1 (x0 : Sl) (x1b0 : Option Addr) (k : Int → AH → Prop) (t2 : Int × Int) (HL2 : AH) (it2 : (Int × Int) → AH → Prop) : Prop :=
 bcase (decide ((t2.2 : Int) < ((x0.n : Nat) : Int))) ((0 ≤ t2.2 ∧ t2.2 < ((x0.n : Nat) : Int)) ∧ onPtr x0.a fun a14 => ldA HL2 (qlg a14 (qlp t2.2 * 3)) 3 fun c15 => qbx c15 x1b0 HL2 fun b16 H16 => bcase b16 (k t2.2 H16) (it2 (t2.1, (qlf .i64 (t2.2 + (1 : Int)))) H16)) (k (-1 : Int) HL2)
def qA.b (x0 : Sl) (x1b0 : Option Addr) (H : AH) (k : Int → AH → Prop) : Prop :=
 loopT (qA.l1 x0 x1b0 k) (((0 : Int), (0 : Int)) : Int × Int) H
def qA.ann : Ann := { keep := fun r => match r with | 2 => [(4, .int .i64), (8, .int .i64)] | _ => [], ord := fun r => match r with  | _ => [] }
theorem qA.link {x0 : Sl} {x1b0 : Option Addr} {H : AH} {k : Int → AH → Prop} (h : qA.b x0 x1b0 H k) : qA x0 x1b0 H k := lk1 pan hT hm Tryz.func142 (by kernel_rfl) (A := qA.ann) (by kernel_rfl) (by simp) (by kernel_rfl) h
def qaT.b (x0 : Int) (x1 : Int) (x2 : Int) (x3 : Int) (H : AH) (k : List Value → AH → Prop) : Prop :=
 newC H ⟨[(qld .i64 (0 : Int)), (qld .i64 (0 : Int)), (qld .i64 (0 : Int)), (qld .i64 (0 : Int))], .rw, 0⟩ fun o8 H8 => ((24 : Int) : Int) ≠ 0 ∧ ((17 : Int) : Int) ≠ 0 ∧ ((30 : Int) : Int) ≠ 0 ∧ ((10 : Int) : Int) ≠ 0 ∧ (qlu [(qld .i64 (qlf .i64 ((1 : Int) + (qlf .i64 (qmp (qlf .u64 x0) (24 : Int)))))), (qld .i64 (qlf .i64 (qmp (qlf .u64 x1) (17 : Int)))), (qld .i64 (qlf .i64 ((1 : Int) + (qlf .i64 (qmp (qlf .u64 x2) (30 : Int)))))), (qld .i64 (qlf .i64 ((1 : Int) + (qlf .i64 (qmp (qlf .u64 x3) (10 : Int))))))] = 4 ∧ ql3 [(qld .i64 (qlf .i64 ((1 : Int) + (qlf .i64 (qmp (qlf .u64 x0) (24 : Int)))))), (qld .i64 (qlf .i64 (qmp (qlf .u64 x1) (17 : Int)))), (qld .i64 (qlf .i64 ((1 : Int) + (qlf .i64 (qmp (qlf .u64 x2) (30 : Int)))))), (qld .i64 (qlf .i64 ((1 : Int) + (qlf .i64 (qmp (qlf .u64 x3) (10 : Int))))))] qp = true) ∧ stC H8 ⟨o8, 0, none⟩ [(qld .i64 (qlf .i64 ((1 : Int) + (qlf .i64 (qmp (qlf .u64 x0) (24 : Int)))))), (qld .i64 (qlf .i64 (qmp (qlf .u64 x1) (17 : Int)))), (qld .i64 (qlf .i64 ((1 : Int) + (qlf .i64 (qmp (qlf .u64 x2) (30 : Int)))))), (qld .i64 (qlf .i64 ((1 : Int) + (qlf .i64 (qmp (qlf .u64 x3) (10 : Int))))))] fun Hs2 => ldA Hs2 ⟨o8, 0, none⟩ 4 fun r0 => k r0 Hs2
theorem qaT.link {x0 : Int} {x1 : Int} {x2 : Int} {x3 : Int} {H : AH} {k : List Value → AH → Prop} (h : qaT.b x0 x1 x2 x3 H k) : qaT x0 x1 x2 x3 H k := lk1 pan hT hm Tryz.func36 (by kernel_rfl) (A := ann0) (by kernel_rfl) (by simp) (by kernel_rfl) h
def qbl.b (x0 : List Value) (H : AH) (k : Bool → AH → Prop) : Prop :=
 newC H ⟨x0, .rw, 0⟩ fun o1 H1 => elI .i64 (AH.cell? H1 (qlg ⟨o1, 0, none⟩ 0)) fun n4 => bcase (decide ((n4 : Int) ≥ (1 : Int))) (elI .i64 (AH.cell? H1 (qlg ⟨o1, 0, none⟩ 0)) fun n8 => bcase (decide ((n8 : Int) ≤ (64 : Int))) (elI .i64 (AH.cell? H1 (qlg ⟨o1, 0, none⟩ 1)) fun n13 => bcase (decide ((n13 : Int) ≥ (0 : Int))) (elI .i64 (AH.cell? H1 (qlg ⟨o1, 0, none⟩ 1)) fun n18 => bcase (decide ((n18 : Int) ≤ (16 : Int))) (elI .i64 (AH.cell? H1 (qlg ⟨o1, 0, none⟩ 2)) fun n23 => bcase (decide ((n23 : Int) ≥ (1 : Int))) (elI .i64 (AH.cell? H1 (qlg ⟨o1, 0, none⟩ 2)) fun n28 => bcase (decide ((n28 : Int) ≤ (1000 : Int))) (elI .i64 (AH.cell? H1 (qlg ⟨o1, 0, none⟩ 3)) fun n33 => bcase (decide ((n33 : Int) ≥ (1 : Int))) (elI .i64 (AH.cell? H1 (qlg ⟨o1, 0, none⟩ 3)) fun n38 => k (decide ((n38 : Int) ≤ (100 : Int))) H1) (k false H1)) (k false H1)) (k false H1)) (k false H1)) (k false H1)) (k false H1)) (k false H1)
theorem qbl.link {x0 : List Value} {H : AH} {k : Bool → AH → Prop} (h : qbl.b x0 H k) : qbl x0 H k := lk1 pan hT hm Tryz.func48 (by kernel_rfl) (A := ann0) (by kernel_rfl) (by simp) (by kernel_rfl) h
def qbw.b (x0 : List Value) (H : AH) (k : Int → AH → Prop) : Prop :=
 newC H ⟨x0, .rw, 0⟩ fun o1 H1 => ldA H1 ⟨o1, 0, none⟩ 4 fun c3 => qbl c3 H1 fun b4 H4 => bcase (!b4) (k (0 : Int) H4) (elI .i64 (AH.cell? H4 (qlg ⟨o1, 0, none⟩ 0)) fun n7 => k (qlf .i64 ((16 : Int) + n7)) H4)
theorem qbw.link {x0 : List Value} {H : AH} {k : Int → AH → Prop} (h : qbw.b x0 H k) : qbw x0 H k := lk1 pan hT hm Tryz.func49 (by kernel_rfl) (A := ann0) (by kernel_rfl) (by simp) (by kernel_rfl) h
def qbf.b (x0 : List Value) (H : AH) (k : Int → AH → Prop) : Prop :=
 newC H ⟨x0, .rw, 0⟩ fun o1 H1 => ldA H1 ⟨o1, 0, none⟩ 4 fun c3 => qbl c3 H1 fun b4 H4 => bcase (!b4) (k (0 : Int) H4) (ldA H4 ⟨o1, 0, none⟩ 4 fun c6 => elI .i64 (AH.cell? H4 (qlg ⟨o1, 0, none⟩ 1)) fun n10 => qbw c6 H4 fun n7 H7 => AH.cell? H7 (qlg ⟨o1, 0, none⟩ 1) = some (qld .i64 n10) ∧ k (qlf .i64 ((qlf .i64 (n7 + (1 : Int))) + n10)) H7)
def qbf.ann : Ann := { keep := fun r => match r with  | _ => [], ord := fun r => match r with | 3 => [0, 3, 4, 1, 2, 5, 6] | _ => [] }
theorem qbf.link {x0 : List Value} {H : AH} {k : Int → AH → Prop} (h : qbf.b x0 H k) : qbf x0 H k := lk1 pan hT hm Tryz.func15 (by kernel_rfl) (A := qbf.ann) (by kernel_rfl) (by simp) (by kernel_rfl) h
def nvm_New.l1 (x1 : Sl) (k : Option Addr → AH → Prop) (o16 : Nat) (s20 : Sl) (t5 : Int) (HL5 : AH) (it5 : (Int) → AH → Prop) : Prop :=
 bcase (decide ((t5 : Int) < ((s20.n : Nat) : Int))) (elL (AH.cell? HL5 (qlg ⟨o16, 0, none⟩ 0)) fun s28 => (0 ≤ t5 ∧ t5 < ((s28.n : Nat) : Int)) ∧ onPtr s28.a fun a30 => stC HL5 (qlg (qlg a30 (qlp t5 * 10)) 9) [(qld .i64 (-1 : Int))] fun Hs2 => bcase (decide ((t5 : Int) < ((x1.n : Nat) : Int))) (elL (AH.cell? Hs2 (qlg ⟨o16, 0, none⟩ 0)) fun s39 => (0 ≤ t5 ∧ t5 < ((x1.n : Nat) : Int)) ∧ onPtr x1.a fun a43 => elI .i64 (AH.cell? Hs2 (qlg a43 (qlp t5 * 1))) fun n44 => (0 ≤ t5 ∧ t5 < ((s39.n : Nat) : Int)) ∧ onPtr s39.a fun a45 => stC Hs2 (qlg (qlg a45 (qlp t5 * 10)) 9) [(qld .i64 n44)] fun Hs4 => it5 (qlf .i64 (t5 + (1 : Int))) Hs4) (it5 (qlf .i64 (t5 + (1 : Int))) Hs2)) (k (some ⟨o16, 0, none⟩) HL5)
def nvm_New.j2 (x0 : Int) (x1 : Sl) (H : AH) (k : Option Addr → AH → Prop) (x12 : Bool) : Prop :=
 bcase x12 (k none H) ((0 ≤ x0 ∧ x0 ≤ x0 ∧ x0 ≤ (lim : Int)) ∧ newC H ⟨zerosOf (qlp x0) [(qld .u64 (0 : Int)), (qld .u64 (0 : Int)), (qld .u64 (0 : Int)), (qld .u64 (0 : Int)), (qld .u64 (0 : Int)), (qld .u64 (0 : Int)), (qld .u64 (0 : Int)), (qld .u64 (0 : Int)), (qld .i64 (0 : Int)), (qld .i64 (0 : Int))], .rw, 10⟩ fun o14 H14 => newC H14 ⟨[(qly (some ⟨o14, 0, none⟩) (qlp x0) 1), (qld .u64 (0 : Int)), (qld .u64 (0 : Int)), (qld .u64 (0 : Int)), (qld .u64 (0 : Int)), (qld .u64 (0 : Int)), (qld .u64 (0 : Int)), (qld .u64 (0 : Int)), (qld .u64 (0 : Int)), (qld .u64 (0 : Int)), (qld .u64 (0 : Int)), (qld .u64 (0 : Int)), (qld .u64 (0 : Int)), (qld .u64 (0 : Int)), (qld .u64 (0 : Int)), (qld .u64 (0 : Int)), (qld .u64 (0 : Int)), (qld .u64 (0 : Int)), (qld .u64 (0 : Int)), (qld .u64 (0 : Int)), (qld .u64 (0 : Int)), (qld .u64 (0 : Int)), (qld .u64 (0 : Int)), (qld .u64 (0 : Int)), (qld .u64 (0 : Int)), (qld .u64 (0 : Int)), (qld .u64 (0 : Int)), (qld .u64 (0 : Int)), (qld .u64 (0 : Int)), (qld .u64 (0 : Int)), (qld .u64 (0 : Int)), (qld .u64 (0 : Int)), (qld .u64 (0 : Int)), (qld .u64 (0 : Int)), (qld .u64 (0 : Int)), (qld .u64 (0 : Int)), (qld .i64 (0 : Int)), (qld .i64 (-1 : Int)), (qld .i64 (0 : Int)), (ql6 false)], .rw, 0⟩ fun o16 H16 => elL (AH.cell? H16 (qlg ⟨o16, 0, none⟩ 0)) fun s20 => loopT (nvm_New.l1 x1 k o16 s20) (((0 : Int)) : Int) H16)
def nvm_New.b (x0 : Int) (x1 : Sl) (H : AH) (k : Option Addr → AH → Prop) : Prop :=
 bcase (decide ((x0 : Int) < (1 : Int))) (nvm_New.j2 x0 x1 H k true) (nvm_New.j2 x0 x1 H k (decide ((x0 : Int) > (200 : Int))))
def nvm_New.ann : Ann := { keep := fun r => match r with | 5 => [(22, .int .i64)] | _ => [], ord := fun r => match r with | 9 => [0, 1, 2, 3, 4, 5, 6, 7, 8, 9, 10, 11] | _ => [] }
theorem nvm_New.link {x0 : Int} {x1 : Sl} {H : AH} {k : Option Addr → AH → Prop} (h : nvm_New.b x0 x1 H k) : nvm_New x0 x1 H k := lk1 pan hT hm Tryz.func14 (by kernel_rfl) (A := nvm_New.ann) (by kernel_rfl) (by simp) (by kernel_rfl) h
def qab.b (x0 : Option Addr) (H : AH) (k : Int → AH → Prop) : Prop :=
 bcase (qlH x0) (k (0 : Int) H) (onPtr x0 fun a6 => elL (AH.cell? H (qlg a6 0)) fun s8 => k ((s8.n : Nat) : Int) H)
theorem qab.link {x0 : Option Addr} {H : AH} {k : Int → AH → Prop} (h : qab.b x0 H k) : qab x0 H k := lk1 pan hT hm Tryz.func91 (by kernel_rfl) (A := ann0) (by kernel_rfl) (by simp) (by kernel_rfl) h
def qal.b (x0 : Option Addr) (H : AH) (k : Bool → AH → Prop) : Prop :=
 bcase (!(qlH x0)) (onPtr x0 fun a7 => elB (AH.cell? H (qlg a7 39)) fun b9 => k b9 H) (k false H)
theorem qal.link {x0 : Option Addr} {H : AH} {k : Bool → AH → Prop} (h : qal.b x0 H k) : qal x0 H k := lk1 pan hT hm Tryz.func38 (by kernel_rfl) (A := ann0) (by kernel_rfl) (by simp) (by kernel_rfl) h
def qbG.j1 (x0 : Option Addr) (k : Int → AH → Prop) (x5 : Bool) (Hj : AH) : Prop :=
 bcase x5 (k (1 : Int) Hj) (qal x0 Hj fun b18 H18 => bcase b18 (k (2 : Int) H18) (k (0 : Int) H18))
def qbG.b (x0 : Option Addr) (x1 : List Value) (H : AH) (k : Int → AH → Prop) : Prop :=
 newC H ⟨x1, .rw, 0⟩ fun o3 H3 => ldA H3 ⟨o3, 0, none⟩ 4 fun c6 => qbl c6 H3 fun b7 H7 => bcase (!b7) (qbG.j1 x0 k true H7) (ldA H7 ⟨o3, 0, none⟩ 4 fun c12 => qab x0 H7 fun n11 H11 => AH.row? H11 ⟨o3, 0, none⟩ 4 = some c12 ∧ qbf c12 H11 fun n13 H13 => qbG.j1 x0 k ((n11 : Int) != n13) H13)
def qbG.ann : Ann := { keep := fun r => match r with  | _ => [], ord := fun r => match r with | 1 => [0, 1, 2, 3, 4, 6, 5, 7, 8, 9, 10] | _ => [] }
theorem qbG.link {x0 : Option Addr} {x1 : List Value} {H : AH} {k : Int → AH → Prop} (h : qbG.b x0 x1 H k) : qbG x0 x1 H k := lk1 pan hT hm Tryz.func50 (by kernel_rfl) (A := qbG.ann) (by kernel_rfl) (by simp) (by kernel_rfl) h
def qaH.b (x0 : Option Addr) (x1 : Int) (H : AH) (k : Bool → AH → Prop) : Prop :=
 bcase (!(qlH x0)) (bcase (decide ((x1 : Int) ≥ (0 : Int))) (k (decide ((x1 : Int) < (35 : Int))) H) (k false H)) (k false H)
theorem qaH.link {x0 : Option Addr} {x1 : Int} {H : AH} {k : Bool → AH → Prop} (h : qaH.b x0 x1 H k) : qaH x0 x1 H k := lk1 pan hT hm Tryz.func92 (by kernel_rfl) (A := ann0) (by kernel_rfl) (by simp) (by kernel_rfl) h
def qL.b (x0 : Option Addr) (x1 : Int) (H : AH) (k : Int → Int → AH → Prop) : Prop :=
 qaH x0 x1 H fun b9 H9 => bcase (!b9) (k (0 : Int) (1 : Int) H9) (onPtr x0 fun a13 => elB (AH.cell? H9 (qlg a13 39)) fun b15 => bcase b15 (k (0 : Int) (2 : Int) H9) (onPtr x0 fun a18 => (0 ≤ x1 ∧ x1 < ((35 : Nat) : Int)) ∧ elI .u64 (AH.cell? H9 (qlg (qlg a18 1) (qlp x1 * 1))) fun n21 => k n21 (0 : Int) H9))
theorem qL.link {x0 : Option Addr} {x1 : Int} {H : AH} {k : Int → Int → AH → Prop} (h : qL.b x0 x1 H k) : qL x0 x1 H k := lk2 pan hT hm Tryz.func51 (by kernel_rfl) (A := ann0) (by kernel_rfl) (by simp) (by simp) (by kernel_rfl) h
def qM.j1 (x0 : Option Addr) (k : Sl → Int → AH → Prop) (t3 : Sl × Int × Sl × Int) (HL3 : AH) : Prop :=
 onPtr x0 fun a34 => elP (AH.cell? HL3 (qlg a34 0)) fun p36 => qal p36 HL3 fun b37 H37 => bcase b37 (k ⟨none, 0, 0⟩ (2 : Int) H37) (k t3.2.2.1 (0 : Int) H37)
def qM.l2 (x0 : Option Addr) (k : Sl → Int → AH → Prop) (n11 : Int) (t3 : Sl × Int × Sl × Int) (HL3 : AH) (it3 : (Sl × Int × Sl × Int) → AH → Prop) : Prop :=
 bcase (decide ((t3.2.2.2 : Int) < n11)) (onPtr x0 fun a17 => elP (AH.cell? HL3 (qlg a17 0)) fun p19 => qL p19 (qlf .i64 ((3 : Int) + t3.2.2.2)) HL3 fun n22a n22b H22 => bcase ((n22b : Int) != (0 : Int)) (k ⟨none, 0, 0⟩ n22b H22) (newC H22 ⟨[(qld .u64 n22a)], .rw, 1⟩ fun o30 H30 => appendC 1 H30 t3.2.2.1 ⟨(some ⟨o30, 0, none⟩), 1, 1⟩ fun s31 H31 => it3 (t3.1, t3.2.1, s31, (qlf .i64 (t3.2.2.2 + (1 : Int)))) H31)) (qM.j1 x0 k t3 HL3)
def qM.b (x0 : Option Addr) (H : AH) (k : Sl → Int → AH → Prop) : Prop :=
 onPtr x0 fun a9 => elI .i64 (AH.cell? H (qlg a9 2)) fun n11 => loopT (qM.l2 x0 k n11) ((⟨none, 0, 0⟩, (0 : Int), ⟨none, 0, 0⟩, (0 : Int)) : Sl × Int × Sl × Int) H
def qM.ann : Ann := { keep := fun r => match r with | 3 => [(2, .sl), (3, .int .i64), (4, .sl), (12, .int .i64)] | _ => [], ord := fun r => match r with  | _ => [] }
theorem qM.link {x0 : Option Addr} {H : AH} {k : Sl → Int → AH → Prop} (h : qM.b x0 H k) : qM x0 H k := lk2 pan hT hm Tryz.func158 (by kernel_rfl) (A := qM.ann) (by kernel_rfl) (by simp) (by simp) (by kernel_rfl) h
def qb3.b (x0 : Int) (H : AH) (k : Int → AH → Prop) : Prop :=
 bcase (decide ((x0 : Int) < (1 : Int))) (k (0 : Int) H) (k (qlf .u64 ((qlf .u64 x0) + (1 : Int))) H)
theorem qb3.link {x0 : Int} {H : AH} {k : Int → AH → Prop} (h : qb3.b x0 H k) : qb3 x0 H k := lk1 pan hT hm Tryz.func140 (by kernel_rfl) (A := ann0) (by kernel_rfl) (by simp) (by kernel_rfl) h
def qaV.j1 (k : Bool → AH → Prop) (t2 : Bool × Int) (it2 : (Bool × Int) → AH → Prop) (H16 : AH) (x33 : Bool) : Prop :=
 bcase x33 (k false H16) (it2 (t2.1, (qlf .i64 (t2.2 + (1 : Int)))) H16)
def qaV.l2 (x0 : Sl) (x1 : Int) (k : Bool → AH → Prop) (t2 : Bool × Int) (HL2 : AH) (it2 : (Bool × Int) → AH → Prop) : Prop :=
 bcase (decide ((t2.2 : Int) < ((x0.n : Nat) : Int))) ((0 ≤ t2.2 ∧ t2.2 < ((x0.n : Nat) : Int)) ∧ onPtr x0.a fun a12 => elI .u64 (AH.cell? HL2 (qlg a12 (qlp t2.2 * 1))) fun n13 => qb3 x1 HL2 fun n16 H16 => bcase (decide ((n13 : Int) > n16)) (qaV.j1 k t2 it2 H16 true) (bcase (decide ((t2.2 : Int) > (0 : Int))) (bcase ((n13 : Int) != (0 : Int)) ((0 ≤ (qlf .i64 (t2.2 - (1 : Int))) ∧ (qlf .i64 (t2.2 - (1 : Int))) < ((x0.n : Nat) : Int)) ∧ onPtr x0.a fun a29 => elI .u64 (AH.cell? H16 (qlg a29 (qlp (qlf .i64 (t2.2 - (1 : Int))) * 1))) fun n30 => qaV.j1 k t2 it2 H16 ((n30 : Int) == (0 : Int))) (qaV.j1 k t2 it2 H16 false)) (qaV.j1 k t2 it2 H16 false))) (k (decide ((x1 : Int) ≥ (1 : Int))) HL2)
def qaV.b (x0 : Sl) (x1 : Int) (H : AH) (k : Bool → AH → Prop) : Prop :=
 loopT (qaV.l2 x0 x1 k) ((false, (0 : Int)) : Bool × Int) H
def qaV.ann : Ann := { keep := fun r => match r with | 2 => [(4, .bool), (9, .int .i64)] | _ => [], ord := fun r => match r with  | _ => [] }
theorem qaV.link {x0 : Sl} {x1 : Int} {H : AH} {k : Bool → AH → Prop} (h : qaV.b x0 x1 H k) : qaV x0 x1 H k := lk1 pan hT hm Tryz.func169 (by kernel_rfl) (A := qaV.ann) (by kernel_rfl) (by simp) (by kernel_rfl) h
def qaS.j1 (x0 : Option Addr) (x1 : Int) (x2 : Int) (k : Option Addr → AH → Prop) (x31 : Bool) (Hj : AH) : Prop :=
 bcase x31 (k none Hj) (newC Hj ⟨[(qlk x0), (qld .i64 x1), (qld .i64 x2)], .rw, 0⟩ fun o36 H36 => qM (some ⟨o36, 0, none⟩) H36 fun s39a n39b H39 => bcase ((n39b : Int) != (0 : Int)) (k none H39) (qaV s39a x1 H39 fun b47 H47 => bcase (!b47) (k none H47) (k (some ⟨o36, 0, none⟩) H47)))
def qaS.b (x0 : Option Addr) (x1 : Int) (x2 : Int) (H : AH) (k : Option Addr → AH → Prop) : Prop :=
 bcase (qlH x0) (qaS.j1 x0 x1 x2 k true H) (bcase (decide ((x1 : Int) < (1 : Int))) (qaS.j1 x0 x1 x2 k true H) (bcase (decide ((x2 : Int) < (0 : Int))) (qaS.j1 x0 x1 x2 k true H) (bcase (decide ((x2 : Int) > (16 : Int))) (qaS.j1 x0 x1 x2 k true H) (qab x0 H fun n26 H26 => qaS.j1 x0 x1 x2 k (((qlf .i64 (n26 - x2)) : Int) != x1) H26))))
theorem qaS.link {x0 : Option Addr} {x1 : Int} {x2 : Int} {H : AH} {k : Option Addr → AH → Prop} (h : qaS.b x0 x1 x2 H k) : qaS x0 x1 x2 H k := lk1 pan hT hm Tryz.func131 (by kernel_rfl) (A := ann0) (by kernel_rfl) (by simp) (by kernel_rfl) h
def qba.j1 (x0 : Option Addr) (x1 : Int) (x3 : Int) (k : Option Addr → AH → Prop) (p32 : Option Addr) (H37 : AH) (x45 : Bool) : Prop :=
 bcase x45 (k none H37) (newC H37 ⟨[(qlk x0), (qlk p32), (qld .i64 x1), (qld .i64 x3), (qld .i64 (0 : Int))], .rw, 0⟩ fun o51 H51 => k (some ⟨o51, 0, none⟩) H51)
def qba.j2 (x0 : Option Addr) (x1 : Int) (x2 : Int) (x3 : Int) (k : Option Addr → AH → Prop) (x27 : Bool) (Hj : AH) : Prop :=
 bcase x27 (k none Hj) (qaS x0 (qlf .i64 (x1 + (1 : Int))) x2 Hj fun p32 H32 => bcase (qlH p32) (k none H32) (qL x0 (0 : Int) H32 fun n37a n37b H37 => bcase ((n37b : Int) != (0 : Int)) (qba.j1 x0 x1 x3 k p32 H37 true) (qba.j1 x0 x1 x3 k p32 H37 (decide ((n37a : Int) > (1099511627776 : Int))))))
def qba.b (x0 : Option Addr) (x1 : Int) (x2 : Int) (x3 : Int) (H : AH) (k : Option Addr → AH → Prop) : Prop :=
 bcase (decide ((x1 : Int) < (1 : Int))) (qba.j2 x0 x1 x2 x3 k true H) (qab x0 H fun n17 H17 => bcase (decide ((x1 : Int) > n17)) (qba.j2 x0 x1 x2 x3 k true H17) (bcase (decide ((x3 : Int) < (1 : Int))) (qba.j2 x0 x1 x2 x3 k true H17) (qba.j2 x0 x1 x2 x3 k (decide ((x3 : Int) > (1000 : Int))) H17)))
theorem qba.link {x0 : Option Addr} {x1 : Int} {x2 : Int} {x3 : Int} {H : AH} {k : Option Addr → AH → Prop} (h : qba.b x0 x1 x2 x3 H k) : qba x0 x1 x2 x3 H k := lk1 pan hT hm Tryz.func93 (by kernel_rfl) (A := ann0) (by kernel_rfl) (by simp) (by kernel_rfl) h
def qbK.b (x0 : Option Addr) (x1 : List Value) (H : AH) (k : Option Addr → AH → Prop) : Prop :=
 newC H ⟨x1, .rw, 0⟩ fun o3 H3 => ldA H3 ⟨o3, 0, none⟩ 4 fun c6 => elI .i64 (AH.cell? H3 (qlg ⟨o3, 0, none⟩ 1)) fun n9 => elI .i64 (AH.cell? H3 (qlg ⟨o3, 0, none⟩ 2)) fun n11 => qbw c6 H3 fun n7 H7 => AH.cell? H7 (qlg ⟨o3, 0, none⟩ 2) = some (qld .i64 n11) ∧ AH.cell? H7 (qlg ⟨o3, 0, none⟩ 1) = some (qld .i64 n9) ∧ qba x0 n7 n9 n11 H7 fun p12 H12 => k p12 H12
def qbK.ann : Ann := { keep := fun r => match r with  | _ => [], ord := fun r => match r with | 1 => [0, 1, 3, 4, 5, 6, 2, 7, 8] | _ => [] }
theorem qbK.link {x0 : Option Addr} {x1 : List Value} {H : AH} {k : Option Addr → AH → Prop} (h : qbK.b x0 x1 H k) : qbK x0 x1 H k := lk1 pan hT hm Tryz.func52 (by kernel_rfl) (A := qbK.ann) (by kernel_rfl) (by simp) (by kernel_rfl) h
def qbW.b (x0 : List Value) (H : AH) (k : Int → AH → Prop) : Prop :=
 newC H ⟨x0, .rw, 0⟩ fun o1 H1 => ldA H1 ⟨o1, 0, none⟩ 4 fun c3 => qbl c3 H1 fun b4 H4 => bcase (!b4) (k (0 : Int) H4) (elI .i64 (AH.cell? H4 (qlg ⟨o1, 0, none⟩ 0)) fun n7 => k (qlf .i64 (n7 * (8 : Int))) H4)
theorem qbW.link {x0 : List Value} {H : AH} {k : Int → AH → Prop} (h : qbW.b x0 H k) : qbW x0 H k := lk1 pan hT hm Tryz.func42 (by kernel_rfl) (A := ann0) (by kernel_rfl) (by simp) (by kernel_rfl) h
def qaZ.b (x0 : Int) (H : AH) (k : Bool → AH → Prop) : Prop :=
 bcase (decide ((x0 : Int) ≥ (8 : Int))) (bcase (decide ((x0 : Int) ≤ (512 : Int))) (((8 : Int) : Int) ≠ 0 ∧ k (((qmp x0 (8 : Int)) : Int) == (0 : Int)) H) (k false H)) (k false H)
theorem qaZ.link {x0 : Int} {H : AH} {k : Bool → AH → Prop} (h : qaZ.b x0 H k) : qaZ x0 H k := lk1 pan hT hm Tryz.func94 (by kernel_rfl) (A := ann0) (by kernel_rfl) (by simp) (by kernel_rfl) h
def qbj.b (x0 : Int) (H : AH) (k : Bool → AH → Prop) : Prop :=
 bcase (decide ((x0 : Int) ≥ (2 : Int))) (k (decide ((x0 : Int) ≤ (512 : Int))) H) (k false H)
theorem qbj.link {x0 : Int} {H : AH} {k : Bool → AH → Prop} (h : qbj.b x0 H k) : qbj x0 H k := lk1 pan hT hm Tryz.func129 (by kernel_rfl) (A := ann0) (by kernel_rfl) (by simp) (by kernel_rfl) h
def qbJ.b (x0 : Int) (x1 : Bool) (H : AH) (k : Int → AH → Prop) : Prop :=
 qbj x0 H fun b7 H7 => bcase (!b7) (k (0 : Int) H7) ((0 : Int) ≤ (1 : Int) ∧ bcase x1 (k (orI .u64 (shlI .u64 (qlf .u64 x0) (1 : Int)) (1 : Int)) H7) (k (shlI .u64 (qlf .u64 x0) (1 : Int)) H7))
theorem qbJ.link {x0 : Int} {x1 : Bool} {H : AH} {k : Int → AH → Prop} (h : qbJ.b x0 x1 H k) : qbJ x0 x1 H k := lk1 pan hT hm Tryz.func95 (by kernel_rfl) (A := ann0) (by kernel_rfl) (by simp) (by kernel_rfl) h
def qaX.b (x0 : Int) (H : AH) (k : Sl → AH → Prop) : Prop :=
 qaZ x0 H fun b5 H5 => bcase (!b5) (k ⟨none, 0, 0⟩ H5) ((0 ≤ x0 ∧ x0 ≤ x0 ∧ x0 ≤ (lim : Int)) ∧ newC H5 ⟨zerosOf (qlp x0) [(qld .u64 (0 : Int))], .rw, 1⟩ fun o8 H8 => qbJ x0 false H8 fun n11 H11 => (0 ≤ (0 : Int) ∧ (0 : Int) < (((qlp x0) : Nat) : Int)) ∧ stC H11 (qlg ⟨o8, 0, none⟩ (qlp (0 : Int) * 1)) [(qld .u64 n11)] fun Hs2 => k ⟨(some ⟨o8, 0, none⟩), (qlp x0), 1⟩ Hs2)
theorem qaX.link {x0 : Int} {H : AH} {k : Sl → AH → Prop} (h : qaX.b x0 H k) : qaX x0 H k := lk1 pan hT hm Tryz.func53 (by kernel_rfl) (A := ann0) (by kernel_rfl) (by simp) (by kernel_rfl) h
def qbr.b (x0 : List Value) (x1 : Int) (H : AH) (k : Int → AH → Prop) : Prop :=
 newC H ⟨x0, .rw, 0⟩ fun o2 H2 => ldA H2 ⟨o2, 0, none⟩ 4 fun c5 => qbl c5 H2 fun b6 H6 => bcase (!b6) (k (-1 : Int) H6) (bcase (decide ((x1 : Int) < (0 : Int))) (k (-1 : Int) H6) (elI .i64 (AH.cell? H6 (qlg ⟨o2, 0, none⟩ 0)) fun n15 => bcase (decide ((x1 : Int) ≥ n15)) (k (-1 : Int) H6) (k (qlf .i64 ((16 : Int) + x1)) H6)))
theorem qbr.link {x0 : List Value} {x1 : Int} {H : AH} {k : Int → AH → Prop} (h : qbr.b x0 x1 H k) : qbr x0 x1 H k := lk1 pan hT hm Tryz.func55 (by kernel_rfl) (A := ann0) (by kernel_rfl) (by simp) (by kernel_rfl) h
def qa1.j1 (x0 : Option Addr) (H : AH) (k : Int → AH → Prop) (x5 : Bool) : Prop :=
 bcase x5 (k (1 : Int) H) (onPtr x0 fun a22 => elP (AH.cell? H (qlg a22 0)) fun p24 => qal p24 H fun b25 H25 => bcase b25 (k (2 : Int) H25) (k (0 : Int) H25))
def qa1.b (x0 : Option Addr) (x1 : Int) (H : AH) (k : Int → AH → Prop) : Prop :=
 bcase (qlH x0) (qa1.j1 x0 H k true) (bcase (decide ((x1 : Int) < (0 : Int))) (qa1.j1 x0 H k true) (onPtr x0 fun a15 => elI .i64 (AH.cell? H (qlg a15 2)) fun n17 => qa1.j1 x0 H k (decide ((x1 : Int) ≥ n17))))
theorem qa1.link {x0 : Option Addr} {x1 : Int} {H : AH} {k : Int → AH → Prop} (h : qa1.b x0 x1 H k) : qa1 x0 x1 H k := lk1 pan hT hm Tryz.func96 (by kernel_rfl) (A := ann0) (by kernel_rfl) (by simp) (by kernel_rfl) h
def qbn.b (x0 : Option Addr) (H : AH) (k : Int → AH → Prop) : Prop :=
 bcase (qlH x0) (k (0 : Int) H) (onPtr x0 fun a9 => elP (AH.cell? H (qlg a9 0)) fun p11 => qL p11 (0 : Int) H fun n12a n12b H12 => k (qlf .i64 n12a) H12)
theorem qbn.link {x0 : Option Addr} {H : AH} {k : Int → AH → Prop} (h : qbn.b x0 H k) : qbn x0 H k := lk1 pan hT hm Tryz.func99 (by kernel_rfl) (A := ann0) (by kernel_rfl) (by simp) (by kernel_rfl) h
def gap_may.b (x0 : Int) (x1 : Int) (H : AH) (k : Bool → AH → Prop) : Prop :=
 bcase (decide ((x0 : Int) ≥ (1 : Int))) (bcase (decide ((x0 : Int) ≤ (100000 : Int))) (k (decide ((x1 : Int) ≥ (0 : Int))) H) (k false H)) (k false H)
theorem gap_may.link {x0 : Int} {x1 : Int} {H : AH} {k : Bool → AH → Prop} (h : gap_may.b x0 x1 H k) : gap_may x0 x1 H k := lk1 pan hT hm Tryz.func134 (by kernel_rfl) (A := ann0) (by kernel_rfl) (by simp) (by kernel_rfl) h
def qct.b (x0 : Int) (x1 : Int) (H : AH) (k : Int → AH → Prop) : Prop :=
 ((qlf .i64 (x0 + (1 : Int))) : Int) ≠ 0 ∧ (x0 : Int) ≠ 0 ∧ k (qmp (qlf .i64 (qmy x1 (qlf .i64 (x0 + (1 : Int))))) x0) H
theorem qct.link {x0 : Int} {x1 : Int} {H : AH} {k : Int → AH → Prop} (h : qct.b x0 x1 H k) : qct x0 x1 H k := lk1 pan hT hm Tryz.func135 (by kernel_rfl) (A := ann0) (by kernel_rfl) (by simp) (by kernel_rfl) h
def gap_Gap.b (x0 : Int) (x1 : Int) (H : AH) (k : Int → AH → Prop) : Prop :=
 gap_may x0 x1 H fun b7 H7 => bcase (!b7) (k (-1 : Int) H7) (((qlf .i64 (x0 + (1 : Int))) : Int) ≠ 0 ∧ k (qlf .i64 (x0 - (qmp x1 (qlf .i64 (x0 + (1 : Int)))))) H7)
theorem gap_Gap.link {x0 : Int} {x1 : Int} {H : AH} {k : Int → AH → Prop} (h : gap_Gap.b x0 x1 H k) : gap_Gap x0 x1 H k := lk1 pan hT hm Tryz.func136 (by kernel_rfl) (A := ann0) (by kernel_rfl) (by simp) (by kernel_rfl) h
def qbO.j1 (x0 : Int) (x1 : Int) (x2 : Int) (k : Int → AH → Prop) (H10 : AH) (x20 : Bool) : Prop :=
 bcase x20 (k (-1 : Int) H10) (qct x0 x1 H10 fun n24 H24 => (x0 : Int) ≠ 0 ∧ gap_Gap x0 x1 H24 fun n31 H31 => bcase (decide (((qmp (qlf .i64 (x2 + n24)) x0) : Int) ≥ n31)) (k (qlf .i64 ((qmp (qlf .i64 (x2 + n24)) x0) + (1 : Int))) H31) (k (qmp (qlf .i64 (x2 + n24)) x0) H31))
def qbO.b (x0 : Int) (x1 : Int) (x2 : Int) (H : AH) (k : Int → AH → Prop) : Prop :=
 gap_may x0 x1 H fun b10 H10 => bcase (!b10) (qbO.j1 x0 x1 x2 k H10 true) (bcase (decide ((x2 : Int) < (0 : Int))) (qbO.j1 x0 x1 x2 k H10 true) (qbO.j1 x0 x1 x2 k H10 (decide ((x2 : Int) ≥ x0))))
theorem qbO.link {x0 : Int} {x1 : Int} {x2 : Int} {H : AH} {k : Int → AH → Prop} (h : qbO.b x0 x1 x2 H k) : qbO x0 x1 x2 H k := lk1 pan hT hm Tryz.func98 (by kernel_rfl) (A := ann0) (by kernel_rfl) (by simp) (by kernel_rfl) h
def qaF.l1 (x0 : Sl) (x1 : Int) (x2 : Int) (k : Int → AH → Prop) (t4 : Int × Int) (HL4 : AH) (it4 : (Int × Int) → AH → Prop) : Prop :=
 bcase (decide ((t4.2 : Int) ≥ (0 : Int))) ((0 ≤ t4.2 ∧ t4.2 < ((x0.n : Nat) : Int)) ∧ onPtr x0.a fun a24 => elI .u64 (AH.cell? HL4 (qlg a24 (qlp t4.2 * 1))) fun n25 => bcase ((n25 : Int) == (qlf .u64 ((qlf .u64 x2) + (1 : Int)))) (k (qlf .i64 (x1 + t4.2)) HL4) (it4 (t4.1, (qlf .i64 (t4.2 - (1 : Int)))) HL4)) (k x2 HL4)
def qaF.j2 (x0 : Sl) (x1 : Int) (x2 : Int) (H : AH) (k : Int → AH → Prop) (x14 : Bool) : Prop :=
 bcase x14 (k (-1 : Int) H) (loopT (qaF.l1 x0 x1 x2 k) (((0 : Int), (qlf .i64 (((x0.n : Nat) : Int) - (1 : Int)))) : Int × Int) H)
def qaF.b (x0 : Sl) (x1 : Int) (x2 : Int) (H : AH) (k : Int → AH → Prop) : Prop :=
 bcase (decide ((x2 : Int) < (0 : Int))) (qaF.j2 x0 x1 x2 H k true) (qaF.j2 x0 x1 x2 H k (decide ((x2 : Int) ≥ x1)))
def qaF.ann : Ann := { keep := fun r => match r with | 4 => [(6, .int .i64), (7, .int .i64)] | _ => [], ord := fun r => match r with  | _ => [] }
theorem qaF.link {x0 : Sl} {x1 : Int} {x2 : Int} {H : AH} {k : Int → AH → Prop} (h : qaF.b x0 x1 x2 H k) : qaF x0 x1 x2 H k := lk1 pan hT hm Tryz.func170 (by kernel_rfl) (A := qaF.ann) (by kernel_rfl) (by simp) (by kernel_rfl) h
def qat.j1 (x0 : Option Addr) (x1 : Int) (H : AH) (k : Int → Sl → Int → AH → Prop) (x22 : Bool) : Prop :=
 bcase x22 (k (0 : Int) ⟨none, 0, 0⟩ (1 : Int) H) (qM x0 H fun s25a n25b H25 => onPtr x0 fun a30 => elI .i64 (AH.cell? H25 (qlg a30 1)) fun n32 => qaF s25a n32 x1 H25 fun n34 H34 => k n34 s25a n25b H34)
def qat.b (x0 : Option Addr) (x1 : Int) (H : AH) (k : Int → Sl → Int → AH → Prop) : Prop :=
 bcase (qlH x0) (qat.j1 x0 x1 H k true) (bcase (decide ((x1 : Int) < (0 : Int))) (qat.j1 x0 x1 H k true) (onPtr x0 fun a18 => elI .i64 (AH.cell? H (qlg a18 1)) fun n20 => qat.j1 x0 x1 H k (decide ((x1 : Int) ≥ n20))))
theorem qat.link {x0 : Option Addr} {x1 : Int} {H : AH} {k : Int → Sl → Int → AH → Prop} (h : qat.b x0 x1 H k) : qat x0 x1 H k := lk3 pan hT hm Tryz.func132 (by kernel_rfl) (A := ann0) (by kernel_rfl) (by simp) (by simp) (by simp) (by kernel_rfl) h
def qbb.b (x0 : Option Addr) (x1 : Int) (H : AH) (k : Bool → AH → Prop) : Prop :=
 bcase (decide ((x1 : Int) ≥ (0 : Int))) (qab x0 H fun n10 H10 => k (decide ((x1 : Int) < n10)) H10) (k false H)
theorem qbb.link {x0 : Option Addr} {x1 : Int} {H : AH} {k : Bool → AH → Prop} (h : qbb.b x0 x1 H k) : qbb x0 x1 H k := lk1 pan hT hm Tryz.func171 (by kernel_rfl) (A := ann0) (by kernel_rfl) (by simp) (by kernel_rfl) h
def qby.b (x0 : Option Addr) (x1 : Int) (H : AH) (k : List Value → Int → AH → Prop) : Prop :=
 newC H ⟨[(qld .u64 (0 : Int)), (qld .u64 (0 : Int)), (qld .u64 (0 : Int)), (qld .u64 (0 : Int)), (qld .u64 (0 : Int)), (qld .u64 (0 : Int)), (qld .u64 (0 : Int)), (qld .u64 (0 : Int))], .rw, 0⟩ fun o4 H4 => qbb x0 x1 H4 fun b9 H9 => bcase (!b9) ((qlu [(qld .u64 (0 : Int)), (qld .u64 (0 : Int)), (qld .u64 (0 : Int)), (qld .u64 (0 : Int)), (qld .u64 (0 : Int)), (qld .u64 (0 : Int)), (qld .u64 (0 : Int)), (qld .u64 (0 : Int))] = 8 ∧ ql3 [(qld .u64 (0 : Int)), (qld .u64 (0 : Int)), (qld .u64 (0 : Int)), (qld .u64 (0 : Int)), (qld .u64 (0 : Int)), (qld .u64 (0 : Int)), (qld .u64 (0 : Int)), (qld .u64 (0 : Int))] qp = true) ∧ stC H9 ⟨o4, 0, none⟩ [(qld .u64 (0 : Int)), (qld .u64 (0 : Int)), (qld .u64 (0 : Int)), (qld .u64 (0 : Int)), (qld .u64 (0 : Int)), (qld .u64 (0 : Int)), (qld .u64 (0 : Int)), (qld .u64 (0 : Int))] fun Hs2 => ldA Hs2 ⟨o4, 0, none⟩ 8 fun r0 => k r0 (1 : Int) Hs2) (onPtr x0 fun a14 => elB (AH.cell? H9 (qlg a14 39)) fun b16 => bcase b16 ((qlu [(qld .u64 (0 : Int)), (qld .u64 (0 : Int)), (qld .u64 (0 : Int)), (qld .u64 (0 : Int)), (qld .u64 (0 : Int)), (qld .u64 (0 : Int)), (qld .u64 (0 : Int)), (qld .u64 (0 : Int))] = 8 ∧ ql3 [(qld .u64 (0 : Int)), (qld .u64 (0 : Int)), (qld .u64 (0 : Int)), (qld .u64 (0 : Int)), (qld .u64 (0 : Int)), (qld .u64 (0 : Int)), (qld .u64 (0 : Int)), (qld .u64 (0 : Int))] qp = true) ∧ stC H9 ⟨o4, 0, none⟩ [(qld .u64 (0 : Int)), (qld .u64 (0 : Int)), (qld .u64 (0 : Int)), (qld .u64 (0 : Int)), (qld .u64 (0 : Int)), (qld .u64 (0 : Int)), (qld .u64 (0 : Int)), (qld .u64 (0 : Int))] fun Hs4 => ldA Hs4 ⟨o4, 0, none⟩ 8 fun r0 => k r0 (2 : Int) Hs4) (onPtr x0 fun a19 => elL (AH.cell? H9 (qlg a19 0)) fun s21 => (0 ≤ x1 ∧ x1 < ((s21.n : Nat) : Int)) ∧ onPtr s21.a fun a23 => ldA H9 (qlg (qlg a23 (qlp x1 * 10)) 0) 8 fun c25 => (qlu c25 = 8 ∧ ql3 c25 qp = true) ∧ stC H9 ⟨o4, 0, none⟩ c25 fun Hs6 => ldA Hs6 ⟨o4, 0, none⟩ 8 fun r0 => k r0 (0 : Int) Hs6))
theorem qby.link {x0 : Option Addr} {x1 : Int} {H : AH} {k : List Value → Int → AH → Prop} (h : qby.b x0 x1 H k) : qby x0 x1 H k := lk2 pan hT hm Tryz.func133 (by kernel_rfl) (A := ann0) (by kernel_rfl) (by simp) (by simp) (by kernel_rfl) h
def qbH.b (x0 : Option Addr) (x1 : Int) (H : AH) (k : List Value → Int → AH → Prop) : Prop :=
 newC H ⟨[(qld .u64 (0 : Int)), (qld .u64 (0 : Int)), (qld .u64 (0 : Int)), (qld .u64 (0 : Int)), (qld .u64 (0 : Int)), (qld .u64 (0 : Int)), (qld .u64 (0 : Int)), (qld .u64 (0 : Int))], .rw, 0⟩ fun o4 H4 => qat x0 x1 H4 fun n12a s12b n12c H12 => bcase ((n12c : Int) != (0 : Int)) ((qlu [(qld .u64 (0 : Int)), (qld .u64 (0 : Int)), (qld .u64 (0 : Int)), (qld .u64 (0 : Int)), (qld .u64 (0 : Int)), (qld .u64 (0 : Int)), (qld .u64 (0 : Int)), (qld .u64 (0 : Int))] = 8 ∧ ql3 [(qld .u64 (0 : Int)), (qld .u64 (0 : Int)), (qld .u64 (0 : Int)), (qld .u64 (0 : Int)), (qld .u64 (0 : Int)), (qld .u64 (0 : Int)), (qld .u64 (0 : Int)), (qld .u64 (0 : Int))] qp = true) ∧ stC H12 ⟨o4, 0, none⟩ [(qld .u64 (0 : Int)), (qld .u64 (0 : Int)), (qld .u64 (0 : Int)), (qld .u64 (0 : Int)), (qld .u64 (0 : Int)), (qld .u64 (0 : Int)), (qld .u64 (0 : Int)), (qld .u64 (0 : Int))] fun Hs2 => ldA Hs2 ⟨o4, 0, none⟩ 8 fun r0 => k r0 n12c Hs2) (onPtr x0 fun a21 => elP (AH.cell? H12 (qlg a21 0)) fun p23 => qby p23 n12a H12 fun c25a n25b H25 => (qlu c25a = 8 ∧ ql3 c25a qp = true) ∧ stC H25 ⟨o4, 0, none⟩ c25a fun Hs4 => ldA Hs4 ⟨o4, 0, none⟩ 8 fun r0 => k r0 n25b Hs4)
theorem qbH.link {x0 : Option Addr} {x1 : Int} {H : AH} {k : List Value → Int → AH → Prop} (h : qbH.b x0 x1 H k) : qbH x0 x1 H k := lk2 pan hT hm Tryz.func97 (by kernel_rfl) (A := ann0) (by kernel_rfl) (by simp) (by simp) (by kernel_rfl) h
def qa0.b (x0 : Option Addr) (x1 : Int) (H : AH) (k : List Value → Int → AH → Prop) : Prop :=
 newC H ⟨[(qld .u64 (0 : Int)), (qld .u64 (0 : Int)), (qld .u64 (0 : Int)), (qld .u64 (0 : Int)), (qld .u64 (0 : Int)), (qld .u64 (0 : Int)), (qld .u64 (0 : Int)), (qld .u64 (0 : Int))], .rw, 0⟩ fun o4 H4 => qa1 x0 x1 H4 fun n9 H9 => bcase ((n9 : Int) != (0 : Int)) ((qlu [(qld .u64 (0 : Int)), (qld .u64 (0 : Int)), (qld .u64 (0 : Int)), (qld .u64 (0 : Int)), (qld .u64 (0 : Int)), (qld .u64 (0 : Int)), (qld .u64 (0 : Int)), (qld .u64 (0 : Int))] = 8 ∧ ql3 [(qld .u64 (0 : Int)), (qld .u64 (0 : Int)), (qld .u64 (0 : Int)), (qld .u64 (0 : Int)), (qld .u64 (0 : Int)), (qld .u64 (0 : Int)), (qld .u64 (0 : Int)), (qld .u64 (0 : Int))] qp = true) ∧ stC H9 ⟨o4, 0, none⟩ [(qld .u64 (0 : Int)), (qld .u64 (0 : Int)), (qld .u64 (0 : Int)), (qld .u64 (0 : Int)), (qld .u64 (0 : Int)), (qld .u64 (0 : Int)), (qld .u64 (0 : Int)), (qld .u64 (0 : Int))] fun Hs2 => ldA Hs2 ⟨o4, 0, none⟩ 8 fun r0 => k r0 n9 Hs2) (onPtr x0 fun a15 => elP (AH.cell? H9 (qlg a15 1)) fun p17 => onPtr x0 fun a19 => elI .i64 (AH.cell? H9 (qlg a19 2)) fun n21 => qbn x0 H9 fun n23 H23 => AH.cell? H23 (qlg a19 2) = some (qld .i64 n21) ∧ AH.cell? H23 (qlg a15 1) = some (qlk p17) ∧ qbO n21 n23 x1 H23 fun n25 H25 => AH.cell? H25 (qlg a15 1) = some (qlk p17) ∧ qbH p17 n25 H25 fun c26a n26b H26 => (qlu c26a = 8 ∧ ql3 c26a qp = true) ∧ stC H26 ⟨o4, 0, none⟩ c26a fun Hs4 => ldA Hs4 ⟨o4, 0, none⟩ 8 fun r0 => k r0 n26b Hs4)
def qa0.ann : Ann := { keep := fun r => match r with  | _ => [], ord := fun r => match r with | 4 => [0, 1, 2, 3, 4, 5, 6, 7, 8, 10, 9, 11, 12, 13, 14, 15, 16] | _ => [] }
theorem qa0.link {x0 : Option Addr} {x1 : Int} {H : AH} {k : List Value → Int → AH → Prop} (h : qa0.b x0 x1 H k) : qa0 x0 x1 H k := lk2 pan hT hm Tryz.func54 (by kernel_rfl) (A := qa0.ann) (by kernel_rfl) (by simp) (by simp) (by kernel_rfl) h
def qbi.b (x0 : Sl) (x1 : Int) (H : AH) (k : List Value → AH → Prop) : Prop :=
 newC H ⟨[(qld .u64 (0 : Int)), (qld .u64 (0 : Int)), (qld .u64 (0 : Int)), (qld .u64 (0 : Int)), (qld .u64 (0 : Int)), (qld .u64 (0 : Int)), (qld .u64 (0 : Int)), (qld .u64 (0 : Int))], .rw, 0⟩ fun o4 H4 => newC H4 ⟨[(qld .u64 (0 : Int)), (qld .u64 (0 : Int)), (qld .u64 (0 : Int)), (qld .u64 (0 : Int)), (qld .u64 (0 : Int)), (qld .u64 (0 : Int)), (qld .u64 (0 : Int)), (qld .u64 (0 : Int))], .rw, 0⟩ fun o5 H5 => (0 ≤ (qlf .i64 (x1 * (8 : Int))) ∧ (qlf .i64 (x1 * (8 : Int))) ≤ ((x0.n : Nat) : Int)) ∧ copyC 1 H5 ⟨(some ⟨o5, 0, none⟩), 8, 0⟩ ⟨(Option.map (fun x => qlg x (qlp (qlf .i64 (x1 * (8 : Int))) * 1)) x0.a), (x0.n - qlp (qlf .i64 (x1 * (8 : Int)))), 0⟩ fun n11 H11 => ldA H11 ⟨o5, 0, none⟩ 8 fun c12 => (qlu c12 = 8 ∧ ql3 c12 qp = true) ∧ stC H11 ⟨o4, 0, none⟩ c12 fun Hs2 => ldA Hs2 ⟨o4, 0, none⟩ 8 fun r0 => k r0 Hs2
def qbi.ann : Ann := { keep := fun r => match r with  | _ => [], ord := fun r => match r with | 2 => [0, 1, 2, 3, 4, 5] | _ => [] }
theorem qbi.link {x0 : Sl} {x1 : Int} {H : AH} {k : List Value → AH → Prop} (h : qbi.b x0 x1 H k) : qbi x0 x1 H k := lk1 pan hT hm Tryz.func56 (by kernel_rfl) (A := qbi.ann) (by kernel_rfl) (by simp) (by kernel_rfl) h
def qcJ.b (x0 : Int) (x1 : Int) (H : AH) (k : Int → Int → AH → Prop) : Prop :=
 gap_Gap x0 x1 H fun n8 H8 => bcase ((n8 : Int) == (-1 : Int)) (k (-1 : Int) (-1 : Int) H8) (bcase ((n8 : Int) == (0 : Int)) (k x0 (0 : Int) H8) (k (qlf .i64 (n8 - (1 : Int))) n8 H8))
theorem qcJ.link {x0 : Int} {x1 : Int} {H : AH} {k : Int → Int → AH → Prop} (h : qcJ.b x0 x1 H k) : qcJ x0 x1 H k := lk2 pan hT hm Tryz.func137 (by kernel_rfl) (A := ann0) (by kernel_rfl) (by simp) (by simp) (by kernel_rfl) h
def qaO.b (x0 : Option Addr) (H : AH) (k : Int → AH → Prop) : Prop :=
 onPtr x0 fun a4 => elI .i64 (AH.cell? H (qlg a4 36)) fun n6 => onPtr x0 fun a8 => stC H (qlg a8 36) [(qld .i64 (qlf .i64 (n6 + (1 : Int))))] fun Hs2 => onPtr x0 fun a12 => elI .i64 (AH.cell? Hs2 (qlg a12 37)) fun n14 => bcase ((n14 : Int) == (0 : Int)) (onPtr x0 fun a17 => stC Hs2 (qlg a17 39) [(ql6 true)] fun Hs4 => onPtr x0 fun a20 => elI .i64 (AH.cell? Hs4 (qlg a20 38)) fun n22 => k n22 Hs4) (onPtr x0 fun a25 => elI .i64 (AH.cell? Hs2 (qlg a25 37)) fun n27 => bcase (decide ((n27 : Int) > (0 : Int))) (onPtr x0 fun a30 => elI .i64 (AH.cell? Hs2 (qlg a30 37)) fun n32 => onPtr x0 fun a34 => stC Hs2 (qlg a34 37) [(qld .i64 (qlf .i64 (n32 - (1 : Int))))] fun Hs6 => k (-1 : Int) Hs6) (k (-1 : Int) Hs2))
theorem qaO.link {x0 : Option Addr} {H : AH} {k : Int → AH → Prop} (h : qaO.b x0 H k) : qaO x0 H k := lk1 pan hT hm Tryz.func156 (by kernel_rfl) (A := ann0) (by kernel_rfl) (by simp) (by kernel_rfl) h
def qbE.j1 (k : List Value → AH → Prop) (o3 : Nat) (o6 : Nat) (HL2 : AH) : Prop :=
 ldA HL2 ⟨o3, 0, none⟩ 8 fun c23 => (qlu c23 = 8 ∧ ql3 c23 qp = true) ∧ stC HL2 ⟨o6, 0, none⟩ c23 fun Hs2 => ldA Hs2 ⟨o6, 0, none⟩ 8 fun r0 => k r0 Hs2
def qbE.l2 (x2 : Int) (k : List Value → AH → Prop) (o3 : Nat) (o6 : Nat) (c9 : List Value) (t2 : Int) (HL2 : AH) (it2 : (Int) → AH → Prop) : Prop :=
 bcase (decide ((t2 : Int) < (8 : Int))) ((0 ≤ t2 ∧ t2 < ((8 : Nat) : Int)) ∧ elI .u64 ((c9)[(qlp t2 * 1)]?) fun n13 => (0 : Int) ≤ t2 ∧ bcase (((andI .i64 (shrI .i64 x2 t2) (1 : Int)) : Int) == (1 : Int)) ((0 ≤ t2 ∧ t2 < ((8 : Nat) : Int)) ∧ stC HL2 (qlg ⟨o3, 0, none⟩ (qlp t2 * 1)) [(qld .u64 n13)] fun Hs4 => it2 (qlf .i64 (t2 + (1 : Int))) Hs4) (it2 (qlf .i64 (t2 + (1 : Int))) HL2)) (qbE.j1 k o3 o6 HL2)
def qbE.b (x0 : List Value) (x1 : List Value) (x2 : Int) (H : AH) (k : List Value → AH → Prop) : Prop :=
 newC H ⟨x0, .rw, 0⟩ fun o3 H3 => newC H3 ⟨x1, .rw, 0⟩ fun o4 H4 => newC H4 ⟨[(qld .u64 (0 : Int)), (qld .u64 (0 : Int)), (qld .u64 (0 : Int)), (qld .u64 (0 : Int)), (qld .u64 (0 : Int)), (qld .u64 (0 : Int)), (qld .u64 (0 : Int)), (qld .u64 (0 : Int))], .rw, 0⟩ fun o6 H6 => ldA H6 ⟨o4, 0, none⟩ 8 fun c9 => loopT (qbE.l2 x2 k o3 o6 c9) (((0 : Int)) : Int) H6
def qbE.ann : Ann := { keep := fun r => match r with | 2 => [(10, .int .i64)] | _ => [], ord := fun r => match r with  | _ => [] }
theorem qbE.link {x0 : List Value} {x1 : List Value} {x2 : Int} {H : AH} {k : List Value → AH → Prop} (h : qbE.b x0 x1 x2 H k) : qbE x0 x1 x2 H k := lk1 pan hT hm Tryz.func172 (by kernel_rfl) (A := qbE.ann) (by kernel_rfl) (by simp) (by kernel_rfl) h
def qaG.b (x0 : Option Addr) (x1 : Bool) (H : AH) (k : Int → AH → Prop) : Prop :=
 onPtr x0 fun a7 => elB (AH.cell? H (qlg a7 39)) fun b9 => bcase b9 (k (2 : Int) H) (bcase x1 (k (3 : Int) H) (k (0 : Int) H))
theorem qaG.link {x0 : Option Addr} {x1 : Bool} {H : AH} {k : Int → AH → Prop} (h : qaG.b x0 x1 H k) : qaG x0 x1 H k := lk1 pan hT hm Tryz.func157 (by kernel_rfl) (A := ann0) (by kernel_rfl) (by simp) (by kernel_rfl) h
def qR.j1 (x0 : Option Addr) (k : Int → AH → Prop) (x9 : Bool) (Hj : AH) : Prop :=
 qaG x0 x9 Hj fun n65 H65 => k n65 H65
def qR.j2 (x0 : Option Addr) (x1 : Int) (k : Int → AH → Prop) (o5 : Nat) (H21 : AH) (n21 : Int) (a27 : Addr) (x9 : Bool) : Prop :=
 bcase (!x9) (ldA H21 (qlg (qlg a27 (qlp x1 * 10)) 0) 8 fun c50 => ldA H21 ⟨o5, 0, none⟩ 8 fun c51 => qbE c50 c51 n21 H21 fun c53 H53 => (qlu c53 = 8 ∧ ql3 c53 qp = true) ∧ stC H53 (qlg (qlg a27 (qlp x1 * 10)) 0) c53 fun Hs2 => elI .i64 (AH.cell? Hs2 (qlg (qlg a27 (qlp x1 * 10)) 8)) fun n59 => stC Hs2 (qlg (qlg a27 (qlp x1 * 10)) 8) [(qld .i64 (qlf .i64 (n59 + (1 : Int))))] fun Hs4 => qR.j1 x0 k x9 Hs4) (qR.j1 x0 k x9 H21)
def qR.b (x0 : Option Addr) (x1 : Int) (x2 : List Value) (H : AH) (k : Int → AH → Prop) : Prop :=
 newC H ⟨x2, .rw, 0⟩ fun o5 H5 => qbb x0 x1 H5 fun b13 H13 => bcase (!b13) (k (1 : Int) H13) (onPtr x0 fun a17 => elB (AH.cell? H13 (qlg a17 39)) fun b19 => bcase b19 (k (2 : Int) H13) (qaO x0 H13 fun n21 H21 => onPtr x0 fun a23 => elL (AH.cell? H21 (qlg a23 0)) fun s25 => (0 ≤ x1 ∧ x1 < ((s25.n : Nat) : Int)) ∧ onPtr s25.a fun a27 => elI .i64 (AH.cell? H21 (qlg (qlg a27 (qlp x1 * 10)) 9)) fun n31 => bcase (decide ((n31 : Int) ≥ (0 : Int))) (elI .i64 (AH.cell? H21 (qlg (qlg a27 (qlp x1 * 10)) 8)) fun n37 => elI .i64 (AH.cell? H21 (qlg (qlg a27 (qlp x1 * 10)) 9)) fun n41 => qR.j2 x0 x1 k o5 H21 n21 a27 (decide ((n37 : Int) ≥ n41))) (qR.j2 x0 x1 k o5 H21 n21 a27 false)))
def qR.ann : Ann := { keep := fun r => match r with  | _ => [], ord := fun r => match r with | 7 => [0, 1, 2, 3, 4, 5, 6, 7, 8, 9, 10, 11, 12, 13, 14, 15, 16] | 9 => [0, 1, 2, 3, 4, 5, 6, 7, 8, 9, 10] | _ => [] }
theorem qR.link {x0 : Option Addr} {x1 : Int} {x2 : List Value} {H : AH} {k : Int → AH → Prop} (h : qR.b x0 x1 x2 H k) : qR x0 x1 x2 H k := lk1 pan hT hm Tryz.func138 (by kernel_rfl) (A := qR.ann) (by kernel_rfl) (by simp) (by kernel_rfl) h
def qbu.l1 (x0 : Sl) (k : Int → AH → Prop) (t2 : Int × Int) (HL2 : AH) (it2 : (Int × Int) → AH → Prop) : Prop :=
 bcase (decide ((t2.2 : Int) < ((x0.n : Nat) : Int))) ((0 ≤ t2.2 ∧ t2.2 < ((x0.n : Nat) : Int)) ∧ onPtr x0.a fun a10 => elI .u64 (AH.cell? HL2 (qlg a10 (qlp t2.2 * 1))) fun n11 => bcase ((n11 : Int) == (0 : Int)) (k t2.2 HL2) (it2 (t2.1, (qlf .i64 (t2.2 + (1 : Int)))) HL2)) (k (-1 : Int) HL2)
def qbu.b (x0 : Sl) (H : AH) (k : Int → AH → Prop) : Prop :=
 loopT (qbu.l1 x0 k) (((0 : Int), (0 : Int)) : Int × Int) H
def qbu.ann : Ann := { keep := fun r => match r with | 2 => [(2, .int .i64), (7, .int .i64)] | _ => [], ord := fun r => match r with  | _ => [] }
theorem qbu.link {x0 : Sl} {H : AH} {k : Int → AH → Prop} (h : qbu.b x0 H k) : qbu x0 H k := lk1 pan hT hm Tryz.func139 (by kernel_rfl) (A := qbu.ann) (by kernel_rfl) (by simp) (by kernel_rfl) h
def qF.j1 (x0 : Option Addr) (k : Int → AH → Prop) (Hj : AH) : Prop :=
 qaG x0 false Hj fun n28 H28 => k n28 H28
def qF.b (x0 : Option Addr) (x1 : Int) (x2 : Int) (H : AH) (k : Int → AH → Prop) : Prop :=
 qaH x0 x1 H fun b10 H10 => bcase (!b10) (k (1 : Int) H10) (onPtr x0 fun a14 => elB (AH.cell? H10 (qlg a14 39)) fun b16 => bcase b16 (k (2 : Int) H10) (qaO x0 H10 fun n18 H18 => bcase (((andI .i64 n18 (1 : Int)) : Int) == (1 : Int)) (onPtr x0 fun a24 => (0 ≤ x1 ∧ x1 < ((35 : Nat) : Int)) ∧ stC H18 (qlg (qlg a24 1) (qlp x1 * 1)) [(qld .u64 x2)] fun Hs2 => qF.j1 x0 k Hs2) (qF.j1 x0 k H18)))
theorem qF.link {x0 : Option Addr} {x1 : Int} {x2 : Int} {H : AH} {k : Int → AH → Prop} (h : qF.b x0 x1 x2 H k) : qF x0 x1 x2 H k := lk1 pan hT hm Tryz.func118 (by kernel_rfl) (A := ann0) (by kernel_rfl) (by simp) (by kernel_rfl) h
def qay.l1 (x0 : Option Addr) (x1 : Int) (k : Int → AH → Prop) (o5 : Nat) (t11 : Int × Int) (HL11 : AH) (it11 : (Int × Int) → AH → Prop) : Prop :=
 onPtr x0 fun a43 => elI .i64 (AH.cell? HL11 (qlg a43 2)) fun n45 => bcase (decide ((t11.2 : Int) < n45)) (onPtr x0 fun a53 => elP (AH.cell? HL11 (qlg a53 0)) fun p55 => onPtr x0 fun a57 => elI .i64 (AH.cell? HL11 (qlg a57 1)) fun n59 => ldA HL11 ⟨o5, 0, none⟩ 8 fun c62 => qR p55 (qlf .i64 (n59 + t11.2)) c62 HL11 fun n63 H63 => bcase ((n63 : Int) == (0 : Int)) (onPtr x0 fun a69 => elP (AH.cell? H63 (qlg a69 0)) fun p71 => qF p71 (qlf .i64 ((3 : Int) + t11.2)) (qlf .u64 ((qlf .u64 x1) + (1 : Int))) H63 fun n75 H75 => k n75 H75) (bcase ((n63 : Int) == (3 : Int)) (onPtr x0 fun a79 => elI .i64 (AH.cell? H63 (qlg a79 1)) fun n81 => qb3 n81 H63 fun n82 H82 => onPtr x0 fun a84 => elP (AH.cell? H82 (qlg a84 0)) fun p86 => qF p86 (qlf .i64 ((3 : Int) + t11.2)) n82 H82 fun n90 H90 => bcase ((n90 : Int) != (0 : Int)) (k n90 H90) (it11 (t11.1, (qlf .i64 (t11.2 + (1 : Int)))) H90)) (k n63 H63))) (k (3 : Int) HL11)
def qay.b (x0 : Option Addr) (x1 : Int) (x2 : List Value) (H : AH) (k : Int → AH → Prop) : Prop :=
 newC H ⟨x2, .rw, 0⟩ fun o5 H5 => qat x0 x1 H5 fun n19a s19b n19c H19 => bcase ((n19c : Int) != (0 : Int)) (k n19c H19) (onPtr x0 fun a27 => elP (AH.cell? H19 (qlg a27 0)) fun p29 => ldA H19 ⟨o5, 0, none⟩ 8 fun c31 => qR p29 n19a c31 H19 fun n32 H32 => bcase ((n32 : Int) != (3 : Int)) (k n32 H32) (qbu s19b H32 fun n37 H37 => bcase (decide ((n37 : Int) < (0 : Int))) (k (3 : Int) H37) (loopT (qay.l1 x0 x1 k o5) (((0 : Int), n37) : Int × Int) H37)))
def qay.ann : Ann := { keep := fun r => match r with | 11 => [(6, .int .i64), (12, .int .i64)] | _ => [], ord := fun r => match r with | 4 => [0, 1, 2, 3, 4, 5, 6, 7] | 14 => [0, 1, 2, 3, 4, 5, 6, 7, 8, 9, 10, 11, 12] | _ => [] }
theorem qay.link {x0 : Option Addr} {x1 : Int} {x2 : List Value} {H : AH} {k : Int → AH → Prop} (h : qay.b x0 x1 x2 H k) : qay x0 x1 x2 H k := lk1 pan hT hm Tryz.func101 (by kernel_rfl) (A := qay.ann) (by kernel_rfl) (by simp) (by kernel_rfl) h
def qbz.b (x0 : Option Addr) (H : AH) (k : Int → AH → Prop) : Prop :=
 qbn x0 H fun n10 H10 => onPtr x0 fun a13 => elI .i64 (AH.cell? H10 (qlg a13 2)) fun n15 => qcJ n15 n10 H10 fun n17a n17b H17 => onPtr x0 fun a22 => elP (AH.cell? H17 (qlg a22 1)) fun p24 => qbH p24 n17a H17 fun c26a n26b H26 => newC H26 ⟨[(qld .u64 (0 : Int)), (qld .u64 (0 : Int)), (qld .u64 (0 : Int)), (qld .u64 (0 : Int)), (qld .u64 (0 : Int)), (qld .u64 (0 : Int)), (qld .u64 (0 : Int)), (qld .u64 (0 : Int))], .rw, 0⟩ fun o6 H6 => (qlu c26a = 8 ∧ ql3 c26a qp = true) ∧ stC H6 ⟨o6, 0, none⟩ c26a fun Hs2 => bcase ((n26b : Int) != (0 : Int)) (k n26b Hs2) (onPtr x0 fun a33 => elP (AH.cell? Hs2 (qlg a33 1)) fun p35 => ldA Hs2 ⟨o6, 0, none⟩ 8 fun c37 => qay p35 n17b c37 Hs2 fun n38 H38 => bcase ((n38 : Int) != (0 : Int)) (k n38 H38) (onPtr x0 fun a43 => elP (AH.cell? H38 (qlg a43 0)) fun p45 => qF p45 (0 : Int) (qlf .u64 ((qlf .u64 n10) + (1 : Int))) H38 fun n49 H49 => k n49 H49))
def qbz.ann : Ann := { keep := fun r => match r with  | _ => [], ord := fun r => match r with | 6 => [0, 1, 2, 3, 4, 5, 6, 7] | _ => [] }
theorem qbz.link {x0 : Option Addr} {H : AH} {k : Int → AH → Prop} (h : qbz.b x0 H k) : qbz x0 H k := lk1 pan hT hm Tryz.func100 (by kernel_rfl) (A := qbz.ann) (by kernel_rfl) (by simp) (by kernel_rfl) h
def qaC.j1 (x0 : Option Addr) (x1 : Int) (k : Int → AH → Prop) (o5 : Nat) (Hj : AH) : Prop :=
 onPtr x0 fun a40 => elP (AH.cell? Hj (qlg a40 1)) fun p42 => onPtr x0 fun a44 => elI .i64 (AH.cell? Hj (qlg a44 2)) fun n46 => ldA Hj ⟨o5, 0, none⟩ 8 fun c51 => qbn x0 Hj fun n48 H48 => AH.row? H48 ⟨o5, 0, none⟩ 8 = some c51 ∧ AH.cell? H48 (qlg a44 2) = some (qld .i64 n46) ∧ AH.cell? H48 (qlg a40 1) = some (qlk p42) ∧ qbO n46 n48 x1 H48 fun n50 H50 => AH.row? H50 ⟨o5, 0, none⟩ 8 = some c51 ∧ AH.cell? H50 (qlg a40 1) = some (qlk p42) ∧ qay p42 n50 c51 H50 fun n52 H52 => k n52 H52
def qaC.b (x0 : Option Addr) (x1 : Int) (x2 : List Value) (H : AH) (k : Int → AH → Prop) : Prop :=
 newC H ⟨x2, .rw, 0⟩ fun o5 H5 => qa1 x0 x1 H5 fun n11 H11 => bcase ((n11 : Int) != (0 : Int)) (k n11 H11) (onPtr x0 fun a16 => elI .i64 (AH.cell? H11 (qlg a16 4)) fun n18 => onPtr x0 fun a20 => stC H11 (qlg a20 4) [(qld .i64 (qlf .i64 (n18 + (1 : Int))))] fun Hs2 => onPtr x0 fun a23 => elI .i64 (AH.cell? Hs2 (qlg a23 4)) fun n25 => onPtr x0 fun a27 => elI .i64 (AH.cell? Hs2 (qlg a27 3)) fun n29 => bcase ((n25 : Int) == n29) (onPtr x0 fun a32 => stC Hs2 (qlg a32 4) [(qld .i64 (0 : Int))] fun Hs4 => qbz x0 Hs4 fun n35 H35 => bcase ((n35 : Int) != (0 : Int)) (k n35 H35) (qaC.j1 x0 x1 k o5 H35)) (qaC.j1 x0 x1 k o5 Hs2))
def qaC.ann : Ann := { keep := fun r => match r with  | _ => [], ord := fun r => match r with | 5 => [0, 1, 2, 3, 4, 5, 6, 7, 8] | 10 => [0, 1, 2, 3, 4, 5, 6, 7, 8, 10, 12, 9, 11, 13, 14] | _ => [] }
theorem qaC.link {x0 : Option Addr} {x1 : Int} {x2 : List Value} {H : AH} {k : Int → AH → Prop} (h : qaC.b x0 x1 x2 H k) : qaC x0 x1 x2 H k := lk1 pan hT hm Tryz.func57 (by kernel_rfl) (A := qaC.ann) (by kernel_rfl) (by simp) (by kernel_rfl) h
def qJ.j1 (k : Int → AH → Prop) (t14 : Int × Int) (it14 : (Int × Int) → AH → Prop) (x13 : Int) (Hj : AH) : Prop :=
 bcase ((x13 : Int) != (0 : Int)) (k x13 Hj) (it14 (t14.1, (qlf .i64 (t14.2 + (1 : Int)))) Hj)
def qJ.j2 (k : Int → AH → Prop) (o3 : Nat) (p34 : Option Addr) (s37 : Sl) (t14 : Int × Int) (it14 : (Int × Int) → AH → Prop) (n48b : Int) (x59 : Bool) (Hj : AH) : Prop :=
 bcase x59 (ldA Hj ⟨o3, 0, none⟩ 4 fun c61 => qbr c61 t14.2 Hj fun n63 H63 => qbi s37 t14.2 H63 fun c66 H66 => qaC p34 n63 c66 H66 fun n67 H67 => qJ.j1 k t14 it14 n67 H67) (qJ.j1 k t14 it14 n48b Hj)
def qJ.l3 (k : Int → AH → Prop) (o3 : Nat) (p34 : Option Addr) (s37 : Sl) (n39 : Int) (t14 : Int × Int) (HL14 : AH) (it14 : (Int × Int) → AH → Prop) : Prop :=
 bcase (decide ((t14.2 : Int) < n39)) (ldA HL14 ⟨o3, 0, none⟩ 4 fun c45 => qbr c45 t14.2 HL14 fun n47 H47 => qa0 p34 n47 H47 fun c48a n48b H48 => newC H48 ⟨[(qld .u64 (0 : Int)), (qld .u64 (0 : Int)), (qld .u64 (0 : Int)), (qld .u64 (0 : Int)), (qld .u64 (0 : Int)), (qld .u64 (0 : Int)), (qld .u64 (0 : Int)), (qld .u64 (0 : Int))], .rw, 0⟩ fun o12 H12 => (qlu c48a = 8 ∧ ql3 c48a qp = true) ∧ stC H12 ⟨o12, 0, none⟩ c48a fun Hs2 => bcase ((n48b : Int) == (0 : Int)) (ldA Hs2 ⟨o12, 0, none⟩ 8 fun c54 => qbi s37 t14.2 Hs2 fun c57 H57 => AH.row? H57 ⟨o12, 0, none⟩ 8 = some c54 ∧ elO (eqCells (List.replicate 8 (K.int .u64)) c54 c57) fun e58 => qJ.j2 k o3 p34 s37 t14 it14 n48b (!e58) H57) (qJ.j2 k o3 p34 s37 t14 it14 n48b false Hs2)) (k (0 : Int) HL14)
def qJ.j4 (x0 : Option Addr) (k : Int → AH → Prop) (o3 : Nat) (t5 : Int × Int) (HL5 : AH) : Prop :=
 ldA HL5 ⟨o3, 0, none⟩ 4 fun c33 => qbK x0 c33 HL5 fun p34 H34 => ldA H34 ⟨o3, 0, none⟩ 4 fun c35 => qbW c35 H34 fun n36 H36 => qaX n36 H36 fun s37 H37 => elI .i64 (AH.cell? H37 (qlg ⟨o3, 0, none⟩ 0)) fun n39 => loopT (qJ.l3 k o3 p34 s37 n39) ((t5.1, (0 : Int)) : Int × Int) H37
def qJ.l5 (x0 : Option Addr) (k : Int → AH → Prop) (o3 : Nat) (t5 : Int × Int) (HL5 : AH) (it5 : (Int × Int) → AH → Prop) : Prop :=
 bcase (decide ((t5.2 : Int) < (35 : Int))) (qL x0 t5.2 HL5 fun n26a n26b H26 => bcase ((n26a : Int) != (0 : Int)) (k (5 : Int) H26) (it5 (t5.1, (qlf .i64 (t5.2 + (1 : Int)))) H26)) (qJ.j4 x0 k o3 t5 HL5)
def qJ.b (x0 : Option Addr) (x1 : List Value) (H : AH) (k : Int → AH → Prop) : Prop :=
 newC H ⟨x1, .rw, 0⟩ fun o3 H3 => ldA H3 ⟨o3, 0, none⟩ 4 fun c15 => qbG x0 c15 H3 fun n16 H16 => bcase ((n16 : Int) != (0 : Int)) (k n16 H16) (loopT (qJ.l5 x0 k o3) (((0 : Int), (0 : Int)) : Int × Int) H16)
def qJ.ann : Ann := { keep := fun r => match r with | 5 => [(4, .int .i64), (20, .int .i64)] | 14 => [(4, .int .i64), (40, .int .i64)] | _ => [], ord := fun r => match r with | 17 => [0, 1, 2, 3, 4, 5, 6, 7, 8] | _ => [] }
theorem qJ.link {x0 : Option Addr} {x1 : List Value} {H : AH} {k : Int → AH → Prop} (h : qJ.b x0 x1 H k) : qJ x0 x1 H k := lk1 pan hT hm Tryz.func16 (by kernel_rfl) (A := qJ.ann) (by kernel_rfl) (by simp) (by kernel_rfl) h
def qaK.b (x0 : Option Addr) (H : AH) (k : Int → AH → Prop) : Prop :=
 bcase (qlH x0) (k (0 : Int) H) (onPtr x0 fun a6 => elI .i64 (AH.cell? H (qlg a6 2)) fun n8 => k n8 H)
theorem qaK.link {x0 : Option Addr} {H : AH} {k : Int → AH → Prop} (h : qaK.b x0 H k) : qaK x0 H k := lk1 pan hT hm Tryz.func102 (by kernel_rfl) (A := ann0) (by kernel_rfl) (by simp) (by kernel_rfl) h
def log_New.j1 (x0 : Option Addr) (x1 : Option Addr) (k : Option Addr → AH → Prop) (x15 : Bool) (Hj : AH) : Prop :=
 bcase x15 (k none Hj) (newC Hj ⟨[(qlk x0), (qlk x1)], .rw, 0⟩ fun o19 H19 => k (some ⟨o19, 0, none⟩) H19)
def log_New.b (x0 : Option Addr) (x1 : Option Addr) (H : AH) (k : Option Addr → AH → Prop) : Prop :=
 bcase (qlH x0) (log_New.j1 x0 x1 k true H) (bcase (qlH x1) (log_New.j1 x0 x1 k true H) (qaK x1 H fun n13 H13 => log_New.j1 x0 x1 k (decide ((n13 : Int) ≤ (16 : Int))) H13))
theorem log_New.link {x0 : Option Addr} {x1 : Option Addr} {H : AH} {k : Option Addr → AH → Prop} (h : log_New.b x0 x1 H k) : log_New x0 x1 H k := lk1 pan hT hm Tryz.func58 (by kernel_rfl) (A := ann0) (by kernel_rfl) (by simp) (by kernel_rfl) h
def qck.b (x0 : Int) (H : AH) (k : Int → AH → Prop) : Prop :=
 ((8 : Int) : Int) ≠ 0 ∧ k (qlf .i64 (qmy (qlf .i64 ((qlf .i64 (x0 + (8 : Int))) - (1 : Int))) (8 : Int))) H
theorem qck.link {x0 : Int} {H : AH} {k : Int → AH → Prop} (h : qck.b x0 H k) : qck x0 H k := lk1 pan hT hm Tryz.func141 (by kernel_rfl) (A := ann0) (by kernel_rfl) (by simp) (by kernel_rfl) h
def qaq.j1 (t8 : Sl × Int × Sl × Int) (it8 : (Sl × Int × Sl × Int) → AH → Prop) (o10 : Nat) (H71 : AH) (x11 : Int) : Prop :=
 ldA H71 ⟨o10, 0, none⟩ 8 fun c78 => (qlu c78 = 8) ∧ (qlu (setMany [(qld .i64 x11), (qld .u64 (0 : Int)), (qld .u64 (0 : Int)), (qld .u64 (0 : Int)), (qld .u64 (0 : Int)), (qld .u64 (0 : Int)), (qld .u64 (0 : Int)), (qld .u64 (0 : Int)), (qld .u64 (0 : Int))] 1 c78) = 9) ∧ newC H71 ⟨(setMany [(qld .i64 (0 : Int)), (qld .u64 (0 : Int)), (qld .u64 (0 : Int)), (qld .u64 (0 : Int)), (qld .u64 (0 : Int)), (qld .u64 (0 : Int)), (qld .u64 (0 : Int)), (qld .u64 (0 : Int)), (qld .u64 (0 : Int))] 0 (setMany [(qld .i64 x11), (qld .u64 (0 : Int)), (qld .u64 (0 : Int)), (qld .u64 (0 : Int)), (qld .u64 (0 : Int)), (qld .u64 (0 : Int)), (qld .u64 (0 : Int)), (qld .u64 (0 : Int)), (qld .u64 (0 : Int))] 1 c78)), .rw, 9⟩ fun o80 H80 => appendC 9 H80 t8.2.2.1 ⟨(some ⟨o80, 0, none⟩), 1, 1⟩ fun s81 H81 => it8 (t8.1, t8.2.1, s81, (qlf .i64 (t8.2.2.2 + (1 : Int)))) H81
def qaq.l2 (x0 : Option Addr) (k : Sl → Int → AH → Prop) (n18a : Int) (t8 : Sl × Int × Sl × Int) (HL8 : AH) (it8 : (Sl × Int × Sl × Int) → AH → Prop) : Prop :=
 bcase (decide ((t8.2.2.2 : Int) < (qlf .i64 n18a))) (onPtr x0 fun a35 => elP (AH.cell? HL8 (qlg a35 1)) fun p37 => ((8 : Int) : Int) ≠ 0 ∧ qa0 p37 (qlf .i64 (qmy t8.2.2.2 (8 : Int))) HL8 fun c40a n40b H40 => newC H40 ⟨[(qld .u64 (0 : Int)), (qld .u64 (0 : Int)), (qld .u64 (0 : Int)), (qld .u64 (0 : Int)), (qld .u64 (0 : Int)), (qld .u64 (0 : Int)), (qld .u64 (0 : Int)), (qld .u64 (0 : Int))], .rw, 0⟩ fun o8 H8 => (qlu c40a = 8 ∧ ql3 c40a qp = true) ∧ stC H8 ⟨o8, 0, none⟩ c40a fun Hs2 => bcase ((n40b : Int) != (0 : Int)) (k ⟨none, 0, 0⟩ n40b Hs2) (onPtr x0 fun a48 => elP (AH.cell? Hs2 (qlg a48 1)) fun p50 => newC Hs2 ⟨[(qld .u64 (0 : Int)), (qld .u64 (0 : Int)), (qld .u64 (0 : Int)), (qld .u64 (0 : Int)), (qld .u64 (0 : Int)), (qld .u64 (0 : Int)), (qld .u64 (0 : Int)), (qld .u64 (0 : Int))], .rw, 0⟩ fun o10 H10 => qck (qlf .i64 n18a) H10 fun n53 H53 => AH.cell? H53 (qlg a48 1) = some (qlk p50) ∧ qa0 p50 (qlf .i64 (n53 + t8.2.2.2)) H53 fun c56a n56b H56 => (qlu c56a = 8 ∧ ql3 c56a qp = true) ∧ stC H56 ⟨o10, 0, none⟩ c56a fun Hs4 => bcase ((n56b : Int) != (0 : Int)) (k ⟨none, 0, 0⟩ n56b Hs4) (((8 : Int) : Int) ≠ 0 ∧ (0 ≤ (qmp t8.2.2.2 (8 : Int)) ∧ (qmp t8.2.2.2 (8 : Int)) < ((8 : Nat) : Int)) ∧ elI .u64 (AH.cell? Hs4 (qlg ⟨o8, 0, none⟩ (qlp (qmp t8.2.2.2 (8 : Int)) * 1))) fun n65 => onPtr x0 fun a68 => elP (AH.cell? Hs4 (qlg a68 1)) fun p70 => qaK p70 Hs4 fun n71 H71 => bcase (decide ((n65 : Int) < (qlf .u64 n71))) (qaq.j1 t8 it8 o10 H71 (qlf .i64 n65)) (qaq.j1 t8 it8 o10 H71 (-1 : Int))))) (k t8.2.2.1 (0 : Int) HL8)
def qaq.b (x0 : Option Addr) (H : AH) (k : Sl → Int → AH → Prop) : Prop :=
 onPtr x0 fun a15 => elP (AH.cell? H (qlg a15 0)) fun p17 => qL p17 (1 : Int) H fun n18a n18b H18 => bcase ((n18b : Int) != (0 : Int)) (k ⟨none, 0, 0⟩ n18b H18) (bcase (decide ((n18a : Int) > (14 : Int))) (k ⟨none, 0, 0⟩ (6 : Int) H18) (loopT (qaq.l2 x0 k n18a) ((⟨none, 0, 0⟩, (0 : Int), ⟨none, 0, 0⟩, (0 : Int)) : Sl × Int × Sl × Int) H18))
def qaq.ann : Ann := { keep := fun r => match r with | 8 => [(2, .sl), (3, .int .i64), (6, .sl), (30, .int .i64)] | _ => [], ord := fun r => match r with | 13 => [0, 1, 2, 3, 4, 5, 7, 13, 6, 8, 9, 10, 11, 12, 14, 15] | _ => [] }
theorem qaq.link {x0 : Option Addr} {H : AH} {k : Sl → Int → AH → Prop} (h : qaq.b x0 H k) : qaq x0 H k := lk2 pan hT hm Tryz.func103 (by kernel_rfl) (A := qaq.ann) (by kernel_rfl) (by simp) (by simp) (by kernel_rfl) h
def qav.j1 (x0 : Option Addr) (k : Int → AH → Prop) (HL2 : AH) : Prop :=
 onPtr x0 fun a31 => elP (AH.cell? HL2 (qlg a31 0)) fun p33 => qF p33 (1 : Int) (0 : Int) HL2 fun n34 H34 => k n34 H34
def qav.l2 (x0 : Option Addr) (x1 : Sl) (k : Int → AH → Prop) (t2 : Int × Int) (HL2 : AH) (it2 : (Int × Int) → AH → Prop) : Prop :=
 bcase (decide ((t2.2 : Int) < ((x1.n : Nat) : Int))) ((0 ≤ t2.2 ∧ t2.2 < ((x1.n : Nat) : Int)) ∧ onPtr x1.a fun a12 => ldA HL2 (qlg a12 (qlp t2.2 * 9)) 9 fun c13 => newC HL2 ⟨[(qld .i64 (0 : Int)), (qld .u64 (0 : Int)), (qld .u64 (0 : Int)), (qld .u64 (0 : Int)), (qld .u64 (0 : Int)), (qld .u64 (0 : Int)), (qld .u64 (0 : Int)), (qld .u64 (0 : Int)), (qld .u64 (0 : Int))], .rw, 0⟩ fun o6 H6 => (qlu c13 = 9 ∧ ql3 c13 qp = true) ∧ stC H6 ⟨o6, 0, none⟩ c13 fun Hs2 => onPtr x0 fun a15 => elP (AH.cell? Hs2 (qlg a15 1)) fun p17 => elI .i64 (AH.cell? Hs2 (qlg ⟨o6, 0, none⟩ 0)) fun n19 => ldA Hs2 (qlg ⟨o6, 0, none⟩ 1) 8 fun c21 => qaC p17 n19 c21 Hs2 fun n22 H22 => bcase ((n22 : Int) == (0 : Int)) (it2 (t2.1, (qlf .i64 (t2.2 + (1 : Int)))) H22) (bcase ((n22 : Int) == (3 : Int)) (k (0 : Int) H22) (k n22 H22))) (qav.j1 x0 k HL2)
def qav.b (x0 : Option Addr) (x1 : Sl) (H : AH) (k : Int → AH → Prop) : Prop :=
 loopT (qav.l2 x0 x1 k) (((0 : Int), (0 : Int)) : Int × Int) H
def qav.ann : Ann := { keep := fun r => match r with | 2 => [(4, .int .i64), (10, .int .i64)] | _ => [], ord := fun r => match r with | 4 => [0, 1, 2, 3, 4, 5, 6, 7, 8, 9] | _ => [] }
theorem qav.link {x0 : Option Addr} {x1 : Sl} {H : AH} {k : Int → AH → Prop} (h : qav.b x0 x1 H k) : qav x0 x1 H k := lk1 pan hT hm Tryz.func105 (by kernel_rfl) (A := qav.ann) (by kernel_rfl) (by simp) (by kernel_rfl) h
def qbZ.b (x0 : Option Addr) (H : AH) (k : Int → AH → Prop) : Prop :=
 bcase (qlH x0) (k (1 : Int) H) (qaq x0 H fun s9a n9b H9 => bcase ((n9b : Int) != (0 : Int)) (k n9b H9) (bcase ((((s9a.n : Nat) : Int) : Int) == (0 : Int)) (k (0 : Int) H9) (onPtr x0 fun a22 => elP (AH.cell? H9 (qlg a22 1)) fun p24 => qaK p24 H9 fun n25 H25 => log_May n25 s9a H25 fun b27 H27 => bcase (!b27) (k (6 : Int) H27) (qav x0 s9a H27 fun n31 H31 => k n31 H31))))
theorem qbZ.link {x0 : Option Addr} {H : AH} {k : Int → AH → Prop} (h : qbZ.b x0 H k) : qbZ x0 H k := lk1 pan hT hm Tryz.func59 (by kernel_rfl) (A := ann0) (by kernel_rfl) (by simp) (by kernel_rfl) h
def qao.j1 (x0 : Option Addr) (x1 : Int) (k : List Value → Int → AH → Prop) (o4 : Nat) (x5 : Int) (Hj : AH) : Prop :=
 onPtr x0 fun a56 => elP (AH.cell? Hj (qlg a56 1)) fun p58 => qa0 p58 x1 Hj fun c60a n60b H60 => (qlu c60a = 8 ∧ ql3 c60a qp = true) ∧ stC H60 ⟨o4, 0, none⟩ c60a fun Hs6 => ldA Hs6 ⟨o4, 0, none⟩ 8 fun r0 => k r0 n60b Hs6
def qao.l2 (x0 : Option Addr) (x1 : Int) (k : List Value → Int → AH → Prop) (o4 : Nat) (s28a : Sl) (t8 : Int × Int) (HL8 : AH) (it8 : (Int × Int) → AH → Prop) : Prop :=
 bcase (decide ((t8.2 : Int) < ((s28a.n : Nat) : Int))) ((0 ≤ t8.2 ∧ t8.2 < ((s28a.n : Nat) : Int)) ∧ onPtr s28a.a fun a46 => ldA HL8 (qlg a46 (qlp t8.2 * 9)) 9 fun c47 => newC HL8 ⟨[(qld .i64 (0 : Int)), (qld .u64 (0 : Int)), (qld .u64 (0 : Int)), (qld .u64 (0 : Int)), (qld .u64 (0 : Int)), (qld .u64 (0 : Int)), (qld .u64 (0 : Int)), (qld .u64 (0 : Int)), (qld .u64 (0 : Int))], .rw, 0⟩ fun o9 H9 => (qlu c47 = 9 ∧ ql3 c47 qp = true) ∧ stC H9 ⟨o9, 0, none⟩ c47 fun Hs8 => elI .i64 (AH.cell? Hs8 (qlg ⟨o9, 0, none⟩ 0)) fun n49 => bcase ((n49 : Int) == x1) (ldA Hs8 (qlg ⟨o9, 0, none⟩ 1) 8 fun c53 => (qlu c53 = 8 ∧ ql3 c53 qp = true) ∧ stC Hs8 ⟨o4, 0, none⟩ c53 fun Hs10 => ldA Hs10 ⟨o4, 0, none⟩ 8 fun r0 => k r0 (0 : Int) Hs10) (it8 (t8.1, (qlf .i64 (t8.2 + (1 : Int)))) Hs8)) (qao.j1 x0 x1 k o4 t8.1 HL8)
def qao.j3 (x0 : Option Addr) (x1 : Int) (k : List Value → Int → AH → Prop) (o4 : Nat) (x24 : Bool) (Hj : AH) : Prop :=
 bcase x24 ((qlu [(qld .u64 (0 : Int)), (qld .u64 (0 : Int)), (qld .u64 (0 : Int)), (qld .u64 (0 : Int)), (qld .u64 (0 : Int)), (qld .u64 (0 : Int)), (qld .u64 (0 : Int)), (qld .u64 (0 : Int))] = 8 ∧ ql3 [(qld .u64 (0 : Int)), (qld .u64 (0 : Int)), (qld .u64 (0 : Int)), (qld .u64 (0 : Int)), (qld .u64 (0 : Int)), (qld .u64 (0 : Int)), (qld .u64 (0 : Int)), (qld .u64 (0 : Int))] qp = true) ∧ stC Hj ⟨o4, 0, none⟩ [(qld .u64 (0 : Int)), (qld .u64 (0 : Int)), (qld .u64 (0 : Int)), (qld .u64 (0 : Int)), (qld .u64 (0 : Int)), (qld .u64 (0 : Int)), (qld .u64 (0 : Int)), (qld .u64 (0 : Int))] fun Hs2 => ldA Hs2 ⟨o4, 0, none⟩ 8 fun r0 => k r0 (1 : Int) Hs2) (qaq x0 Hj fun s28a n28b H28 => bcase ((n28b : Int) == (2 : Int)) ((qlu [(qld .u64 (0 : Int)), (qld .u64 (0 : Int)), (qld .u64 (0 : Int)), (qld .u64 (0 : Int)), (qld .u64 (0 : Int)), (qld .u64 (0 : Int)), (qld .u64 (0 : Int)), (qld .u64 (0 : Int))] = 8 ∧ ql3 [(qld .u64 (0 : Int)), (qld .u64 (0 : Int)), (qld .u64 (0 : Int)), (qld .u64 (0 : Int)), (qld .u64 (0 : Int)), (qld .u64 (0 : Int)), (qld .u64 (0 : Int)), (qld .u64 (0 : Int))] qp = true) ∧ stC H28 ⟨o4, 0, none⟩ [(qld .u64 (0 : Int)), (qld .u64 (0 : Int)), (qld .u64 (0 : Int)), (qld .u64 (0 : Int)), (qld .u64 (0 : Int)), (qld .u64 (0 : Int)), (qld .u64 (0 : Int)), (qld .u64 (0 : Int))] fun Hs4 => ldA Hs4 ⟨o4, 0, none⟩ 8 fun r0 => k r0 n28b Hs4) (onPtr x0 fun a36 => elP (AH.cell? H28 (qlg a36 1)) fun p38 => qaK p38 H28 fun n39 H39 => log_May n39 s28a H39 fun b41 H41 => bcase b41 (loopT (qao.l2 x0 x1 k o4 s28a) (((0 : Int), (0 : Int)) : Int × Int) H41) (qao.j1 x0 x1 k o4 (0 : Int) H41)))
def qao.b (x0 : Option Addr) (x1 : Int) (H : AH) (k : List Value → Int → AH → Prop) : Prop :=
 newC H ⟨[(qld .u64 (0 : Int)), (qld .u64 (0 : Int)), (qld .u64 (0 : Int)), (qld .u64 (0 : Int)), (qld .u64 (0 : Int)), (qld .u64 (0 : Int)), (qld .u64 (0 : Int)), (qld .u64 (0 : Int))], .rw, 0⟩ fun o4 H4 => bcase (qlH x0) (qao.j3 x0 x1 k o4 true H4) (bcase (decide ((x1 : Int) < (16 : Int))) (qao.j3 x0 x1 k o4 true H4) (onPtr x0 fun a19 => elP (AH.cell? H4 (qlg a19 1)) fun p21 => qaK p21 H4 fun n22 H22 => qao.j3 x0 x1 k o4 (decide ((x1 : Int) ≥ n22)) H22))
def qao.ann : Ann := { keep := fun r => match r with | 8 => [(5, .int .i64), (44, .int .i64)] | _ => [], ord := fun r => match r with  | _ => [] }
theorem qao.link {x0 : Option Addr} {x1 : Int} {H : AH} {k : List Value → Int → AH → Prop} (h : qao.b x0 x1 H k) : qao x0 x1 H k := lk2 pan hT hm Tryz.func87 (by kernel_rfl) (A := qao.ann) (by kernel_rfl) (by simp) (by simp) (by kernel_rfl) h
def qaf.l1 (x0 : Option Addr) (k : Sl → Int → AH → Prop) (n14 : Int) (t5 : Sl × Int × Sl × Int) (HL5 : AH) (it5 : (Sl × Int × Sl × Int) → AH → Prop) : Prop :=
 bcase (decide ((t5.2.2.2 : Int) < n14)) (onPtr x0 fun a20 => elP (AH.cell? HL5 (qlg a20 6)) fun p22 => onPtr x0 fun a24 => ldA HL5 (qlg a24 1) 4 fun c26 => newC HL5 ⟨[(qld .u64 (0 : Int)), (qld .u64 (0 : Int)), (qld .u64 (0 : Int)), (qld .u64 (0 : Int)), (qld .u64 (0 : Int)), (qld .u64 (0 : Int)), (qld .u64 (0 : Int)), (qld .u64 (0 : Int))], .rw, 0⟩ fun o6 H6 => qbr c26 t5.2.2.2 H6 fun n28 H28 => AH.cell? H28 (qlg a20 6) = some (qlk p22) ∧ qao p22 n28 H28 fun c29a n29b H29 => (qlu c29a = 8 ∧ ql3 c29a qp = true) ∧ stC H29 ⟨o6, 0, none⟩ c29a fun Hs2 => bcase ((n29b : Int) != (0 : Int)) (k ⟨none, 0, 0⟩ n29b Hs2) (appendC 1 Hs2 t5.2.2.1 ⟨(some ⟨o6, 0, none⟩), 8, 0⟩ fun s37 H37 => it5 (t5.1, t5.2.1, s37, (qlf .i64 (t5.2.2.2 + (1 : Int)))) H37)) (k t5.2.2.1 (0 : Int) HL5)
def qaf.b (x0 : Option Addr) (H : AH) (k : Sl → Int → AH → Prop) : Prop :=
 bcase (qlH x0) (k ⟨none, 0, 0⟩ (1 : Int) H) (onPtr x0 fun a11 => elI .i64 (AH.cell? H (qlg (qlg a11 1) 0)) fun n14 => loopT (qaf.l1 x0 k n14) ((⟨none, 0, 0⟩, (0 : Int), ⟨none, 0, 0⟩, (0 : Int)) : Sl × Int × Sl × Int) H)
def qaf.ann : Ann := { keep := fun r => match r with | 5 => [(2, .sl), (3, .int .i64), (4, .sl), (15, .int .i64)] | _ => [], ord := fun r => match r with | 7 => [0, 1, 2, 3, 4, 5, 6, 7, 8, 14, 9, 10, 11, 12, 13, 15, 16] | _ => [] }
theorem qaf.link {x0 : Option Addr} {H : AH} {k : Sl → Int → AH → Prop} (h : qaf.b x0 H k) : qaf x0 H k := lk2 pan hT hm Tryz.func44 (by kernel_rfl) (A := qaf.ann) (by kernel_rfl) (by simp) (by simp) (by kernel_rfl) h
def qbq.j1 (x0 : Int) (k : Int → Bool → Bool → AH → Prop) (x14 : Bool) (Hj : AH) : Prop :=
 bcase x14 (k (0 : Int) false false Hj) ((0 : Int) ≤ (1 : Int) ∧ k (qlf .i64 (shrI .u64 x0 (1 : Int))) (((andI .u64 x0 (1 : Int)) : Int) == (1 : Int)) true Hj)
def qbq.b (x0 : Int) (H : AH) (k : Int → Bool → Bool → AH → Prop) : Prop :=
 (0 : Int) ≤ (1 : Int) ∧ bcase (decide (((shrI .u64 x0 (1 : Int)) : Int) > (512 : Int))) (qbq.j1 x0 k true H) ((0 : Int) ≤ (1 : Int) ∧ qbj (qlf .i64 (shrI .u64 x0 (1 : Int))) H fun b12 H12 => qbq.j1 x0 k (!b12) H12)
theorem qbq.link {x0 : Int} {H : AH} {k : Int → Bool → Bool → AH → Prop} (h : qbq.b x0 H k) : qbq x0 H k := lk3 pan hT hm Tryz.func88 (by kernel_rfl) (A := ann0) (by kernel_rfl) (by simp) (by simp) (by simp) (by kernel_rfl) h
def qad.j1 (k : Bool → AH → Prop) (t5 : Bool × Int × Bool × Int) (it5 : (Bool × Int × Bool × Int) → AH → Prop) (o8 : Nat) (x43 : Bool) (Hj : AH) : Prop :=
 bcase x43 (k false Hj) (elI .i64 (AH.cell? Hj (qlg ⟨o8, 0, none⟩ 1)) fun n46 => elB (AH.cell? Hj (qlg ⟨o8, 0, none⟩ 2)) fun b49 => it5 (t5.1, (qlf .i64 (t5.2.1 + n46)), (!b49), (qlf .i64 (t5.2.2.2 + (1 : Int)))) Hj)
def qad.l2 (x0 : Sl) (x1 : Int) (k : Bool → AH → Prop) (t5 : Bool × Int × Bool × Int) (HL5 : AH) (it5 : (Bool × Int × Bool × Int) → AH → Prop) : Prop :=
 bcase (decide ((t5.2.2.2 : Int) < ((x0.n : Nat) : Int))) ((0 ≤ t5.2.2.2 ∧ t5.2.2.2 < ((x0.n : Nat) : Int)) ∧ onPtr x0.a fun a16 => ldA HL5 (qlg a16 (qlp t5.2.2.2 * 3)) 3 fun c17 => newC HL5 ⟨[(qld .i64 (0 : Int)), (qld .i64 (0 : Int)), (ql6 false)], .rw, 0⟩ fun o8 H8 => (qlu c17 = 3 ∧ ql3 c17 qp = true) ∧ stC H8 ⟨o8, 0, none⟩ c17 fun Hs2 => elI .i64 (AH.cell? Hs2 (qlg ⟨o8, 0, none⟩ 0)) fun n19 => bcase ((n19 : Int) != t5.2.1) (qad.j1 k t5 it5 o8 true Hs2) (elI .i64 (AH.cell? Hs2 (qlg ⟨o8, 0, none⟩ 1)) fun n24 => qbj n24 Hs2 fun b25 H25 => bcase (!b25) (qad.j1 k t5 it5 o8 true H25) (bcase t5.2.2.1 (elB (AH.cell? H25 (qlg ⟨o8, 0, none⟩ 2)) fun b32 => bcase (!b32) (qad.j1 k t5 it5 o8 true H25) (elI .i64 (AH.cell? H25 (qlg ⟨o8, 0, none⟩ 1)) fun n38 => qad.j1 k t5 it5 o8 (decide ((n38 : Int) > (qlf .i64 (x1 - t5.2.1)))) H25)) (elI .i64 (AH.cell? H25 (qlg ⟨o8, 0, none⟩ 1)) fun n38 => qad.j1 k t5 it5 o8 (decide ((n38 : Int) > (qlf .i64 (x1 - t5.2.1)))) H25)))) (k ((t5.2.1 : Int) == x1) HL5)
def qad.b (x0 : Sl) (x1 : Int) (H : AH) (k : Bool → AH → Prop) : Prop :=
 qaZ x1 H fun b10 H10 => bcase (!b10) (k false H10) (loopT (qad.l2 x0 x1 k) ((false, (0 : Int), false, (0 : Int)) : Bool × Int × Bool × Int) H10)
def qad.ann : Ann := { keep := fun r => match r with | 5 => [(4, .bool), (5, .int .i64), (6, .bool), (14, .int .i64)] | _ => [], ord := fun r => match r with  | _ => [] }
theorem qad.link {x0 : Sl} {x1 : Int} {H : AH} {k : Bool → AH → Prop} (h : qad.b x0 x1 H k) : qad x0 x1 H k := lk1 pan hT hm Tryz.func89 (by kernel_rfl) (A := qad.ann) (by kernel_rfl) (by simp) (by kernel_rfl) h
def qT.j1 (x0 : Sl) (k : Sl → Bool → AH → Prop) (t3 : Sl × Bool × Sl × Int) (HL3 : AH) : Prop :=
 qad t3.2.2.1 ((x0.n : Nat) : Int) HL3 fun b37 H37 => bcase (!b37) (k ⟨none, 0, 0⟩ false H37) (k t3.2.2.1 true H37)
def qT.l2 (x0 : Sl) (k : Sl → Bool → AH → Prop) (t3 : Sl × Bool × Sl × Int) (HL3 : AH) (it3 : (Sl × Bool × Sl × Int) → AH → Prop) : Prop :=
 bcase (decide ((t3.2.2.2 : Int) < ((x0.n : Nat) : Int))) ((0 ≤ t3.2.2.2 ∧ t3.2.2.2 < ((x0.n : Nat) : Int)) ∧ onPtr x0.a fun a16 => elI .u64 (AH.cell? HL3 (qlg a16 (qlp t3.2.2.2 * 1))) fun n17 => qbq n17 HL3 fun n18a b18b b18c H18 => bcase (!b18c) (k ⟨none, 0, 0⟩ false H18) ((qlu [(qld .i64 t3.2.2.2), (qld .i64 n18a), (ql6 b18b)] = 3) ∧ newC H18 ⟨[(qld .i64 t3.2.2.2), (qld .i64 n18a), (ql6 b18b)], .rw, 3⟩ fun o29 H29 => appendC 3 H29 t3.2.2.1 ⟨(some ⟨o29, 0, none⟩), 1, 1⟩ fun s30 H30 => it3 (t3.1, t3.2.1, s30, (qlf .i64 (t3.2.2.2 + n18a))) H30)) (qT.j1 x0 k t3 HL3)
def qT.b (x0 : Sl) (H : AH) (k : Sl → Bool → AH → Prop) : Prop :=
 loopT (qT.l2 x0 k) ((⟨none, 0, 0⟩, false, ⟨none, 0, 0⟩, (0 : Int)) : Sl × Bool × Sl × Int) H
def qT.ann : Ann := { keep := fun r => match r with | 3 => [(2, .sl), (3, .bool), (4, .sl), (5, .int .i64)] | _ => [], ord := fun r => match r with  | _ => [] }
theorem qT.link {x0 : Sl} {H : AH} {k : Sl → Bool → AH → Prop} (h : qT.b x0 H k) : qT x0 H k := lk2 pan hT hm Tryz.func45 (by kernel_rfl) (A := qT.ann) (by kernel_rfl) (by simp) (by simp) (by kernel_rfl) h
def qa4.j1 (k : Int → AH → Prop) (o1 : Nat) (H1 : AH) (x10 : Bool) : Prop :=
 bcase x10 (k (0 : Int) H1) (elI .i64 (AH.cell? H1 (qlg ⟨o1, 0, none⟩ 0)) fun n12 => k (qlf .i64 ((qlf .i64 (n12 + (1 : Int))) * (8 : Int))) H1)
def qa4.b (x0 : List Value) (H : AH) (k : Int → AH → Prop) : Prop :=
 newC H ⟨x0, .rw, 0⟩ fun o1 H1 => elI .i64 (AH.cell? H1 (qlg ⟨o1, 0, none⟩ 0)) fun n4 => bcase (decide ((n4 : Int) < (0 : Int))) (qa4.j1 k o1 H1 true) (elI .i64 (AH.cell? H1 (qlg ⟨o1, 0, none⟩ 0)) fun n8 => qa4.j1 k o1 H1 (decide ((n8 : Int) > (512 : Int))))
theorem qa4.link {x0 : List Value} {H : AH} {k : Int → AH → Prop} (h : qa4.b x0 H k) : qa4 x0 H k := lk1 pan hT hm Tryz.func144 (by kernel_rfl) (A := ann0) (by kernel_rfl) (by simp) (by kernel_rfl) h
def qbx.b (x0 : List Value) (x1 : Option Addr) (H : AH) (k : Bool → AH → Prop) : Prop :=
 newC H ⟨x0, .rw, 0⟩ fun o2 H2 => elB (AH.cell? H2 (qlg ⟨o2, 0, none⟩ 2)) fun b5 => bcase b5 (ldA H2 ⟨o2, 0, none⟩ 3 fun c7 => onPtr x1 fun a9 => elI .i64 (AH.cell? H2 a9) fun n9 => qa4 c7 H2 fun n8 H8 => AH.cell? H8 a9 = some (qld .i64 n9) ∧ k ((n8 : Int) == n9) H8) (k false H2)
def qbx.ann : Ann := { keep := fun r => match r with  | _ => [], ord := fun r => match r with | 1 => [0, 1, 2, 3, 5, 4, 6, 7, 8] | _ => [] }
theorem qbx.link {x0 : List Value} {x1 : Option Addr} {H : AH} {k : Bool → AH → Prop} (h : qbx.b x0 x1 H k) : qbx x0 x1 H k := lk1 pan hT hm Tryz.func143 (by kernel_rfl) (A := qbx.ann) (by kernel_rfl) (by simp) (by kernel_rfl) h
def qb4.b (x0 : Sl) (x1 : Int) (H : AH) (k : Sl → Int → AH → Prop) : Prop :=
 newC H ⟨[(qld .i64 x1)], .rw, 0⟩ fun o3 H3 => qT x0 H3 fun s10a b10b H10 => qA s10a (some ⟨o3, 0, none⟩) H10 fun n16 H16 => k s10a n16 H16
theorem qb4.link {x0 : Sl} {x1 : Int} {H : AH} {k : Sl → Int → AH → Prop} (h : qb4.b x0 x1 H k) : qb4 x0 x1 H k := lk2 pan hT hm Tryz.func106 (by kernel_rfl) (A := ann0) (by kernel_rfl) (by simp) (by simp) (by kernel_rfl) h
def qcn.b (x0 : Sl) (x1 : Int) (H : AH) (k : Bool → AH → Prop) : Prop :=
 qb4 x0 x1 H fun s10a n10b H10 => k (decide ((n10b : Int) ≥ (0 : Int))) H10
theorem qcn.link {x0 : Sl} {x1 : Int} {H : AH} {k : Bool → AH → Prop} (h : qcn.b x0 x1 H k) : qcn x0 x1 H k := lk1 pan hT hm Tryz.func60 (by kernel_rfl) (A := ann0) (by kernel_rfl) (by simp) (by kernel_rfl) h
def qce.b (x0 : Int) (H : AH) (k : Int → AH → Prop) : Prop :=
 ((4 : Int) : Int) ≠ 0 ∧ k (qlf .i64 (qmy (if (0 : Int) > x0 then (0 : Int) else x0) (4 : Int))) H
theorem qce.link {x0 : Int} {H : AH} {k : Int → AH → Prop} (h : qce.b x0 H k) : qce x0 H k := lk1 pan hT hm Tryz.func107 (by kernel_rfl) (A := ann0) (by kernel_rfl) (by simp) (by kernel_rfl) h
def qcr.b (x0 : List Value) (H : AH) (k : Int → AH → Prop) : Prop :=
 newC H ⟨x0, .rw, 0⟩ fun o1 H1 => ldA H1 ⟨o1, 0, none⟩ 4 fun c3 => qbl c3 H1 fun b4 H4 => bcase (!b4) (k (0 : Int) H4) (elI .i64 (AH.cell? H4 (qlg ⟨o1, 0, none⟩ 0)) fun n7 => qce (qlf .i64 (n7 - (1 : Int))) H4 fun n9 H9 => k (qlf .i64 (n9 + (1 : Int))) H9)
theorem qcr.link {x0 : List Value} {H : AH} {k : Int → AH → Prop} (h : qcr.b x0 H k) : qcr x0 H k := lk1 pan hT hm Tryz.func61 (by kernel_rfl) (A := ann0) (by kernel_rfl) (by simp) (by kernel_rfl) h
def qa5.l1 (x1 : Sl) (k : Option Addr → AH → Prop) (o21 : Nat) (t5 : Int) (HL5 : AH) (it5 : (Int) → AH → Prop) : Prop :=
 bcase (decide ((t5 : Int) < ((x1.n : Nat) : Int))) ((0 ≤ t5 ∧ t5 < ((x1.n : Nat) : Int)) ∧ onPtr x1.a fun a26 => elI .i64 (AH.cell? HL5 (qlg a26 (qlp t5 * 1))) fun n27 => elL (AH.cell? HL5 (qlg ⟨o21, 0, none⟩ 1)) fun s36 => newC HL5 ⟨[(qld .i64 (if (1099511627776 : Int) < (if (0 : Int) > n27 then (0 : Int) else n27) then (1099511627776 : Int) else (if (0 : Int) > n27 then (0 : Int) else n27)))], .rw, 1⟩ fun o38 H38 => elL (AH.cell? H38 (qlg ⟨o21, 0, none⟩ 2)) fun s43 => newC H38 ⟨[(qld .i64 (if (1099511627776 : Int) < (if (0 : Int) > n27 then (0 : Int) else n27) then (1099511627776 : Int) else (if (0 : Int) > n27 then (0 : Int) else n27)))], .rw, 1⟩ fun o45 H45 => appendC 1 H45 s36 ⟨(some ⟨o38, 0, none⟩), 1, 1⟩ fun s39 H39 => AH.cell? H39 (qlg ⟨o21, 0, none⟩ 2) = some (Sl.val s43) ∧ appendC 1 H39 s43 ⟨(some ⟨o45, 0, none⟩), 1, 1⟩ fun s46 H46 => stC H46 (qlg ⟨o21, 0, none⟩ 1) [(Sl.val s39)] fun Hs2 => stC Hs2 (qlg ⟨o21, 0, none⟩ 2) [(Sl.val s46)] fun Hs4 => it5 (qlf .i64 (t5 + (1 : Int))) Hs4) (k (some ⟨o21, 0, none⟩) HL5)
def qa5.j2 (x0 : Int) (x1 : Sl) (H : AH) (k : Option Addr → AH → Prop) (x18 : Bool) : Prop :=
 bcase x18 (k none H) (newC H ⟨[(qld .i64 x0), (qly none 0 0), (qly none 0 0)], .rw, 0⟩ fun o21 H21 => loopT (qa5.l1 x1 k o21) (((0 : Int)) : Int) H21)
def qa5.b (x0 : Int) (x1 : Sl) (H : AH) (k : Option Addr → AH → Prop) : Prop :=
 bcase (decide ((x0 : Int) < (1 : Int))) (qa5.j2 x0 x1 H k true) (bcase (decide ((x0 : Int) > (100 : Int))) (qa5.j2 x0 x1 H k true) (qa5.j2 x0 x1 H k (decide ((((x1.n : Nat) : Int) : Int) > (16 : Int)))))
def qa5.ann : Ann := { keep := fun r => match r with | 5 => [(24, .int .i64)] | _ => [], ord := fun r => match r with | 8 => [0, 1, 2, 3, 4, 5, 6, 7, 9, 10, 11, 12, 13, 14, 8, 15, 16, 17, 18, 19, 20, 21] | _ => [] }
theorem qa5.link {x0 : Int} {x1 : Sl} {H : AH} {k : Option Addr → AH → Prop} (h : qa5.b x0 x1 H k) : qa5 x0 x1 H k := lk1 pan hT hm Tryz.func62 (by kernel_rfl) (A := qa5.ann) (by kernel_rfl) (by simp) (by kernel_rfl) h
def qZ.j1 (k : Option Addr → Int → AH → Prop) (o3 : Nat) (o30 : Nat) (t22 : Option Addr × Int × Sl × Int) (HL22 : AH) : Prop :=
 elI .i64 (AH.cell? HL22 (qlg ⟨o3, 0, none⟩ 3)) fun n115 => qa5 n115 t22.2.2.1 HL22 fun p117 H117 => stC H117 (qlg ⟨o30, 0, none⟩ 7) [(qlk p117)] fun Hs4 => k (some ⟨o30, 0, none⟩) (0 : Int) Hs4
def qZ.l2 (x0 : Option Addr) (k : Option Addr → Int → AH → Prop) (o3 : Nat) (o30 : Nat) (n92 : Int) (t22 : Option Addr × Int × Sl × Int) (HL22 : AH) (it22 : (Option Addr × Int × Sl × Int) → AH → Prop) : Prop :=
 bcase (decide ((t22.2.2.2 : Int) < n92)) (qL x0 (qlf .i64 ((19 : Int) + t22.2.2.2)) HL22 fun n100a n100b H100 => bcase ((n100b : Int) != (0 : Int)) (k none n100b H100) (newC H100 ⟨[(qld .i64 (qlf .i64 (if (1099511627776 : Int) < n100a then (1099511627776 : Int) else n100a)))], .rw, 1⟩ fun o110 H110 => appendC 1 H110 t22.2.2.1 ⟨(some ⟨o110, 0, none⟩), 1, 1⟩ fun s111 H111 => it22 (t22.1, t22.2.1, s111, (qlf .i64 (t22.2.2.2 + (1 : Int)))) H111)) (qZ.j1 k o3 o30 t22 HL22)
def qZ.j3 (x0 : Option Addr) (k : Option Addr → Int → AH → Prop) (o3 : Nat) (o30 : Nat) (x90 : Bool) (Hj : AH) : Prop :=
 bcase x90 (k none (6 : Int) Hj) (ldA Hj ⟨o3, 0, none⟩ 4 fun c91 => qcr c91 Hj fun n92 H92 => loopT (qZ.l2 x0 k o3 o30 n92) ((none, (0 : Int), ⟨none, 0, 0⟩, (0 : Int)) : Option Addr × Int × Sl × Int) H92)
def qZ.b (x0 : Option Addr) (x1 : List Value) (H : AH) (k : Option Addr → Int → AH → Prop) : Prop :=
 newC H ⟨x1, .rw, 0⟩ fun o3 H3 => ldA H3 ⟨o3, 0, none⟩ 4 fun c19 => qbG x0 c19 H3 fun n20 H20 => bcase ((n20 : Int) != (0 : Int)) (k none n20 H20) (ldA H20 ⟨o3, 0, none⟩ 4 fun c25 => ldA H20 ⟨o3, 0, none⟩ 4 fun c27 => qbK x0 c27 H20 fun p28 H28 => AH.row? H28 ⟨o3, 0, none⟩ 4 = some c25 ∧ (qlu c25 = 4) ∧ newC H28 ⟨(List.set (setMany [(qlk x0), (qld .i64 (0 : Int)), (qld .i64 (0 : Int)), (qld .i64 (0 : Int)), (qld .i64 (0 : Int)), (qlk none), (qlk none), (qlk none), (ql6 false)] 1 c25) 5 (qlk p28)), .rw, 0⟩ fun o30 H30 => elP (AH.cell? H30 (qlg ⟨o30, 0, none⟩ 5)) fun p36 => log_New x0 p36 H30 fun p37 H37 => stC H37 (qlg ⟨o30, 0, none⟩ 6) [(qlk p37)] fun Hs2 => elP (AH.cell? Hs2 (qlg ⟨o30, 0, none⟩ 6)) fun p43 => bcase (qlH p43) (k none (6 : Int) Hs2) (elP (AH.cell? Hs2 (qlg ⟨o30, 0, none⟩ 6)) fun p48 => qbZ p48 Hs2 fun n49 H49 => bcase ((n49 : Int) != (0 : Int)) (k none n49 H49) (qaf (some ⟨o30, 0, none⟩) H49 fun s55a n55b H55 => bcase ((n55b : Int) != (0 : Int)) (k none n55b H55) (qL x0 (2 : Int) H55 fun n63a n63b H63 => bcase ((n63b : Int) != (0 : Int)) (k none n63b H63) (qT s55a H63 fun s71a b71b H71 => bcase (!b71b) (qZ.j3 x0 k o3 o30 true H71) (bcase ((n63a : Int) != (0 : Int)) (bcase (decide ((n63a : Int) > (1048576 : Int))) (qZ.j3 x0 k o3 o30 true H71) (qcn s55a (qlf .i64 n63a) H71 fun b86 H86 => qZ.j3 x0 k o3 o30 (!b86) H86)) (qZ.j3 x0 k o3 o30 false H71)))))))
def qZ.ann : Ann := { keep := fun r => match r with | 22 => [(4, .ptr), (5, .int .i64), (14, .sl), (93, .int .i64)] | _ => [], ord := fun r => match r with | 4 => [0, 1, 2, 3, 4, 5, 6, 7] | _ => [] }
theorem qZ.link {x0 : Option Addr} {x1 : List Value} {H : AH} {k : Option Addr → Int → AH → Prop} (h : qZ.b x0 x1 H k) : qZ x0 x1 H k := lk2 pan hT hm Tryz.func17 (by kernel_rfl) (A := qZ.ann) (by kernel_rfl) (by simp) (by simp) (by kernel_rfl) h
def qbM.b (x0 : Option Addr) (H : AH) (k : Bool → AH → Prop) : Prop :=
 bcase (qlH x0) (k false H) (onPtr x0 fun a9 => elP (AH.cell? H (qlg a9 0)) fun p11 => qL p11 (1 : Int) H fun n12a n12b H12 => k ((n12a : Int) != (0 : Int)) H12)
theorem qbM.link {x0 : Option Addr} {H : AH} {k : Bool → AH → Prop} (h : qbM.b x0 H k) : qbM x0 H k := lk1 pan hT hm Tryz.func71 (by kernel_rfl) (A := ann0) (by kernel_rfl) (by simp) (by kernel_rfl) h
def qb7.b (x0 : Option Addr) (H : AH) (k : Bool → AH → Prop) : Prop :=
 bcase (!(qlH x0)) (onPtr x0 fun a7 => elB (AH.cell? H (qlg a7 8)) fun b9 => bcase b9 (k true H) (onPtr x0 fun a12 => elP (AH.cell? H (qlg a12 6)) fun p14 => qbM p14 H fun b15 H15 => k b15 H15)) (k false H)
theorem qb7.link {x0 : Option Addr} {H : AH} {k : Bool → AH → Prop} (h : qb7.b x0 H k) : qb7 x0 H k := lk1 pan hT hm Tryz.func20 (by kernel_rfl) (A := ann0) (by kernel_rfl) (by simp) (by kernel_rfl) h
def qw.j1 (k : Int → AH → Prop) (t4 : Int × Int) (it4 : (Int × Int) → AH → Prop) (Hs2 : AH) (x24 : Bool) : Prop :=
 bcase x24 (k (qlf .i64 (t4.2 + (1 : Int))) Hs2) (it4 (t4.1, (qlf .i64 (t4.2 + (1 : Int)))) Hs2)
def qw.l2 (x0 : Sl) (k : Int → AH → Prop) (t4 : Int × Int) (HL4 : AH) (it4 : (Int × Int) → AH → Prop) : Prop :=
 bcase (decide ((t4.2 : Int) < ((x0.n : Nat) : Int))) ((0 ≤ t4.2 ∧ t4.2 < ((x0.n : Nat) : Int)) ∧ onPtr x0.a fun a15 => ldA HL4 (qlg a15 (qlp t4.2 * 5)) 5 fun c16 => newC HL4 ⟨[(qld .i64 (0 : Int)), (qld .i64 (0 : Int)), (qld .i64 (0 : Int)), (qld .i64 (0 : Int)), (qly none 0 0)], .rw, 0⟩ fun o6 H6 => (qlu c16 = 5 ∧ ql3 c16 qp = true) ∧ stC H6 ⟨o6, 0, none⟩ c16 fun Hs2 => bcase (decide ((t4.2 : Int) ≥ (80 : Int))) (qw.j1 k t4 it4 Hs2 true) (elL (AH.cell? Hs2 (qlg ⟨o6, 0, none⟩ 4)) fun s21 => qw.j1 k t4 it4 Hs2 (decide ((((s21.n : Nat) : Int) : Int) > (500 : Int))))) (k (0 : Int) HL4)
def qw.b (x0 : Sl) (x1 : Sl) (H : AH) (k : Int → AH → Prop) : Prop :=
 bcase (decide ((((x1.n : Nat) : Int) : Int) > (200 : Int))) (k (1 : Int) H) (loopT (qw.l2 x0 k) (((0 : Int), (0 : Int)) : Int × Int) H)
def qw.ann : Ann := { keep := fun r => match r with | 4 => [(4, .int .i64), (12, .int .i64)] | _ => [], ord := fun r => match r with  | _ => [] }
theorem qw.link {x0 : Sl} {x1 : Sl} {H : AH} {k : Int → AH → Prop} (h : qw.b x0 x1 H k) : qw x0 x1 H k := lk1 pan hT hm Tryz.func23 (by kernel_rfl) (A := qw.ann) (by kernel_rfl) (by simp) (by kernel_rfl) h
def qcD.b (x0 : Int) (H : AH) (k : Option Addr → AH → Prop) : Prop :=
 qaX x0 H fun s4 H4 => bcase (qlH s4.a) (k none H4) (newC H4 ⟨[(qld .i64 x0), (qly none 0 0), (qld .i64 (0 : Int))], .rw, 0⟩ fun o8 H8 => k (some ⟨o8, 0, none⟩) H8)
theorem qcD.link {x0 : Int} {H : AH} {k : Option Addr → AH → Prop} (h : qcD.b x0 H k) : qcD x0 H k := lk1 pan hT hm Tryz.func81 (by kernel_rfl) (A := ann0) (by kernel_rfl) (by simp) (by kernel_rfl) h
def qca.b (x0 : Int) (H : AH) (k : Option Addr → AH → Prop) : Prop :=
 qcD x0 H fun p5 H5 => bcase (qlH p5) (k none H5) (newC H5 ⟨[(qlk p5), (ql6 false)], .rw, 0⟩ fun o10 H10 => k (some ⟨o10, 0, none⟩) H10)
theorem qca.link {x0 : Int} {H : AH} {k : Option Addr → AH → Prop} (h : qca.b x0 H k) : qca x0 H k := lk1 pan hT hm Tryz.func41 (by kernel_rfl) (A := ann0) (by kernel_rfl) (by simp) (by kernel_rfl) h
def qa9.j1 (x0 : Int) (H : AH) (k : Int → AH → Prop) (x8 : Bool) : Prop :=
 bcase x8 (k (0 : Int) H) (((8 : Int) : Int) ≠ 0 ∧ k (qlf .i64 ((qlf .i64 (qmy (qlf .i64 (x0 + (7 : Int))) (8 : Int))) + (1 : Int))) H)
def qa9.b (x0 : Int) (H : AH) (k : Int → AH → Prop) : Prop :=
 bcase (decide ((x0 : Int) < (1 : Int))) (qa9.j1 x0 H k true) (qa9.j1 x0 H k (decide ((x0 : Int) > (448 : Int))))
theorem qa9.link {x0 : Int} {H : AH} {k : Int → AH → Prop} (h : qa9.b x0 H k) : qa9 x0 H k := lk1 pan hT hm Tryz.func109 (by kernel_rfl) (A := ann0) (by kernel_rfl) (by simp) (by kernel_rfl) h
def qcc.b (x0 : Sl) (x1 : Sl) (H : AH) (k : Bool → AH → Prop) : Prop :=
 strC H x0 fun y6 => strC H x1 fun y8 => k (ByteArray.toList ⟨qlP y6⟩ == ByteArray.toList ⟨qlP y8⟩) H
theorem qcc.link {x0 : Sl} {x1 : Sl} {H : AH} {k : Bool → AH → Prop} (h : qcc.b x0 x1 H k) : qcc x0 x1 H k := lk1 pan hT hm Tryz.func128 (by kernel_rfl) (A := ann0) (by kernel_rfl) (by simp) (by kernel_rfl) h
def qY.b (x0 : List Value) (x1 : List Value) (H : AH) (k : Bool → AH → Prop) : Prop :=
 newC H ⟨x0, .rw, 0⟩ fun o2 H2 => newC H2 ⟨x1, .rw, 0⟩ fun o3 H3 => elI .i64 (AH.cell? H3 (qlg ⟨o2, 0, none⟩ 0)) fun n6 => elI .i64 (AH.cell? H3 (qlg ⟨o3, 0, none⟩ 0)) fun n8 => bcase ((n6 : Int) == n8) (elI .i64 (AH.cell? H3 (qlg ⟨o2, 0, none⟩ 1)) fun n12 => elI .i64 (AH.cell? H3 (qlg ⟨o3, 0, none⟩ 1)) fun n14 => bcase ((n12 : Int) == n14) (elL (AH.cell? H3 (qlg ⟨o2, 0, none⟩ 2)) fun s19 => elL (AH.cell? H3 (qlg ⟨o3, 0, none⟩ 2)) fun s21 => qcc s19 s21 H3 fun b22 H22 => k b22 H22) (k false H3)) (k false H3)
theorem qY.link {x0 : List Value} {x1 : List Value} {H : AH} {k : Bool → AH → Prop} (h : qY.b x0 x1 H k) : qY x0 x1 H k := lk1 pan hT hm Tryz.func85 (by kernel_rfl) (A := ann0) (by kernel_rfl) (by simp) (by kernel_rfl) h
def qaM.b (x0 : Sl) (H : AH) (k : Sl → AH → Prop) : Prop :=
 bcase (qlH x0.a) (k ⟨none, 0, 0⟩ H) (newC H ⟨[], .rw, 3⟩ fun o5 H5 => appendC 3 H5 ⟨(some ⟨o5, 0, none⟩), 0, 1⟩ x0 fun s7 H7 => k s7 H7)
theorem qaM.link {x0 : Sl} {H : AH} {k : Sl → AH → Prop} (h : qaM.b x0 H k) : qaM x0 H k := lk1 pan hT hm Tryz.func130 (by kernel_rfl) (A := ann0) (by kernel_rfl) (by simp) (by kernel_rfl) h
def qv.j1 (t6 : Sl × Int × Int) (it6 : (Sl × Int × Int) → AH → Prop) (o6 : Nat) (x3 : Sl) (Hj : AH) : Prop :=
 elI .i64 (AH.cell? Hj (qlg ⟨o6, 0, none⟩ 0)) fun n51 => elI .i64 (AH.cell? Hj (qlg ⟨o6, 0, none⟩ 1)) fun n53 => it6 (x3, (qlf .i64 (n51 + n53)), (qlf .i64 (t6.2.2 + (1 : Int)))) Hj
def qv.j2 (t6 : Sl × Int × Int) (it6 : (Sl × Int × Int) → AH → Prop) (o6 : Nat) (x3 : Sl) (Hj : AH) : Prop :=
 elI .i64 (AH.cell? Hj (qlg ⟨o6, 0, none⟩ 1)) fun n40 => bcase (decide ((n40 : Int) > (0 : Int))) (elI .i64 (AH.cell? Hj (qlg ⟨o6, 0, none⟩ 0)) fun n44 => elI .i64 (AH.cell? Hj (qlg ⟨o6, 0, none⟩ 1)) fun n46 => (qlu [(qld .i64 n44), (qld .i64 n46), (ql6 true)] = 3) ∧ newC Hj ⟨[(qld .i64 n44), (qld .i64 n46), (ql6 true)], .rw, 3⟩ fun o48 H48 => appendC 3 H48 x3 ⟨(some ⟨o48, 0, none⟩), 1, 1⟩ fun s49 H49 => qv.j1 t6 it6 o6 s49 H49) (qv.j1 t6 it6 o6 x3 Hj)
def qv.l3 (k : Sl → AH → Prop) (s20 : Sl) (t6 : Sl × Int × Int) (HL6 : AH) (it6 : (Sl × Int × Int) → AH → Prop) : Prop :=
 bcase (decide ((t6.2.2 : Int) < ((s20.n : Nat) : Int))) ((0 ≤ t6.2.2 ∧ t6.2.2 < ((s20.n : Nat) : Int)) ∧ onPtr s20.a fun a24 => ldA HL6 (qlg a24 (qlp t6.2.2 * 3)) 3 fun c25 => newC HL6 ⟨[(qld .i64 (0 : Int)), (qld .i64 (0 : Int)), (qly none 0 0)], .rw, 0⟩ fun o6 H6 => (qlu c25 = 3 ∧ ql3 c25 qp = true) ∧ stC H6 ⟨o6, 0, none⟩ c25 fun Hs2 => elI .i64 (AH.cell? Hs2 (qlg ⟨o6, 0, none⟩ 0)) fun n28 => bcase (decide ((t6.2.1 : Int) < n28)) (elI .i64 (AH.cell? Hs2 (qlg ⟨o6, 0, none⟩ 0)) fun n33 => (qlu [(qld .i64 t6.2.1), (qld .i64 (qlf .i64 (n33 - t6.2.1))), (ql6 false)] = 3) ∧ newC Hs2 ⟨[(qld .i64 t6.2.1), (qld .i64 (qlf .i64 (n33 - t6.2.1))), (ql6 false)], .rw, 3⟩ fun o37 H37 => appendC 3 H37 t6.1 ⟨(some ⟨o37, 0, none⟩), 1, 1⟩ fun s38 H38 => qv.j2 t6 it6 o6 s38 H38) (qv.j2 t6 it6 o6 t6.1 Hs2)) (k t6.1 HL6)
def qv.b (x0 : Option Addr) (H : AH) (k : Sl → AH → Prop) : Prop :=
 bcase (qlH x0) (k ⟨none, 0, 0⟩ H) (onPtr x0 fun a10 => elL (AH.cell? H (qlg a10 1)) fun s12 => onPtr x0 fun a15 => elI .i64 (AH.cell? H (qlg a15 0)) fun n17 => (qlu [(qld .i64 n17), (qld .i64 (0 : Int)), (qly none 0 0)] = 3) ∧ newC H ⟨[(qld .i64 n17), (qld .i64 (0 : Int)), (qly none 0 0)], .rw, 3⟩ fun o19 H19 => qaM s12 H19 fun s13 H13 => AH.cell? H13 (qlg a15 0) = some (qld .i64 n17) ∧ appendC 3 H13 s13 ⟨(some ⟨o19, 0, none⟩), 1, 1⟩ fun s20 H20 => loopT (qv.l3 k s20) ((⟨none, 0, 0⟩, (0 : Int), (0 : Int)) : Sl × Int × Int) H20)
def qv.ann : Ann := { keep := fun r => match r with | 6 => [(3, .sl), (4, .int .i64), (22, .int .i64)] | _ => [], ord := fun r => match r with | 5 => [0, 1, 2, 3, 5, 6, 7, 8, 9, 10, 13, 4, 11, 12] | _ => [] }
theorem qv.link {x0 : Option Addr} {H : AH} {k : Sl → AH → Prop} (h : qv.b x0 H k) : qv x0 H k := lk1 pan hT hm Tryz.func90 (by kernel_rfl) (A := qv.ann) (by kernel_rfl) (by simp) (by kernel_rfl) h
def qW.j1 (t3 : Sl × Int) (it3 : (Sl × Int) → AH → Prop) (Hs2 : AH) (x5 : Sl) (x56 : Bool) : Prop :=
 bcase x56 (newC Hs2 ⟨[(qld .i64 t3.2)], .rw, 1⟩ fun o59 H59 => appendC 1 H59 x5 ⟨(some ⟨o59, 0, none⟩), 1, 1⟩ fun s60 H60 => it3 (s60, (qlf .i64 (t3.2 + (1 : Int)))) H60) (it3 (x5, (qlf .i64 (t3.2 + (1 : Int)))) Hs2)
def qW.j2 (x0 : Sl) (t3 : Sl × Int) (it3 : (Sl × Int) → AH → Prop) (o7 : Nat) (Hs2 : AH) (x5 : Sl) : Prop :=
 bcase ((((x5.n : Nat) : Int) : Int) == (0 : Int)) (qW.j1 t3 it3 Hs2 x5 true) (elI .i64 (AH.cell? Hs2 (qlg ⟨o7, 0, none⟩ 1)) fun n47 => (0 ≤ (0 : Int) ∧ (0 : Int) < ((x5.n : Nat) : Int)) ∧ onPtr x5.a fun a50 => elI .i64 (AH.cell? Hs2 (qlg a50 (qlp (0 : Int) * 1))) fun n51 => (0 ≤ n51 ∧ n51 < ((x0.n : Nat) : Int)) ∧ onPtr x0.a fun a52 => elI .i64 (AH.cell? Hs2 (qlg (qlg a52 (qlp n51 * 3)) 1)) fun n54 => qW.j1 t3 it3 Hs2 x5 ((n47 : Int) == n54))
def qW.j3 (x0 : Sl) (t3 : Sl × Int) (it3 : (Sl × Int) → AH → Prop) (o7 : Nat) (Hs2 : AH) (x41 : Bool) : Prop :=
 bcase x41 (qW.j2 x0 t3 it3 o7 Hs2 ⟨none, 0, 0⟩) (qW.j2 x0 t3 it3 o7 Hs2 t3.1)
def qW.j4 (x0 : Sl) (t3 : Sl × Int) (it3 : (Sl × Int) → AH → Prop) (o7 : Nat) (Hs2 : AH) (x26 : Bool) : Prop :=
 bcase x26 (it3 (t3.1, (qlf .i64 (t3.2 + (1 : Int)))) Hs2) (bcase (decide ((((t3.1.n : Nat) : Int) : Int) > (0 : Int))) (elI .i64 (AH.cell? Hs2 (qlg ⟨o7, 0, none⟩ 1)) fun n32 => (0 ≤ (0 : Int) ∧ (0 : Int) < ((t3.1.n : Nat) : Int)) ∧ onPtr t3.1.a fun a35 => elI .i64 (AH.cell? Hs2 (qlg a35 (qlp (0 : Int) * 1))) fun n36 => (0 ≤ n36 ∧ n36 < ((x0.n : Nat) : Int)) ∧ onPtr x0.a fun a37 => elI .i64 (AH.cell? Hs2 (qlg (qlg a37 (qlp n36 * 3)) 1)) fun n39 => qW.j3 x0 t3 it3 o7 Hs2 (decide ((n32 : Int) < n39))) (qW.j3 x0 t3 it3 o7 Hs2 false))
def qW.l5 (x0 : Sl) (x1 : Int) (k : Sl → AH → Prop) (t3 : Sl × Int) (HL3 : AH) (it3 : (Sl × Int) → AH → Prop) : Prop :=
 bcase (decide ((t3.2 : Int) < ((x0.n : Nat) : Int))) ((0 ≤ t3.2 ∧ t3.2 < ((x0.n : Nat) : Int)) ∧ onPtr x0.a fun a13 => ldA HL3 (qlg a13 (qlp t3.2 * 3)) 3 fun c14 => newC HL3 ⟨[(qld .i64 (0 : Int)), (qld .i64 (0 : Int)), (ql6 false)], .rw, 0⟩ fun o7 H7 => (qlu c14 = 3 ∧ ql3 c14 qp = true) ∧ stC H7 ⟨o7, 0, none⟩ c14 fun Hs2 => bcase (decide ((x1 : Int) < (2 : Int))) (qW.j4 x0 t3 it3 o7 Hs2 true) (elB (AH.cell? Hs2 (qlg ⟨o7, 0, none⟩ 2)) fun b19 => bcase b19 (qW.j4 x0 t3 it3 o7 Hs2 true) (elI .i64 (AH.cell? Hs2 (qlg ⟨o7, 0, none⟩ 1)) fun n23 => qW.j4 x0 t3 it3 o7 Hs2 (decide ((n23 : Int) < x1))))) (k t3.1 HL3)
def qW.b (x0 : Sl) (x1 : Int) (H : AH) (k : Sl → AH → Prop) : Prop :=
 loopT (qW.l5 x0 x1 k) ((⟨none, 0, 0⟩, (0 : Int)) : Sl × Int) H
def qW.ann : Ann := { keep := fun r => match r with | 3 => [(5, .sl), (10, .int .i64)] | _ => [], ord := fun r => match r with | 6 => [0, 1, 2, 3, 4, 5, 6, 7, 8, 9, 10, 11, 12, 13, 14] | 8 => [0, 1, 2, 3, 4, 5, 6, 7, 8, 9, 10, 11, 12, 13, 14] | _ => [] }
theorem qW.link {x0 : Sl} {x1 : Int} {H : AH} {k : Sl → AH → Prop} (h : qW.b x0 x1 H k) : qW x0 x1 H k := lk1 pan hT hm Tryz.func164 (by kernel_rfl) (A := qW.ann) (by kernel_rfl) (by simp) (by kernel_rfl) h
def qae.l1 (k : Sl → AH → Prop) (s10 : Sl) (s14 : Sl) (t4 : Sl × Int) (HL4 : AH) (it4 : (Sl × Int) → AH → Prop) : Prop :=
 bcase (decide ((t4.2 : Int) < ((s14.n : Nat) : Int))) ((0 ≤ t4.2 ∧ t4.2 < ((s14.n : Nat) : Int)) ∧ onPtr s14.a fun a18 => elI .i64 (AH.cell? HL4 (qlg a18 (qlp t4.2 * 1))) fun n19 => (0 ≤ n19 ∧ n19 < ((s10.n : Nat) : Int)) ∧ onPtr s10.a fun a23 => ldA HL4 (qlg a23 (qlp n19 * 3)) 3 fun c24 => qa4 c24 HL4 fun n25 H25 => newC H25 ⟨[(qld .i64 n25)], .rw, 1⟩ fun o26 H26 => appendC 1 H26 t4.1 ⟨(some ⟨o26, 0, none⟩), 1, 1⟩ fun s27 H27 => it4 (s27, (qlf .i64 (t4.2 + (1 : Int)))) H27) (k t4.1 HL4)
def qae.b (x0 : Option Addr) (x1 : Int) (H : AH) (k : Sl → AH → Prop) : Prop :=
 qv x0 H fun s10 H10 => qa9 x1 H10 fun n13 H13 => qW s10 n13 H13 fun s14 H14 => loopT (qae.l1 k s10 s14) ((⟨none, 0, 0⟩, (0 : Int)) : Sl × Int) H14
def qae.ann : Ann := { keep := fun r => match r with | 4 => [(5, .sl), (16, .int .i64)] | _ => [], ord := fun r => match r with  | _ => [] }
theorem qae.link {x0 : Option Addr} {x1 : Int} {H : AH} {k : Sl → AH → Prop} (h : qae.b x0 x1 H k) : qae x0 x1 H k := lk1 pan hT hm Tryz.func123 (by kernel_rfl) (A := qae.ann) (by kernel_rfl) (by simp) (by kernel_rfl) h
def qX.l1 (x0 : Sl) (x1 : Int) (k : Int → AH → Prop) (t2 : Int × Int) (HL2 : AH) (it2 : (Int × Int) → AH → Prop) : Prop :=
 bcase (decide ((t2.2 : Int) < ((x0.n : Nat) : Int))) ((0 ≤ t2.2 ∧ t2.2 < ((x0.n : Nat) : Int)) ∧ onPtr x0.a fun a14 => elI .i64 (AH.cell? HL2 (qlg a14 (qlp t2.2 * 1))) fun n15 => bcase ((x1 : Int) == n15) (k t2.2 HL2) (it2 (t2.1, (qlf .i64 (t2.2 + (1 : Int)))) HL2)) (k (-1 : Int) HL2)
def qX.b (x0 : Sl) (x1 : Int) (H : AH) (k : Int → AH → Prop) : Prop :=
 loopT (qX.l1 x0 x1 k) (((0 : Int), (0 : Int)) : Int × Int) H
def qX.ann : Ann := { keep := fun r => match r with | 2 => [(4, .int .i64), (8, .int .i64)] | _ => [], ord := fun r => match r with  | _ => [] }
theorem qX.link {x0 : Sl} {x1 : Int} {H : AH} {k : Int → AH → Prop} (h : qX.b x0 x1 H k) : qX x0 x1 H k := lk1 pan hT hm Tryz.func184 (by kernel_rfl) (A := qX.ann) (by kernel_rfl) (by simp) (by kernel_rfl) h
def qax.b (x0 : Sl) (x1 : Int) (H : AH) (k : Bool → AH → Prop) : Prop :=
 qX x0 x1 H fun n7 H7 => k (decide ((n7 : Int) ≥ (0 : Int))) H7
theorem qax.link {x0 : Sl} {x1 : Int} {H : AH} {k : Bool → AH → Prop} (h : qax.b x0 x1 H k) : qax x0 x1 H k := lk1 pan hT hm Tryz.func160 (by kernel_rfl) (A := ann0) (by kernel_rfl) (by simp) (by kernel_rfl) h
def qb5.l1 (x0 : Sl) (x1 : Int) (k : Int → AH → Prop) (t2 : Int × Int) (HL2 : AH) (it2 : (Int × Int) → AH → Prop) : Prop :=
 bcase (decide ((t2.2 : Int) < ((x0.n : Nat) : Int))) ((0 ≤ t2.2 ∧ t2.2 < ((x0.n : Nat) : Int)) ∧ onPtr x0.a fun a12 => ldA HL2 (qlg a12 (qlp t2.2 * 3)) 3 fun c13 => newC HL2 ⟨[(qld .i64 (0 : Int)), (qld .i64 (0 : Int)), (ql6 false)], .rw, 0⟩ fun o6 H6 => (qlu c13 = 3 ∧ ql3 c13 qp = true) ∧ stC H6 ⟨o6, 0, none⟩ c13 fun Hs2 => elI .i64 (AH.cell? Hs2 (qlg ⟨o6, 0, none⟩ 0)) fun n16 => bcase (decide ((x1 : Int) ≥ n16)) (elI .i64 (AH.cell? Hs2 (qlg ⟨o6, 0, none⟩ 1)) fun n20 => bcase (decide ((n20 : Int) > (0 : Int))) (elI .i64 (AH.cell? Hs2 (qlg ⟨o6, 0, none⟩ 0)) fun n27 => elI .i64 (AH.cell? Hs2 (qlg ⟨o6, 0, none⟩ 1)) fun n31 => bcase (decide (((qlf .u64 ((qlf .u64 x1) - (qlf .u64 n27))) : Int) < (qlf .u64 n31))) (k t2.2 Hs2) (it2 (t2.1, (qlf .i64 (t2.2 + (1 : Int)))) Hs2)) (it2 (t2.1, (qlf .i64 (t2.2 + (1 : Int)))) Hs2)) (it2 (t2.1, (qlf .i64 (t2.2 + (1 : Int)))) Hs2)) (k (-1 : Int) HL2)
def qb5.b (x0 : Sl) (x1 : Int) (H : AH) (k : Int → AH → Prop) : Prop :=
 loopT (qb5.l1 x0 x1 k) (((0 : Int), (0 : Int)) : Int × Int) H
def qb5.ann : Ann := { keep := fun r => match r with | 2 => [(4, .int .i64), (9, .int .i64)] | _ => [], ord := fun r => match r with  | _ => [] }
theorem qb5.link {x0 : Sl} {x1 : Int} {H : AH} {k : Int → AH → Prop} (h : qb5.b x0 x1 H k) : qb5 x0 x1 H k := lk1 pan hT hm Tryz.func161 (by kernel_rfl) (A := qb5.ann) (by kernel_rfl) (by simp) (by kernel_rfl) h
def qbC.j1 (x0 : Int) (x1 : Int) (H : AH) (k : Int → AH → Prop) (x5 : Bool) : Prop :=
 bcase x5 (k (0 : Int) H) (bcase (decide (((qlf .i64 (x0 - x1)) : Int) < (2 : Int))) (k x0 H) (k x1 H))
def qbC.b (x0 : Int) (x1 : Int) (H : AH) (k : Int → AH → Prop) : Prop :=
 bcase (decide ((x1 : Int) < (2 : Int))) (qbC.j1 x0 x1 H k true) (qbC.j1 x0 x1 H k (decide ((x1 : Int) > x0)))
theorem qbC.link {x0 : Int} {x1 : Int} {H : AH} {k : Int → AH → Prop} (h : qbC.b x0 x1 H k) : qbC x0 x1 H k := lk1 pan hT hm Tryz.func162 (by kernel_rfl) (A := ann0) (by kernel_rfl) (by simp) (by kernel_rfl) h
def qH.j1 (x0 : Option Addr) (k : Bool → AH → Prop) (o10 : Nat) (t9 : Int) (HL9 : AH) : Prop :=
 onPtr x0 fun a65 => elL (AH.cell? HL9 (qlg a65 1)) fun s67 => ldA HL9 ⟨o10, 0, none⟩ 3 fun c69 => (qlu c69 = 3) ∧ newC HL9 ⟨(setMany [(qld .i64 (0 : Int)), (qld .i64 (0 : Int)), (qly none 0 0)] 0 c69), .rw, 3⟩ fun o70 H70 => qcg s67 t9 ⟨(some ⟨o70, 0, none⟩), 1, 1⟩ H70 fun s71 H71 => onPtr x0 fun a72 => stC H71 (qlg a72 1) [(Sl.val s71)] fun Hs6 => k true Hs6
def qH.j2 (x0 : Option Addr) (k : Bool → AH → Prop) (o10 : Nat) (t9 : Int) (it9 : (Int) → AH → Prop) (HL9 : AH) (x60 : Bool) : Prop :=
 bcase x60 (it9 (qlf .i64 (t9 + (1 : Int))) HL9) (qH.j1 x0 k o10 t9 HL9)
def qH.l3 (x0 : Option Addr) (x2 : Int) (k : Bool → AH → Prop) (o10 : Nat) (t9 : Int) (HL9 : AH) (it9 : (Int) → AH → Prop) : Prop :=
 onPtr x0 fun a44 => elL (AH.cell? HL9 (qlg a44 1)) fun s46 => bcase (decide ((t9 : Int) < ((s46.n : Nat) : Int))) (onPtr x0 fun a51 => elL (AH.cell? HL9 (qlg a51 1)) fun s53 => (0 ≤ t9 ∧ t9 < ((s53.n : Nat) : Int)) ∧ onPtr s53.a fun a55 => elI .i64 (AH.cell? HL9 (qlg (qlg a55 (qlp t9 * 3)) 0)) fun n57 => qH.j2 x0 k o10 t9 it9 HL9 (decide ((n57 : Int) < (qlf .i64 ((qlf .i64 (qmy x2 (8 : Int))) - (1 : Int)))))) (qH.j2 x0 k o10 t9 it9 HL9 false)
def qH.b (x0 : Option Addr) (x1 : Int) (x2 : Int) (H : AH) (k : Bool → AH → Prop) : Prop :=
 qae x0 x1 H fun s14 H14 => qax s14 x2 H14 fun b16 H16 => bcase (!b16) (k false H16) (qv x0 H16 fun s19 H19 => ((8 : Int) : Int) ≠ 0 ∧ qb5 s19 (qlf .i64 ((qlf .i64 (qmy x2 (8 : Int))) - (1 : Int))) H19 fun n26 H26 => (0 ≤ n26 ∧ n26 < ((s19.n : Nat) : Int)) ∧ onPtr s19.a fun a27 => elI .i64 (AH.cell? H26 (qlg (qlg a27 (qlp n26 * 3)) 1)) fun n29 => qa9 x1 H26 fun n33 H33 => qbC n29 n33 H33 fun n34 H34 => newC H34 ⟨[(qld .i64 (0 : Int)), (qld .i64 (0 : Int)), (qly none 0 0)], .rw, 0⟩ fun o10 H10 => (qlu [(qld .i64 (qlf .i64 ((qlf .i64 (qmy x2 (8 : Int))) - (1 : Int)))), (qld .i64 n34), (qly none 0 0)] = 3 ∧ ql3 [(qld .i64 (qlf .i64 ((qlf .i64 (qmy x2 (8 : Int))) - (1 : Int)))), (qld .i64 n34), (qly none 0 0)] qp = true) ∧ stC H10 ⟨o10, 0, none⟩ [(qld .i64 (qlf .i64 ((qlf .i64 (qmy x2 (8 : Int))) - (1 : Int)))), (qld .i64 n34), (qly none 0 0)] fun Hs2 => elI .i64 (AH.cell? Hs2 (qlg ⟨o10, 0, none⟩ 1)) fun n37 => (0 ≤ (qlf .i64 ((qlf .i64 (n37 - (1 : Int))) * (8 : Int))) ∧ (qlf .i64 ((qlf .i64 (n37 - (1 : Int))) * (8 : Int))) ≤ (qlf .i64 ((qlf .i64 (n37 - (1 : Int))) * (8 : Int))) ∧ (qlf .i64 ((qlf .i64 (n37 - (1 : Int))) * (8 : Int))) ≤ (lim : Int)) ∧ newC Hs2 ⟨zerosOf (qlp (qlf .i64 ((qlf .i64 (n37 - (1 : Int))) * (8 : Int)))) [(qld .u8 (0 : Int))], .rw, 1⟩ fun o40 H40 => stC H40 (qlg ⟨o10, 0, none⟩ 2) [(qly (some ⟨o40, 0, none⟩) (qlp (qlf .i64 ((qlf .i64 (n37 - (1 : Int))) * (8 : Int)))) 1)] fun Hs4 => loopT (qH.l3 x0 x2 k o10) (((0 : Int)) : Int) Hs4)
def qH.ann : Ann := { keep := fun r => match r with | 9 => [(11, .int .i64)] | _ => [], ord := fun r => match r with | 11 => [0, 1, 2, 3, 4, 5, 6, 7, 8, 9, 10, 11] | _ => [] }
theorem qH.link {x0 : Option Addr} {x1 : Int} {x2 : Int} {H : AH} {k : Bool → AH → Prop} (h : qH.b x0 x1 x2 H k) : qH x0 x1 x2 H k := lk1 pan hT hm Tryz.func122 (by kernel_rfl) (A := qH.ann) (by kernel_rfl) (by simp) (by kernel_rfl) h
def qQ.j1 (x0 : Option Addr) (k : Bool → AH → Prop) (o4 : Nat) (o5 : Nat) (H18 : AH) (x27 : Bool) : Prop :=
 bcase x27 (onPtr x0 fun a38 => elP (AH.cell? H18 (qlg a38 0)) fun p40 => elI .i64 (AH.cell? H18 (qlg ⟨o4, 0, none⟩ 2)) fun n42 => elI .i64 (AH.cell? H18 (qlg ⟨o5, 0, none⟩ 1)) fun n44 => qH p40 n42 n44 H18 fun b45 H45 => k b45 H45) (ldA H18 ⟨o5, 0, none⟩ 3 fun c46 => qY c46 [(qld .i64 (4 : Int)), (qld .i64 (0 : Int)), (qly none 0 0)] H18 fun b48 H48 => bcase b48 (onPtr x0 fun a51 => elP (AH.cell? H48 (qlg a51 0)) fun p53 => elI .i64 (AH.cell? H48 (qlg ⟨o4, 0, none⟩ 2)) fun n55 => qae p53 n55 H48 fun s56 H56 => k ((((s56.n : Nat) : Int) : Int) == (0 : Int)) H56) (k false H48))
def qQ.b (x0 : Option Addr) (x1 : List Value) (x2 : List Value) (H : AH) (k : Bool → AH → Prop) : Prop :=
 newC H ⟨x1, .rw, 0⟩ fun o4 H4 => newC H4 ⟨x2, .rw, 0⟩ fun o5 H5 => elI .i64 (AH.cell? H5 (qlg ⟨o4, 0, none⟩ 2)) fun n9 => qa9 n9 H5 fun n10 H10 => bcase ((n10 : Int) == (0 : Int)) (ldA H10 ⟨o5, 0, none⟩ 3 fun c12 => qY c12 [(qld .i64 (1 : Int)), (qld .i64 (0 : Int)), (qly none 0 0)] H10 fun b14 H14 => k b14 H14) (ldA H10 ⟨o5, 0, none⟩ 3 fun c16 => qY c16 [(qld .i64 (3 : Int)), (qld .i64 (0 : Int)), (qly none 0 0)] H10 fun b18 H18 => bcase b18 (onPtr x0 fun a20 => stC H18 (qlg a20 1) [(ql6 true)] fun Hs2 => k true Hs2) (onPtr x0 fun a24 => elB (AH.cell? H18 (qlg a24 1)) fun b26 => bcase b26 (k false H18) (elI .i64 (AH.cell? H18 (qlg ⟨o5, 0, none⟩ 0)) fun n29 => bcase ((n29 : Int) == (0 : Int)) (elL (AH.cell? H18 (qlg ⟨o5, 0, none⟩ 2)) fun s33 => qQ.j1 x0 k o4 o5 H18 ((((s33.n : Nat) : Int) : Int) == (0 : Int))) (qQ.j1 x0 k o4 o5 H18 false))))
def qQ.ann : Ann := { keep := fun r => match r with  | _ => [], ord := fun r => match r with | 9 => [0, 1, 2, 3, 4, 5, 6, 7, 8, 9] | 10 => [0, 1, 2, 3, 4, 5, 6, 7, 8, 9, 10, 11, 12, 13, 14] | _ => [] }
theorem qQ.link {x0 : Option Addr} {x1 : List Value} {x2 : List Value} {H : AH} {k : Bool → AH → Prop} (h : qQ.b x0 x1 x2 H k) : qQ x0 x1 x2 H k := lk1 pan hT hm Tryz.func82 (by kernel_rfl) (A := qQ.ann) (by kernel_rfl) (by simp) (by kernel_rfl) h
def qaa.b (x0 : Sl) (H : AH) (k : Sl → AH → Prop) : Prop :=
 bcase (qlH x0.a) (k ⟨none, 0, 0⟩ H) (newC H ⟨[], .rw, 1⟩ fun o5 H5 => appendC 1 H5 ⟨(some ⟨o5, 0, none⟩), 0, 1⟩ x0 fun s7 H7 => k s7 H7)
theorem qaa.link {x0 : Sl} {H : AH} {k : Sl → AH → Prop} (h : qaa.b x0 H k) : qaa x0 H k := lk1 pan hT hm Tryz.func127 (by kernel_rfl) (A := ann0) (by kernel_rfl) (by simp) (by kernel_rfl) h
def qar.l1 (k : Option Addr → AH → Prop) (o17 : Nat) (s21 : Sl) (t5 : Int) (HL5 : AH) (it5 : (Int) → AH → Prop) : Prop :=
 bcase (decide ((t5 : Int) < ((s21.n : Nat) : Int))) ((0 ≤ t5 ∧ t5 < ((s21.n : Nat) : Int)) ∧ onPtr s21.a fun a25 => ldA HL5 (qlg a25 (qlp t5 * 3)) 3 fun c26 => newC HL5 ⟨[(qld .i64 (0 : Int)), (qld .i64 (0 : Int)), (qly none 0 0)], .rw, 0⟩ fun o5 H5 => (qlu c26 = 3 ∧ ql3 c26 qp = true) ∧ stC H5 ⟨o5, 0, none⟩ c26 fun Hs2 => elL (AH.cell? Hs2 (qlg ⟨o5, 0, none⟩ 2)) fun s28 => qaa s28 Hs2 fun s29 H29 => stC H29 (qlg ⟨o5, 0, none⟩ 2) [(Sl.val s29)] fun Hs4 => elL (AH.cell? Hs4 (qlg ⟨o17, 0, none⟩ 1)) fun s35 => ldA Hs4 ⟨o5, 0, none⟩ 3 fun c36 => (qlu c36 = 3) ∧ newC Hs4 ⟨(setMany [(qld .i64 (0 : Int)), (qld .i64 (0 : Int)), (qly none 0 0)] 0 c36), .rw, 3⟩ fun o37 H37 => appendC 3 H37 s35 ⟨(some ⟨o37, 0, none⟩), 1, 1⟩ fun s38 H38 => stC H38 (qlg ⟨o17, 0, none⟩ 1) [(Sl.val s38)] fun Hs6 => it5 (qlf .i64 (t5 + (1 : Int))) Hs6) (k (some ⟨o17, 0, none⟩) HL5)
def qar.b (x0 : Option Addr) (H : AH) (k : Option Addr → AH → Prop) : Prop :=
 bcase (qlH x0) (k none H) (onPtr x0 fun a9 => elI .i64 (AH.cell? H (qlg a9 0)) fun n11 => onPtr x0 fun a13 => elI .i64 (AH.cell? H (qlg a13 2)) fun n15 => newC H ⟨[(qld .i64 n11), (qly none 0 0), (qld .i64 n15)], .rw, 0⟩ fun o17 H17 => onPtr x0 fun a19 => elL (AH.cell? H17 (qlg a19 1)) fun s21 => loopT (qar.l1 k o17 s21) (((0 : Int)) : Int) H17)
def qar.ann : Ann := { keep := fun r => match r with | 5 => [(23, .int .i64)] | _ => [], ord := fun r => match r with | 3 => [0, 1, 2, 3, 4, 5, 6, 7, 8, 9, 10] | 8 => [0, 1, 2, 3, 4, 5, 6, 7, 8, 9, 10] | _ => [] }
theorem qar.link {x0 : Option Addr} {H : AH} {k : Option Addr → AH → Prop} (h : qar.b x0 H k) : qar x0 H k := lk1 pan hT hm Tryz.func124 (by kernel_rfl) (A := qar.ann) (by kernel_rfl) (by simp) (by kernel_rfl) h
def qaj.b (x0 : List Value) (H : AH) (k : Int → AH → Prop) : Prop :=
 newC H ⟨x0, .rw, 0⟩ fun o1 H1 => elI .i64 (AH.cell? H1 (qlg ⟨o1, 0, none⟩ 0)) fun n4 => k (qlf .i64 ((qlf .i64 (n4 + (1 : Int))) * (8 : Int))) H1
theorem qaj.link {x0 : List Value} {H : AH} {k : Int → AH → Prop} (h : qaj.b x0 H k) : qaj x0 H k := lk1 pan hT hm Tryz.func168 (by kernel_rfl) (A := ann0) (by kernel_rfl) (by simp) (by kernel_rfl) h
def qaD.b (x0 : List Value) (x1 : Option Addr) (H : AH) (k : Bool → AH → Prop) : Prop :=
 newC H ⟨x0, .rw, 0⟩ fun o2 H2 => ldA H2 ⟨o2, 0, none⟩ 3 fun c4 => onPtr x1 fun a6 => elI .i64 (AH.cell? H2 a6) fun n6 => qaj c4 H2 fun n5 H5 => AH.cell? H5 a6 = some (qld .i64 n6) ∧ k ((n5 : Int) == n6) H5
def qaD.ann : Ann := { keep := fun r => match r with  | _ => [], ord := fun r => match r with | 1 => [0, 2, 1, 3, 4] | _ => [] }
theorem qaD.link {x0 : List Value} {x1 : Option Addr} {H : AH} {k : Bool → AH → Prop} (h : qaD.b x0 x1 H k) : qaD x0 x1 H k := lk1 pan hT hm Tryz.func196 (by kernel_rfl) (A := qaD.ann) (by kernel_rfl) (by simp) (by kernel_rfl) h
def qaR.b (x0 : Option Addr) (x1 : Int) (H : AH) (k : Int → AH → Prop) : Prop :=
 newC H ⟨[(qld .i64 x1)], .rw, 0⟩ fun o3 H3 => bcase (qlH x0) (k (-1 : Int) H3) (onPtr x0 fun a8 => elL (AH.cell? H3 (qlg a8 1)) fun s10 => qo s10 (some ⟨o3, 0, none⟩) H3 fun n12 H12 => k n12 H12)
theorem qaR.link {x0 : Option Addr} {x1 : Int} {H : AH} {k : Int → AH → Prop} (h : qaR.b x0 x1 H k) : qaR x0 x1 H k := lk1 pan hT hm Tryz.func187 (by kernel_rfl) (A := ann0) (by kernel_rfl) (by simp) (by kernel_rfl) h
def qbh.b (x0 : Option Addr) (x1 : Int) (H : AH) (k : Int → AH → Prop) : Prop :=
 qaR x0 x1 H fun n8 H8 => bcase (decide ((n8 : Int) < (0 : Int))) (k (1 : Int) H8) (onPtr x0 fun a14 => elI .i64 (AH.cell? H8 (qlg a14 2)) fun n16 => bcase ((n16 : Int) == x1) (k (5 : Int) H8) (onPtr x0 fun a21 => elL (AH.cell? H8 (qlg a21 1)) fun s23 => qcf s23 n8 (qlf .i64 (n8 + (1 : Int))) H8 fun s27 H27 => onPtr x0 fun a28 => stC H27 (qlg a28 1) [(Sl.val s27)] fun Hs2 => k (0 : Int) Hs2))
theorem qbh.link {x0 : Option Addr} {x1 : Int} {H : AH} {k : Int → AH → Prop} (h : qbh.b x0 x1 H k) : qbh x0 x1 H k := lk1 pan hT hm Tryz.func165 (by kernel_rfl) (A := ann0) (by kernel_rfl) (by simp) (by kernel_rfl) h
def qz.j1 (x1 : Int) (x2 : Int) (k : Sl → Int → AH → Prop) (t4 : Sl × Int × Int) (it4 : (Sl × Int × Int) → AH → Prop) (o9 : Nat) (x45 : Bool) (Hj : AH) : Prop :=
 bcase x45 (ldA Hj ⟨o9, 0, none⟩ 3 fun c47 => qaj c47 Hj fun n48 H48 => elL (AH.cell? H48 (qlg ⟨o9, 0, none⟩ 2)) fun s51 => (0 ≤ (qlf .i64 (x1 - n48)) ∧ (qlf .i64 (x1 - n48)) ≤ (qlf .i64 ((qlf .i64 (x1 - n48)) + x2)) ∧ (qlf .i64 ((qlf .i64 (x1 - n48)) + x2)) ≤ ((s51.n : Nat) : Int)) ∧ k ⟨(Option.map (fun x => qlg x (qlp (qlf .i64 (x1 - n48)) * 1)) s51.a), (qlp (qlf .i64 ((qlf .i64 (x1 - n48)) + x2)) - qlp (qlf .i64 (x1 - n48))), 0⟩ (0 : Int) H48) (it4 (t4.1, t4.2.1, (qlf .i64 (t4.2.2 + (1 : Int)))) Hj)
def qz.l2 (x1 : Int) (x2 : Int) (k : Sl → Int → AH → Prop) (s24 : Sl) (t4 : Sl × Int × Int) (HL4 : AH) (it4 : (Sl × Int × Int) → AH → Prop) : Prop :=
 bcase (decide ((t4.2.2 : Int) < ((s24.n : Nat) : Int))) ((0 ≤ t4.2.2 ∧ t4.2.2 < ((s24.n : Nat) : Int)) ∧ onPtr s24.a fun a28 => ldA HL4 (qlg a28 (qlp t4.2.2 * 3)) 3 fun c29 => newC HL4 ⟨[(qld .i64 (0 : Int)), (qld .i64 (0 : Int)), (qly none 0 0)], .rw, 0⟩ fun o9 H9 => (qlu c29 = 3 ∧ ql3 c29 qp = true) ∧ stC H9 ⟨o9, 0, none⟩ c29 fun Hs2 => ldA Hs2 ⟨o9, 0, none⟩ 3 fun c31 => qaj c31 Hs2 fun n32 H32 => bcase (decide ((x1 : Int) ≥ n32)) (ldA H32 ⟨o9, 0, none⟩ 3 fun c36 => elL (AH.cell? H32 (qlg ⟨o9, 0, none⟩ 2)) fun s39 => qaj c36 H32 fun n37 H37 => AH.cell? H37 (qlg ⟨o9, 0, none⟩ 2) = some (Sl.val s39) ∧ qz.j1 x1 x2 k t4 it4 o9 (decide ((x1 : Int) ≤ (qlf .i64 ((qlf .i64 (n37 + ((s39.n : Nat) : Int))) - x2)))) H37) (qz.j1 x1 x2 k t4 it4 o9 false H32)) (k ⟨none, 0, 0⟩ (1 : Int) HL4)
def qz.j3 (x0 : Option Addr) (x1 : Int) (x2 : Int) (H : AH) (k : Sl → Int → AH → Prop) (x20 : Bool) : Prop :=
 bcase x20 (k ⟨none, 0, 0⟩ (1 : Int) H) (onPtr x0 fun a22 => elL (AH.cell? H (qlg a22 1)) fun s24 => loopT (qz.l2 x1 x2 k s24) ((⟨none, 0, 0⟩, (0 : Int), (0 : Int)) : Sl × Int × Int) H)
def qz.b (x0 : Option Addr) (x1 : Int) (x2 : Int) (H : AH) (k : Sl → Int → AH → Prop) : Prop :=
 bcase (qlH x0) (qz.j3 x0 x1 x2 H k true) (bcase (decide ((x2 : Int) < (0 : Int))) (qz.j3 x0 x1 x2 H k true) (qz.j3 x0 x1 x2 H k (decide ((x2 : Int) > (448 : Int)))))
def qz.ann : Ann := { keep := fun r => match r with | 4 => [(6, .sl), (7, .int .i64), (26, .int .i64)] | _ => [], ord := fun r => match r with | 6 => [0, 1, 2, 3, 4, 5, 6, 8, 9, 10, 12, 7, 11, 13, 14, 15] | _ => [] }
theorem qz.link {x0 : Option Addr} {x1 : Int} {x2 : Int} {H : AH} {k : Sl → Int → AH → Prop} (h : qz.b x0 x1 x2 H k) : qz x0 x1 x2 H k := lk2 pan hT hm Tryz.func126 (by kernel_rfl) (A := qz.ann) (by kernel_rfl) (by simp) (by simp) (by kernel_rfl) h
def qa7.b (x0 : Option Addr) (x1 : Int) (x2 : Sl) (H : AH) (k : Int → AH → Prop) : Prop :=
 qz x0 x1 ((x2.n : Nat) : Int) H fun s14a n14b H14 => copyC 1 H14 s14a x2 fun n19 H19 => k n14b H19
theorem qa7.link {x0 : Option Addr} {x1 : Int} {x2 : Sl} {H : AH} {k : Int → AH → Prop} (h : qa7.b x0 x1 x2 H k) : qa7 x0 x1 x2 H k := lk1 pan hT hm Tryz.func166 (by kernel_rfl) (A := ann0) (by kernel_rfl) (by simp) (by kernel_rfl) h
def qO.j1 (x0 : Option Addr) (x1 : Int) (k : Int → AH → Prop) (x16 : Bool) (Hj : AH) : Prop :=
 bcase x16 (k (1 : Int) Hj) (onPtr x0 fun a19 => stC Hj (qlg a19 2) [(qld .i64 x1)] fun Hs2 => k (0 : Int) Hs2)
def qO.b (x0 : Option Addr) (x1 : Int) (H : AH) (k : Int → AH → Prop) : Prop :=
 bcase (qlH x0) (qO.j1 x0 x1 k true H) (bcase ((x1 : Int) != (0 : Int)) (qaR x0 x1 H fun n13 H13 => qO.j1 x0 x1 k (decide ((n13 : Int) < (0 : Int))) H13) (qO.j1 x0 x1 k false H))
theorem qO.link {x0 : Option Addr} {x1 : Int} {H : AH} {k : Int → AH → Prop} (h : qO.b x0 x1 H k) : qO x0 x1 H k := lk1 pan hT hm Tryz.func167 (by kernel_rfl) (A := ann0) (by kernel_rfl) (by simp) (by kernel_rfl) h
def qcs.b (x0 : Option Addr) (x1 : List Value) (H : AH) (k : Int → AH → Prop) : Prop :=
 newC H ⟨x1, .rw, 0⟩ fun o3 H3 => elI .i64 (AH.cell? H3 (qlg ⟨o3, 0, none⟩ 0)) fun n6 => bcase ((n6 : Int) == (2 : Int)) (elI .i64 (AH.cell? H3 (qlg ⟨o3, 0, none⟩ 1)) fun n11 => qbh x0 n11 H3 fun n12 H12 => k n12 H12) (bcase ((n6 : Int) == (4 : Int)) (elI .i64 (AH.cell? H3 (qlg ⟨o3, 0, none⟩ 1)) fun n17 => elL (AH.cell? H3 (qlg ⟨o3, 0, none⟩ 4)) fun s19 => qa7 x0 n17 s19 H3 fun n20 H20 => k n20 H20) (elI .i64 (AH.cell? H3 (qlg ⟨o3, 0, none⟩ 1)) fun n23 => qO x0 n23 H3 fun n24 H24 => k n24 H24))
theorem qcs.link {x0 : Option Addr} {x1 : List Value} {H : AH} {k : Int → AH → Prop} (h : qcs.b x0 x1 H k) : qcs x0 x1 H k := lk1 pan hT hm Tryz.func125 (by kernel_rfl) (A := ann0) (by kernel_rfl) (by simp) (by kernel_rfl) h
def qx.j1 (x0 : Option Addr) (k : Bool → AH → Prop) (p14 : Option Addr) (Hj : AH) : Prop :=
 onPtr x0 fun a64 => stC Hj (qlg a64 0) [(qlk p14)] fun Hs2 => k true Hs2
def qx.j2 (x0 : Option Addr) (k : Bool → AH → Prop) (o5 : Nat) (p14 : Option Addr) (n17 : Int) (x9 : Bool) (x27 : Bool) (Hj : AH) : Prop :=
 bcase x27 (onPtr x0 fun a40 => stC Hj (qlg a40 1) [(ql6 true)] fun Hs4 => k true Hs4) (bcase ((n17 : Int) == (0 : Int)) (bcase (!x9) (onPtr x0 fun a51 => elB (AH.cell? Hj (qlg a51 1)) fun b53 => bcase b53 (k false Hj) (ldA Hj ⟨o5, 0, none⟩ 3 fun c56 => qY c56 [(qld .i64 n17), (qld .i64 (0 : Int)), (qly none 0 0)] Hj fun b59 H59 => bcase (!b59) (k false H59) (qx.j1 x0 k p14 H59))) (ldA Hj ⟨o5, 0, none⟩ 3 fun c56 => qY c56 [(qld .i64 n17), (qld .i64 (0 : Int)), (qly none 0 0)] Hj fun b59 H59 => bcase (!b59) (k false H59) (qx.j1 x0 k p14 H59))) (ldA Hj ⟨o5, 0, none⟩ 3 fun c56 => qY c56 [(qld .i64 n17), (qld .i64 (0 : Int)), (qly none 0 0)] Hj fun b59 H59 => bcase (!b59) (k false H59) (qx.j1 x0 k p14 H59)))
def qx.j3 (x0 : Option Addr) (k : Bool → AH → Prop) (o5 : Nat) (p14 : Option Addr) (H17 : AH) (n17 : Int) (x9 : Bool) : Prop :=
 bcase ((n17 : Int) == (0 : Int)) (bcase (!x9) (ldA H17 ⟨o5, 0, none⟩ 3 fun c35 => qY c35 [(qld .i64 (3 : Int)), (qld .i64 (0 : Int)), (qly none 0 0)] H17 fun b37 H37 => qx.j2 x0 k o5 p14 n17 x9 b37 H37) (qx.j2 x0 k o5 p14 n17 x9 false H17)) (qx.j2 x0 k o5 p14 n17 x9 false H17)
def qx.b (x0 : Option Addr) (x1 : List Value) (x2 : List Value) (H : AH) (k : Bool → AH → Prop) : Prop :=
 newC H ⟨x1, .rw, 0⟩ fun o4 H4 => newC H4 ⟨x2, .rw, 0⟩ fun o5 H5 => onPtr x0 fun a11 => elP (AH.cell? H5 (qlg a11 0)) fun p13 => qar p13 H5 fun p14 H14 => ldA H14 ⟨o4, 0, none⟩ 5 fun c16 => qcs p14 c16 H14 fun n17 H17 => elI .i64 (AH.cell? H17 (qlg ⟨o4, 0, none⟩ 0)) fun n19 => bcase ((n19 : Int) == (4 : Int)) (elL (AH.cell? H17 (qlg ⟨o4, 0, none⟩ 4)) fun s23 => qx.j3 x0 k o5 p14 H17 n17 ((((s23.n : Nat) : Int) : Int) == (0 : Int))) (qx.j3 x0 k o5 p14 H17 n17 false)
theorem qx.link {x0 : Option Addr} {x1 : List Value} {x2 : List Value} {H : AH} {k : Bool → AH → Prop} (h : qx.b x0 x1 x2 H k) : qx x0 x1 x2 H k := lk1 pan hT hm Tryz.func83 (by kernel_rfl) (A := ann0) (by kernel_rfl) (by simp) (by kernel_rfl) h
def qbd.b (x0 : Option Addr) (x1 : Int) (x2 : Int) (H : AH) (k : Sl → Int → AH → Prop) : Prop :=
 qz x0 x1 x2 H fun s14a n14b H14 => qaa s14a H14 fun s18 H18 => k s18 n14b H18
theorem qbd.link {x0 : Option Addr} {x1 : Int} {x2 : Int} {H : AH} {k : Sl → Int → AH → Prop} (h : qbd.b x0 x1 x2 H k) : qbd x0 x1 x2 H k := lk2 pan hT hm Tryz.func84 (by kernel_rfl) (A := ann0) (by kernel_rfl) (by simp) (by simp) (by kernel_rfl) h
def qaQ.b (x0 : Option Addr) (H : AH) (k : Int → AH → Prop) : Prop :=
 bcase (qlH x0) (k (0 : Int) H) (onPtr x0 fun a6 => elI .i64 (AH.cell? H (qlg a6 2)) fun n8 => k n8 H)
theorem qaQ.link {x0 : Option Addr} {H : AH} {k : Int → AH → Prop} (h : qaQ.b x0 H k) : qaQ x0 H k := lk1 pan hT hm Tryz.func86 (by kernel_rfl) (A := ann0) (by kernel_rfl) (by simp) (by kernel_rfl) h
def qP.j1 (x0 : Option Addr) (k : Bool → AH → Prop) (o4 : Nat) (o5 : Nat) (H5 : AH) (n12 : Int) (x19 : Bool) : Prop :=
 bcase x19 (ldA H5 ⟨o4, 0, none⟩ 5 fun c24 => ldA H5 ⟨o5, 0, none⟩ 3 fun c25 => qx x0 c24 c25 H5 fun b26 H26 => k b26 H26) (bcase ((n12 : Int) == (3 : Int)) (onPtr x0 fun a31 => elP (AH.cell? H5 (qlg a31 0)) fun p33 => elI .i64 (AH.cell? H5 (qlg ⟨o4, 0, none⟩ 1)) fun n35 => elI .i64 (AH.cell? H5 (qlg ⟨o4, 0, none⟩ 2)) fun n37 => qbd p33 n35 n37 H5 fun s38a n38b H38 => ldA H38 ⟨o5, 0, none⟩ 3 fun c41 => qY c41 [(qld .i64 n38b), (qld .i64 (0 : Int)), (Sl.val s38a)] H38 fun b45 H45 => k b45 H45) (bcase ((n12 : Int) == (6 : Int)) (ldA H5 ⟨o5, 0, none⟩ 3 fun c48 => onPtr x0 fun a50 => elP (AH.cell? H5 (qlg a50 0)) fun p52 => qaQ p52 H5 fun n53 H53 => AH.row? H53 ⟨o5, 0, none⟩ 3 = some c48 ∧ qY c48 [(qld .i64 (0 : Int)), (qld .i64 n53), (qly none 0 0)] H53 fun b55 H55 => k b55 H55) (ldA H5 ⟨o5, 0, none⟩ 3 fun c56 => qY c56 [(qld .i64 (1 : Int)), (qld .i64 (0 : Int)), (qly none 0 0)] H5 fun b58 H58 => k b58 H58)))
def qP.b (x0 : Option Addr) (x1 : List Value) (x2 : List Value) (H : AH) (k : Bool → AH → Prop) : Prop :=
 newC H ⟨x1, .rw, 0⟩ fun o4 H4 => newC H4 ⟨x2, .rw, 0⟩ fun o5 H5 => bcase (qlH x0) (k false H5) (elI .i64 (AH.cell? H5 (qlg ⟨o4, 0, none⟩ 0)) fun n12 => bcase ((n12 : Int) == (1 : Int)) (ldA H5 ⟨o4, 0, none⟩ 5 fun c16 => ldA H5 ⟨o5, 0, none⟩ 3 fun c17 => qQ x0 c16 c17 H5 fun b18 H18 => k b18 H18) (bcase ((n12 : Int) == (2 : Int)) (qP.j1 x0 k o4 o5 H5 n12 ((n12 : Int) == (2 : Int))) (bcase ((n12 : Int) == (4 : Int)) (qP.j1 x0 k o4 o5 H5 n12 ((n12 : Int) == (4 : Int))) (qP.j1 x0 k o4 o5 H5 n12 ((n12 : Int) == (5 : Int))))))
def qP.ann : Ann := { keep := fun r => match r with  | _ => [], ord := fun r => match r with | 11 => [0, 1, 2, 3, 4, 5, 6, 7, 8, 9, 10, 11, 12, 13] | 14 => [0, 1, 2, 3, 4, 5, 6, 7, 8] | _ => [] }
theorem qP.link {x0 : Option Addr} {x1 : List Value} {x2 : List Value} {H : AH} {k : Bool → AH → Prop} (h : qP.b x0 x1 x2 H k) : qP x0 x1 x2 H k := lk1 pan hT hm Tryz.func43 (by kernel_rfl) (A := qP.ann) (by kernel_rfl) (by simp) (by kernel_rfl) h
def qaY.b (x0 : Option Addr) (H : AH) (k : Sl → AH → Prop) : Prop :=
 bcase (qlH x0) (k ⟨none, 0, 0⟩ H) (onPtr x0 fun a6 => elP (AH.cell? H (qlg a6 0)) fun p8 => qv p8 H fun s9 H9 => k s9 H9)
theorem qaY.link {x0 : Option Addr} {H : AH} {k : Sl → AH → Prop} (h : qaY.b x0 H k) : qaY x0 H k := lk1 pan hT hm Tryz.func47 (by kernel_rfl) (A := ann0) (by kernel_rfl) (by simp) (by kernel_rfl) h
def qbe.b (x0 : Option Addr) (H : AH) (k : Bool → AH → Prop) : Prop :=
 bcase (!(qlH x0)) (onPtr x0 fun a7 => elB (AH.cell? H (qlg a7 1)) fun b9 => k b9 H) (k false H)
theorem qbe.link {x0 : Option Addr} {H : AH} {k : Bool → AH → Prop} (h : qbe.b x0 H k) : qbe x0 H k := lk1 pan hT hm Tryz.func79 (by kernel_rfl) (A := ann0) (by kernel_rfl) (by simp) (by kernel_rfl) h
def qbg.b (x0 : Option Addr) (H : AH) (k : Int → AH → Prop) : Prop :=
 bcase (qlH x0) (k (0 : Int) H) (onPtr x0 fun a6 => elP (AH.cell? H (qlg a6 0)) fun p8 => qaQ p8 H fun n9 H9 => k n9 H9)
theorem qbg.link {x0 : Option Addr} {H : AH} {k : Int → AH → Prop} (h : qbg.b x0 H k) : qbg x0 H k := lk1 pan hT hm Tryz.func80 (by kernel_rfl) (A := ann0) (by kernel_rfl) (by simp) (by kernel_rfl) h
def qam.b (H : AH) (k : Bool → AH → Prop) : Prop :=
 qca (16 : Int) H fun p5 H5 => bcase (qlH p5) (k false H5) (qP p5 [(qld .i64 (1 : Int)), (qld .i64 (0 : Int)), (qld .i64 (8 : Int)), (qld .i64 (0 : Int)), (qly none 0 0)] [(qld .i64 (0 : Int)), (qld .i64 (8 : Int)), (qly none 0 0)] H5 fun b11 H11 => qP p5 [(qld .i64 (2 : Int)), (qld .i64 (16 : Int)), (qld .i64 (0 : Int)), (qld .i64 (0 : Int)), (qly none 0 0)] [(qld .i64 (0 : Int)), (qld .i64 (0 : Int)), (qly none 0 0)] H11 fun b15 H15 => newC H15 ⟨[(qld .u8 (0 : Int))], .rw, 1⟩ fun o18 H18 => qP p5 [(qld .i64 (3 : Int)), (qld .i64 (8 : Int)), (qld .i64 (1 : Int)), (qld .i64 (0 : Int)), (qly none 0 0)] [(qld .i64 (0 : Int)), (qld .i64 (0 : Int)), (qly (some ⟨o18, 0, none⟩) 1 1)] H18 fun b20 H20 => bcase b11 (bcase (!b15) (bcase b20 (qaY p5 H20 fun s31 H31 => bcase ((((s31.n : Nat) : Int) : Int) == (2 : Int)) (qbe p5 H31 fun b37 H37 => bcase (!b37) (qbg p5 H37 fun n42 H42 => k ((n42 : Int) == (0 : Int)) H42) (k false H37)) (k false H31)) (k false H20)) (k false H20)) (k false H20))
theorem qam.link {_u : Unit} {H : AH} {k : Bool → AH → Prop} (h : qam.b  H k) : qam  H k := lk1 pan hT hm Tryz.func40 (by kernel_rfl) (A := ann0) (by kernel_rfl) (by simp) (by kernel_rfl) h
def qt.j1 (k : Bool → AH → Prop) (HL12 : AH) : Prop :=
 qam  HL12 fun b84 H84 => k b84 H84
def qt.l2 (x2 : Sl) (k : Bool → AH → Prop) (p44a : Option Addr) (p49 : Option Addr) (t12 : Bool × Int) (HL12 : AH) (it12 : (Bool × Int) → AH → Prop) : Prop :=
 bcase (decide ((t12.2 : Int) < ((x2.n : Nat) : Int))) ((0 ≤ t12.2 ∧ t12.2 < ((x2.n : Nat) : Int)) ∧ onPtr x2.a fun a74 => ldA HL12 (qlg a74 (qlp t12.2 * 5)) 5 fun c75 => newC HL12 ⟨[(qld .i64 (0 : Int)), (qld .i64 (0 : Int)), (qld .i64 (0 : Int)), (qld .i64 (0 : Int)), (qly none 0 0)], .rw, 0⟩ fun o12 H12 => (qlu c75 = 5 ∧ ql3 c75 qp = true) ∧ stC H12 ⟨o12, 0, none⟩ c75 fun Hs4 => ldA Hs4 ⟨o12, 0, none⟩ 5 fun c77 => ldA Hs4 ⟨o12, 0, none⟩ 5 fun c79 => qu p44a c79 Hs4 fun c80 H80 => AH.row? H80 ⟨o12, 0, none⟩ 5 = some c77 ∧ qP p49 c77 c80 H80 fun b81 H81 => bcase (!b81) (k false H81) (it12 (t12.1, (qlf .i64 (t12.2 + (1 : Int)))) H81)) (qt.j1 k HL12)
def qt.j3 (x1 : Sl) (x2 : Sl) (k : Bool → AH → Prop) (p44a : Option Addr) (n44b : Int) (H49 : AH) (p49 : Option Addr) (x59 : Bool) : Prop :=
 bcase x59 (bcase ((n44b : Int) != (1 : Int)) (bcase (decide ((((x1.n : Nat) : Int) : Int) > (0 : Int))) (qam  H49 fun b68 H68 => k b68 H68) (k false H49)) (k false H49)) (loopT (qt.l2 x2 k p44a p49) ((false, (0 : Int)) : Bool × Int) H49)
def qt.b (x0 : List Value) (x1 : Sl) (x2 : Sl) (H : AH) (k : Bool → AH → Prop) : Prop :=
 newC H ⟨x0, .rw, 0⟩ fun o3 H3 => qw x2 x1 H3 fun n15 H15 => bcase (decide ((n15 : Int) > (0 : Int))) (qam  H15 fun b17 H17 => k b17 H17) (elI .i64 (AH.cell? H15 (qlg ⟨o3, 0, none⟩ 0)) fun n19 => elI .i64 (AH.cell? H15 (qlg ⟨o3, 0, none⟩ 1)) fun n21 => elI .i64 (AH.cell? H15 (qlg ⟨o3, 0, none⟩ 2)) fun n23 => elI .i64 (AH.cell? H15 (qlg ⟨o3, 0, none⟩ 3)) fun n25 => qaT n19 n21 n23 n25 H15 fun c26 H26 => (qlu c26 = 4 ∧ ql3 c26 qp = true) ∧ stC H26 ⟨o3, 0, none⟩ c26 fun Hs2 => ldA Hs2 ⟨o3, 0, none⟩ 4 fun c27 => qbf c27 Hs2 fun n28 H28 => nvm_New n28 x1 H28 fun p30 H30 => ldA H30 ⟨o3, 0, none⟩ 4 fun c32 => qJ p30 c32 H30 fun n33 H33 => bcase ((n33 : Int) != (0 : Int)) (bcase (decide ((((x1.n : Nat) : Int) : Int) > (0 : Int))) (qam  H33 fun b39 H39 => k b39 H39) (k false H33)) (ldA H33 ⟨o3, 0, none⟩ 4 fun c43 => qZ p30 c43 H33 fun p44a n44b H44 => ldA H44 ⟨o3, 0, none⟩ 4 fun c47 => qbW c47 H44 fun n48 H48 => qca n48 H48 fun p49 H49 => bcase ((n44b : Int) != (0 : Int)) (qt.j3 x1 x2 k p44a n44b H49 p49 true) (bcase (qlH p44a) (qt.j3 x1 x2 k p44a n44b H49 p49 true) (qt.j3 x1 x2 k p44a n44b H49 p49 (qlH p49)))))
def qt.ann : Ann := { keep := fun r => match r with | 12 => [(6, .bool), (72, .int .i64)] | _ => [], ord := fun r => match r with | 14 => [0, 1, 2, 3, 4, 5, 6] | _ => [] }
theorem qt.link {x0 : List Value} {x1 : Sl} {x2 : Sl} {H : AH} {k : Bool → AH → Prop} (h : qt.b x0 x1 x2 H k) : qt x0 x1 x2 H k := lk1 pan hT hm Tryz.func10 (by kernel_rfl) (A := qt.ann) (by kernel_rfl) (by simp) (by kernel_rfl) h
def qap.b (x0 : Int) (H : AH) (pk : Value → AH → Prop) (k : AH → Prop) : Prop :=
 bcase ((x0 : Int) != (0 : Int)) (pk (Value.iface 31 (qld .i64 x0)) H) (k H)
theorem qap.link {x0 : Int} {H : AH} {pk : Value → AH → Prop} {k : AH → Prop} (h : qap.b x0 H pk k) : qap x0 H pk k := lk0 pan hT hm Tryz.func113 (by kernel_rfl) (A := ann0) (by kernel_rfl) (by kernel_rfl) h
def qa2.b (x0 : Option Addr) (H : AH) (pk : Value → AH → Prop) (k : Sl → AH → Prop) : Prop :=
 qaf x0 H fun s7a n7b H7 => qap n7b H7 (fun pv11 Hp11 => pk pv11 Hp11) fun H11 => k s7a H11
theorem qa2.link {x0 : Option Addr} {H : AH} {pk : Value → AH → Prop} {k : Sl → AH → Prop} (h : qa2.b x0 H pk k) : qa2 x0 H pk k := lk1 pan hT hm Tryz.func108 (by kernel_rfl) (A := ann0) (by kernel_rfl) (by simp) (by kernel_rfl) h
def qaw.b (x0 : Option Addr) (H : AH) (pk : Value → AH → Prop) (k : AH → Prop) : Prop :=
 qb7 x0 H fun b3 H3 => bcase b3 (pk (Value.iface 31 (qld .i64 (3 : Int))) H3) (k H3)
theorem qaw.link {x0 : Option Addr} {H : AH} {pk : Value → AH → Prop} {k : AH → Prop} (h : qaw.b x0 H pk k) : qaw x0 H pk k := lk0 pan hT hm Tryz.func110 (by kernel_rfl) (A := ann0) (by kernel_rfl) (by kernel_rfl) h
def qaN.b (x0 : Sl) (H : AH) (k : Sl → AH → Prop) : Prop :=
 bcase (qlH x0.a) (k ⟨none, 0, 0⟩ H) (newC H ⟨[], .rw, 1⟩ fun o5 H5 => appendC 1 H5 ⟨(some ⟨o5, 0, none⟩), 0, 1⟩ x0 fun s7 H7 => k s7 H7)
theorem qaN.link {x0 : Sl} {H : AH} {k : Sl → AH → Prop} (h : qaN.b x0 H k) : qaN x0 H k := lk1 pan hT hm Tryz.func147 (by kernel_rfl) (A := ann0) (by kernel_rfl) (by simp) (by kernel_rfl) h
def qbY.b (x0 : Option Addr) (H : AH) (k : Sl → AH → Prop) : Prop :=
 bcase (qlH x0) (k ⟨none, 0, 0⟩ H) (onPtr x0 fun a6 => elL (AH.cell? H (qlg a6 1)) fun s8 => qaN s8 H fun s9 H9 => k s9 H9)
theorem qbY.link {x0 : Option Addr} {H : AH} {k : Sl → AH → Prop} (h : qbY.b x0 H k) : qbY x0 H k := lk1 pan hT hm Tryz.func112 (by kernel_rfl) (A := ann0) (by kernel_rfl) (by simp) (by kernel_rfl) h
def qbD.j1 (x1 : Sl) (k : Int → AH → Prop) (o2 : Nat) (H2 : AH) (x15 : Bool) : Prop :=
 bcase x15 (k (0 : Int) H2) (elI .i64 (AH.cell? H2 (qlg ⟨o2, 0, none⟩ 0)) fun n18 => ((32 : Int) : Int) ≠ 0 ∧ (0 ≤ (qlf .i64 (qmy n18 (32 : Int))) ∧ (qlf .i64 (qmy n18 (32 : Int))) < ((x1.n : Nat) : Int)) ∧ onPtr x1.a fun a20 => elI .i64 (AH.cell? H2 (qlg a20 (qlp (qlf .i64 (qmy n18 (32 : Int))) * 1))) fun n21 => k n21 H2)
def qbD.b (x0 : List Value) (x1 : Sl) (H : AH) (k : Int → AH → Prop) : Prop :=
 newC H ⟨x0, .rw, 0⟩ fun o2 H2 => elI .i64 (AH.cell? H2 (qlg ⟨o2, 0, none⟩ 0)) fun n6 => bcase (decide ((n6 : Int) < (0 : Int))) (qbD.j1 x1 k o2 H2 true) (elI .i64 (AH.cell? H2 (qlg ⟨o2, 0, none⟩ 0)) fun n10 => ((32 : Int) : Int) ≠ 0 ∧ qbD.j1 x1 k o2 H2 (decide (((qlf .i64 (qmy n10 (32 : Int))) : Int) ≥ ((x1.n : Nat) : Int))))
theorem qbD.link {x0 : List Value} {x1 : Sl} {H : AH} {k : Int → AH → Prop} (h : qbD.b x0 x1 H k) : qbD x0 x1 H k := lk1 pan hT hm Tryz.func173 (by kernel_rfl) (A := ann0) (by kernel_rfl) (by simp) (by kernel_rfl) h
def qaI.j1 (t3 : Int × Int) (it3 : (Int × Int) → AH → Prop) (n19 : Int) (H34 : AH) (x55 : Bool) : Prop :=
 bcase x55 (it3 (n19, (qlf .i64 (t3.2 + (1 : Int)))) H34) (it3 (t3.1, (qlf .i64 (t3.2 + (1 : Int)))) H34)
def qaI.l2 (x0 : Sl) (x2 : Sl) (k : Int → AH → Prop) (s14 : Sl) (t3 : Int × Int) (HL3 : AH) (it3 : (Int × Int) → AH → Prop) : Prop :=
 bcase (decide ((t3.2 : Int) < ((s14.n : Nat) : Int))) ((0 ≤ t3.2 ∧ t3.2 < ((s14.n : Nat) : Int)) ∧ onPtr s14.a fun a18 => elI .i64 (AH.cell? HL3 (qlg a18 (qlp t3.2 * 1))) fun n19 => bcase (decide ((t3.1 : Int) < (0 : Int))) (it3 (n19, (qlf .i64 (t3.2 + (1 : Int)))) HL3) ((0 ≤ n19 ∧ n19 < ((x0.n : Nat) : Int)) ∧ onPtr x0.a fun a25 => ldA HL3 (qlg a25 (qlp n19 * 3)) 3 fun c26 => (0 ≤ t3.1 ∧ t3.1 < ((x0.n : Nat) : Int)) ∧ onPtr x0.a fun a31 => ldA HL3 (qlg a31 (qlp t3.1 * 3)) 3 fun c32 => qbD c26 x2 HL3 fun n28 H28 => AH.row? H28 (qlg a31 (qlp t3.1 * 3)) 3 = some c32 ∧ qbD c32 x2 H28 fun n34 H34 => bcase (decide ((n28 : Int) < n34)) (qaI.j1 t3 it3 n19 H34 true) (bcase ((n28 : Int) == n34) ((0 ≤ n19 ∧ n19 < ((x0.n : Nat) : Int)) ∧ onPtr x0.a fun a45 => elI .i64 (AH.cell? H34 (qlg (qlg a45 (qlp n19 * 3)) 0)) fun n47 => (0 ≤ t3.1 ∧ t3.1 < ((x0.n : Nat) : Int)) ∧ onPtr x0.a fun a50 => elI .i64 (AH.cell? H34 (qlg (qlg a50 (qlp t3.1 * 3)) 0)) fun n52 => qaI.j1 t3 it3 n19 H34 (decide ((n47 : Int) < n52))) (qaI.j1 t3 it3 n19 H34 false)))) (k t3.1 HL3)
def qaI.b (x0 : Sl) (x1 : Int) (x2 : Sl) (H : AH) (k : Int → AH → Prop) : Prop :=
 qW x0 x1 H fun s14 H14 => loopT (qaI.l2 x0 x2 k s14) (((-1 : Int), (0 : Int)) : Int × Int) H14
def qaI.ann : Ann := { keep := fun r => match r with | 3 => [(7, .int .i64), (16, .int .i64)] | _ => [], ord := fun r => match r with | 7 => [0, 1, 2, 3, 4, 6, 7, 8, 9, 10, 5, 11, 12, 13] | 8 => [0, 1, 2, 3, 4, 5, 6, 7, 8, 9, 10, 11, 12, 13, 14, 15, 16, 17, 18, 19, 20] | _ => [] }
theorem qaI.link {x0 : Sl} {x1 : Int} {x2 : Sl} {H : AH} {k : Int → AH → Prop} (h : qaI.b x0 x1 x2 H k) : qaI x0 x1 x2 H k := lk1 pan hT hm Tryz.func145 (by kernel_rfl) (A := qaI.ann) (by kernel_rfl) (by simp) (by kernel_rfl) h
def qaJ.j1 (k : Int → AH → Prop) (t3 : Int × Int × Int) (it3 : (Int × Int × Int) → AH → Prop) (o5 : Nat) (H14 : AH) (x19 : Bool) : Prop :=
 bcase x19 (k (0 : Int) H14) (elI .i64 (AH.cell? H14 (qlg ⟨o5, 0, none⟩ 1)) fun n22 => it3 (t3.1, (qlf .i64 (t3.2.1 + n22)), (qlf .i64 (t3.2.2 + (1 : Int)))) H14)
def qaJ.l2 (x0 : Sl) (k : Int → AH → Prop) (t3 : Int × Int × Int) (HL3 : AH) (it3 : (Int × Int × Int) → AH → Prop) : Prop :=
 bcase (decide ((t3.2.2 : Int) < ((x0.n : Nat) : Int))) ((0 ≤ t3.2.2 ∧ t3.2.2 < ((x0.n : Nat) : Int)) ∧ onPtr x0.a fun a10 => ldA HL3 (qlg a10 (qlp t3.2.2 * 3)) 3 fun c11 => newC HL3 ⟨[(qld .i64 (0 : Int)), (qld .i64 (0 : Int)), (ql6 false)], .rw, 0⟩ fun o5 H5 => (qlu c11 = 3 ∧ ql3 c11 qp = true) ∧ stC H5 ⟨o5, 0, none⟩ c11 fun Hs2 => elI .i64 (AH.cell? Hs2 (qlg ⟨o5, 0, none⟩ 1)) fun n13 => qbj n13 Hs2 fun b14 H14 => bcase (!b14) (qaJ.j1 k t3 it3 o5 H14 true) (qaJ.j1 k t3 it3 o5 H14 (decide ((t3.2.1 : Int) > (512 : Int))))) (k t3.2.1 HL3)
def qaJ.b (x0 : Sl) (H : AH) (k : Int → AH → Prop) : Prop :=
 loopT (qaJ.l2 x0 k) (((0 : Int), (0 : Int), (0 : Int)) : Int × Int × Int) H
def qaJ.ann : Ann := { keep := fun r => match r with | 3 => [(2, .int .i64), (3, .int .i64), (8, .int .i64)] | _ => [], ord := fun r => match r with  | _ => [] }
theorem qaJ.link {x0 : Sl} {H : AH} {k : Int → AH → Prop} (h : qaJ.b x0 H k) : qaJ x0 H k := lk1 pan hT hm Tryz.func189 (by kernel_rfl) (A := qaJ.ann) (by kernel_rfl) (by simp) (by kernel_rfl) h
def qa8.j1 (x0 : Sl) (x1 : Int) (x2 : Int) (k : Sl → AH → Prop) (H13 : AH) (x31 : Bool) : Prop :=
 bcase x31 (k ⟨none, 0, 0⟩ H13) ((0 ≤ x1 ∧ x1 < ((x0.n : Nat) : Int)) ∧ onPtr x0.a fun a34 => ldA H13 (qlg a34 (qlp x1 * 3)) 3 fun c35 => newC H13 ⟨[(qld .i64 (0 : Int)), (qld .i64 (0 : Int)), (ql6 false)], .rw, 0⟩ fun o7 H7 => (qlu c35 = 3 ∧ ql3 c35 qp = true) ∧ stC H7 ⟨o7, 0, none⟩ c35 fun Hs2 => elI .i64 (AH.cell? Hs2 (qlg ⟨o7, 0, none⟩ 1)) fun n37 => qbC n37 x2 Hs2 fun n39 H39 => bcase ((n39 : Int) == (0 : Int)) (k ⟨none, 0, 0⟩ H39) (elI .i64 (AH.cell? H39 (qlg ⟨o7, 0, none⟩ 0)) fun n43 => (qlu [(qld .i64 n43), (qld .i64 n39), (ql6 true)] = 3) ∧ newC H39 ⟨[(qld .i64 n43), (qld .i64 n39), (ql6 true)], .rw, 3⟩ fun o46 H46 => elI .i64 (AH.cell? H46 (qlg ⟨o7, 0, none⟩ 1)) fun n49 => bcase (decide ((n39 : Int) < n49)) (elI .i64 (AH.cell? H46 (qlg ⟨o7, 0, none⟩ 0)) fun n53 => elI .i64 (AH.cell? H46 (qlg ⟨o7, 0, none⟩ 1)) fun n57 => (qlu [(qld .i64 (qlf .i64 (n53 + n39))), (qld .i64 (qlf .i64 (n57 - n39))), (ql6 false)] = 3) ∧ newC H46 ⟨[(qld .i64 (qlf .i64 (n53 + n39))), (qld .i64 (qlf .i64 (n57 - n39))), (ql6 false)], .rw, 3⟩ fun o61 H61 => appendC 3 H61 ⟨(some ⟨o46, 0, none⟩), 1, 1⟩ ⟨(some ⟨o61, 0, none⟩), 1, 1⟩ fun s62 H62 => k s62 H62) (k ⟨(some ⟨o46, 0, none⟩), 1, 1⟩ H46)))
def qa8.b (x0 : Sl) (x1 : Int) (x2 : Int) (H : AH) (k : Sl → AH → Prop) : Prop :=
 qaJ x0 H fun n12 H12 => qad x0 n12 H12 fun b13 H13 => bcase (!b13) (qa8.j1 x0 x1 x2 k H13 true) (bcase (decide ((x1 : Int) < (0 : Int))) (qa8.j1 x0 x1 x2 k H13 true) (bcase (decide ((x1 : Int) ≥ ((x0.n : Nat) : Int))) (qa8.j1 x0 x1 x2 k H13 true) ((0 ≤ x1 ∧ x1 < ((x0.n : Nat) : Int)) ∧ onPtr x0.a fun a28 => elB (AH.cell? H13 (qlg (qlg a28 (qlp x1 * 3)) 2)) fun b30 => qa8.j1 x0 x1 x2 k H13 b30)))
theorem qa8.link {x0 : Sl} {x1 : Int} {x2 : Int} {H : AH} {k : Sl → AH → Prop} (h : qa8.b x0 x1 x2 H k) : qa8 x0 x1 x2 H k := lk1 pan hT hm Tryz.func174 (by kernel_rfl) (A := ann0) (by kernel_rfl) (by simp) (by kernel_rfl) h
def qag.j1 (t3 : Sl × Int) (it3 : (Sl × Int) → AH → Prop) (o9 : Nat) (t7 : Sl × Int) (it7 : (Sl × Int) → AH → Prop) (HL7 : AH) (x38 : Bool) : Prop :=
 bcase x38 (elI .i64 (AH.cell? HL7 (qlg ⟨o9, 0, none⟩ 0)) fun n43 => (qlu [(qld .i64 (qlf .i64 (n43 + t7.2))), (qld .u64 (0 : Int))] = 2) ∧ newC HL7 ⟨[(qld .i64 (qlf .i64 (n43 + t7.2))), (qld .u64 (0 : Int))], .rw, 2⟩ fun o47 H47 => appendC 2 H47 t7.1 ⟨(some ⟨o47, 0, none⟩), 1, 1⟩ fun s48 H48 => it7 (s48, (qlf .i64 (t7.2 + (1 : Int)))) H48) (it3 (t7.1, (qlf .i64 (t3.2 + (1 : Int)))) HL7)
def qag.l2 (t3 : Sl × Int) (it3 : (Sl × Int) → AH → Prop) (o9 : Nat) (t7 : Sl × Int) (HL7 : AH) (it7 : (Sl × Int) → AH → Prop) : Prop :=
 elI .i64 (AH.cell? HL7 (qlg ⟨o9, 0, none⟩ 1)) fun n33 => bcase (decide ((t7.2 : Int) < n33)) (elB (AH.cell? HL7 (qlg ⟨o9, 0, none⟩ 2)) fun b37 => qag.j1 t3 it3 o9 t7 it7 HL7 b37) (qag.j1 t3 it3 o9 t7 it7 HL7 false)
def qag.l3 (k : Sl → AH → Prop) (s14 : Sl) (t3 : Sl × Int) (HL3 : AH) (it3 : (Sl × Int) → AH → Prop) : Prop :=
 bcase (decide ((t3.2 : Int) < ((s14.n : Nat) : Int))) ((0 ≤ t3.2 ∧ t3.2 < ((s14.n : Nat) : Int)) ∧ onPtr s14.a fun a18 => ldA HL3 (qlg a18 (qlp t3.2 * 3)) 3 fun c19 => newC HL3 ⟨[(qld .i64 (0 : Int)), (qld .i64 (0 : Int)), (ql6 false)], .rw, 0⟩ fun o9 H9 => (qlu c19 = 3 ∧ ql3 c19 qp = true) ∧ stC H9 ⟨o9, 0, none⟩ c19 fun Hs2 => elI .i64 (AH.cell? Hs2 (qlg ⟨o9, 0, none⟩ 0)) fun n22 => elI .i64 (AH.cell? Hs2 (qlg ⟨o9, 0, none⟩ 1)) fun n24 => elB (AH.cell? Hs2 (qlg ⟨o9, 0, none⟩ 2)) fun b26 => qbJ n24 b26 Hs2 fun n27 H27 => AH.cell? H27 (qlg ⟨o9, 0, none⟩ 0) = some (qld .i64 n22) ∧ (qlu [(qld .i64 n22), (qld .u64 n27)] = 2) ∧ newC H27 ⟨[(qld .i64 n22), (qld .u64 n27)], .rw, 2⟩ fun o29 H29 => appendC 2 H29 t3.1 ⟨(some ⟨o29, 0, none⟩), 1, 1⟩ fun s30 H30 => loopT (qag.l2 t3 it3 o9) ((s30, (1 : Int)) : Sl × Int) H30) (k t3.1 HL3)
def qag.b (x0 : Sl) (x1 : Int) (x2 : Int) (H : AH) (k : Sl → AH → Prop) : Prop :=
 qa8 x0 x1 x2 H fun s14 H14 => loopT (qag.l3 k s14) ((⟨none, 0, 0⟩, (0 : Int)) : Sl × Int) H14
def qag.ann : Ann := { keep := fun r => match r with | 3 => [(7, .sl), (16, .int .i64)] | 7 => [(7, .sl), (10, .int .i64)] | _ => [], ord := fun r => match r with | 5 => [0, 1, 2, 3, 4, 5, 6, 7, 8, 9, 10, 11] | _ => [] }
theorem qag.link {x0 : Sl} {x1 : Int} {x2 : Int} {H : AH} {k : Sl → AH → Prop} (h : qag.b x0 x1 x2 H k) : qag x0 x1 x2 H k := lk1 pan hT hm Tryz.func146 (by kernel_rfl) (A := qag.ann) (by kernel_rfl) (by simp) (by kernel_rfl) h
def qbT.b (x0 : Sl) (x1 : Int) (x2 : Sl) (H : AH) (k : Sl → Int → Int → AH → Prop) : Prop :=
 qa9 x1 H fun n14 H14 => bcase ((n14 : Int) == (0 : Int)) (k ⟨none, 0, 0⟩ (0 : Int) (1 : Int) H14) (qT x0 H14 fun s19a b19b H19 => bcase (!b19b) (k ⟨none, 0, 0⟩ (0 : Int) (6 : Int) H19) (qaI s19a n14 x2 H19 fun n27 H27 => bcase (decide ((n27 : Int) < (0 : Int))) (k ⟨none, 0, 0⟩ (0 : Int) (4 : Int) H27) ((0 ≤ n27 ∧ n27 < ((s19a.n : Nat) : Int)) ∧ onPtr s19a.a fun a36 => ldA H27 (qlg a36 (qlp n27 * 3)) 3 fun c37 => qag s19a n27 n14 H27 fun s33 H33 => AH.row? H33 (qlg a36 (qlp n27 * 3)) 3 = some c37 ∧ qa4 c37 H33 fun n38 H38 => k s33 n38 (0 : Int) H38)))
def qbT.ann : Ann := { keep := fun r => match r with  | _ => [], ord := fun r => match r with | 10 => [0, 1, 2, 4, 5, 6, 7, 3, 8, 9, 10, 11] | _ => [] }
theorem qbT.link {x0 : Sl} {x1 : Int} {x2 : Sl} {H : AH} {k : Sl → Int → Int → AH → Prop} (h : qbT.b x0 x1 x2 H k) : qbT x0 x1 x2 H k := lk3 pan hT hm Tryz.func111 (by kernel_rfl) (A := qbT.ann) (by kernel_rfl) (by simp) (by simp) (by simp) (by kernel_rfl) h
def qah.b (x0 : Sl) (H : AH) (k : Sl → AH → Prop) : Prop :=
 bcase (qlH x0.a) (k ⟨none, 0, 0⟩ H) (newC H ⟨[], .rw, 1⟩ fun o5 H5 => appendC 1 H5 ⟨(some ⟨o5, 0, none⟩), 0, 1⟩ x0 fun s7 H7 => k s7 H7)
theorem qah.link {x0 : Sl} {H : AH} {k : Sl → AH → Prop} (h : qah.b x0 H k) : qah x0 H k := lk1 pan hT hm Tryz.func175 (by kernel_rfl) (A := ann0) (by kernel_rfl) (by simp) (by kernel_rfl) h
def qaU.j1 (s9 : Sl) (t3 : Int) (it3 : (Int) → AH → Prop) (o7 : Nat) (Hs2 : AH) (x25 : Bool) : Prop :=
 bcase x25 (elI .i64 (AH.cell? Hs2 (qlg ⟨o7, 0, none⟩ 0)) fun n28 => elI .u64 (AH.cell? Hs2 (qlg ⟨o7, 0, none⟩ 1)) fun n30 => (0 ≤ n28 ∧ n28 < ((s9.n : Nat) : Int)) ∧ onPtr s9.a fun a31 => stC Hs2 (qlg a31 (qlp n28 * 1)) [(qld .u64 n30)] fun Hs4 => it3 (qlf .i64 (t3 + (1 : Int))) Hs4) (it3 (qlf .i64 (t3 + (1 : Int))) Hs2)
def qaU.l2 (x1 : Sl) (k : Sl → AH → Prop) (s9 : Sl) (t3 : Int) (HL3 : AH) (it3 : (Int) → AH → Prop) : Prop :=
 bcase (decide ((t3 : Int) < ((x1.n : Nat) : Int))) ((0 ≤ t3 ∧ t3 < ((x1.n : Nat) : Int)) ∧ onPtr x1.a fun a14 => ldA HL3 (qlg a14 (qlp t3 * 2)) 2 fun c15 => newC HL3 ⟨[(qld .i64 (0 : Int)), (qld .u64 (0 : Int))], .rw, 0⟩ fun o7 H7 => (qlu c15 = 2 ∧ ql3 c15 qp = true) ∧ stC H7 ⟨o7, 0, none⟩ c15 fun Hs2 => elI .i64 (AH.cell? Hs2 (qlg ⟨o7, 0, none⟩ 0)) fun n17 => bcase (decide ((n17 : Int) ≥ (0 : Int))) (elI .i64 (AH.cell? Hs2 (qlg ⟨o7, 0, none⟩ 0)) fun n21 => qaU.j1 s9 t3 it3 o7 Hs2 (decide ((n21 : Int) < ((s9.n : Nat) : Int)))) (qaU.j1 s9 t3 it3 o7 Hs2 false)) (k s9 HL3)
def qaU.b (x0 : Sl) (x1 : Sl) (H : AH) (k : Sl → AH → Prop) : Prop :=
 qah x0 H fun s9 H9 => loopT (qaU.l2 x1 k s9) (((0 : Int)) : Int) H9
def qaU.ann : Ann := { keep := fun r => match r with | 3 => [(12, .int .i64)] | _ => [], ord := fun r => match r with  | _ => [] }
theorem qaU.link {x0 : Sl} {x1 : Sl} {H : AH} {k : Sl → AH → Prop} (h : qaU.b x0 x1 H k) : qaU x0 x1 H k := lk1 pan hT hm Tryz.func148 (by kernel_rfl) (A := qaU.ann) (by kernel_rfl) (by simp) (by kernel_rfl) h
def qaL.j1 (k : Sl → AH → Prop) (t3 : Sl × Int) (HL3 : AH) : Prop :=
 qcx t3.1 HL3 fun H23 => qb6 t3.1 H23 fun s25 H25 => k s25 H25
def qaL.l2 (x0 : Sl) (k : Sl → AH → Prop) (t3 : Sl × Int) (HL3 : AH) (it3 : (Sl × Int) → AH → Prop) : Prop :=
 bcase (decide ((t3.2 : Int) < ((x0.n : Nat) : Int))) ((0 ≤ t3.2 ∧ t3.2 < ((x0.n : Nat) : Int)) ∧ onPtr x0.a fun a10 => ldA HL3 (qlg a10 (qlp t3.2 * 2)) 2 fun c11 => newC HL3 ⟨[(qld .i64 (0 : Int)), (qld .u64 (0 : Int))], .rw, 0⟩ fun o5 H5 => (qlu c11 = 2 ∧ ql3 c11 qp = true) ∧ stC H5 ⟨o5, 0, none⟩ c11 fun Hs2 => elI .i64 (AH.cell? Hs2 (qlg ⟨o5, 0, none⟩ 0)) fun n13 => bcase (decide ((n13 : Int) ≥ (0 : Int))) (elI .i64 (AH.cell? Hs2 (qlg ⟨o5, 0, none⟩ 0)) fun n17 => ((8 : Int) : Int) ≠ 0 ∧ newC Hs2 ⟨[(qld .i64 (qlf .i64 (qmy n17 (8 : Int))))], .rw, 1⟩ fun o19 H19 => appendC 1 H19 t3.1 ⟨(some ⟨o19, 0, none⟩), 1, 1⟩ fun s20 H20 => it3 (s20, (qlf .i64 (t3.2 + (1 : Int)))) H20) (it3 (t3.1, (qlf .i64 (t3.2 + (1 : Int)))) Hs2)) (qaL.j1 k t3 HL3)
def qaL.b (x0 : Sl) (H : AH) (k : Sl → AH → Prop) : Prop :=
 loopT (qaL.l2 x0 k) ((⟨none, 0, 0⟩, (0 : Int)) : Sl × Int) H
def qaL.ann : Ann := { keep := fun r => match r with | 3 => [(3, .sl), (8, .int .i64)] | _ => [], ord := fun r => match r with  | _ => [] }
theorem qaL.link {x0 : Sl} {H : AH} {k : Sl → AH → Prop} (h : qaL.b x0 H k) : qaL x0 H k := lk1 pan hT hm Tryz.func149 (by kernel_rfl) (A := qaL.ann) (by kernel_rfl) (by simp) (by kernel_rfl) h
def qS.j1 (x0 : Option Addr) (x1 : Sl) (k : Int → AH → Prop) (HL15 : AH) : Prop :=
 onPtr x0 fun a80 => elP (AH.cell? HL15 (qlg a80 0)) fun p82 => qF p82 (1 : Int) (qlf .u64 ((x1.n : Nat) : Int)) HL15 fun n86 H86 => bcase ((n86 : Int) != (0 : Int)) (k n86 H86) (qav x0 x1 H86 fun n92 H92 => k n92 H92)
def qS.l2 (x0 : Option Addr) (x1 : Sl) (k : Int → AH → Prop) (t9 : Sl × Int) (t15 : Int × Int) (HL15 : AH) (it15 : (Int × Int) → AH → Prop) : Prop :=
 bcase (decide ((t15.2 : Int) < ((t9.1.n : Nat) : Int))) ((0 ≤ t15.2 ∧ t15.2 < ((t9.1.n : Nat) : Int)) ∧ onPtr t9.1.a fun a66 => ldA HL15 (qlg a66 (qlp t15.2 * 8)) 8 fun c67 => newC HL15 ⟨[(qld .u64 (0 : Int)), (qld .u64 (0 : Int)), (qld .u64 (0 : Int)), (qld .u64 (0 : Int)), (qld .u64 (0 : Int)), (qld .u64 (0 : Int)), (qld .u64 (0 : Int)), (qld .u64 (0 : Int))], .rw, 0⟩ fun o9 H9 => (qlu c67 = 8 ∧ ql3 c67 qp = true) ∧ stC H9 ⟨o9, 0, none⟩ c67 fun Hs6 => onPtr x0 fun a69 => elP (AH.cell? Hs6 (qlg a69 1)) fun p71 => ldA Hs6 ⟨o9, 0, none⟩ 8 fun c73 => qaC p71 t15.2 c73 Hs6 fun n74 H74 => bcase ((n74 : Int) != (0 : Int)) (k n74 H74) (it15 (t15.1, (qlf .i64 (t15.2 + (1 : Int)))) H74)) (qS.j1 x0 x1 k HL15)
def qS.l3 (x0 : Option Addr) (x1 : Sl) (k : Int → AH → Prop) (t9 : Sl × Int) (HL9 : AH) (it9 : (Sl × Int) → AH → Prop) : Prop :=
 bcase (decide ((t9.2 : Int) < ((x1.n : Nat) : Int))) ((0 ≤ t9.2 ∧ t9.2 < ((x1.n : Nat) : Int)) ∧ onPtr x1.a fun a43 => ldA HL9 (qlg a43 (qlp t9.2 * 9)) 9 fun c44 => newC HL9 ⟨[(qld .i64 (0 : Int)), (qld .u64 (0 : Int)), (qld .u64 (0 : Int)), (qld .u64 (0 : Int)), (qld .u64 (0 : Int)), (qld .u64 (0 : Int)), (qld .u64 (0 : Int)), (qld .u64 (0 : Int)), (qld .u64 (0 : Int))], .rw, 0⟩ fun o7 H7 => (qlu c44 = 9 ∧ ql3 c44 qp = true) ∧ stC H7 ⟨o7, 0, none⟩ c44 fun Hs2 => ((8 : Int) : Int) ≠ 0 ∧ ((8 : Int) : Int) ≠ 0 ∧ elI .i64 (AH.cell? Hs2 (qlg ⟨o7, 0, none⟩ 0)) fun n51 => (0 ≤ (qlf .i64 (qmy t9.2 (8 : Int))) ∧ (qlf .i64 (qmy t9.2 (8 : Int))) < ((t9.1.n : Nat) : Int)) ∧ onPtr t9.1.a fun a53 => (0 ≤ (qmp t9.2 (8 : Int)) ∧ (qmp t9.2 (8 : Int)) < ((8 : Nat) : Int)) ∧ stC Hs2 (qlg (qlg a53 (qlp (qlf .i64 (qmy t9.2 (8 : Int))) * 8)) (qlp (qmp t9.2 (8 : Int)) * 1)) [(qld .u64 (qlf .u64 n51))] fun Hs4 => ldA Hs4 (qlg ⟨o7, 0, none⟩ 1) 8 fun c57 => (qlu c57 = 8) ∧ newC Hs4 ⟨(setMany [(qld .u64 (0 : Int)), (qld .u64 (0 : Int)), (qld .u64 (0 : Int)), (qld .u64 (0 : Int)), (qld .u64 (0 : Int)), (qld .u64 (0 : Int)), (qld .u64 (0 : Int)), (qld .u64 (0 : Int))] 0 c57), .rw, 8⟩ fun o58 H58 => appendC 8 H58 t9.1 ⟨(some ⟨o58, 0, none⟩), 1, 1⟩ fun s59 H59 => it9 (s59, (qlf .i64 (t9.2 + (1 : Int)))) H59) (loopT (qS.l2 x0 x1 k t9) (((0 : Int), (0 : Int)) : Int × Int) HL9)
def qS.j4 (x0 : Option Addr) (x1 : Sl) (k : Int → AH → Prop) (x12 : Bool) (Hj : AH) : Prop :=
 bcase x12 (k (1 : Int) Hj) (onPtr x0 fun a27 => elP (AH.cell? Hj (qlg a27 0)) fun p29 => qal p29 Hj fun b30 H30 => bcase b30 (k (2 : Int) H30) (qbM x0 H30 fun b33 H33 => bcase b33 (k (5 : Int) H33) (qck ((x1.n : Nat) : Int) H33 fun n36 H36 => (0 ≤ n36 ∧ n36 ≤ (16 : Int) ∧ (16 : Int) ≤ (lim : Int)) ∧ newC H36 ⟨zerosOf (qlp n36) [(qld .u64 (0 : Int)), (qld .u64 (0 : Int)), (qld .u64 (0 : Int)), (qld .u64 (0 : Int)), (qld .u64 (0 : Int)), (qld .u64 (0 : Int)), (qld .u64 (0 : Int)), (qld .u64 (0 : Int))], .rw, 8⟩ fun o37 H37 => loopT (qS.l3 x0 x1 k) ((⟨(some ⟨o37, 0, none⟩), (qlp n36), 1⟩, (0 : Int)) : Sl × Int) H37)))
def qS.b (x0 : Option Addr) (x1 : Sl) (H : AH) (k : Int → AH → Prop) : Prop :=
 bcase (qlH x0) (qS.j4 x0 x1 k true H) (onPtr x0 fun a17 => elP (AH.cell? H (qlg a17 1)) fun p19 => qaK p19 H fun n20 H20 => log_May n20 x1 H20 fun b22 H22 => qS.j4 x0 x1 k (!b22) H22)
def qS.ann : Ann := { keep := fun r => match r with | 9 => [(5, .sl), (40, .int .i64)] | 15 => [(4, .int .i64), (63, .int .i64)] | _ => [], ord := fun r => match r with | 11 => [0, 1, 2, 3, 4, 5, 6, 7, 8, 9, 10] | 17 => [0, 1, 2, 3, 4, 5, 6, 7] | _ => [] }
theorem qS.link {x0 : Option Addr} {x1 : Sl} {H : AH} {k : Int → AH → Prop} (h : qS.b x0 x1 H k) : qS x0 x1 H k := lk1 pan hT hm Tryz.func150 (by kernel_rfl) (A := qS.ann) (by kernel_rfl) (by simp) (by kernel_rfl) h
def qbN.b (x0 : Option Addr) (x1 : Int) (H : AH) (k : Bool → AH → Prop) : Prop :=
 bcase (!(qlH x0)) (bcase (decide ((x1 : Int) ≥ (0 : Int))) (onPtr x0 fun a14 => elL (AH.cell? H (qlg a14 1)) fun s16 => k (decide ((x1 : Int) < ((s16.n : Nat) : Int))) H) (k false H)) (k false H)
theorem qbN.link {x0 : Option Addr} {x1 : Int} {H : AH} {k : Bool → AH → Prop} (h : qbN.b x0 x1 H k) : qbN x0 x1 H k := lk1 pan hT hm Tryz.func178 (by kernel_rfl) (A := ann0) (by kernel_rfl) (by simp) (by kernel_rfl) h
def qbo.b (x0 : Option Addr) (x1 : Int) (H : AH) (k : Int → AH → Prop) : Prop :=
 qbN x0 x1 H fun b7 H7 => bcase (!b7) (k (0 : Int) H7) (onPtr x0 fun a10 => elL (AH.cell? H7 (qlg a10 1)) fun s12 => (0 ≤ x1 ∧ x1 < ((s12.n : Nat) : Int)) ∧ onPtr s12.a fun a14 => elI .i64 (AH.cell? H7 (qlg a14 (qlp x1 * 1))) fun n15 => onPtr x0 fun a17 => elL (AH.cell? H7 (qlg a17 2)) fun s19 => (0 ≤ x1 ∧ x1 < ((s19.n : Nat) : Int)) ∧ onPtr s19.a fun a21 => elI .i64 (AH.cell? H7 (qlg a21 (qlp x1 * 1))) fun n22 => k (qlf .i64 (n15 - n22)) H7)
def qbo.ann : Ann := { keep := fun r => match r with  | _ => [], ord := fun r => match r with | 3 => [0, 1, 2, 3, 4, 5, 6, 7, 8, 9, 10, 11, 12, 13, 14, 15] | _ => [] }
theorem qbo.link {x0 : Option Addr} {x1 : Int} {H : AH} {k : Int → AH → Prop} (h : qbo.b x0 x1 H k) : qbo x0 x1 H k := lk1 pan hT hm Tryz.func179 (by kernel_rfl) (A := qbo.ann) (by kernel_rfl) (by simp) (by kernel_rfl) h
def qas.j1 (x0 : Option Addr) (x1 : Int) (k : Int → Bool → AH → Prop) (n26 : Int) (n22 : Int) (Hj : AH) : Prop :=
 onPtr x0 fun a43 => elL (AH.cell? Hj (qlg a43 1)) fun s45 => (0 ≤ x1 ∧ x1 < ((s45.n : Nat) : Int)) ∧ onPtr s45.a fun a47 => elI .i64 (AH.cell? Hj (qlg a47 (qlp x1 * 1))) fun n48 => k n48 (decide ((n22 : Int) ≥ n26)) Hj
def qas.b (x0 : Option Addr) (x1 : Int) (H : AH) (k : Int → Bool → AH → Prop) : Prop :=
 qbN x0 x1 H fun b9 H9 => bcase (!b9) (k (0 : Int) false H9) (onPtr x0 fun a12 => elL (AH.cell? H9 (qlg a12 1)) fun s14 => (0 ≤ x1 ∧ x1 < ((s14.n : Nat) : Int)) ∧ onPtr s14.a fun a16 => elI .i64 (AH.cell? H9 (qlg a16 (qlp x1 * 1))) fun n17 => (0 ≤ x1 ∧ x1 < ((s14.n : Nat) : Int)) ∧ onPtr s14.a fun a19 => stC H9 (qlg a19 (qlp x1 * 1)) [(qld .i64 (qlf .i64 (n17 + (1 : Int))))] fun Hs2 => onPtr x0 fun a24 => elI .i64 (AH.cell? Hs2 (qlg a24 0)) fun n26 => qbo x0 x1 Hs2 fun n22 H22 => AH.cell? H22 (qlg a24 0) = some (qld .i64 n26) ∧ bcase (decide ((n22 : Int) ≥ n26)) (onPtr x0 fun a30 => elL (AH.cell? H22 (qlg a30 2)) fun s32 => onPtr x0 fun a35 => elL (AH.cell? H22 (qlg a35 1)) fun s37 => (0 ≤ x1 ∧ x1 < ((s37.n : Nat) : Int)) ∧ onPtr s37.a fun a39 => elI .i64 (AH.cell? H22 (qlg a39 (qlp x1 * 1))) fun n40 => (0 ≤ x1 ∧ x1 < ((s32.n : Nat) : Int)) ∧ onPtr s32.a fun a41 => stC H22 (qlg a41 (qlp x1 * 1)) [(qld .i64 n40)] fun Hs4 => qas.j1 x0 x1 k n26 n22 Hs4) (qas.j1 x0 x1 k n26 n22 H22))
def qas.ann : Ann := { keep := fun r => match r with  | _ => [], ord := fun r => match r with | 4 => [0, 1, 3, 4, 5, 6, 2, 7, 8] | 6 => [0, 1, 2, 3, 4, 5, 6, 7, 8, 9, 10, 11, 12, 13] | _ => [] }
theorem qas.link {x0 : Option Addr} {x1 : Int} {H : AH} {k : Int → Bool → AH → Prop} (h : qas.b x0 x1 H k) : qas x0 x1 H k := lk2 pan hT hm Tryz.func151 (by kernel_rfl) (A := qas.ann) (by kernel_rfl) (by simp) (by simp) (by kernel_rfl) h
def qE.l1 (x0 : Option Addr) (k : AH → Prop) (pk : Value → AH → Prop) (s59 : Sl) (t11 : Int) (HL11 : AH) (it11 : (Int) → AH → Prop) : Prop :=
 bcase (decide ((t11 : Int) < ((s59.n : Nat) : Int))) ((0 ≤ t11 ∧ t11 < ((s59.n : Nat) : Int)) ∧ onPtr s59.a fun a63 => elI .i64 (AH.cell? HL11 (qlg a63 (qlp t11 * 1))) fun n64 => qce n64 HL11 fun n66 H66 => onPtr x0 fun a69 => elP (AH.cell? H66 (qlg a69 7)) fun p71 => qas p71 n66 H66 fun n73a b73b H73 => bcase b73b (onPtr x0 fun a78 => elP (AH.cell? H73 (qlg a78 0)) fun p80 => qF p80 (qlf .i64 ((19 : Int) + n66)) (qlf .u64 n73a) H73 fun n85 H85 => qap n85 H85 (fun pv86 Hp86 => pk pv86 Hp86) fun H86 => it11 (qlf .i64 (t11 + (1 : Int))) H86) (it11 (qlf .i64 (t11 + (1 : Int))) H73)) (k HL11)
def qE.j2 (x0 : Option Addr) (x2 : Sl) (k : AH → Prop) (pk : Value → AH → Prop) (n44 : Int) (Hj : AH) : Prop :=
 qap n44 Hj (fun pv57 Hp57 => pk pv57 Hp57) fun H57 => qaL x2 H57 fun s59 H59 => loopT (qE.l1 x0 k pk s59) (((0 : Int)) : Int) H59
def qE.j3 (x0 : Option Addr) (x2 : Sl) (k : AH → Prop) (pk : Value → AH → Prop) (t3 : Sl × Int) (HL3 : AH) : Prop :=
 onPtr x0 fun a40 => elP (AH.cell? HL3 (qlg a40 6)) fun p42 => qS p42 t3.1 HL3 fun n44 H44 => onPtr x0 fun a47 => elB (AH.cell? H44 (qlg a47 8)) fun b49 => bcase b49 (onPtr x0 fun a54 => stC H44 (qlg a54 8) [(ql6 true)] fun Hs2 => qE.j2 x0 x2 k pk n44 Hs2) (onPtr x0 fun a54 => stC H44 (qlg a54 8) [(ql6 ((n44 : Int) == (3 : Int)))] fun Hs4 => qE.j2 x0 x2 k pk n44 Hs4)
def qE.l4 (x0 : Option Addr) (x2 : Sl) (k : AH → Prop) (pk : Value → AH → Prop) (s17 : Sl) (s19 : Sl) (t3 : Sl × Int) (HL3 : AH) (it3 : (Sl × Int) → AH → Prop) : Prop :=
 bcase (decide ((t3.2 : Int) < ((s19.n : Nat) : Int))) ((0 ≤ t3.2 ∧ t3.2 < ((s19.n : Nat) : Int)) ∧ onPtr s19.a fun a23 => elI .i64 (AH.cell? HL3 (qlg a23 (qlp t3.2 * 1))) fun n24 => onPtr x0 fun a27 => ldA HL3 (qlg a27 1) 4 fun c29 => qbr c29 n24 HL3 fun n31 H31 => qbi s17 n24 H31 fun c34 H34 => (qlu c34 = 8) ∧ (qlu (setMany [(qld .i64 n31), (qld .u64 (0 : Int)), (qld .u64 (0 : Int)), (qld .u64 (0 : Int)), (qld .u64 (0 : Int)), (qld .u64 (0 : Int)), (qld .u64 (0 : Int)), (qld .u64 (0 : Int)), (qld .u64 (0 : Int))] 1 c34) = 9) ∧ newC H34 ⟨(setMany [(qld .i64 (0 : Int)), (qld .u64 (0 : Int)), (qld .u64 (0 : Int)), (qld .u64 (0 : Int)), (qld .u64 (0 : Int)), (qld .u64 (0 : Int)), (qld .u64 (0 : Int)), (qld .u64 (0 : Int)), (qld .u64 (0 : Int))] 0 (setMany [(qld .i64 n31), (qld .u64 (0 : Int)), (qld .u64 (0 : Int)), (qld .u64 (0 : Int)), (qld .u64 (0 : Int)), (qld .u64 (0 : Int)), (qld .u64 (0 : Int)), (qld .u64 (0 : Int)), (qld .u64 (0 : Int))] 1 c34)), .rw, 9⟩ fun o36 H36 => appendC 9 H36 t3.1 ⟨(some ⟨o36, 0, none⟩), 1, 1⟩ fun s37 H37 => it3 (s37, (qlf .i64 (t3.2 + (1 : Int)))) H37) (qE.j3 x0 x2 k pk t3 HL3)
def qE.b (x0 : Option Addr) (x1 : Sl) (x2 : Sl) (H : AH) (pk : Value → AH → Prop) (k : AH → Prop) : Prop :=
 qaU x1 x2 H fun s17 H17 => qaL x2 H17 fun s19 H19 => loopT (qE.l4 x0 x2 k pk s17 s19) ((⟨none, 0, 0⟩, (0 : Int)) : Sl × Int) H19
def qE.ann : Ann := { keep := fun r => match r with | 3 => [(6, .sl), (21, .int .i64)] | 11 => [(61, .int .i64)] | _ => [], ord := fun r => match r with  | _ => [] }
theorem qE.link {x0 : Option Addr} {x1 : Sl} {x2 : Sl} {H : AH} {pk : Value → AH → Prop} {k : AH → Prop} (h : qE.b x0 x1 x2 H pk k) : qE x0 x1 x2 H pk k := lk0 pan hT hm Tryz.func114 (by kernel_rfl) (A := qE.ann) (by kernel_rfl) (by kernel_rfl) h
def qb1.b (x0 : Option Addr) (x1 : Int) (H : AH) (pk : Value → AH → Prop) (k : Int → AH → Prop) : Prop :=
 qa2 x0 H (fun pv10 Hp10 => pk pv10 Hp10) fun s10 H10 => qa9 x1 H10 fun n12 H12 => bcase ((n12 : Int) == (0 : Int)) (pk (Value.iface 31 (qld .i64 (1 : Int))) H12) (qaw x0 H12 (fun pv16 Hp16 => pk pv16 Hp16) fun H16 => onPtr x0 fun a21 => elP (AH.cell? H16 (qlg a21 7)) fun p23 => qbY p23 H16 fun s24 H24 => qbT s10 x1 s24 H24 fun s25a n25b n25c H25 => qap n25c H25 (fun pv30 Hp30 => pk pv30 Hp30) fun H30 => qE x0 s10 s25a H30 (fun pv34 Hp34 => pk pv34 Hp34) fun H34 => k n25b H34)
theorem qb1.link {x0 : Option Addr} {x1 : Int} {H : AH} {pk : Value → AH → Prop} {k : Int → AH → Prop} (h : qb1.b x0 x1 H pk k) : qb1 x0 x1 H pk k := lk1 pan hT hm Tryz.func64 (by kernel_rfl) (A := ann0) (by kernel_rfl) (by simp) (by kernel_rfl) h
def qau.j1 (k : Int → AH → Prop) (t3 : Int × Int × Int) (it3 : (Int × Int × Int) → AH → Prop) (o5 : Nat) (H14 : AH) (x19 : Bool) : Prop :=
 bcase x19 (k (0 : Int) H14) (elI .i64 (AH.cell? H14 (qlg ⟨o5, 0, none⟩ 1)) fun n22 => it3 (t3.1, (qlf .i64 (t3.2.1 + n22)), (qlf .i64 (t3.2.2 + (1 : Int)))) H14)
def qau.l2 (x0 : Sl) (k : Int → AH → Prop) (t3 : Int × Int × Int) (HL3 : AH) (it3 : (Int × Int × Int) → AH → Prop) : Prop :=
 bcase (decide ((t3.2.2 : Int) < ((x0.n : Nat) : Int))) ((0 ≤ t3.2.2 ∧ t3.2.2 < ((x0.n : Nat) : Int)) ∧ onPtr x0.a fun a10 => ldA HL3 (qlg a10 (qlp t3.2.2 * 3)) 3 fun c11 => newC HL3 ⟨[(qld .i64 (0 : Int)), (qld .i64 (0 : Int)), (ql6 false)], .rw, 0⟩ fun o5 H5 => (qlu c11 = 3 ∧ ql3 c11 qp = true) ∧ stC H5 ⟨o5, 0, none⟩ c11 fun Hs2 => elI .i64 (AH.cell? Hs2 (qlg ⟨o5, 0, none⟩ 1)) fun n13 => qbj n13 Hs2 fun b14 H14 => bcase (!b14) (qau.j1 k t3 it3 o5 H14 true) (qau.j1 k t3 it3 o5 H14 (decide ((t3.2.1 : Int) > (512 : Int))))) (k t3.2.1 HL3)
def qau.b (x0 : Sl) (H : AH) (k : Int → AH → Prop) : Prop :=
 loopT (qau.l2 x0 k) (((0 : Int), (0 : Int), (0 : Int)) : Int × Int × Int) H
def qau.ann : Ann := { keep := fun r => match r with | 3 => [(2, .int .i64), (3, .int .i64), (8, .int .i64)] | _ => [], ord := fun r => match r with  | _ => [] }
theorem qau.link {x0 : Sl} {H : AH} {k : Int → AH → Prop} (h : qau.b x0 H k) : qau x0 H k := lk1 pan hT hm Tryz.func181 (by kernel_rfl) (A := qau.ann) (by kernel_rfl) (by simp) (by kernel_rfl) h
def qC.j1 (x1 : Int) (k : Int → Int → Bool → AH → Prop) (H10 : AH) (x4 : Int) (x57 : Bool) : Prop :=
 bcase x57 (k x4 (qlf .i64 ((qlf .i64 (x1 + (1 : Int))) + (1 : Int))) true H10) (k x4 (qlf .i64 (x1 + (1 : Int))) true H10)
def qC.j2 (x0 : Sl) (x1 : Int) (k : Int → Int → Bool → AH → Prop) (H10 : AH) (x4 : Int) : Prop :=
 bcase (decide (((qlf .i64 (x1 + (1 : Int))) : Int) < ((x0.n : Nat) : Int))) ((0 ≤ (qlf .i64 (x1 + (1 : Int))) ∧ (qlf .i64 (x1 + (1 : Int))) < ((x0.n : Nat) : Int)) ∧ onPtr x0.a fun a53 => elB (AH.cell? H10 (qlg (qlg a53 (qlp (qlf .i64 (x1 + (1 : Int))) * 3)) 2)) fun b55 => qC.j1 x1 k H10 x4 (!b55)) (qC.j1 x1 k H10 x4 false)
def qC.j3 (x0 : Sl) (x1 : Int) (k : Int → Int → Bool → AH → Prop) (H10 : AH) (x43 : Bool) : Prop :=
 bcase x43 (qC.j2 x0 x1 k H10 (qlf .i64 (x1 - (1 : Int)))) (qC.j2 x0 x1 k H10 x1)
def qC.j4 (x0 : Sl) (x1 : Int) (k : Int → Int → Bool → AH → Prop) (H10 : AH) (x29 : Bool) : Prop :=
 bcase x29 (k (0 : Int) (0 : Int) false H10) (bcase (decide ((x1 : Int) > (0 : Int))) ((0 ≤ (qlf .i64 (x1 - (1 : Int))) ∧ (qlf .i64 (x1 - (1 : Int))) < ((x0.n : Nat) : Int)) ∧ onPtr x0.a fun a39 => elB (AH.cell? H10 (qlg (qlg a39 (qlp (qlf .i64 (x1 - (1 : Int))) * 3)) 2)) fun b41 => qC.j3 x0 x1 k H10 (!b41)) (qC.j3 x0 x1 k H10 false))
def qC.b (x0 : Sl) (x1 : Int) (H : AH) (k : Int → Int → Bool → AH → Prop) : Prop :=
 qau x0 H fun n9 H9 => qad x0 n9 H9 fun b10 H10 => bcase (!b10) (qC.j4 x0 x1 k H10 true) (bcase (decide ((x1 : Int) < (0 : Int))) (qC.j4 x0 x1 k H10 true) (bcase (decide ((x1 : Int) ≥ ((x0.n : Nat) : Int))) (qC.j4 x0 x1 k H10 true) ((0 ≤ x1 ∧ x1 < ((x0.n : Nat) : Int)) ∧ onPtr x0.a fun a25 => elB (AH.cell? H10 (qlg (qlg a25 (qlp x1 * 3)) 2)) fun b27 => qC.j4 x0 x1 k H10 (!b27))))
theorem qC.link {x0 : Sl} {x1 : Int} {H : AH} {k : Int → Int → Bool → AH → Prop} (h : qC.b x0 x1 H k) : qC x0 x1 H k := lk3 pan hT hm Tryz.func180 (by kernel_rfl) (A := ann0) (by kernel_rfl) (by simp) (by simp) (by simp) (by kernel_rfl) h
def qbc.b (x0 : Sl) (x1 : Int) (H : AH) (k : List Value → Bool → AH → Prop) : Prop :=
 newC H ⟨[(qld .i64 (0 : Int)), (qld .u64 (0 : Int))], .rw, 0⟩ fun o4 H4 => qC x0 x1 H4 fun n12a n12b b12c H12 => bcase (!b12c) ((qlu [(qld .i64 (0 : Int)), (qld .u64 (0 : Int))] = 2 ∧ ql3 [(qld .i64 (0 : Int)), (qld .u64 (0 : Int))] qp = true) ∧ stC H12 ⟨o4, 0, none⟩ [(qld .i64 (0 : Int)), (qld .u64 (0 : Int))] fun Hs2 => ldA Hs2 ⟨o4, 0, none⟩ 2 fun r0 => k r0 false Hs2) ((0 ≤ n12a ∧ n12a < ((x0.n : Nat) : Int)) ∧ onPtr x0.a fun a21 => elI .i64 (AH.cell? H12 (qlg (qlg a21 (qlp n12a * 3)) 0)) fun n23 => (0 ≤ n12a ∧ n12a ≤ n12b ∧ n12b ≤ ((x0.n : Nat) : Int)) ∧ qau ⟨(Option.map (fun x => qlg x (qlp n12a * 3)) x0.a), (qlp n12b - qlp n12a), 0⟩ H12 fun n28 H28 => AH.cell? H28 (qlg (qlg a21 (qlp n12a * 3)) 0) = some (qld .i64 n23) ∧ qbJ n28 false H28 fun n29 H29 => AH.cell? H29 (qlg (qlg a21 (qlp n12a * 3)) 0) = some (qld .i64 n23) ∧ (qlu [(qld .i64 n23), (qld .u64 n29)] = 2 ∧ ql3 [(qld .i64 n23), (qld .u64 n29)] qp = true) ∧ stC H29 ⟨o4, 0, none⟩ [(qld .i64 n23), (qld .u64 n29)] fun Hs4 => ldA Hs4 ⟨o4, 0, none⟩ 2 fun r0 => k r0 true Hs4)
def qbc.ann : Ann := { keep := fun r => match r with  | _ => [], ord := fun r => match r with | 4 => [0, 1, 2, 3, 4, 5, 6, 7, 8, 9, 10, 11, 12, 13] | _ => [] }
theorem qbc.link {x0 : Sl} {x1 : Int} {H : AH} {k : List Value → Bool → AH → Prop} (h : qbc.b x0 x1 H k) : qbc x0 x1 H k := lk2 pan hT hm Tryz.func152 (by kernel_rfl) (A := qbc.ann) (by kernel_rfl) (by simp) (by simp) (by kernel_rfl) h
def qcv.b (x0 : Sl) (x1 : Int) (H : AH) (k : Sl → Int → AH → Prop) : Prop :=
 qb4 x0 x1 H fun s13a n13b H13 => bcase ((((s13a.n : Nat) : Int) : Int) == (0 : Int)) (k ⟨none, 0, 0⟩ (6 : Int) H13) (qbc s13a n13b H13 fun c22a b22b H22 => newC H22 ⟨[(qld .i64 (0 : Int)), (qld .u64 (0 : Int))], .rw, 0⟩ fun o8 H8 => (qlu c22a = 2 ∧ ql3 c22a qp = true) ∧ stC H8 ⟨o8, 0, none⟩ c22a fun Hs2 => bcase (!b22b) (k ⟨none, 0, 0⟩ (1 : Int) Hs2) (ldA Hs2 ⟨o8, 0, none⟩ 2 fun c27 => (qlu c27 = 2) ∧ newC Hs2 ⟨(setMany [(qld .i64 (0 : Int)), (qld .u64 (0 : Int))] 0 c27), .rw, 2⟩ fun o28 H28 => k ⟨(some ⟨o28, 0, none⟩), 1, 1⟩ (0 : Int) H28))
theorem qcv.link {x0 : Sl} {x1 : Int} {H : AH} {k : Sl → Int → AH → Prop} (h : qcv.b x0 x1 H k) : qcv x0 x1 H k := lk2 pan hT hm Tryz.func115 (by kernel_rfl) (A := ann0) (by kernel_rfl) (by simp) (by simp) (by kernel_rfl) h
def qbA.b (x0 : Option Addr) (H : AH) (pk : Value → AH → Prop) (k : Int → AH → Prop) : Prop :=
 onPtr x0 fun a7 => elP (AH.cell? H (qlg a7 0)) fun p9 => qL p9 (2 : Int) H fun n10a n10b H10 => qap n10b H10 (fun pv14 Hp14 => pk pv14 Hp14) fun H14 => k (qlf .i64 n10a) H14
theorem qbA.link {x0 : Option Addr} {H : AH} {pk : Value → AH → Prop} {k : Int → AH → Prop} (h : qbA.b x0 H pk k) : qbA x0 H pk k := lk1 pan hT hm Tryz.func69 (by kernel_rfl) (A := ann0) (by kernel_rfl) (by simp) (by kernel_rfl) h
def qb8.b (x0 : Option Addr) (x1 : Int) (H : AH) (pk : Value → AH → Prop) (k : AH → Prop) : Prop :=
 qa2 x0 H (fun pv8 Hp8 => pk pv8 Hp8) fun s8 H8 => qcv s8 x1 H8 fun s12a n12b H12 => qap n12b H12 (fun pv16 Hp16 => pk pv16 Hp16) fun H16 => qbA x0 H16 (fun pv18 Hp18 => pk pv18 Hp18) fun n18 H18 => bcase ((n18 : Int) == x1) (pk (Value.iface 31 (qld .i64 (5 : Int))) H18) (qaw x0 H18 (fun pv23 Hp23 => pk pv23 Hp23) fun H23 => qE x0 s8 s12a H23 (fun pv27 Hp27 => pk pv27 Hp27) fun H27 => k H27)
theorem qb8.link {x0 : Option Addr} {x1 : Int} {H : AH} {pk : Value → AH → Prop} {k : AH → Prop} (h : qb8.b x0 x1 H pk k) : qb8 x0 x1 H pk k := lk0 pan hT hm Tryz.func65 (by kernel_rfl) (A := ann0) (by kernel_rfl) (by kernel_rfl) h
def qbk.b (x0 : List Value) (x1 : Option Addr) (x2 : Option Addr) (H : AH) (k : Bool → AH → Prop) : Prop :=
 newC H ⟨x0, .rw, 0⟩ fun o3 H3 => elB (AH.cell? H3 (qlg ⟨o3, 0, none⟩ 2)) fun b6 => bcase b6 (onPtr x1 fun a8 => elI .i64 (AH.cell? H3 a8) fun n8 => ldA H3 ⟨o3, 0, none⟩ 3 fun c9 => qa4 c9 H3 fun n10 H10 => AH.cell? H10 a8 = some (qld .i64 n8) ∧ bcase (decide ((n8 : Int) ≥ n10)) (onPtr x1 fun a14 => elI .i64 (AH.cell? H10 a14) fun n14 => elI .i64 (AH.cell? H10 (qlg ⟨o3, 0, none⟩ 0)) fun n16 => elI .i64 (AH.cell? H10 (qlg ⟨o3, 0, none⟩ 1)) fun n18 => onPtr x2 fun a21 => elI .i64 (AH.cell? H10 a21) fun n21 => k (decide ((n14 : Int) ≤ (qlf .i64 ((qlf .i64 ((qlf .i64 (n16 + n18)) * (8 : Int))) - n21)))) H10) (k false H10)) (k false H3)
def qbk.ann : Ann := { keep := fun r => match r with  | _ => [], ord := fun r => match r with | 1 => [0, 1, 2, 3, 4, 5, 6, 7, 8, 9, 10, 11, 12, 13, 14, 15, 16, 17, 18, 19, 20] | _ => [] }
theorem qbk.link {x0 : List Value} {x1 : Option Addr} {x2 : Option Addr} {H : AH} {k : Bool → AH → Prop} (h : qbk.b x0 x1 x2 H k) : qbk x0 x1 x2 H k := lk1 pan hT hm Tryz.func193 (by kernel_rfl) (A := qbk.ann) (by kernel_rfl) (by simp) (by kernel_rfl) h
def qbm.j1 (x0 : Sl) (k : Bool → AH → Prop) (o4 : Nat) (o5 : Nat) (H5 : AH) (x14 : Bool) : Prop :=
 bcase x14 (k false H5) (qT x0 H5 fun s17a b17b H17 => qN s17a (some ⟨o4, 0, none⟩) (some ⟨o5, 0, none⟩) H17 fun b22 H22 => k b22 H22)
def qbm.b (x0 : Sl) (x1 : Int) (x2 : Int) (H : AH) (k : Bool → AH → Prop) : Prop :=
 newC H ⟨[(qld .i64 x1)], .rw, 0⟩ fun o4 H4 => newC H4 ⟨[(qld .i64 x2)], .rw, 0⟩ fun o5 H5 => elI .i64 (AH.cell? H5 ⟨o5, 0, none⟩) fun n9 => bcase (decide ((n9 : Int) < (0 : Int))) (qbm.j1 x0 k o4 o5 H5 true) (elI .i64 (AH.cell? H5 ⟨o5, 0, none⟩) fun n12 => qbm.j1 x0 k o4 o5 H5 (decide ((n12 : Int) > (448 : Int))))
theorem qbm.link {x0 : Sl} {x1 : Int} {x2 : Int} {H : AH} {k : Bool → AH → Prop} (h : qbm.b x0 x1 x2 H k) : qbm x0 x1 x2 H k := lk1 pan hT hm Tryz.func182 (by kernel_rfl) (A := ann0) (by kernel_rfl) (by simp) (by kernel_rfl) h
def qbQ.b (x0 : Sl) (x1 : Int) (x2 : Int) (H : AH) (k : Int → AH → Prop) : Prop :=
 qT x0 H fun s11a b11b H11 => bcase (!b11b) (k (6 : Int) H11) (qbm x0 x1 x2 H11 fun b19 H19 => bcase (!b19) (k (1 : Int) H19) (k (0 : Int) H19))
theorem qbQ.link {x0 : Sl} {x1 : Int} {x2 : Int} {H : AH} {k : Int → AH → Prop} (h : qbQ.b x0 x1 x2 H k) : qbQ x0 x1 x2 H k := lk1 pan hT hm Tryz.func153 (by kernel_rfl) (A := ann0) (by kernel_rfl) (by simp) (by kernel_rfl) h
def qbS.b (x0 : Sl) (x1 : Int) (x2 : Int) (H : AH) (k : Bool → AH → Prop) : Prop :=
 bcase (decide ((x1 : Int) ≥ (0 : Int))) (bcase (decide ((x2 : Int) ≥ (0 : Int))) (bcase (decide ((x2 : Int) ≤ (448 : Int))) (k (decide ((x1 : Int) ≤ (qlf .i64 ((qlf .i64 (((x0.n : Nat) : Int) * (8 : Int))) - x2)))) H) (k false H)) (k false H)) (k false H)
theorem qbS.link {x0 : Sl} {x1 : Int} {x2 : Int} {H : AH} {k : Bool → AH → Prop} (h : qbS.b x0 x1 x2 H k) : qbS x0 x1 x2 H k := lk1 pan hT hm Tryz.func183 (by kernel_rfl) (A := ann0) (by kernel_rfl) (by simp) (by kernel_rfl) h
def qbP.l1 (x0 : Sl) (x1 : Int) (x2 : Int) (k : Sl → Bool → AH → Prop) (t5 : Sl × Int) (HL5 : AH) (it5 : (Sl × Int) → AH → Prop) : Prop :=
 bcase (decide ((t5.2 : Int) < (qlf .i64 (x1 + x2)))) (((8 : Int) : Int) ≠ 0 ∧ (0 ≤ (qlf .i64 (qmy t5.2 (8 : Int))) ∧ (qlf .i64 (qmy t5.2 (8 : Int))) < ((x0.n : Nat) : Int)) ∧ onPtr x0.a fun a27 => elI .u64 (AH.cell? HL5 (qlg a27 (qlp (qlf .i64 (qmy t5.2 (8 : Int))) * 1))) fun n28 => ((8 : Int) : Int) ≠ 0 ∧ (0 : Int) ≤ (qlf .i64 ((qmp t5.2 (8 : Int)) * (8 : Int))) ∧ newC HL5 ⟨[(qld .u8 (qlf .u8 (shrI .u64 n28 (qlf .i64 ((qmp t5.2 (8 : Int)) * (8 : Int))))))], .rw, 1⟩ fun o34 H34 => appendC 1 H34 t5.1 ⟨(some ⟨o34, 0, none⟩), 1, 1⟩ fun s35 H35 => it5 (s35, (qlf .i64 (t5.2 + (1 : Int)))) H35) (k t5.1 true HL5)
def qbP.b (x0 : Sl) (x1 : Int) (x2 : Int) (H : AH) (k : Sl → Bool → AH → Prop) : Prop :=
 qbS x0 x1 x2 H fun b13 H13 => bcase (!b13) (k ⟨none, 0, 0⟩ false H13) (loopT (qbP.l1 x0 x1 x2 k) ((⟨none, 0, 0⟩, x1) : Sl × Int) H13)
def qbP.ann : Ann := { keep := fun r => match r with | 5 => [(8, .sl), (9, .int .i64)] | _ => [], ord := fun r => match r with  | _ => [] }
theorem qbP.link {x0 : Sl} {x1 : Int} {x2 : Int} {H : AH} {k : Sl → Bool → AH → Prop} (h : qbP.b x0 x1 x2 H k) : qbP x0 x1 x2 H k := lk2 pan hT hm Tryz.func154 (by kernel_rfl) (A := qbP.ann) (by kernel_rfl) (by simp) (by simp) (by kernel_rfl) h
def qco.b (x0 : Sl) (x1 : Int) (x2 : Int) (H : AH) (k : Sl → Int → AH → Prop) : Prop :=
 qbQ x0 x1 x2 H fun n14 H14 => bcase ((n14 : Int) != (0 : Int)) (k ⟨none, 0, 0⟩ n14 H14) (qbP x0 x1 x2 H14 fun s22a b22b H22 => k s22a (0 : Int) H22)
theorem qco.link {x0 : Sl} {x1 : Int} {x2 : Int} {H : AH} {k : Sl → Int → AH → Prop} (h : qco.b x0 x1 x2 H k) : qco x0 x1 x2 H k := lk2 pan hT hm Tryz.func116 (by kernel_rfl) (A := ann0) (by kernel_rfl) (by simp) (by simp) (by kernel_rfl) h
def qb9.b (x0 : Option Addr) (x1 : Int) (x2 : Int) (H : AH) (pk : Value → AH → Prop) (k : Sl → AH → Prop) : Prop :=
 qa2 x0 H (fun pv11 Hp11 => pk pv11 Hp11) fun s11 H11 => qco s11 x1 x2 H11 fun s14a n14b H14 => qap n14b H14 (fun pv18 Hp18 => pk pv18 Hp18) fun H18 => k s14a H18
theorem qb9.link {x0 : Option Addr} {x1 : Int} {x2 : Int} {H : AH} {pk : Value → AH → Prop} {k : Sl → AH → Prop} (h : qb9.b x0 x1 x2 H pk k) : qb9 x0 x1 x2 H pk k := lk1 pan hT hm Tryz.func66 (by kernel_rfl) (A := ann0) (by kernel_rfl) (by simp) (by kernel_rfl) h
def qan.j1 (x1 : Int) (t5 : Sl × Int) (it5 : (Sl × Int) → AH → Prop) (n25 : Int) (x8 : Sl) (Hj : AH) : Prop :=
 (0 ≤ (qlf .i64 (((x8.n : Nat) : Int) - (1 : Int))) ∧ (qlf .i64 (((x8.n : Nat) : Int) - (1 : Int))) < ((x8.n : Nat) : Int)) ∧ onPtr x8.a fun a59 => elI .u64 (AH.cell? Hj (qlg (qlg a59 (qlp (qlf .i64 (((x8.n : Nat) : Int) - (1 : Int))) * 2)) 1)) fun n64 => ((8 : Int) : Int) ≠ 0 ∧ (0 : Int) ≤ (qlf .i64 ((qmp (qlf .i64 (x1 + t5.2)) (8 : Int)) * (8 : Int))) ∧ ((8 : Int) : Int) ≠ 0 ∧ (0 : Int) ≤ (qlf .i64 ((qmp (qlf .i64 (x1 + t5.2)) (8 : Int)) * (8 : Int))) ∧ stC Hj (qlg (qlg a59 (qlp (qlf .i64 (((x8.n : Nat) : Int) - (1 : Int))) * 2)) 1) [(qld .u64 (orI .u64 (andNotI .u64 n64 (shlI .u64 (255 : Int) (qlf .i64 ((qmp (qlf .i64 (x1 + t5.2)) (8 : Int)) * (8 : Int))))) (shlI .u64 (qlf .u64 n25) (qlf .i64 ((qmp (qlf .i64 (x1 + t5.2)) (8 : Int)) * (8 : Int))))))] fun Hs2 => it5 (x8, (qlf .i64 (t5.2 + (1 : Int)))) Hs2
def qan.j2 (x0 : Sl) (x1 : Int) (t5 : Sl × Int) (it5 : (Sl × Int) → AH → Prop) (HL5 : AH) (n25 : Int) (x43 : Bool) : Prop :=
 bcase x43 (((8 : Int) : Int) ≠ 0 ∧ ((8 : Int) : Int) ≠ 0 ∧ (0 ≤ (qlf .i64 (qmy (qlf .i64 (x1 + t5.2)) (8 : Int))) ∧ (qlf .i64 (qmy (qlf .i64 (x1 + t5.2)) (8 : Int))) < ((x0.n : Nat) : Int)) ∧ onPtr x0.a fun a50 => elI .u64 (AH.cell? HL5 (qlg a50 (qlp (qlf .i64 (qmy (qlf .i64 (x1 + t5.2)) (8 : Int))) * 1))) fun n51 => (qlu [(qld .i64 (qlf .i64 (qmy (qlf .i64 (x1 + t5.2)) (8 : Int)))), (qld .u64 n51)] = 2) ∧ newC HL5 ⟨[(qld .i64 (qlf .i64 (qmy (qlf .i64 (x1 + t5.2)) (8 : Int)))), (qld .u64 n51)], .rw, 2⟩ fun o53 H53 => appendC 2 H53 t5.1 ⟨(some ⟨o53, 0, none⟩), 1, 1⟩ fun s54 H54 => qan.j1 x1 t5 it5 n25 s54 H54) (qan.j1 x1 t5 it5 n25 t5.1 HL5)
def qan.l3 (x0 : Sl) (x1 : Int) (x2 : Sl) (k : Sl → Bool → AH → Prop) (t5 : Sl × Int) (HL5 : AH) (it5 : (Sl × Int) → AH → Prop) : Prop :=
 bcase (decide ((t5.2 : Int) < ((x2.n : Nat) : Int))) ((0 ≤ t5.2 ∧ t5.2 < ((x2.n : Nat) : Int)) ∧ onPtr x2.a fun a24 => elI .u8 (AH.cell? HL5 (qlg a24 (qlp t5.2 * 1))) fun n25 => bcase ((((t5.1.n : Nat) : Int) : Int) == (0 : Int)) (qan.j2 x0 x1 t5 it5 HL5 n25 true) ((0 ≤ (qlf .i64 (((t5.1.n : Nat) : Int) - (1 : Int))) ∧ (qlf .i64 (((t5.1.n : Nat) : Int) - (1 : Int))) < ((t5.1.n : Nat) : Int)) ∧ onPtr t5.1.a fun a37 => elI .i64 (AH.cell? HL5 (qlg (qlg a37 (qlp (qlf .i64 (((t5.1.n : Nat) : Int) - (1 : Int))) * 2)) 0)) fun n39 => ((8 : Int) : Int) ≠ 0 ∧ qan.j2 x0 x1 t5 it5 HL5 n25 ((n39 : Int) != (qlf .i64 (qmy (qlf .i64 (x1 + t5.2)) (8 : Int)))))) (k t5.1 true HL5)
def qan.b (x0 : Sl) (x1 : Int) (x2 : Sl) (H : AH) (k : Sl → Bool → AH → Prop) : Prop :=
 qbS x0 x1 ((x2.n : Nat) : Int) H fun b17 H17 => bcase (!b17) (k ⟨none, 0, 0⟩ false H17) (loopT (qan.l3 x0 x1 x2 k) ((⟨none, 0, 0⟩, (0 : Int)) : Sl × Int) H17)
def qan.ann : Ann := { keep := fun r => match r with | 5 => [(8, .sl), (21, .int .i64)] | _ => [], ord := fun r => match r with | 11 => [0, 1, 2, 3, 4, 5, 6, 7, 8, 9, 10, 11, 12, 13, 14, 15, 16, 17, 18, 19] | _ => [] }
theorem qan.link {x0 : Sl} {x1 : Int} {x2 : Sl} {H : AH} {k : Sl → Bool → AH → Prop} (h : qan.b x0 x1 x2 H k) : qan x0 x1 x2 H k := lk2 pan hT hm Tryz.func155 (by kernel_rfl) (A := qan.ann) (by kernel_rfl) (by simp) (by simp) (by kernel_rfl) h
def qcb.b (x0 : Sl) (x1 : Int) (x2 : Sl) (H : AH) (k : Sl → Int → AH → Prop) : Prop :=
 qbQ x0 x1 ((x2.n : Nat) : Int) H fun n15 H15 => bcase ((n15 : Int) != (0 : Int)) (k ⟨none, 0, 0⟩ n15 H15) (qan x0 x1 x2 H15 fun s23a b23b H23 => k s23a (0 : Int) H23)
theorem qcb.link {x0 : Sl} {x1 : Int} {x2 : Sl} {H : AH} {k : Sl → Int → AH → Prop} (h : qcb.b x0 x1 x2 H k) : qcb x0 x1 x2 H k := lk2 pan hT hm Tryz.func117 (by kernel_rfl) (A := ann0) (by kernel_rfl) (by simp) (by simp) (by kernel_rfl) h
def qb0.b (x0 : Option Addr) (x1 : Int) (x2 : Sl) (H : AH) (pk : Value → AH → Prop) (k : AH → Prop) : Prop :=
 qa2 x0 H (fun pv10 Hp10 => pk pv10 Hp10) fun s10 H10 => qcb s10 x1 x2 H10 fun s15a n15b H15 => qap n15b H15 (fun pv19 Hp19 => pk pv19 Hp19) fun H19 => bcase ((((s15a.n : Nat) : Int) : Int) == (0 : Int)) (k H19) (qaw x0 H19 (fun pv24 Hp24 => pk pv24 Hp24) fun H24 => qE x0 s10 s15a H24 (fun pv28 Hp28 => pk pv28 Hp28) fun H28 => k H28)
theorem qb0.link {x0 : Option Addr} {x1 : Int} {x2 : Sl} {H : AH} {pk : Value → AH → Prop} {k : AH → Prop} (h : qb0.b x0 x1 x2 H pk k) : qb0 x0 x1 x2 H pk k := lk0 pan hT hm Tryz.func67 (by kernel_rfl) (A := ann0) (by kernel_rfl) (by kernel_rfl) h
def qaB.j1 (x0 : Option Addr) (x1 : Int) (k : AH → Prop) (pk : Value → AH → Prop) (x14 : Bool) (Hj : AH) : Prop :=
 bcase x14 (pk (Value.iface 31 (qld .i64 (1 : Int))) Hj) (qaw x0 Hj (fun pv17 Hp17 => pk pv17 Hp17) fun H17 => onPtr x0 fun a19 => elP (AH.cell? H17 (qlg a19 0)) fun p21 => qF p21 (2 : Int) (qlf .u64 x1) H17 fun n24 H24 => qap n24 H24 (fun pv25 Hp25 => pk pv25 Hp25) fun H25 => k H25)
def qaB.b (x0 : Option Addr) (x1 : Int) (H : AH) (pk : Value → AH → Prop) (k : AH → Prop) : Prop :=
 qa2 x0 H (fun pv6 Hp6 => pk pv6 Hp6) fun s6 H6 => bcase ((x1 : Int) != (0 : Int)) (qcn s6 x1 H6 fun b12 H12 => qaB.j1 x0 x1 k pk (!b12) H12) (qaB.j1 x0 x1 k pk false H6)
theorem qaB.link {x0 : Option Addr} {x1 : Int} {H : AH} {pk : Value → AH → Prop} {k : AH → Prop} (h : qaB.b x0 x1 H pk k) : qaB x0 x1 H pk k := lk0 pan hT hm Tryz.func68 (by kernel_rfl) (A := ann0) (by kernel_rfl) (by kernel_rfl) h
def pl (a b c d : Int) : List Value := [.int .i64 a, .int .i64 b, .int .i64 c, .int .i64 d]
def mayP (a b c d : Int) : Bool := decide (1 ≤ a ∧ a ≤ 64 ∧ 0 ≤ b ∧ b ≤ 16 ∧ 1 ≤ c ∧ c ≤ 1000 ∧ 1 ≤ d ∧ d ≤ 100)
def wordsP (a b c d : Int) : Int := if mayP a b c d = true then 8 * a else 0
def pagesP (a b c d : Int) : Int := if mayP a b c d = true then (a + 3) / 4 else 0
def logicalP (a b c d : Int) : Int := if mayP a b c d = true then 16 + a else 0
def deviceP (a b c d : Int) : Int := if mayP a b c d = true then 17 + a + b else 0
def homeP (a b c d x : Int) : Int := if mayP a b c d = true ∧ 0 ≤ x ∧ x < a then 16 + x else -1
section
variable {a b c d x : Int} {H : AH} {e : Nat}
theorem pl_row : AH.row? (H.push ⟨pl a b c d, .rw, e⟩) ⟨H.size, 0, none⟩ 4 = some (pl a b c d) := row_new rfl rfl
theorem pl_ld {k : List Value → Prop} : ldA (H.push ⟨pl a b c d, .rw, e⟩) ⟨H.size, 0, none⟩ 4 k ↔ k (pl a b c d) := qn pl_row
theorem pl_0 : AH.cell? (H.push ⟨pl a b c d, .rw, e⟩) (qlg ⟨H.size, 0, none⟩ 0) = some (.int .i64 a) := qdD _ _ _ _
theorem pl_1 : AH.cell? (H.push ⟨pl a b c d, .rw, e⟩) (qlg ⟨H.size, 0, none⟩ 1) = some (.int .i64 b) := qdD _ _ _ _
theorem pl_2 : AH.cell? (H.push ⟨pl a b c d, .rw, e⟩) (qlg ⟨H.size, 0, none⟩ 2) = some (.int .i64 c) := qdD _ _ _ _
theorem pl_3 : AH.cell? (H.push ⟨pl a b c d, .rw, e⟩) (qlg ⟨H.size, 0, none⟩ 3) = some (.int .i64 d) := qdD _ _ _ _
theorem qak : mayP a b c d = true ↔ 1 ≤ a ∧ a ≤ 64 ∧ 0 ≤ b ∧ b ≤ 16 ∧ 1 ≤ c ∧ c ≤ 1000 ∧ 1 ≤ d ∧ d ≤ 100 := by simp [mayP]
theorem hK {o : AObj} {P : Prop} : (qa H (H.push o) ∧ P) ↔ P := ⟨fun h => h.2, fun h => ⟨(qa.refl H).push _, h⟩⟩
theorem qbl.s {k : Bool → AH → Prop} (h : k (mayP a b c d) H) : qbl (pl a b c d) H k := by
 refine gcB (mayP a b c d) (qbl.link ?_) h
 simp only [qbl.b, qr, pl_0, pl_1, pl_2, pl_3, qg, qf, decide_eq_true_eq, hK]
 repeat' split
 all_goals simp only [mayP, decide_eq_decide, Bool.false_eq, decide_eq_false_iff_not]
 all_goals omega
theorem qbW.s {k : Int → AH → Prop} (h : k (wordsP a b c d) H) : qbW (pl a b c d) H k := by
 refine gcI (wordsP a b c d) (qbW.link ?_) h
 simp only [qbW.b, qr, pl_ld]
 refine qbl.s ?_
 simp only [pl_0, qg, qf, hK, wordsP, qmF]
 cases hm : mayP a b c d
 ·simp
 ·have := qak.1 hm
  simp only [Bool.true_eq_false, eq_self, if_false, if_true]
  rw [qe (by omega) (by omega)]
  omega
theorem qce.s {k : Int → AH → Prop} (hx : -9223372036854775808 ≤ x ∧ x ≤ 9223372036854775807) (h : k ((if 0 > x then 0 else x) / 4) H) : qce x H k := by
 refine gcI ((if 0 > x then 0 else x) / 4) (qce.link ?_) h
 refine ⟨by decide, qa.refl H, ?_⟩
 have : (0 : Int) ≤ (if 0 > x then 0 else x) := by split <;> omega
 rw [qmd this, qe (by split <;> omega) (by split <;> omega)]
theorem qcr.s {k : Int → AH → Prop} (h : k (pagesP a b c d) H) : qcr (pl a b c d) H k := by
 refine gcI (pagesP a b c d) (qcr.link ?_) h
 simp only [qcr.b, qr, pl_ld]
 refine qbl.s ?_
 simp only [pl_0, qg, qf, hK, pagesP, qmF]
 cases hm : mayP a b c d
 ·simp
 ·have := qak.1 hm
  simp only [Bool.true_eq_false, eq_self, if_false, if_true]
  rw [qe (by omega) (by omega)]
  refine qce.s (by omega) ?_
  rw [qe (by split <;> omega) (by split <;> omega)]
  simp only [hK]
  split <;> omega
theorem qbw.s {k : Int → AH → Prop} (h : k (logicalP a b c d) H) : qbw (pl a b c d) H k := by
 refine gcI (logicalP a b c d) (qbw.link ?_) h
 simp only [qbw.b, qr, pl_ld]
 refine qbl.s ?_
 simp only [pl_0, qg, qf, hK, logicalP, qmF]
 cases hm : mayP a b c d
 ·simp
 ·have := qak.1 hm
  simp only [Bool.true_eq_false, eq_self, if_false, if_true]
  rw [qe (by omega) (by omega)]
theorem qbf.s {k : Int → AH → Prop} (h : k (deviceP a b c d) H) : qbf (pl a b c d) H k := by
 refine gcI (deviceP a b c d) (qbf.link ?_) h
 simp only [qbf.b, qr, pl_ld]
 refine qbl.s ?_
 simp only [pl_0, pl_1, qg, qf, hK, deviceP, qmF]
 cases hm : mayP a b c d
 ·simp
 ·have := qak.1 hm
  simp only [Bool.true_eq_false, eq_self, if_false, if_true]
  rw [pl_ld]
  refine qbw.s ?_
  refine ⟨pl_1, ?_⟩
  simp only [logicalP, hm, if_true, hK]
  rw [qe (n := 16 + a + 1) (by omega) (by omega), qe (by omega) (by omega)]
  omega
theorem qbr.s {k : Int → AH → Prop} (h : k (homeP a b c d x) H) : qbr (pl a b c d) x H k := by
 refine gcI (homeP a b c d x) (qbr.link ?_) h
 simp only [qbr.b, qr, pl_ld]
 refine qbl.s ?_
 simp only [pl_0, pl_1, qg, qf, hK, homeP, qmF, decide_eq_true_eq]
 cases hm : mayP a b c d
 ·simp
 ·have := qak.1 hm
  simp only [Bool.true_eq_false, eq_self, if_false, true_and]
  split
  ·rw [if_neg (by omega)]
  ·split
   ·rw [if_neg (by omega)]
   ·rw [if_pos (by omega), qe (by omega) (by omega)]
end
section
variable {a b c d x y z u p q r s p' q' r' s' p2 q2 r2 s2 : Int} {H : AH} {e : Nat}
def three (H : AH) (A B C : List Value) : AH := H.more [⟨A, .rw, 0⟩, ⟨B, .rw, 0⟩, ⟨C, .rw, 0⟩]
end
def opl (K a b c : Int) (s : Sl) : List Value := [.int .i64 K, .int .i64 a, .int .i64 b, .int .i64 c, s.val]
def linesP (K b : Int) (n : Nat) : Int :=
 if K = 1 then (if 0 ≤ b ∧ b ≤ 448 then b / 64 + 4 else 0) else if K = 4 then (if n ≤ 448 then (n : Int) / 64 + 2 else 0) else if K = 2 then 1 else 0
section
variable {K a b c d m x : Int} {sl : Sl} {H : AH} {e : Nat}
theorem elL_val {k : Sl → Prop} : elL (some sl.val) k ↔ k sl := qac _ _ _ _
theorem qft : 0 ≤ linesP K b sl.n ∧ linesP K b sl.n ≤ 11 := by
 unfold linesP
 repeat' split
 all_goals omega
theorem op_len : (opl K a b c sl).length = 5 := rfl
theorem op_ok : (opl K a b c sl).all qp = true := rfl
end
def isU (n : Int) : Prop := 0 ≤ n ∧ n ≤ 18446744073709551615
def isI (n : Int) : Prop := -9223372036854775808 ≤ n ∧ n ≤ 9223372036854775807
def isB (n : Int) : Prop := 0 ≤ n ∧ n ≤ 255
def iV (v : Int) : List Value := [.int .i64 v]
def wU (v : Int) : List Value := [.int .u64 v]
def bU (v : Int) : List Value := [.int .u8 v]
end Go.Proofs.YtdcbkjgoaknmkaaGreat
namespace Go.Abs
theorem own_len {α : Type} {B : Nat} {H : AH} {s : Sl} {z : Nat} {f : α → List Value} {l : List α} (h : Own B H s z f l) : s.n = l.length := by
 rcases h with ⟨rfl, rfl⟩ | ⟨b, rfl, _, _, _⟩ <;> rfl
theorem qj5 {α : Type} {cells : List Value} {z : Nat} {f : α → List Value} : ∀ {l : List α} {o : Nat}, (∀ i x, l[i]? = some x → (cells.drop (o + i * z)).take z = f x ∧ (f x).length = z) → (cells.drop o).take (l.length * z) = l.flatMap f := by
 intro l
 induction l with
 | nil => intro o _; simp
 | cons a r ih =>
  intro o h
  have h0 := h 0 a rfl
  rw [Nat.zero_mul, Nat.add_zero] at h0
  have hr := ih (o := o + z) fun i x hx => by
   have := h (i + 1) x (by simpa using hx)
   rw [show o + z + i * z = o + (i + 1) * z by rw [Nat.add_mul]; omega]
   exact this
  simp only [qlw, qlR]
  rw [Nat.add_mul, Nat.one_mul, Nat.add_comm, List.take_add, h0.1, List.drop_drop, hr]
theorem qeb {α : Type} {H : AH} {s : Sl} {z : Nat} {f : α → List Value} {l : List α} (hf : ∀ x, (f x).length = z) (hc : ∀ x, (f x).all qp = true) (h : Rows H s z f l) : AH.rowS? H s z = some (l.flatMap f) := by
 simp only [AH.rowS?]
 by_cases h0 : s.n = 0
 ·rw [if_pos h0]
  have : l = [] := List.length_eq_zero_iff.1 (by rw [← h.1]; exact h0)
  subst this; rfl
 ·rw [if_neg h0]
  have hpos : 0 < l.length := by rw [← h.1]; omega
  obtain ⟨b, o, ha, hb, _⟩ := h.at hpos
  have hrow : ∀ i x, l[i]? = some x → AH.row? H ⟨b, o + i * z, none⟩ z = some (f x) := by
   intro i x hx
   obtain ⟨a, e1, e2, e3, e4⟩ := h.2 i x hx
   rw [ha] at e1
   injection e1 with e1
   subst e1
   exact e4
  have hun : ∀ i x, l[i]? = some x → (H.get b).md ≠ .dead ∧ ((H.get b).cells.drop (o + i * z)).take z = f x ∧ o + i * z + z ≤ (H.get b).cells.length := by
   intro i x hx
   have := hrow i x hx
   simp only [AH.row?, qlx, qlo, if_false] at this
   split at this
   ·cases this
   ·rename_i hd
    split at this
    ·rename_i hh
     injection this with this
     exact ⟨hd, this, hh.1⟩
    ·cases this
  have hl := hun (l.length - 1) l[l.length - 1] (qle (by omega))
  have hflat := qj5 (cells := (H.get b).cells) (z := z) (f := f) (l := l) (o := o) fun i x hx => ⟨(hun i x hx).2.1, hf x⟩
  have hle : o + l.length * z ≤ (H.get b).cells.length := by
   have := hl.2.2
   obtain ⟨n, hn⟩ : ∃ n, l.length = n + 1 := ⟨l.length - 1, by omega⟩
   rw [hn] at this ⊢
   rw [Nat.add_sub_cancel] at this
   rw [Nat.add_mul]
   omega
  have hall : (l.flatMap f).all qp = true := by simp [List.all_flatMap, hc]
  rw [ha]
  simp only [AH.row?, qlx, qlo, if_false]
  rw [if_neg hl.1, h.1, hflat, if_pos ⟨hle, hall⟩]
theorem qe4 {α : Type} {H0 H : AH} {B : Nat} {s t : Sl} {z : Nat} {f : α → List Value} {l r : List α} {k : Sl → AH → Prop} (hf : ∀ x, (f x).length = z) (hc : ∀ x, (f x).all qp = true)
  (hO : Own B H s z f l) (hR : Rows H t z f r) (hB : H0.size ≤ B) (hBH : B ≤ H.size) (hK : qa H0 H) (hlim : l.length + r.length ≤ limS z)
  (h : ∀ s' H', Own B H' s' z f (l ++ r) → qa H0 H' → H.size ≤ H'.size → (∀ b, b < H.size → (∀ a, s.a = some a → b ≠ a.block) → H'.get b = H.get b) → k s' H') :
  appendC z H s t k := by
 have hrow := qeb hf hc hR
 have hge := hK.1
 have hs : s.n = l.length := own_len hO
 refine ⟨by rw [hs, hR.1]; exact hlim, ?_⟩
 by_cases h0 : t.n = 0
 ·rw [if_pos h0]
  have : r = [] := List.length_eq_zero_iff.1 (by rw [← hR.1]; exact h0)
  subst this
  refine h _ _ (by rw [List.append_nil]; exact hO) hK (qln _) fun _ _ _ => rfl
 rw [if_neg h0]
 refine ⟨_, hrow, ?_⟩
 have ht := hR.1
 rcases hO with ⟨rfl, rfl⟩ | ⟨b, rfl, hb1, hb2, hg⟩
 ·refine h _ _ (.inr ⟨H.size, ?_, ?_, ?_, ?_⟩) (hK.push _) (by simp [qi]) ?_
  ·simp [newAt, ht]
  ·omega
  ·simp [qi]
  ·simp [qm]
  ·intro b hb _; exact qB (by omega)
 ·refine ⟨⟨rfl, rfl, rfl, by rw [hg], by rw [hg, qcK hf], by rw [hg]⟩, ?_⟩
  refine h _ _ (.inr ⟨H.size, ?_, ?_, ?_, ?_⟩) ((hK.kill (b := b) (Nat.le_trans hB hb1)).push _) (by simp [qi, qU]) ?_
  ·simp [newAt, ht]
  ·omega
  ·simp [qi, qU]
  ·simp only [qm, qU, if_true]
   rw [hg]
   simp
  ·intro b' hb' hne
   have hne' : b' ≠ b := hne _ rfl
   rw [qB (by simp only [qU]; omega), qcC hne']
theorem qdE {α : Type} {H0 H : AH} {B : Nat} {s t : Sl} {z : Nat} {f : α → List Value} {l r : List α} {k : Sl → AH → Prop} (hf : ∀ x, (f x).length = z) (hc : ∀ x, (f x).all qp = true)
  (hO : Own B H s z f l) (hR : Rows H t z f r) (hB : H0.size ≤ B) (hBH : B ≤ H.size) (hK : qa H0 H) (hlim : l.length + r.length ≤ lim)
  (h : ∀ s' H', Own B H' s' z f (l ++ r) → qa H0 H' → H.size ≤ H'.size → (∀ b, b < H.size → (∀ a, s.a = some a → b ≠ a.block) → H'.get b = H.get b) → k s' H') :
  appendC z H s t k := qe4 hf hc hO hR hB hBH hK (le_limS hlim z) h
theorem qga {α : Type} {H : AH} {s : Sl} {z : Nat} {f : α → List Value} {l : List α} {k : Nat} (h : Rows H s z f l) (hk : k ≤ l.length) : Rows H ⟨s.a, k, 0⟩ z f (l.take k) := by
 refine ⟨by simp; omega, fun i x hi => h.2 i x ?_⟩
 rw [qlU] at hi
 split at hi
 ·exact hi
 ·cases hi
theorem qf9 {α : Type} {H : AH} {s : Sl} {z : Nat} {f : α → List Value} {l : List α} {k : Nat} (h : Rows H s z f l) (hk : k ≤ l.length) : Rows H ⟨Option.map (fun x => qlg x (k * z)) s.a, s.n - k, 0⟩ z f (l.drop k) := by
 refine ⟨by simp [h.1], fun i x hi => ?_⟩
 rw [qlQ] at hi
 obtain ⟨a, h1, h2, h3, h4⟩ := h.2 _ _ hi
 obtain ⟨b, o, sp⟩ := a
 simp only at h2 h3 h4
 subst h2
 refine ⟨⟨b, o + k * z, none⟩, by rw [h1, Option.map_some, qj], rfl, h3, ?_⟩
 rw [← h4]
 simp only
 congr 2
 rw [Nat.add_mul]; omega
def getB (v : Int) (j : Nat) : Int := (v / 2 ^ (8 * j)) % 256
def setB (v : Int) (j : Nat) (c : Int) : Int :=
 ((((qmb 64 v) &&& ~~~(BitVec.ofNat 64 (255 * 2 ^ (8 * j)))) ||| (BitVec.ofNat 64 (c.toNat * 2 ^ (8 * j)))).toNat : Int)
theorem qjg (v : Int) (j : Nat) (c : Int) : 0 ≤ setB v j c ∧ setB v j c ≤ 18446744073709551615 := by
 unfold setB
 have := (((qmb 64 v) &&& ~~~(BitVec.ofNat 64 (255 * 2 ^ (8 * j)))) ||| (BitVec.ofNat 64 (c.toNat * 2 ^ (8 * j)))).isLt
 omega
theorem qf3 (n j : Nat) : getB (n : Int) j = ((n / 2 ^ (8 * j)) % 256 : Nat) := by
 unfold getB
 rw [Int.natCast_emod, Int.natCast_ediv, Int.natCast_pow]
 rfl
theorem qd4 (n j t : Nat) : ((n / 2 ^ (8 * j)) % 256).testBit t = (decide (t < 8) && n.testBit (8 * j + t)) := by
 have : (256 : Nat) = 2 ^ 8 := rfl
 rw [this, Nat.testBit_mod_two_pow, Nat.testBit_div_two_pow, Nat.add_comm]
theorem qgB {v c : Int} {j : Nat} (hj : j < 8) (hc : 0 ≤ c ∧ c ≤ 255) : getB (setB v j c) j = c := by
 obtain ⟨n, rfl⟩ := qlG hc.1
 unfold setB
 rw [qf3]
 congr 1
 apply Nat.eq_of_testBit_eq
 intro t
 rw [qd4, BitVec.testBit_toNat]
 simp only [qlj]
 have hn : n < 2 ^ 8 := by omega
 by_cases ht : t < 8
 ·have h64 : 8 * j + t < 64 := by omega
  simp only [ht, decide_true, Bool.true_and, BitVec.getLsbD_or, BitVec.getLsbD_and, BitVec.getLsbD_not, BitVec.getLsbD_ofNat, h64, Nat.testBit_mul_two_pow]
  rw [show decide (8 * j + t ≥ 8 * j) = true from by simp, show 8 * j + t - 8 * j = t from by omega]
  have h255 : Nat.testBit 255 t = true := by
   have : (255 : Nat) = 2 ^ 8 - 1 := rfl
   rw [this, Nat.testBit_two_pow_sub_one]; simpa using ht
  simp [h255]
 ·have : n.testBit t = false := Nat.testBit_lt_two_pow (qmu hn (Nat.pow_le_pow_right (by omega) (by omega)))
  simp [ht, this]
theorem qgb {v c : Int} {j i : Nat} (hv : 0 ≤ v ∧ v ≤ 18446744073709551615) (hj : j < 8) (hi : i < 8) (hij : i ≠ j) (hc : 0 ≤ c ∧ c ≤ 255) : getB (setB v j c) i = getB v i := by
 obtain ⟨n, rfl⟩ := qlG hc.1
 obtain ⟨m, rfl⟩ := qlG hv.1
 unfold setB
 rw [qf3, qf3]
 congr 1
 apply Nat.eq_of_testBit_eq
 intro t
 rw [qd4, qd4, BitVec.testBit_toNat]
 simp only [qlj]
 have hn : n < 2 ^ 8 := by omega
 by_cases ht : t < 8
 ·have h64 : 8 * i + t < 64 := by omega
  simp only [ht, decide_true, Bool.true_and, BitVec.getLsbD_or, BitVec.getLsbD_and, BitVec.getLsbD_not, BitVec.getLsbD_ofNat, h64, Nat.testBit_mul_two_pow, BitVec.ofInt_natCast]
  have hz : ∀ q : Nat, q < 2 ^ 8 → (decide (8 * i + t ≥ 8 * j) && q.testBit (8 * i + t - 8 * j)) = false := by
   intro q hq
   by_cases hge : 8 * i + t ≥ 8 * j
   ·have : 8 ≤ 8 * i + t - 8 * j := by omega
    rw [Nat.testBit_lt_two_pow (qmu hq (Nat.pow_le_pow_right (by omega) this))]; simp
   ·simp [hge]
  rw [hz 255 (by omega), hz n hn]
  simp
 ·simp [ht]
theorem qk1 {v : Int} (hv : 0 ≤ v ∧ v ≤ 18446744073709551615) {j : Nat} (hj : j < 8) : qlf .u8 (shrI .u64 v (8 * (j : Int))) = getB v j := by
 unfold shrI getB
 rw [show (min ((8 * (j : Int)).toNat) (qmk .u64)) = 8 * j from by simp [qmk]; omega]
 rw [Int.fdiv_eq_ediv_of_nonneg _ (Int.pow_nonneg (by omega))]
 simp only [qlf, qmk, IntKind.signed, Bool.false_and, Int.reducePow, qlo, if_false]
theorem qdR (x : Int) : qmb 64 (qlf .u64 x) = qmb 64 x := by
 simp only [qlf, qmk, IntKind.signed, Bool.false_and, qlo, if_false]
 apply BitVec.eq_of_toInt_eq
 simp only [BitVec.toInt_ofInt]
 exact Int.emod_bmod x (2 ^ 64)
theorem qk5 (n : Nat) (h : n < 2 ^ 64) : qlf .u64 (n : Int) = n := qbt (by omega) (by omega)
theorem qkp {v c : Int} (hc : 0 ≤ c ∧ c ≤ 255) {j : Nat} (hj : j < 8) :
  orI .u64 (andNotI .u64 v (shlI .u64 255 (8 * (j : Int)))) (shlI .u64 (qlf .u64 c) (8 * (j : Int))) = setB v j c := by
 have h1 : ∀ x : Int, shlI .u64 x (8 * (j : Int)) = qlf .u64 (x * 2 ^ (8 * j)) := by
  intro x
  unfold shlI
  rw [show (min ((8 * (j : Int)).toNat) (qmk .u64)) = 8 * j from by simp [qmk]; omega]
 have h2 : ∀ a b : Int, andNotI .u64 a b = qlf .u64 ((qmb 64 a &&& ~~~(qmb 64 b)).toNat : Int) := fun _ _ => rfl
 have h3 : ∀ a b : Int, orI .u64 a b = qlf .u64 ((qmb 64 a ||| qmb 64 b).toNat : Int) := fun _ _ => rfl
 rw [h3, h2, h1, h1, qbt (n := c) (by omega) (by omega), qdR, qdR, qdR, qk5 _ (BitVec.isLt _)]
 unfold setB
 obtain ⟨n, rfl⟩ := qlG hc.1
 have e1 : (255 : Int) * 2 ^ (8 * j) = ((255 * 2 ^ (8 * j) : Nat) : Int) := by rw [Int.natCast_mul, Int.natCast_pow]; rfl
 have e2 : (n : Int) * 2 ^ (8 * j) = ((n * 2 ^ (8 * j) : Nat) : Int) := by rw [Int.natCast_mul, Int.natCast_pow]; rfl
 rw [e1, e2]
 simp only [BitVec.ofInt_natCast, qlj, BitVec.ofNat_toNat, BitVec.setWidth_eq]
end Go.Abs
namespace Go.Proofs.YtdcbkjgoaknmkaaGreat
open Go Go.Abs
theorem qjV {H : AH} {b o : Nat} {v : Value} (h : AH.row? H ⟨b, o, none⟩ 1 = some [v]) : AH.cell? H ⟨b, o, none⟩ = some v := by
 have := (AH.row?_cell h).2.2.2.2 0 v rfl
 simpa using this
theorem qcu {α : Type} {H : AH} {s : Sl} {g : α → Value} {l : List α} (h : qlA H s 1 (fun x => [g x]) l) {i : Nat} (hi : i < l.length) :
  ∃ b o, s.a = some ⟨b, o, none⟩ ∧ b < H.size ∧ AH.cell? H (qlg ⟨b, o, none⟩ (i * 1)) = some (g (l[i])) := by
 obtain ⟨b, o, h1, h2, h3⟩ := h.at hi
 refine ⟨b, o, h1, h2, ?_⟩
 rw [qj] at h3 ⊢
 exact qjV h3
def inside (len : Nat) (off n : Int) : Prop := 0 ≤ off ∧ 0 ≤ n ∧ n ≤ 448 ∧ off ≤ 8 * len - n
instance (len : Nat) (off n : Int) : Decidable (inside len off n) := by unfold inside; infer_instance
def byteAt (ws : List Int) (i : Nat) : Int := getB (ws.getD (i / 8) 0) (i % 8)
def bytesOf (ws : List Int) (off n : Nat) : List Int := (ql4 n).map fun j => byteAt ws (off + j)
def qaE (ws : List Int) : Prop := ∀ v ∈ ws, 0 ≤ v ∧ v ≤ 18446744073709551615
section
variable {off n : Int} {H : AH} {sl : Sl}
theorem qbS.s {k : Bool → AH → Prop} (hs : sl.n ≤ 1000000000) (ho : -9223372036854775808 ≤ off ∧ off ≤ 9223372036854775807) (h : k (decide (inside sl.n off n)) H) : qbS sl off n H k := by
 refine gcB (decide (inside sl.n off n)) (qbS.link ?_) h
 simp only [qbS.b, qf, decide_eq_true_eq, qa.refl, true_and]
 by_cases h1 : off ≥ 0
 ·rw [if_pos h1]
  by_cases h2 : n ≥ 0
  ·rw [if_pos h2]
   by_cases h3 : n ≤ 448
   ·rw [if_pos h3, qe (n := (sl.n : Int) * 8) (by omega) (by omega), qe (by omega) (by omega)]
    refine decide_eq_decide.2 ?_; unfold inside; omega
   ·rw [if_neg h3]; refine (decide_eq_false ?_).symm; unfold inside; omega
  ·rw [if_neg h2]; refine (decide_eq_false ?_).symm; unfold inside; omega
 ·rw [if_neg h1]; refine (decide_eq_false ?_).symm; unfold inside; omega
theorem qbP.s {ws : List Int} {k : Sl → Bool → AH → Prop} (hw : qlA H sl 1 wU ws) (h64 : qaE ws) (hlen : ws.length ≤ 1000000) (ho : -9223372036854775808 ≤ off ∧ off ≤ 9223372036854775807)
  (h1 : inside ws.length off n → ∀ s H', qa H H' → Own H.size H' s 1 bU (bytesOf ws off.toNat n.toNat) → k s true H') (h0 : ¬ inside ws.length off n → k ⟨none, 0, 0⟩ false H) : qbP sl off n H k := by
 refine qbP.link ?_
 unfold qbP.b
 have hn : sl.n = ws.length := hw.1
 refine qbS.s (by omega) ho ?_
 rw [hn]
 by_cases hin : inside ws.length off n
 ·rw [show decide (inside ws.length off n) = true from by simpa using hin, Bool.not_true, qc]
  have hin' := hin
  unfold inside at hin
  refine qI (t := ((⟨none, 0, 0⟩, off) : Sl × Int)) (H := H) (I := fun (t : Sl × Int) H' => ∃ j : Nat, t.2 = off + j ∧ (j : Int) ≤ n ∧ qa H H' ∧ Own H.size H' t.1 1 bU (bytesOf ws off.toNat j)) (m := fun (t : Sl × Int) _ => qlp (off + n - t.2)) ?_ ?_
  ·intro t H1 hI it hit
   obtain ⟨s, i⟩ := t
   obtain ⟨j, hi, hj, hK, hO⟩ := hI
   simp only at hi hO
   subst hi
   have hR := hw.keep hK
   unfold qbP.l1
   simp only
   rw [qe (n := off + n) (by omega) (by omega)]
   by_cases hlt : (j : Int) < n
   ·rw [show decide (off + (j : Int) < off + n) = true from by simp; omega, qk]
    rw [qmd (by omega), Int.tmod_eq_emod_of_nonneg (by omega), qe (n := (off + (j : Int)) / 8) (by omega) (by omega), hn]
    have hidx : ((off + (j : Int)) / 8).toNat < ws.length := by omega
    obtain ⟨b, o, ha, hb, hcell⟩ := qcu (g := fun v => qld .u64 v) hR hidx
    refine ⟨by decide, ⟨by omega, by omega⟩, ?_⟩
    rw [ha, qd, hcell, qg, qe (n := (off + (j : Int)) % 8 * 8) (by omega) (by omega)]
    refine ⟨by decide, by omega, ?_⟩
    have hjm : ((off + (j : Int)) % 8) = (((off.toNat + j) % 8 : Nat) : Int) := by omega
    have hidx' : ((off + (j : Int)) / 8).toNat = (off.toNat + j) / 8 := by omega
    have hv := h64 _ (qlt hidx)
    have hbyte : qlf .u8 (shrI .u64 ws[((off + (j : Int)) / 8).toNat] ((off + (j : Int)) % 8 * 8)) = byteAt ws (off.toNat + j) := by
     rw [Int.mul_comm, hjm, qk1 hv (by omega)]
     unfold byteAt
     rw [qlh, ← hidx', qle hidx, qlW]
    rw [hbyte]
    simp only [qr]
    refine qbs (H0 := H) (B := H.size) (f := bU) (x := byteAt ws (off.toNat + j)) (l := bytesOf ws off.toNat j) (fun _ => rfl) rfl hO (qln _) hK.1 hK (by simp only [bytesOf, List.length_map, List.length_range, lim]; omega) ?_
    intro s' H' hO' hK' _ _
    rw [qe (n := off + (j : Int) + 1) (by omega) (by omega)]
    refine hit _ _ ⟨j + 1, by simp only; omega, by omega, hK', ?_⟩ (by simp only; omega)
    have : bytesOf ws off.toNat (j + 1) = bytesOf ws off.toNat j ++ [byteAt ws (off.toNat + j)] := by simp [bytesOf, qmt]
    rw [this]; exact hO'
   ·rw [show decide (off + (j : Int) < off + n) = false from by simp; omega, qc]
    have hjn : n.toNat = j := by omega
    exact h1 hin' _ _ hK (hjn ▸ hO)
  ·exact ⟨0, by simp, by omega, qa.refl H, .inl ⟨rfl, rfl⟩⟩
 ·rw [show decide (inside ws.length off n) = false from by simpa using hin, Bool.not_false, qk]
  exact h0 hin
end
end Go.Proofs.YtdcbkjgoaknmkaaGreat
namespace Go.Abs
theorem qkX {α : Type} {f : α → List Value} {z : Nat} (hf : ∀ x, (f x).length = z) {j : Nat} {v : Value} (hj : j < z) : ∀ (l : List α) (i : Nat) (x y : α), l[i]? = some x → f y = (f x).set j v →
  (l.flatMap f).set (i * z + j) v = (l.set i y).flatMap f := by
 intro l
 induction l with
 | nil => intro i x y h; simp at h
 | cons a l ih =>
  intro i x y h hy
  cases i with
  | zero =>
   simp only [List.getElem?_cons_zero, qml] at h
   subst h
   simp only [Nat.zero_mul, qlz, qlR, List.set_cons_zero]
   rw [hy, List.set_append_left _ _ (by rw [hf]; exact hj)]
  | succ i =>
   simp only [List.getElem?_cons_succ] at h
   simp only [qlR, List.set_cons_succ]
   rw [← ih i x y h hy, List.set_append_right _ _ (by rw [hf, Nat.succ_mul]; omega)]
   congr 2
   rw [hf, Nat.succ_mul]; omega
theorem Own.cell {α : Type} {B : Nat} {H : AH} {s : Sl} {z : Nat} {f : α → List Value} {l : List α} (h : Own B H s z f l) (hf : ∀ x, (f x).length = z) {i : Nat} {x : α} (hi : l[i]? = some x) {j : Nat} (hj : j < z) :
  ∃ b, s.a = some ⟨b, 0, none⟩ ∧ B ≤ b ∧ b < H.size ∧ AH.cell? H ⟨b, i * z + j, none⟩ = (f x)[j]? := by
 rcases h with ⟨_, rfl⟩ | ⟨b, rfl, h1, h2, hg⟩
 ·simp at hi
 ·refine ⟨b, rfl, h1, h2, ?_⟩
  simp only [AH.cell?, hg, qlx, qlo, if_false]
  rw [if_neg (by simp)]
  have := qfY hf l i x hi
  rw [← this, qlU, if_pos hj, qlQ]
theorem Own.put {α : Type} {B : Nat} {H : AH} {s : Sl} {z : Nat} {f : α → List Value} {l : List α} (h : Own B H s z f l) (hf : ∀ x, (f x).length = z) {i : Nat} {x y : α} (hi : l[i]? = some x) {j : Nat} (hj : j < z) {v : Value}
  (hy : f y = (f x).set j v) : ∃ b, s.a = some ⟨b, 0, none⟩ ∧ B ≤ b ∧ b < H.size ∧ AH.canPut H ⟨b, i * z + j, none⟩ 1 ∧ Own B (H.put ⟨b, i * z + j, none⟩ [v]) s z f (l.set i y) ∧
   ∀ b', b' ≠ b → (H.put ⟨b, i * z + j, none⟩ [v]).get b' = H.get b' := by
 rcases h with ⟨_, rfl⟩ | ⟨b, rfl, h1, h2, hg⟩
 ·simp at hi
 ·have hlt : i < l.length := (List.getElem?_eq_some_iff.1 hi).1
  have hle : i * z + j + 1 ≤ (l.flatMap f).length := by
   rw [qcK hf]
   calc i * z + j + 1 ≤ i * z + z := by omega
    _ = (i + 1) * z := by rw [Nat.succ_mul]
    _ ≤ l.length * z := Nat.mul_le_mul_right _ hlt
  refine ⟨b, rfl, h1, h2, ⟨rfl, by rw [hg], by rw [hg]; exact hle⟩, .inr ⟨b, by simp, h1, h2, ?_⟩, fun b' hb' => ?_⟩
  ·simp only [AH.put, qG, if_true, hg, setMany]
   rw [qkX hf hj l i x y hi hy]
  ·simp only [AH.put, qG]; rw [if_neg hb']
end Go.Abs
namespace Go.Proofs.YtdcbkjgoaknmkaaGreat
open Go Go.Abs
def putB (ws : List Int) (i : Nat) (c : Int) : List Int := ws.set (i / 8) (setB (ws.getD (i / 8) 0) (i % 8) c)
def putBs : List Int → Nat → List Int → List Int
 | ws, _, [] => ws
 | ws, i, c :: r => putBs (putB ws i c) (i + 1) r
def eU (x : Int × Int) : List Value := [.int .i64 x.1, .int .u64 x.2]
def editsOf (cur : List Int) (q m : Nat) : List (Int × Int) := (ql4 m).map fun j => (((q + j : Nat) : Int), cur.getD (q + j) 0)
def touched (off k : Nat) : Nat := if k = 0 then 0 else (off + k - 1) / 8 - off / 8 + 1
def qaW (bs : List Int) : Prop := ∀ v ∈ bs, 0 ≤ v ∧ v ≤ 255
theorem qdF (ws : List Int) (i : Nat) (c : Int) : (putB ws i c).length = ws.length := by simp [putB]
theorem qcw : ∀ (bs ws : List Int) (i : Nat), (putBs ws i bs).length = ws.length := by
 intro bs
 induction bs with
 | nil => intro ws i; rfl
 | cons c r ih => intro ws i; simp [putBs, ih, qdF]
theorem qiR : ∀ (bs ws : List Int) (i : Nat) (c : Int), putBs ws i (bs ++ [c]) = putB (putBs ws i bs) (i + bs.length) c := by
 intro bs
 induction bs with
 | nil => intro ws i c; rfl
 | cons b r ih => intro ws i c; simp only [List.cons_append, putBs, ih, qlw]; congr 1; omega
theorem qfs (ws : List Int) (i : Nat) (c : Int) (w : Nat) (h : i / 8 < ws.length) : (putB ws i c).getD w 0 = if w = i / 8 then setB (ws.getD (i / 8) 0) (i % 8) c else ws.getD w 0 := by
 unfold putB
 simp only [qlh]
 by_cases hw : w = i / 8
 ·subst hw; simp [h]
 ·rw [if_neg hw, qlJ (by omega)]
theorem qe0 : ∀ (bs ws : List Int) (i w : Nat), (i + bs.length ≤ w * 8 ∨ w < i / 8) → i + bs.length ≤ ws.length * 8 → (putBs ws i bs).getD w 0 = ws.getD w 0 := by
 intro bs
 induction bs with
 | nil => intro ws i w _ _; rfl
 | cons c r ih =>
  intro ws i w h hl
  simp only [qlw] at h hl
  simp only [putBs]
  rw [ih _ _ _ (by omega) (by rw [qdF]; omega), qfs _ _ _ _ (by omega), if_neg (by omega)]
section
variable {off : Nat} {H : AH} {x0 x2 : Sl}
theorem qbU (cur : List Int) (q m : Nat) : (editsOf cur q m).length = m := by simp [editsOf]
theorem qdG {cur : List Int} {q m i : Nat} (h : i < m) : (editsOf cur q m)[i]? = some (((q + i : Nat) : Int), cur.getD (q + i) 0) := by
 simp [editsOf, h]
theorem qeY {ws : List Int} (h : qaE ws) (i : Nat) (c : Int) : qaE (putB ws i c) := by
 intro v hv
 unfold putB at hv
 rcases List.mem_or_eq_of_mem_set hv with hv | rfl
 ·exact h v hv
 ·exact qjg _ _ _
theorem qiQ {cur : List Int} {q m i : Nat} {c : Int} (hm : 1 ≤ m) (hi : i / 8 = q + m - 1) (hl : i / 8 < cur.length) :
  (editsOf cur q m).set (m - 1) (((i / 8 : Nat) : Int), setB (cur.getD (i / 8) 0) (i % 8) c) = editsOf (putB cur i c) q m := by
 apply qlF
 intro j
 by_cases hj : j < m
 ·rw [qdG hj, qfs _ _ _ _ hl]
  by_cases hjm : j = m - 1
  ·subst hjm
   rw [ql0 (by rw [qbU]; omega), if_pos (by omega), show q + (m - 1) = i / 8 from by omega]
  ·rw [qlJ (by omega), qdG hj, if_neg (by omega)]
 ·rw [qll (by rw [List.length_set, qbU]; omega), qll (by rw [qbU]; omega)]
theorem qhS {it : Sl × Int → AH → Prop} {H0 H1 : AH} {s : Sl} {cur : List Int} {k m : Nat} {c : Int} {t : Sl × Int} (ht : t.2 = (k : Int)) (hK : qa H0 H1) (hO : Own H0.size H1 s 2 eU (editsOf cur (off / 8) m)) (hm : 1 ≤ m) (hm' : m ≤ 1000)
  (hi : (off + k) / 8 = off / 8 + m - 1) (hl : (off + k) / 8 < cur.length) (hc : 0 ≤ c ∧ c ≤ 255) (hoff : off + k ≤ 100000000)
  (hit : ∀ H', qa H0 H' → Own H0.size H' s 2 eU (editsOf (putB cur (off + k) c) (off / 8) m) → it (s, (k : Int) + 1) H') : qan.j1 (off : Int) t it c s H1 := by
 unfold qan.j1
 have hlen : s.n = m := by
  rcases hO with ⟨rfl, h⟩ | ⟨b, rfl, _, _, _⟩
  ·have := qbU cur (off / 8) m
   rw [h] at this; simpa using this
  ·simp [qbU]
 rw [hlen, ht, qe (n := (m : Int) - 1) (by omega) (by omega), qe (n := (off : Int) + (k : Int)) (by omega) (by omega)]
 have hidx : ((m : Int) - 1).toNat = m - 1 := by omega
 have hget := qdG (cur := cur) (q := off / 8) (show m - 1 < m from by omega)
 have hq : off / 8 + (m - 1) = (off + k) / 8 := by omega
 rw [hq] at hget
 obtain ⟨b, ha, hb1, hb2, hcell⟩ := hO.cell (fun _ => rfl) hget (j := 1) (by omega)
 refine ⟨⟨by omega, by omega⟩, ?_⟩
 rw [ha, qd, hidx, qj, qj, qlz, hcell]
 have hmod : ((off : Int) + (k : Int)).tmod 8 = (((off + k) % 8 : Nat) : Int) := by rw [Int.tmod_eq_emod_of_nonneg (by omega)]; omega
 rw [hmod]
 show elI .u64 (some (qld .u64 (cur.getD ((off + k) / 8) 0))) _
 rw [qg, qe (n := (((off + k) % 8 : Nat) : Int) * 8) (by omega) (by omega), Int.mul_comm _ 8, qkp hc (by omega)]
 refine ⟨by decide, by omega, by decide, by omega, ?_⟩
 obtain ⟨b', ha', _, _, hcan, hO', hsame⟩ := hO.put (y := ((((off + k) / 8 : Nat) : Int), setB (cur.getD ((off + k) / 8) 0) ((off + k) % 8) c)) (fun _ => rfl) hget (j := 1) (by omega) (v := .int .u64 (setB (cur.getD ((off + k) / 8) 0) ((off + k) % 8) c)) rfl
 rw [ha] at ha'
 injection ha' with ha'
 injection ha' with ha'
 subst ha'
 refine ⟨hcan, ?_⟩
 rw [qe (n := (k : Int) + 1) (by omega) (by omega)]
 rw [qiQ hm hi hl] at hO'
 exact hit _ (hK.put hb1 _) hO'
theorem own_n {α : Type} {B : Nat} {H : AH} {s : Sl} {z : Nat} {f : α → List Value} {l : List α} (h : Own B H s z f l) : s.n = l.length := by
 rcases h with ⟨rfl, rfl⟩ | ⟨b, rfl, _, _, _⟩ <;> rfl
theorem qhx {it : Sl × Int → AH → Prop} {H0 H1 : AH} {s : Sl} {ws cur : List Int} {k m : Nat} {c : Int} {t : Sl × Int} (ht : t = (s, (k : Int))) (hw : qlA H1 x0 1 wU ws) (hcl : cur.length = ws.length) (hcw : cur.getD ((off + k) / 8) 0 = ws.getD ((off + k) / 8) 0)
  (hK : qa H0 H1) (hO : Own H0.size H1 s 2 eU (editsOf cur (off / 8) m)) (hm' : m ≤ 900)
  (hi : (off + k) / 8 = off / 8 + m) (hl : (off + k) / 8 < cur.length) (hc : 0 ≤ c ∧ c ≤ 255) (hoff : off + k ≤ 100000000) (hwl : ws.length ≤ 1000000)
  (hit : ∀ s' H', qa H0 H' → Own H0.size H' s' 2 eU (editsOf (putB cur (off + k) c) (off / 8) (m + 1)) → it (s', (k : Int) + 1) H') : qan.j2 x0 (off : Int) t it H1 c true := by
 subst ht
 unfold qan.j2
 rw [qk]
 simp only
 rw [qe (n := (off : Int) + (k : Int)) (by omega) (by omega), qmd (by omega), qe (n := ((off : Int) + (k : Int)) / 8) (by omega) (by omega), hw.1]
 refine ⟨by decide, by decide, ⟨by omega, by omega⟩, ?_⟩
 have hidx : (((off : Int) + (k : Int)) / 8).toNat = (off + k) / 8 := by omega
 have hlt : (off + k) / 8 < ws.length := by omega
 obtain ⟨b, o, ha, hb, hcell⟩ := qcu (g := fun v => qld .u64 v) hw hlt
 rw [ha, qd, hidx, hcell, qg]
 refine ⟨rfl, ?_⟩
 rw [qr]
 have hx : [qld .i64 (((off : Int) + (k : Int)) / 8), qld .u64 ws[(off + k) / 8]] = eU ((((off + k) / 8 : Nat) : Int), cur.getD ((off + k) / 8) 0) := by
  rw [hcw]
  simp only [eU, qlh, qle hlt, qlW]
  congr 1
 rw [hx]
 refine qbs (H0 := H0) (B := H0.size) (f := eU) (x := ((((off + k) / 8 : Nat) : Int), cur.getD ((off + k) / 8) 0)) (l := editsOf cur (off / 8) m) (fun _ => rfl) rfl hO (qln _) hK.1 hK (by rw [qbU]; simp only [lim]; omega) ?_
 intro s' H' hO' hK' _ _
 have hl' : editsOf cur (off / 8) m ++ [((((off + k) / 8 : Nat) : Int), cur.getD ((off + k) / 8) 0)] = editsOf cur (off / 8) (m + 1) := by
  simp only [editsOf, qmt, List.map_append, List.map_cons, List.map_nil, hi]
 rw [hl'] at hO'
 exact qhS rfl hK' hO' (by omega) (by omega) (by omega) hl hc hoff (fun H'' hK'' hO'' => hit s' H'' hK'' hO'')
theorem qan.s {ws bs : List Int} {k : Sl → Bool → AH → Prop} {offI : Int} (hw : qlA H x0 1 wU ws) (h64 : qaE ws) (hwl : ws.length ≤ 1000000) (hb : qlA H x2 1 bU bs) (h8 : qaW bs) (ho : -9223372036854775808 ≤ offI ∧ offI ≤ 9223372036854775807)
  (h1 : inside ws.length offI bs.length → ∀ s H', qa H H' → Own H.size H' s 2 eU (editsOf (putBs ws offI.toNat bs) (offI.toNat / 8) (touched offI.toNat bs.length)) → k s true H')
  (h0 : ¬ inside ws.length offI bs.length → k ⟨none, 0, 0⟩ false H) : qan x0 offI x2 H k := by
 refine qan.link ?_
 unfold qan.b
 rw [hb.1]
 refine qbS.s (by rw [hw.1]; omega) ho ?_
 rw [hw.1]
 by_cases hin : inside ws.length offI bs.length
 ·rw [show decide (inside ws.length offI bs.length) = true from by simpa using hin, Bool.not_true, qc]
  have hin' := hin
  unfold inside at hin
  obtain ⟨off, rfl⟩ := qlG hin.1
  simp only [qlj] at h1
  refine qI (t := ((⟨none, 0, 0⟩, (0 : Int)) : Sl × Int)) (H := H) (I := fun (t : Sl × Int) H' => ∃ j : Nat, t.2 = (j : Int) ∧ j ≤ bs.length ∧ qa H H' ∧ Own H.size H' t.1 2 eU (editsOf (putBs ws off (bs.take j)) (off / 8) (touched off j))) (m := fun (t : Sl × Int) _ => qlp ((bs.length : Int) - t.2)) ?_ ?_
  ·intro t H1 hI it hit
   obtain ⟨s, i⟩ := t
   obtain ⟨j, hi, hj, hK, hO⟩ := hI
   simp only at hi hO
   subst hi
   have hR := hw.keep hK
   have hB := hb.keep hK
   unfold qan.l3
   simp only
   rw [hb.1]
   by_cases hlt : j < bs.length
   ·rw [show decide ((j : Int) < (bs.length : Int)) = true from by simpa using hlt, qk]
    obtain ⟨b, o, ha, hbb, hcell⟩ := qcu (g := fun v => qld .u8 v) hB hlt
    refine ⟨⟨by omega, by omega⟩, ?_⟩
    rw [ha, qd, qlj, hcell, qg]
    have hc := h8 _ (qlt hlt)
    have hcl : (putBs ws off (bs.take j)).length = ws.length := qcw _ _ _
    have hstep : putB (putBs ws off (bs.take j)) (off + j) bs[j] = putBs ws off (bs.take (j + 1)) := by
     rw [List.take_succ, qle hlt, qmO, qiR, qmL, Nat.min_eq_left (by omega)]
    have hnext : ∀ s' H', qa H H' → Own H.size H' s' 2 eU (editsOf (putB (putBs ws off (bs.take j)) (off + j) bs[j]) (off / 8) (touched off (j + 1))) → it (s', (j : Int) + 1) H' := by
     intro s' H' hK' hO'
     rw [hstep] at hO'
     exact hit _ _ ⟨j + 1, by simp, by omega, hK', hO'⟩ (by simp only; omega)
    rw [own_n hO, qbU]
    have hlw : (off + j) / 8 < (putBs ws off (bs.take j)).length := by rw [hcl]; omega
    by_cases hj0 : j = 0
    ·subst hj0
     rw [show (((touched off 0 : Nat) : Int) == 0) = true from rfl, qk]
     refine qhx (m := 0) (cur := putBs ws off (bs.take 0)) rfl hR hcl rfl hK hO (by omega) (by omega) hlw hc (by omega) hwl ?_
     intro s' H' hK' hO'
     have : touched off (0 + 1) = 0 + 1 := by simp [touched]
     exact hnext s' H' hK' (by rw [this]; exact hO')
    ·have htm : touched off j = (off + j - 1) / 8 - off / 8 + 1 := by simp [touched, hj0]
     have htn : touched off (j + 1) = (off + j) / 8 - off / 8 + 1 := by simp [touched]
     have hle : touched off j ≤ 60 := by omega
     rw [show (((touched off j : Nat) : Int) == 0) = false from by simp; omega, qc, qe (n := ((touched off j : Nat) : Int) - 1) (by omega) (by omega)]
     refine ⟨⟨by omega, by omega⟩, ?_⟩
     have hget := qdG (cur := putBs ws off (bs.take j)) (q := off / 8) (show touched off j - 1 < touched off j from by omega)
     obtain ⟨b', ha', _, _, hcell'⟩ := hO.cell (fun _ => rfl) hget (j := 0) (by omega)
     have hidx : (((touched off j : Nat) : Int) - 1).toNat = touched off j - 1 := by omega
     rw [ha', qd, hidx, qj, qj, qlz, hcell']
     show elI .i64 (some (qld .i64 ((off / 8 + (touched off j - 1) : Nat) : Int))) _
     rw [qg, qe (n := (off : Int) + (j : Int)) (by omega) (by omega), qmd (by omega), qe (n := ((off : Int) + (j : Int)) / 8) (by omega) (by omega)]
     refine ⟨by decide, ?_⟩
     by_cases hsame : (off + j) / 8 = off / 8 + touched off j - 1
     ·rw [show ((((off / 8 + (touched off j - 1) : Nat) : Int)) != ((off : Int) + (j : Int)) / 8) = false from by simp; omega]
      unfold qan.j2
      rw [qc]
      refine qhS (m := touched off j) (cur := putBs ws off (bs.take j)) rfl hK hO (by omega) (by omega) hsame hlw hc (by omega) ?_
      intro H' hK' hO'
      exact hnext s H' hK' (by rw [show touched off (j + 1) = touched off j from by omega]; exact hO')
     ·rw [show ((((off / 8 + (touched off j - 1) : Nat) : Int)) != ((off : Int) + (j : Int)) / 8) = true from by simp; omega]
      refine qhx (m := touched off j) (cur := putBs ws off (bs.take j)) rfl hR hcl ?_ hK hO (by omega) (by omega) hlw hc (by omega) hwl ?_
      ·exact qe0 _ _ _ _ (.inl (by rw [qmL]; omega)) (by rw [qmL]; omega)
      ·intro s' H' hK' hO'
       exact hnext s' H' hK' (by rw [show touched off (j + 1) = touched off j + 1 from by omega]; exact hO')
   ·rw [show decide ((j : Int) < (bs.length : Int)) = false from by simpa using hlt, qc]
    have hjn : j = bs.length := by omega
    subst hjn
    rw [List.take_length] at hO
    exact h1 hin' _ _ hK hO
  ·exact ⟨0, rfl, by omega, qa.refl H, .inl ⟨rfl, rfl⟩⟩
 ·rw [show decide (inside ws.length offI bs.length) = false from by simpa using hin, Bool.not_false, qk]
  exact h0 hin
end
section
variable {H : AH}
theorem qkE {g : Int → Value} (hg : ∀ v, qp (g v) = true) (v : Int) : qlA (H.push ⟨[g v], .rw, 1⟩) ⟨some ⟨H.size, 0, none⟩, 1, 1⟩ 1 (fun x => [g x]) [v] := by
 refine ⟨rfl, fun i x hi => ?_⟩
 cases i with
 | zero =>
  simp only [List.getElem?_cons_zero, qml] at hi
  subst hi
  refine ⟨_, rfl, rfl, by simp [qi], ?_⟩
  exact row_new rfl (by simp [hg])
 | succ i => simp at hi
end
theorem qfM {α : Type} (g : α → Value) (l : List α) : (l.flatMap fun x => [g x]) = l.map g := by
 induction l with
 | nil => rfl
 | cons a l ih => simp [ih]
theorem qfW {α : Type} {H : AH} {s : Sl} {g : α → Value} {l : List α} (hg : ∀ x, qp (g x) = true) (h : qlA H s 1 (fun x => [g x]) l) : AH.rowS? H s 1 = some (l.map g) := by
 simp only [AH.rowS?]
 by_cases h0 : s.n = 0
 ·rw [if_pos h0]
  have : l = [] := List.length_eq_zero_iff.1 (by rw [← h.1]; exact h0)
  subst this; rfl
 ·rw [if_neg h0]
  have hpos : 0 < l.length := by rw [← h.1]; omega
  obtain ⟨b, o, ha, hb, hr0⟩ := h.at hpos
  rw [ha]
  simp only [Nat.mul_one]
  have hcell : ∀ i (hi : i < l.length), AH.cell? H ⟨b, o + i, none⟩ = some (g l[i]) := by
   intro i hi
   obtain ⟨b', o', ha', _, hr⟩ := qcu h hi
   rw [ha] at ha'
   injection ha' with ha'
   injection ha' with e1 e2 _
   subst e1 e2
   rw [qj, Nat.mul_one] at hr
   exact hr
  have hm : (H.get b).md ≠ .dead := by
   intro hm
   have := hcell 0 hpos
   simp [AH.cell?, hm] at this
  have hc : ∀ i (hi : i < l.length), (H.get b).cells[o + i]? = some (g l[i]) := by
   intro i hi
   have := hcell i hi
   simpa [AH.cell?, hm] using this
  have hlen : o + s.n ≤ (H.get b).cells.length := by
   have h1 := hc (l.length - 1) (by omega)
   have := (List.getElem?_eq_some_iff.1 h1).1
   have := h.1
   omega
  have htake : ((H.get b).cells.drop o).take s.n = l.map g := by
   apply qlF
   intro i
   by_cases hi : i < s.n
   ·have hi' : i < l.length := by rw [← h.1]; exact hi
    rw [qlU, if_pos hi, qlQ, hc i hi', List.getElem?_map, qle hi', Option.map_some]
   ·rw [qll (by simp; omega), qll (by rw [List.length_map, ← h.1]; omega)]
  simp only [AH.row?, qlx, qlo, if_false]
  rw [if_neg hm, htake, if_pos ⟨hlen, by simp [hg]⟩]
theorem qah.s {H : AH} {sl : Sl} {ws : List Int} {k : Sl → AH → Prop} (hw : qlA H sl 1 wU ws) (hwl : ws.length ≤ 1000000)
  (h : ∀ s H', qa H H' → Own H.size H' s 1 wU ws ∨ (ws = [] ∧ s.n = 0) → k s H') : qah sl H k := by
 refine qah.link ?_
 unfold qah.b
 cases ha : sl.a with
 | none =>
  rw [Option.isNone_none, qk]
  refine h _ _ (qa.refl H) (.inr ⟨?_, rfl⟩)
  cases ws with
  | nil => rfl
  | cons x r =>
   obtain ⟨a, h1, _⟩ := hw.2 0 x rfl
   rw [ha] at h1; cases h1
 | some a =>
  rw [Option.isNone_some, qc, qr]
  refine ⟨le_limS (by have := hw.1; simp only [lim]; omega) _, ?_⟩
  by_cases h0 : sl.n = 0
  ·rw [if_pos h0]
   refine h _ _ ((qa.refl H).push _) (.inr ⟨List.length_eq_zero_iff.1 (by rw [← hw.1]; exact h0), rfl⟩)
  ·rw [if_neg h0]
   have hr := qfW (g := fun v => qld .u64 v) (fun _ => rfl) (hw.keep ((qa.refl H).push ⟨[], .rw, 1⟩))
   refine ⟨_, hr, ⟨rfl, rfl, rfl, by simp [qm], by simp [qm], by simp [qm]⟩, ?_⟩
   refine h _ _ ((((qa.refl H).push _).kill (b := H.size) (qln _)).push _) (.inl (.inr ⟨H.size + 1, ?_, by omega, by simp [qi, qU], ?_⟩))
   ·simp [newAt, qi, hw.1]
   ·simp only [qm, qU, qi, if_true]
    simp only [List.nil_append, AObj.mk.injEq, and_true]
    exact (qfM (fun v => qld .u64 v) ws).symm
def putE (ws : List Int) (x : Int × Int) : List Int := if 0 ≤ x.1 ∧ x.1 < ws.length then ws.set x.1.toNat x.2 else ws
def applyE (ws : List Int) (l : List (Int × Int)) : List Int := l.foldl putE ws
theorem qio (ws : List Int) (x : Int × Int) : (putE ws x).length = ws.length := by unfold putE; split <;> simp
theorem qai (l : List (Int × Int)) : ∀ ws, (applyE ws l).length = ws.length := by
 induction l with
 | nil => intro ws; rfl
 | cons x r ih => intro ws; simp only [applyE, List.foldl_cons]; exact (ih _).trans (qio _ _)
theorem ed_put {H : AH} (x y : Int × Int) : AH.put (H.push ⟨eU x, .rw, 0⟩) ⟨H.size, 0, none⟩ (eU y) = H.push ⟨eU y, .rw, 0⟩ := qdc _ _ _ _ _
theorem ed_can {H : AH} (x : Int × Int) : AH.canPut (H.push ⟨eU x, .rw, 0⟩) ⟨H.size, 0, none⟩ 2 := qcq.2 (by simp [eU])
theorem ed_0 {H : AH} (x : Int × Int) : AH.cell? (H.push ⟨eU x, .rw, 0⟩) (qlg ⟨H.size, 0, none⟩ 0) = some (.int .i64 x.1) := qdD _ _ _ _
theorem ed_1 {H : AH} (x : Int × Int) : AH.cell? (H.push ⟨eU x, .rw, 0⟩) (qlg ⟨H.size, 0, none⟩ 1) = some (.int .u64 x.2) := qdD _ _ _ _
theorem ed_nil : ([(qld .i64 (0 : Int)), (qld .u64 (0 : Int))] : List Value) = eU (0, 0) := rfl
theorem qaU.s {H : AH} {x0 x1 : Sl} {ws : List Int} {l : List (Int × Int)} {k : Sl → AH → Prop} (hw : qlA H x0 1 wU ws) (hwl : ws.length ≤ 1000000) (hl : qlA H x1 2 eU l) (hll : l.length ≤ 1000000)
  (h : ∀ s H', qa H H' → Own H.size H' s 1 wU (applyE ws l) ∨ (ws = [] ∧ s.n = 0) → k s H') : qaU x0 x1 H k := by
 refine qaU.link ?_
 unfold qaU.b
 refine qah.s hw hwl ?_
 intro s9 H9 hK9 hO9
 refine qI (t := (0 : Int)) (H := H9) (I := fun (t : Int) H' => ∃ j : Nat, t = (j : Int) ∧ j ≤ l.length ∧ qa H H' ∧ (Own H.size H' s9 1 wU (applyE ws (l.take j)) ∨ (ws = [] ∧ s9.n = 0))) (m := fun (t : Int) _ => qlp ((l.length : Int) - t)) ?_ ⟨0, rfl, by omega, hK9, hO9⟩
 intro t H1 hI it hit
 obtain ⟨j, rfl, hj, hK, hO⟩ := hI
 have hR := hl.keep hK
 unfold qaU.l2
 rw [hl.1]
 by_cases hlt : j < l.length
 ·rw [show decide ((j : Int) < (l.length : Int)) = true from by simpa using hlt, qk]
  obtain ⟨b, o, ha, hb, hrow⟩ := hR.at hlt
  refine ⟨⟨by omega, by omega⟩, ?_⟩
  rw [ha, qd, qlj, qn hrow]
  generalize hx : l[j] = x at *
  have htk : applyE ws (l.take (j + 1)) = putE (applyE ws (l.take j)) x := by
   rw [List.take_succ, qle hlt, hx, qmO]
   simp [applyE, List.foldl_append]
  have hn : s9.n = ws.length := by
   rcases hO with hO | ⟨rfl, h0⟩
   ·rw [own_n hO, qai]
   ·rw [h0]; rfl
  simp only [qr, qbL, ed_nil, ed_put, ed_can, ed_0, ed_1, qg, show (eU x).length = 2 from rfl, show (eU x).all qp = true from rfl, true_and]
  have hnext : ∀ H', qa H H' → (Own H.size H' s9 1 wU (putE (applyE ws (l.take j)) x) ∨ (ws = [] ∧ s9.n = 0)) → it ((j : Int) + 1) H' := by
   intro H' hK' hO'
   rw [← htk] at hO'
   exact hit _ _ ⟨j + 1, by simp, by omega, hK', hO'⟩ (by omega)
  have hO1 : Own H.size (H1.push ⟨eU x, .rw, 0⟩) s9 1 wU (applyE ws (l.take j)) ∨ (ws = [] ∧ s9.n = 0) :=
   hO.imp (fun hO => hO.keep (by simp [qi]) (fun b _ hb => qB (by omega))) id
  unfold qaU.j1
  simp only [ed_0, ed_1, qg]
  rw [qe (n := (j : Int) + 1) (by omega) (by omega), hn]
  by_cases h0 : x.1 ≥ 0
  ·rw [show decide (x.1 ≥ 0) = true from by simpa using h0, qk]
   by_cases h1 : x.1 < (ws.length : Int)
   ·rw [show decide (x.1 < (ws.length : Int)) = true from by simpa using h1, qk]
    refine ⟨⟨h0, h1⟩, ?_⟩
    rcases hO1 with hO1 | ⟨rfl, _⟩
    ·have hlw : x.1.toNat < (applyE ws (l.take j)).length := by rw [qai]; omega
     obtain ⟨b', ha', hb1, hb2, hcan, hO', _⟩ := hO1.put (y := x.2) (fun _ => rfl) (qle hlw) (j := 0) (by omega) (v := .int .u64 x.2) rfl
     rw [ha', qd, qj, qlz]
     refine ⟨hcan, ?_⟩
     refine hnext _ ((hK.push _).put hb1 _) (.inl ?_)
     have hp : putE (applyE ws (l.take j)) x = (applyE ws (l.take j)).set x.1.toNat x.2 := by
      unfold putE; rw [if_pos ⟨h0, by rw [qai]; exact h1⟩]
     rw [hp]; exact hO'
    ·simp at h1; omega
   ·rw [show decide (x.1 < (ws.length : Int)) = false from by simpa using h1, qc]
    refine hnext _ (hK.push _) (hO1.imp (fun hO => ?_) id)
    have hp : putE (applyE ws (l.take j)) x = applyE ws (l.take j) := by unfold putE; rw [if_neg (by rw [qai]; omega)]
    rw [hp]; exact hO
  ·rw [show decide (x.1 ≥ 0) = false from by simpa using h0, qc, qc]
   refine hnext _ (hK.push _) (hO1.imp (fun hO => ?_) id)
   have hp : putE (applyE ws (l.take j)) x = applyE ws (l.take j) := by unfold putE; rw [if_neg (by omega)]
   rw [hp]; exact hO
 ·rw [show decide ((j : Int) < (l.length : Int)) = false from by simpa using hlt, qc]
  have : j = l.length := by omega
  subst this
  rw [List.take_length] at hO
  exact h _ _ hK hO
theorem qit {ws : List Int} (h64 : qaE ws) {i p : Nat} {c : Int} (hi : i / 8 < ws.length) (hp : p / 8 < ws.length) (hc : 0 ≤ c ∧ c ≤ 255) : byteAt (putB ws i c) p = if p = i then c else byteAt ws p := by
 unfold byteAt
 rw [qfs _ _ _ _ hi]
 by_cases hw : p / 8 = i / 8
 ·rw [if_pos hw]
  by_cases hpi : p = i
  ·subst hpi; rw [if_pos rfl, qgB (by omega) hc]
  ·rw [if_neg hpi, ← hw]
   have hv : 0 ≤ ws.getD (p / 8) 0 ∧ ws.getD (p / 8) 0 ≤ 18446744073709551615 := by
    rw [qlh, qle hp, qlW]
    exact h64 _ (qlt hp)
   exact qgb hv (by omega) (by omega) (by omega) hc
 ·rw [if_neg hw, if_neg (by intro h; exact hw (by rw [h]))]
theorem qdQ : ∀ (bs ws : List Int) (i : Nat), qaE ws → qaE (putBs ws i bs) := by
 intro bs
 induction bs with
 | nil => intro ws i h; exact h
 | cons c r ih => intro ws i h; exact ih _ _ (qeY h i c)
theorem qhD : ∀ (bs ws : List Int) (i p : Nat), qaE ws → qaW bs → i + bs.length ≤ ws.length * 8 → p / 8 < ws.length →
  byteAt (putBs ws i bs) p = if i ≤ p ∧ p < i + bs.length then bs.getD (p - i) 0 else byteAt ws p := by
 intro bs
 induction bs with
 | nil => intro ws i p _ _ _ _; rw [if_neg (by simp)]; rfl
 | cons c r ih =>
  intro ws i p h64 h8 hl hp
  simp only [qlw] at hl
  simp only [putBs]
  rw [ih _ _ _ (qeY h64 i c) (fun v hv => h8 v (by simp [hv])) (by rw [qdF]; omega) (by rw [qdF]; exact hp), qit h64 (by omega) hp (h8 c (by simp))]
  simp only [qlw]
  by_cases h1 : i + 1 ≤ p ∧ p < i + 1 + r.length
  ·rw [if_pos h1, if_pos (by omega)]
   obtain ⟨d, hd⟩ : ∃ d, p - i = d + 1 := ⟨p - i - 1, by omega⟩
   rw [hd, List.getD_cons_succ]
   congr 1; omega
  ·rw [if_neg h1]
   by_cases h2 : p = i
   ·subst h2; rw [if_pos rfl, if_pos (by omega)]; simp
   ·rw [if_neg h2, if_neg (by omega)]
theorem qjA {a b : List Int} (hl : a.length = b.length) (h : ∀ w, w < a.length → a.getD w 0 = b.getD w 0) : a = b := by
 apply qlF
 intro w
 by_cases hw : w < a.length
 ·have := h w hw
  simp only [qlh, qle hw, qle (show w < b.length by omega), qlW] at this
  rw [qle hw, qle (show w < b.length by omega), this]
 ·rw [qll (by omega), qll (by omega)]
theorem qhj (cur : List Int) (q m : Nat) : editsOf cur q (m + 1) = editsOf cur q m ++ [(((q + m : Nat) : Int), cur.getD (q + m) 0)] := by
 simp only [editsOf, qmt, List.map_append, List.map_cons, List.map_nil]
theorem qiN {ws cur : List Int} {q : Nat} : ∀ (m w : Nat), q + m ≤ ws.length → (applyE ws (editsOf cur q m)).getD w 0 = if q ≤ w ∧ w < q + m then cur.getD w 0 else ws.getD w 0 := by
 intro m
 induction m with
 | zero => intro w _; rw [if_neg (by omega)]; rfl
 | succ m ih =>
  intro w hm
  rw [qhj]
  have : applyE ws (editsOf cur q m ++ [(((q + m : Nat) : Int), cur.getD (q + m) 0)]) = putE (applyE ws (editsOf cur q m)) (((q + m : Nat) : Int), cur.getD (q + m) 0) := by simp [applyE, List.foldl_append]
  rw [this]
  unfold putE
  rw [if_pos ⟨by simp only; omega, by simp only [qai]; omega⟩]
  simp only [qlj]
  by_cases hw : w = q + m
  ·subst hw
   rw [if_pos (by omega), qlh, ql0 (by rw [qai]; omega), qlW]
  ·have h2 : ((applyE ws (editsOf cur q m)).set (q + m) (cur.getD (q + m) 0)).getD w 0 = (applyE ws (editsOf cur q m)).getD w 0 := by
    simp only [qlh]
    rw [qlJ (by omega)]
   rw [h2, ih w (by omega)]
   by_cases h3 : q ≤ w ∧ w < q + m
   ·rw [if_pos h3, if_pos (by omega)]
   ·rw [if_neg h3, if_neg (by omega)]
theorem qhK {ws bs : List Int} {off : Nat} (hl : off + bs.length ≤ ws.length * 8) : applyE ws (editsOf (putBs ws off bs) (off / 8) (touched off bs.length)) = putBs ws off bs := by
 have hm : off / 8 + touched off bs.length ≤ ws.length ∨ bs = [] := by
  cases bs with
  | nil => exact .inr rfl
  | cons c r => left; simp only [qlw, touched] at hl ⊢; rw [if_neg (by omega)]; omega
 rcases hm with hm | rfl
 ·refine qjA (by rw [qai, qcw]) fun w _ => ?_
  rw [qiN _ _ hm]
  split
  ·rfl
  ·rename_i hw
   by_cases h0 : bs.length = 0
   ·have : bs = [] := List.length_eq_zero_iff.1 h0
    subst this; rfl
   ·have : touched off bs.length = (off + bs.length - 1) / 8 - off / 8 + 1 := by simp [touched, h0]
    exact (qe0 _ _ _ _ (by omega) hl).symm
 ·rfl
abbrev Bk : Type := Int × Int × Bool
def bkV (b : Bk) : List Value := [.int .i64 b.1, .int .i64 b.2.1, .bool b.2.2]
theorem bkV_len (b : Bk) : (bkV b).length = 3 := rfl
theorem bkV_ok (b : Bk) : (bkV b).all qp = true := rfl
def needN (n : Int) : Int := if 1 ≤ n ∧ n ≤ 448 then 1 + (n + 7) / 8 else 0
def takesN (size need : Int) : Int := if 2 ≤ need ∧ need ≤ size then (if size - need < 2 then size else need) else 0
def mayS (n : Int) : Prop := 2 ≤ n ∧ n ≤ 512
instance (n : Int) : Decidable (mayS n) := by unfold mayS; infer_instance
def wordN (n : Int) (u : Bool) : Int := if mayS n then 2 * n + (if u then 1 else 0) else 0
def offN (pt : Int) : Int := if 0 ≤ pt ∧ pt ≤ 512 then (pt + 1) * 8 else 0
def mayW (n : Int) : Prop := 8 ≤ n ∧ n ≤ 512 ∧ n % 8 = 0
instance (n : Int) : Decidable (mayW n) := by unfold mayW; infer_instance
theorem shr1 {v : Int} (h : 0 ≤ v) : shrI .u64 v 1 = v / 2 := by
 unfold shrI
 rw [Int.fdiv_eq_ediv_of_nonneg _ (by decide)]
 rfl
theorem and1w {v : Int} (h : isU v) : andI .u64 v 1 = v % 2 := by
 unfold isU at h
 obtain ⟨n, rfl⟩ := qlG h.1
 have hn : n < 2 ^ 64 := by omega
 unfold andI
 have e : (qmb (qmk .u64) (n : Int) &&& qmb (qmk .u64) 1).toNat = n % 2 := by
  rw [BitVec.toNat_and]
  have e1 : (qmb (qmk .u64) (n : Int)).toNat = n := by
   show (qmb 64 (n : Int)).toNat = n
   rw [BitVec.toNat_ofInt]
   omega
  have e2 : (qmb (qmk .u64) 1).toNat = 1 := rfl
  rw [e1, e2, Nat.and_one_is_mod]
 rw [e, qbt (by omega) (by omega)]
 omega
theorem shl1 {n : Int} (h : mayS n) : shlI .u64 (qlf .u64 n) 1 = 2 * n := by
 unfold mayS at h
 unfold shlI
 rw [qbt (n := n) (by omega) (by omega)]
 have : (2 : Int) ^ (min (qlp 1) (qmk .u64)) = 2 := rfl
 rw [this, qbt (by omega) (by omega)]; omega
theorem or1 {n : Int} (h : mayS n) : orI .u64 (2 * n) 1 = 2 * n + 1 := by
 unfold mayS at h
 obtain ⟨m, rfl⟩ := qlG (show 0 ≤ n by omega)
 have hm : m < 513 := by omega
 have key : ∀ m : Fin 513, orI .u64 (2 * ((m.val : Nat) : Int)) 1 = 2 * ((m.val : Nat) : Int) + 1 := by decide +kernel
 exact key ⟨m, hm⟩
section
variable {H : AH}
def BkAt (H : AH) (o : Nat) (b : Bk) : Prop := ∃ e, H.get o = ⟨bkV b, .rw, e⟩
theorem BkAt.c0 {o : Nat} {b : Bk} (h : BkAt H o b) : AH.cell? H (qlg ⟨o, 0, none⟩ 0) = some (.int .i64 b.1) := by obtain ⟨e, h⟩ := h; simp [qj, AH.cell?, h, bkV]
theorem BkAt.c1 {o : Nat} {b : Bk} (h : BkAt H o b) : AH.cell? H (qlg ⟨o, 0, none⟩ 1) = some (.int .i64 b.2.1) := by obtain ⟨e, h⟩ := h; simp [qj, AH.cell?, h, bkV]
theorem BkAt.c2 {o : Nat} {b : Bk} (h : BkAt H o b) : AH.cell? H (qlg ⟨o, 0, none⟩ 2) = some (.bool b.2.2) := by obtain ⟨e, h⟩ := h; simp [qj, AH.cell?, h, bkV]
theorem BkAt.row {o : Nat} {b : Bk} (h : BkAt H o b) : AH.row? H ⟨o, 0, none⟩ 3 = some (bkV b) := by
 obtain ⟨e, h⟩ := h
 simp only [AH.row?, h, qlx, qlo, if_false, List.drop_zero]
 rw [if_neg (by simp), List.take_of_length_le (by rw [bkV_len]; omega), if_pos ⟨by rw [bkV_len]; omega, bkV_ok _⟩]
theorem BkAt.keep {H' : AH} {o : Nat} {b : Bk} (h : BkAt H o b) (hg : H'.get o = H.get o) : BkAt H' o b := by obtain ⟨e, h⟩ := h; exact ⟨e, hg.trans h⟩
theorem BkAt.new {b : Bk} {e : Nat} : BkAt (H.push ⟨bkV b, .rw, e⟩) H.size b := ⟨e, by rw [qm, if_pos rfl]⟩
theorem qaA {α : Type} {s : Sl} {z : Nat} {f : α → List Value} {l : List α} (h : qlA H s z f l) (hp : 0 < l.length) :
  ∃ b o, s.a = some ⟨b, o, none⟩ ∧ b < H.size ∧ ∀ i x, l[i]? = some x → AH.row? H (qlg ⟨b, o, none⟩ (i * z)) z = some (f x) ∧ ∀ j v, (f x)[j]? = some v → AH.cell? H (qlg (qlg ⟨b, o, none⟩ (i * z)) j) = some v := by
 obtain ⟨b, o, h1, h2, _⟩ := h.at hp
 refine ⟨b, o, h1, h2, fun i x hx => ?_⟩
 obtain ⟨a, e1, e2, e3, e4⟩ := h.2 i x hx
 rw [h1] at e1
 injection e1 with e1
 subst e1
 rw [qj]
 refine ⟨e4, fun j v hv => ?_⟩
 rw [qj]
 exact (AH.row?_cell e4).2.2.2.2 j v hv
theorem qcj {cs vs : List Value} {e n : Nat} {K : Nat → AH → Prop} (hc : cs.length = n) (hv : vs.length = n) (ho : vs.all qp = true)
  (hK : K H.size (H.push ⟨vs, .rw, e⟩)) : newC H ⟨cs, .rw, e⟩ fun o H1 => (vs.length = n ∧ vs.all qp = true) ∧ stC H1 ⟨o, 0, none⟩ vs fun Hs => K o Hs := by
 rw [qr]
 refine ⟨⟨hv, ho⟩, ?_⟩
 rw [qbL]
 have e1 : AH.put (H.push ⟨cs, .rw, e⟩) ⟨H.size, 0, none⟩ vs = H.push ⟨vs, .rw, e⟩ := by
  rw [qdc]
  congr 2
  apply qlF
  intro t
  rw [qbR _ _ _ _ (by omega)]
  by_cases ht : t < vs.length
  ·rw [if_pos (by omega)]; rfl
  ·rw [if_neg (by omega), qll (by omega), qll (by omega)]
 rw [e1]
 exact ⟨qcq.2 (by omega), hK⟩
end
def chainB (words : Int) : Int → Bool → List Bk → Prop
 | pt, _, [] => pt = words
 | pt, pu, b :: r => b.1 = pt ∧ mayS b.2.1 ∧ b.2.1 ≤ words - pt ∧ (pu = true ∨ b.2.2 = true) ∧ chainB words (pt + b.2.1) b.2.2 r
instance chainB.dec {words : Int} : ∀ (l : List Bk) (pt : Int) (pu : Bool), Decidable (chainB words pt pu l)
 | [], pt, pu => by unfold chainB; infer_instance
 | b :: r, pt, pu => by
  unfold chainB
  have := chainB.dec (words := words) r (pt + b.2.1) b.2.2
  infer_instance
def MayB (l : List Bk) (words : Int) : Prop := mayW words ∧ chainB words 0 true l
instance {l : List Bk} {words : Int} : Decidable (MayB l words) := by unfold MayB; infer_instance
def puAt (l : List Bk) : Nat → Bool
 | 0 => true
 | i + 1 => (l.getD i (0, 0, false)).2.2
theorem qc6 {α : Type} {l : List α} {i : Nat} (hi : i < l.length) : l.drop i = l[i] :: l.drop (i + 1) := by
 rw [List.drop_eq_getElem_cons hi]
section
variable {H : AH}
def blkFrom (ws : List Int) (pt : Nat) : Option (List Bk) :=
 if h : pt < ws.length then
  if h2 : mayS (ws.getD pt 0 / 2) then (blkFrom ws (pt + (ws.getD pt 0 / 2).toNat)).map (((pt : Int), ws.getD pt 0 / 2, (ws.getD pt 0 % 2 == 1)) :: ·) else none
 else some []
termination_by ws.length - pt
decreasing_by unfold mayS at h2; omega
theorem qdv (ws : List Int) (pt : Nat) : blkFrom ws pt = if h : pt < ws.length then
  if h2 : mayS (ws.getD pt 0 / 2) then (blkFrom ws (pt + (ws.getD pt 0 / 2).toNat)).map (((pt : Int), ws.getD pt 0 / 2, (ws.getD pt 0 % 2 == 1)) :: ·) else none
 else some [] := by rw [blkFrom]
def blocksN (ws : List Int) : Option (List Bk) := (blkFrom ws 0).bind fun l => if MayB l ws.length then some l else none
theorem qbp {ws : List Int} {l : List Bk} (h : blocksN ws = some l) : MayB l ws.length := by
 unfold blocksN at h
 rw [Option.bind_eq_some_iff] at h
 obtain ⟨l', _, h2⟩ := h
 split at h2
 ·injection h2 with h2; subst h2; assumption
 ·cases h2
theorem chainB.le {words : Int} : ∀ {l : List Bk} {pt : Int} {pu : Bool}, chainB words pt pu l → pt + 2 * l.length ≤ words := by
 intro l
 induction l with
 | nil => intro pt pu h; simp only [chainB] at h; simp; omega
 | cons b r ih =>
  intro pt pu h
  have := ih h.2.2.2.2
  have := h.2.1
  unfold mayS at this
  simp only [qlw]; omega
theorem chainB.mem {words : Int} : ∀ {l : List Bk} {pt : Int} {pu : Bool}, chainB words pt pu l → ∀ b ∈ l, pt ≤ b.1 ∧ b.1 + b.2.1 ≤ words ∧ mayS b.2.1 := by
 intro l
 induction l with
 | nil => intro pt pu h b hb; cases hb
 | cons a r ih =>
  intro pt pu h b hb
  have hs := h.2.1
  unfold mayS at hs
  rw [List.mem_cons] at hb
  rcases hb with rfl | hb
  ·have := h.2.2.1; have := h.1; exact ⟨by omega, by omega, h.2.1⟩
  ·have := ih h.2.2.2.2 b hb; exact ⟨by omega, this.2⟩
theorem MayB.len {l : List Bk} {words : Int} (h : MayB l words) : 2 * (l.length : Int) ≤ words ∧ words ≤ 512 := by
 have := h.2.le; have := h.1.2.1; omega
theorem MayB.mem {l : List Bk} {words : Int} (h : MayB l words) {b : Bk} (hb : b ∈ l) : 0 ≤ b.1 ∧ b.1 + b.2.1 ≤ words ∧ 2 ≤ b.2.1 ∧ b.2.1 ≤ 512 := by
 have := h.2.mem b hb; have h2 := this.2.2; unfold mayS at h2; omega
end
def nV (i : Nat) : List Value := [.int .i64 (i : Int)]
def bkAt (l : List Bk) (i : Nat) : Bk := l.getD i (0, 0, false)
def fitStep (l : List Bk) (need : Int) (out : List Nat) (i : Nat) : List Nat :=
 if (bkAt l i).2.2 = true ∨ (bkAt l i).2.1 < need then out else
 let out1 := if 0 < out.length ∧ (bkAt l (out.getD 0 0)).2.1 > (bkAt l i).2.1 then [] else out
 if out1.length = 0 ∨ (bkAt l (out1.getD 0 0)).2.1 = (bkAt l i).2.1 then out1 ++ [i] else out1
def fitsTo (l : List Bk) (need : Int) (j : Nat) : List Nat := (ql4 j).foldl (fitStep l need) []
def fitsL (l : List Bk) (need : Int) : List Nat := if need < 2 then [] else fitsTo l need l.length
theorem qes (l : List Bk) (need : Int) (j : Nat) : fitsTo l need (j + 1) = fitStep l need (fitsTo l need j) j := by
 unfold fitsTo; rw [qmt, List.foldl_append]; rfl
theorem qik {l : List Bk} {need : Int} {out : List Nat} {i j : Nat} (h : j ∈ fitStep l need out i) : j ∈ out ∨ (j = i ∧ (bkAt l i).2.2 = false ∧ need ≤ (bkAt l i).2.1) := by
 unfold fitStep at h
 split at h
 ·exact .inl h
 ·rename_i h1
  simp only at h
  have h3 : (bkAt l i).2.2 = false ∧ need ≤ (bkAt l i).2.1 := by
   constructor
   ·cases hh : (bkAt l i).2.2
    ·rfl
    ·exact absurd (.inl hh) h1
   ·exact Int.not_lt.1 fun hh => h1 (.inr hh)
  have hsub : ∀ x, x ∈ (if 0 < out.length ∧ (bkAt l (out.getD 0 0)).2.1 > (bkAt l i).2.1 then [] else out) → x ∈ out := by
   intro x hx
   split at hx
   ·cases hx
   ·exact hx
  generalize (if 0 < out.length ∧ (bkAt l (out.getD 0 0)).2.1 > (bkAt l i).2.1 then [] else out) = o1 at h hsub
  split at h
  ·rw [List.mem_append] at h
   rcases h with h | h
   ·exact .inl (hsub _ h)
   ·simp at h; exact .inr ⟨h, h3⟩
  ·exact .inl (hsub _ h)
theorem qdn {l : List Bk} {need : Int} : ∀ {j i : Nat}, i ∈ fitsTo l need j → i < j ∧ (bkAt l i).2.2 = false ∧ need ≤ (bkAt l i).2.1 := by
 intro j
 induction j with
 | zero => intro i h; cases h
 | succ j ih =>
  intro i h
  rw [qes] at h
  rcases qik h with h | ⟨rfl, h⟩
  ·have := ih h; exact ⟨by omega, this.2⟩
  ·exact ⟨by omega, h⟩
theorem qeF {l : List Bk} {need : Int} : ∀ {j : Nat}, (fitsTo l need j).length ≤ j := by
 intro j
 induction j with
 | zero => exact qln _
 | succ j ih =>
  rw [qes]
  unfold fitStep
  split
  ·omega
  ·simp only
   have hx : (if 0 < (fitsTo l need j).length ∧ (bkAt l ((fitsTo l need j).getD 0 0)).2.1 > (bkAt l j).2.1 then [] else fitsTo l need j).length ≤ j := by
    split
    ·exact Nat.zero_le _
    ·exact ih
   generalize (if 0 < (fitsTo l need j).length ∧ (bkAt l ((fitsTo l need j).getD 0 0)).2.1 > (bkAt l j).2.1 then [] else fitsTo l need j) = o1 at *
   split
   ·rw [List.length_append]; simp only [qlw, List.length_nil]; omega
   ·omega
theorem qaP {l : List Bk} {i : Nat} (hi : i < l.length) : l[i]? = some (bkAt l i) := by
 unfold bkAt; rw [qlh, qle hi]; rfl
def countN (pt : Int) (cs : List Int) : Int := if pt < 0 ∨ (cs.length : Int) ≤ pt / 32 then 0 else cs.getD (pt / 32).toNat 0
def chStep (l : List Bk) (cs : List Int) (best : Int) (i : Nat) : Int :=
 if best < 0 ∨ countN (bkAt l i).1 cs < countN (bkAt l best.toNat).1 cs ∨ (countN (bkAt l i).1 cs = countN (bkAt l best.toNat).1 cs ∧ (bkAt l i).1 < (bkAt l best.toNat).1) then (i : Int) else best
def chooseN (l : List Bk) (need : Int) (cs : List Int) : Int := (fitsL l need).foldl (chStep l cs) (-1)
theorem qeL {l : List Bk} {cs : List Int} : ∀ {f : List Nat} {b : Int}, f.foldl (chStep l cs) b = b ∨ ∃ i ∈ f, f.foldl (chStep l cs) b = (i : Int) := by
 intro f
 induction f with
 | nil => intro b; exact .inl rfl
 | cons a r ih =>
  intro b
  simp only [List.foldl_cons]
  rcases ih (b := chStep l cs b a) with h | ⟨i, hi, h⟩
  ·rw [h]
   unfold chStep
   split
   ·exact .inr ⟨a, by simp, rfl⟩
   ·exact .inl rfl
  ·exact .inr ⟨i, by simp [hi], h⟩
theorem qeo {l : List Bk} {need : Int} {cs : List Int} : chooseN l need cs = -1 ∨ ∃ i : Nat, chooseN l need cs = (i : Int) ∧ i < l.length ∧ (bkAt l i).2.2 = false ∧ need ≤ (bkAt l i).2.1 ∧ 2 ≤ need := by
 unfold chooseN
 rcases qeL (l := l) (cs := cs) (f := fitsL l need) (b := -1) with h | ⟨i, hi, h⟩
 ·exact .inl h
 ·unfold fitsL at hi
  split at hi
  ·cases hi
  ·obtain ⟨h1, h2, h3⟩ := qdn hi
   exact .inr ⟨i, h, h1, h2, h3, by omega⟩
def isN (off : Int) : List Bk → Nat → Int
 | [], _ => -1
 | b :: r, i => if b.2.2 = true ∧ offN b.1 = off then (i : Int) else isN off r (i + 1)
theorem qdP (off : Int) : ∀ (l : List Bk) (i : Nat), isN off l i = -1 ∨ ∃ j : Nat, isN off l i = ((i + j : Nat) : Int) ∧ j < l.length ∧ (bkAt l j).2.2 = true ∧ offN (bkAt l j).1 = off := by
 intro l
 induction l with
 | nil => intro i; exact .inl rfl
 | cons b r ih =>
  intro i
  unfold isN
  split
  ·rename_i h; exact .inr ⟨0, rfl, by simp, h.1, h.2⟩
  ·rcases ih (i + 1) with h | ⟨j, h1, h2, h3⟩
   ·exact .inl h
   ·exact .inr ⟨j + 1, by rw [h1]; congr 1; omega, by simpa using h2, h3⟩
def inB (off n : Int) (b : Bk) : Prop := b.2.2 = true ∧ offN b.1 ≤ off ∧ off ≤ (b.1 + b.2.1) * 8 ∧ n ≤ (b.1 + b.2.1) * 8 - off
def withinN (l : List Bk) (off n : Int) : Prop := 0 ≤ n ∧ n ≤ 448 ∧ ∃ b ∈ l, inB off n b
end Go.Proofs.YtdcbkjgoaknmkaaGreat
