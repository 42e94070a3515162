/- Lemmas for the law: an abstract machine, and what the functions do on it. No condition. -/
import Derived.Test.YtemeclnpdpkfdaaGreatET7
import Derived.Test.YtemeclnpdpkfdaaGreatProg
set_option linter.all false
open Go.Value renaming int → qkL, pointer → qkU, bool → qln, slice → qlo, agg → qlZ
open Go.IntKind renaming wrap → qkM, bits → qlO
open Go.Addr renaming add → qkN
open List renaming getElem?_eq_getElem → qkO, getD_eq_getElem?_getD → qkP, getElem?_eq_none → qkT, getElem?_eq_some_iff → qkW, length → qk0, getElem_mem → qk1, length_cons → qk3, ext_getElem? → qlc, getElem?_set_ne → qlg, length_eq_zero_iff → qlp, all → qlq, toArray → qlr, getElem?_set_self → qlv, flatMap_cons → qlz, getElem?_take → qlD, getElem?_drop → qlE, take_length → qlH, map_cons → qlN, range_succ → qlQ
open Int renaming toNat_natCast → qkQ, toNat → qkS, eq_ofNat_of_zero_le → qk9, tdiv_eq_ediv_of_nonneg → qlk, tdiv → qlF, tmod → qlK, tmod_eq_emod_of_nonneg → ql0
open Nat renaming le_refl → qkV, zero_add → qk6, lt_of_lt_of_le → qlY
open Bool renaming false_eq_true → qkX, not_eq_true' → ql9
open Option renaming isSome_none → qk4, getD_some → qll, isNone → qlA, toList_some → qlX
open Go.Abs renaming Rows → qk7
open BitVec renaming ofInt → qlC
namespace Go.Proofs.YtemeclnpdpkfdaaGreat
open Go Go.Abs
set_option linter.unusedVariables false
set_option maxRecDepth 100000
def tyL : List (Nat × TyE) := [
 (3, { k := .int .i64, sub := .none, size := 1, bytes := 8, zero := [(qkL .i64 (0 : Int))], eqs := false }),
 (4, { k := .bool, sub := .none, size := 1, bytes := 1, zero := [(qln false)], eqs := false }),
 (5, { k := .int .u8, sub := .none, size := 1, bytes := 1, zero := [(qkL .u8 (0 : Int))], eqs := false }),
 (9, { k := .str, sub := .none, size := 1, bytes := 16, zero := [(Value.string ⟨#[]⟩)], eqs := false }),
 (23, { k := .agg, sub := (.fields [(0, 3), (1, 3), (2, 3), (3, 3)]), size := 4, bytes := 32, zero := [(qkL .i64 (0 : Int)), (qkL .i64 (0 : Int)), (qkL .i64 (0 : Int)), (qkL .i64 (0 : Int))], eqs := true }),
 (24, { k := .sl, sub := (.elem 35), size := 1, bytes := 24, zero := [(qlo none 0 0)], eqs := false }),
 (28, { k := .int .u64, sub := .none, size := 1, bytes := 8, zero := [(qkL .u64 (0 : Int))], eqs := false }),
 (29, { k := .ptr, sub := (.elem 90), size := 1, bytes := 8, zero := [(qkU none)], eqs := false }),
 (30, { k := .ptr, sub := (.elem 132), size := 1, bytes := 8, zero := [(qkU none)], eqs := false }),
 (33, { k := .sl, sub := (.elem 5), size := 1, bytes := 24, zero := [(qlo none 0 0)], eqs := false }),
 (35, { k := .agg, sub := (.fields [(0, 3), (1, 3), (2, 3), (3, 3), (4, 33)]), size := 5, bytes := 56, zero := [(qkL .i64 (0 : Int)), (qkL .i64 (0 : Int)), (qkL .i64 (0 : Int)), (qkL .i64 (0 : Int)), (qlo none 0 0)], eqs := false }),
 (37, { k := .int .i64, sub := .none, size := 1, bytes := 8, zero := [(qkL .i64 (0 : Int))], eqs := false }),
 (39, { k := .agg, sub := (.fields [(0, 37), (1, 3), (2, 33)]), size := 3, bytes := 40, zero := [(qkL .i64 (0 : Int)), (qkL .i64 (0 : Int)), (qlo none 0 0)], eqs := false }),
 (41, { k := .sl, sub := (.elem 28), size := 1, bytes := 24, zero := [(qlo none 0 0)], eqs := false }),
 (47, { k := .sl, sub := (.elem 3), size := 1, bytes := 24, zero := [(qlo none 0 0)], eqs := false }),
 (49, { k := .sl, sub := (.elem 109), size := 1, bytes := 24, zero := [(qlo none 0 0)], eqs := false }),
 (57, { k := .ptr, sub := (.elem 70), size := 1, bytes := 8, zero := [(qkU none)], eqs := false }),
 (70, { k := .agg, sub := (.fields [(0, 41), (1, 3)]), size := 2, bytes := 32, zero := [(qlo none 0 0), (qkL .i64 (0 : Int))], eqs := false }),
 (86, { k := .ptr, sub := (.elem 168), size := 1, bytes := 8, zero := [(qkU none)], eqs := false }),
 (87, { k := .ptr, sub := (.elem 141), size := 1, bytes := 8, zero := [(qkU none)], eqs := false }),
 (88, { k := .ptr, sub := (.elem 150), size := 1, bytes := 8, zero := [(qkU none)], eqs := false }),
 (90, { k := .agg, sub := (.fields [(0, 30), (1, 23), (5, 86), (6, 87), (7, 88), (8, 4)]), size := 9, bytes := 72, zero := [(qkU none), (qkL .i64 (0 : Int)), (qkL .i64 (0 : Int)), (qkL .i64 (0 : Int)), (qkL .i64 (0 : Int)), (qkU none), (qkU none), (qkU none), (qln false)], eqs := false }),
 (92, { k := .agg, sub := (.arr 8 28), size := 8, bytes := 64, zero := [(qkL .u64 (0 : Int)), (qkL .u64 (0 : Int)), (qkL .u64 (0 : Int)), (qkL .u64 (0 : Int)), (qkL .u64 (0 : Int)), (qkL .u64 (0 : Int)), (qkL .u64 (0 : Int)), (qkL .u64 (0 : Int))], eqs := true }),
 (96, { k := .sl, sub := (.elem 103), size := 1, bytes := 24, zero := [(qlo none 0 0)], eqs := false }),
 (103, { k := .agg, sub := (.fields [(0, 3), (1, 3), (2, 4)]), size := 3, bytes := 24, zero := [(qkL .i64 (0 : Int)), (qkL .i64 (0 : Int)), (qln false)], eqs := true }),
 (109, { k := .agg, sub := (.fields [(0, 3), (1, 28)]), size := 2, bytes := 16, zero := [(qkL .i64 (0 : Int)), (qkL .u64 (0 : Int))], eqs := true }),
 (129, { k := .sl, sub := (.elem 134), size := 1, bytes := 24, zero := [(qlo none 0 0)], eqs := false }),
 (130, { k := .agg, sub := (.arr 35 28), size := 35, bytes := 280, zero := [(qkL .u64 (0 : Int)), (qkL .u64 (0 : Int)), (qkL .u64 (0 : Int)), (qkL .u64 (0 : Int)), (qkL .u64 (0 : Int)), (qkL .u64 (0 : Int)), (qkL .u64 (0 : Int)), (qkL .u64 (0 : Int)), (qkL .u64 (0 : Int)), (qkL .u64 (0 : Int)), (qkL .u64 (0 : Int)), (qkL .u64 (0 : Int)), (qkL .u64 (0 : Int)), (qkL .u64 (0 : Int)), (qkL .u64 (0 : Int)), (qkL .u64 (0 : Int)), (qkL .u64 (0 : Int)), (qkL .u64 (0 : Int)), (qkL .u64 (0 : Int)), (qkL .u64 (0 : Int)), (qkL .u64 (0 : Int)), (qkL .u64 (0 : Int)), (qkL .u64 (0 : Int)), (qkL .u64 (0 : Int)), (qkL .u64 (0 : Int)), (qkL .u64 (0 : Int)), (qkL .u64 (0 : Int)), (qkL .u64 (0 : Int)), (qkL .u64 (0 : Int)), (qkL .u64 (0 : Int)), (qkL .u64 (0 : Int)), (qkL .u64 (0 : Int)), (qkL .u64 (0 : Int)), (qkL .u64 (0 : Int)), (qkL .u64 (0 : Int))], eqs := true }),
 (132, { k := .agg, sub := (.fields [(0, 129), (1, 130), (36, 3), (37, 3), (38, 3), (39, 4)]), size := 40, bytes := 336, zero := [(qlo none 0 0), (qkL .u64 (0 : Int)), (qkL .u64 (0 : Int)), (qkL .u64 (0 : Int)), (qkL .u64 (0 : Int)), (qkL .u64 (0 : Int)), (qkL .u64 (0 : Int)), (qkL .u64 (0 : Int)), (qkL .u64 (0 : Int)), (qkL .u64 (0 : Int)), (qkL .u64 (0 : Int)), (qkL .u64 (0 : Int)), (qkL .u64 (0 : Int)), (qkL .u64 (0 : Int)), (qkL .u64 (0 : Int)), (qkL .u64 (0 : Int)), (qkL .u64 (0 : Int)), (qkL .u64 (0 : Int)), (qkL .u64 (0 : Int)), (qkL .u64 (0 : Int)), (qkL .u64 (0 : Int)), (qkL .u64 (0 : Int)), (qkL .u64 (0 : Int)), (qkL .u64 (0 : Int)), (qkL .u64 (0 : Int)), (qkL .u64 (0 : Int)), (qkL .u64 (0 : Int)), (qkL .u64 (0 : Int)), (qkL .u64 (0 : Int)), (qkL .u64 (0 : Int)), (qkL .u64 (0 : Int)), (qkL .u64 (0 : Int)), (qkL .u64 (0 : Int)), (qkL .u64 (0 : Int)), (qkL .u64 (0 : Int)), (qkL .u64 (0 : Int)), (qkL .i64 (0 : Int)), (qkL .i64 (0 : Int)), (qkL .i64 (0 : Int)), (qln false)], eqs := false }),
 (134, { k := .agg, sub := (.fields [(0, 92), (8, 3), (9, 3)]), size := 10, bytes := 80, zero := [(qkL .u64 (0 : Int)), (qkL .u64 (0 : Int)), (qkL .u64 (0 : Int)), (qkL .u64 (0 : Int)), (qkL .u64 (0 : Int)), (qkL .u64 (0 : Int)), (qkL .u64 (0 : Int)), (qkL .u64 (0 : Int)), (qkL .i64 (0 : Int)), (qkL .i64 (0 : Int))], eqs := false }),
 (141, { k := .agg, sub := (.fields [(0, 30), (1, 86)]), size := 2, bytes := 16, zero := [(qkU none), (qkU none)], eqs := false }),
 (142, { k := .sl, sub := (.elem 147), size := 1, bytes := 24, zero := [(qlo none 0 0)], eqs := false }),
 (147, { k := .agg, sub := (.fields [(0, 3), (1, 92)]), size := 9, bytes := 72, zero := [(qkL .i64 (0 : Int)), (qkL .u64 (0 : Int)), (qkL .u64 (0 : Int)), (qkL .u64 (0 : Int)), (qkL .u64 (0 : Int)), (qkL .u64 (0 : Int)), (qkL .u64 (0 : Int)), (qkL .u64 (0 : Int)), (qkL .u64 (0 : Int))], eqs := false }),
 (150, { k := .agg, sub := (.fields [(0, 3), (1, 47), (2, 47)]), size := 3, bytes := 56, zero := [(qkL .i64 (0 : Int)), (qlo none 0 0), (qlo none 0 0)], eqs := false }),
 (159, { k := .int .u64, sub := .none, size := 1, bytes := 8, zero := [(qkL .u64 (0 : Int))], eqs := false }),
 (166, { k := .ptr, sub := (.elem 184), size := 1, bytes := 8, zero := [(qkU none)], eqs := false }),
 (168, { k := .agg, sub := (.fields [(0, 30), (1, 166), (2, 3), (3, 3), (4, 3)]), size := 5, bytes := 40, zero := [(qkU none), (qkU none), (qkL .i64 (0 : Int)), (qkL .i64 (0 : Int)), (qkL .i64 (0 : Int))], eqs := false }),
 (180, { k := .any, sub := .none, size := 1, bytes := 8, zero := [Value.nilFunc], eqs := false }),
 (184, { k := .agg, sub := (.fields [(0, 30), (1, 3), (2, 3)]), size := 3, bytes := 24, zero := [(qkU none), (qkL .i64 (0 : Int)), (qkL .i64 (0 : Int))], eqs := false }),
 (193, { k := .sl, sub := (.elem 92), size := 1, bytes := 24, zero := [(qlo none 0 0)], eqs := false }),
 (0, { k := .bad, sub := .tup [], size := 0, bytes := 0, zero := [], eqs := false }),
 (31, { k := .bad, sub := .tup [29, 30], size := 0, bytes := 0, zero := [], eqs := false }),
 (42, { k := .bad, sub := .tup [41, 37], size := 0, bytes := 0, zero := [], eqs := false }),
 (50, { k := .bad, sub := .tup [49, 3, 37], size := 0, bytes := 0, zero := [], eqs := false }),
 (52, { k := .bad, sub := .tup [49, 37], size := 0, bytes := 0, zero := [], eqs := false }),
 (60, { k := .bad, sub := .tup [29, 37], size := 0, bytes := 0, zero := [], eqs := false }),
 (93, { k := .bad, sub := .tup [92, 37], size := 0, bytes := 0, zero := [], eqs := false }),
 (97, { k := .bad, sub := .tup [96, 4], size := 0, bytes := 0, zero := [], eqs := false }),
 (104, { k := .bad, sub := .tup [96, 3, 4], size := 0, bytes := 0, zero := [], eqs := false }),
 (111, { k := .bad, sub := .tup [49, 4], size := 0, bytes := 0, zero := [], eqs := false }),
 (116, { k := .bad, sub := .tup [33, 37], size := 0, bytes := 0, zero := [], eqs := false }),
 (121, { k := .bad, sub := .tup [28, 37], size := 0, bytes := 0, zero := [], eqs := false }),
 (143, { k := .bad, sub := .tup [142, 37], size := 0, bytes := 0, zero := [], eqs := false }),
 (151, { k := .bad, sub := .tup [3, 4, 4], size := 0, bytes := 0, zero := [], eqs := false }),
 (164, { k := .bad, sub := .tup [96, 3], size := 0, bytes := 0, zero := [], eqs := false }),
 (170, { k := .bad, sub := .tup [3, 4], size := 0, bytes := 0, zero := [], eqs := false }),
 (172, { k := .bad, sub := .tup [109, 4], size := 0, bytes := 0, zero := [], eqs := false }),
 (175, { k := .bad, sub := .tup [33, 4], size := 0, bytes := 0, zero := [], eqs := false }),
 (181, { k := .bad, sub := .tup [3, 41, 37], size := 0, bytes := 0, zero := [], eqs := false }),
 (185, { k := .bad, sub := .tup [3, 3], size := 0, bytes := 0, zero := [], eqs := false }),
 (194, { k := .bad, sub := .tup [3, 3, 4], size := 0, bytes := 0, zero := [], eqs := false })]
def T : Nat → TyE := tyLook tyL
theorem hT : qaa Tryz.prog T := qjU (by kernel_rfl)
theorem hm : Tryz.prog.follows .mixedOrders = true := by kernel_rfl
def pan (f : Nat) : Bool := ([48, 49, 50, 51, 52, 53, 54, 96, 98, 100, 101] : List Nat).contains f
def log_May (x0 : Int) (x1 : Sl) (H : AH) (k : Bool → AH → Prop) : Prop :=
 qh Tryz.prog 107 [(qkL .i64 x0), (Sl.val x1)] H fun e H' => in1 .bool e qn (fun r0 => k r0 H')
def qv (x0 : Option Addr) (x1 : List Value) (H : AH) (k : List Value → AH → Prop) : Prop :=
 qh Tryz.prog 17 [(qkU x0), (qlZ (qlr x1))] H fun e H' => in1 .agg e qn (fun r0 => k r0 H')
def qcr (x0 : Sl) (H : AH) (k : AH → Prop) : Prop :=
 qh Tryz.prog 166 [(Sl.val x0)] H fun e H' => in0  e qn (k H')
def qb5 (x0 : Sl) (H : AH) (k : Sl → AH → Prop) : Prop :=
 qh Tryz.prog 167 [(Sl.val x0)] H fun e H' => in1 .sl e qn (fun r0 => k r0 H')
def qt (x0 : Sl) (x1b0 : Option Addr) (x1b1 : Option Addr) (H : AH) (k : Int → AH → Prop) : Prop :=
 qh Tryz.prog 149 [(Sl.val x0), (Value.func (.func 183) #[] #[(qkU x1b0), (qkU x1b1)])] H fun e H' => in1 (.int .i64) e qn (fun r0 => k r0 H')
def qS (x0 : Sl) (x1b0 : Option Addr) (x1b1 : Option Addr) (H : AH) (k : Bool → AH → Prop) : Prop :=
 qh Tryz.prog 182 [(Sl.val x0), (Value.func (.func 183) #[] #[(qkU x1b0), (qkU x1b1)])] H fun e H' => in1 .bool e qn (fun r0 => k r0 H')
def qB (x0 : Sl) (x1b0 : Option Addr) (H : AH) (k : Int → AH → Prop) : Prop :=
 qh Tryz.prog 149 [(Sl.val x0), (Value.func (.func 150) #[] #[(qkU x1b0)])] H fun e H' => in1 (.int .i64) e qn (fun r0 => k r0 H')
def qA (x0 : Sl) (x1 : Sl) (H : AH) (k : Int → AH → Prop) : Prop :=
 qh Tryz.prog 12 [(Sl.val x0), (Sl.val x1)] H fun e H' => in1 (.int .i64) e qn (fun r0 => k r0 H')
def qbm (x0 : List Value) (H : AH) (k : Bool → AH → Prop) : Prop :=
 qh Tryz.prog 88 [(qlZ (qlr x0))] H fun e H' => in1 .bool e qn (fun r0 => k r0 H')
def qby (x0 : List Value) (H : AH) (k : Int → AH → Prop) : Prop :=
 qh Tryz.prog 89 [(qlZ (qlr x0))] H fun e H' => in1 (.int .i64) e qn (fun r0 => k r0 H')
def qbp (x0 : List Value) (H : AH) (k : Int → AH → Prop) : Prop :=
 qh Tryz.prog 32 [(qlZ (qlr x0))] H fun e H' => in1 (.int .i64) e qn (fun r0 => k r0 H')
def nvm_New (x0 : Int) (x1 : Sl) (H : AH) (k : Option Addr → AH → Prop) : Prop :=
 qh Tryz.prog 31 [(qkL .i64 x0), (Sl.val x1)] H fun e H' => in1 .ptr e qn (fun r0 => k r0 H')
def qai (x0 : Option Addr) (H : AH) (k : Int → AH → Prop) : Prop :=
 qh Tryz.prog 119 [(qkU x0)] H fun e H' => in1 (.int .i64) e qn (fun r0 => k r0 H')
def qar (x0 : Option Addr) (H : AH) (k : Bool → AH → Prop) : Prop :=
 qh Tryz.prog 120 [(qkU x0)] H fun e H' => in1 .bool e qn (fun r0 => k r0 H')
def qbH (x0 : Option Addr) (x1 : List Value) (H : AH) (k : Int → AH → Prop) : Prop :=
 qh Tryz.prog 72 [(qkU x0), (qlZ (qlr x1))] H fun e H' => in1 (.int .i64) e qn (fun r0 => k r0 H')
def qaO (x0 : Option Addr) (x1 : Int) (H : AH) (k : Bool → AH → Prop) : Prop :=
 qh Tryz.prog 90 [(qkU x0), (qkL .i64 x1)] H fun e H' => in1 .bool e qn (fun r0 => k r0 H')
def qN (x0 : Option Addr) (x1 : Int) (H : AH) (k : Int → Int → AH → Prop) : Prop :=
 qh Tryz.prog 76 [(qkU x0), (qkL .i64 x1)] H fun e H' => in2 (.int .u64) (.int .i64) e qn (fun r0 r1 => k r0 r1 H')
def qO (x0 : Option Addr) (H : AH) (k : Sl → Int → AH → Prop) : Prop :=
 qh Tryz.prog 160 [(qkU x0)] H fun e H' => in2 .sl (.int .i64) e qn (fun r0 r1 => k r0 r1 H')
def qb3 (x0 : Int) (H : AH) (k : Int → AH → Prop) : Prop :=
 qh Tryz.prog 159 [(qkL .i64 x0)] H fun e H' => in1 (.int .u64) e qn (fun r0 => k r0 H')
def qa0 (x0 : Sl) (x1 : Int) (H : AH) (k : Bool → AH → Prop) : Prop :=
 qh Tryz.prog 174 [(Sl.val x0), (qkL .i64 x1)] H fun e H' => in1 .bool e qn (fun r0 => k r0 H')
def qaW (x0 : Option Addr) (x1 : Int) (x2 : Int) (H : AH) (k : Option Addr → AH → Prop) : Prop :=
 qh Tryz.prog 147 [(qkU x0), (qkL .i64 x1), (qkL .i64 x2)] H fun e H' => in1 .ptr e qn (fun r0 => k r0 H')
def qbb (x0 : Option Addr) (x1 : Int) (x2 : Int) (x3 : Int) (H : AH) (k : Option Addr → AH → Prop) : Prop :=
 qh Tryz.prog 121 [(qkU x0), (qkL .i64 x1), (qkL .i64 x2), (qkL .i64 x3)] H fun e H' => in1 .ptr e qn (fun r0 => k r0 H')
def qbJ (x0 : Option Addr) (x1 : List Value) (H : AH) (k : Option Addr → AH → Prop) : Prop :=
 qh Tryz.prog 73 [(qkU x0), (qlZ (qlr x1))] H fun e H' => in1 .ptr e qn (fun r0 => k r0 H')
def qcm (x0 : List Value) (H : AH) (k : Int → AH → Prop) : Prop :=
 qh Tryz.prog 84 [(qlZ (qlr x0))] H fun e H' => in1 (.int .i64) e qn (fun r0 => k r0 H')
def qbd (x0 : Int) (H : AH) (k : Bool → AH → Prop) : Prop :=
 qh Tryz.prog 126 [(qkL .i64 x0)] H fun e H' => in1 .bool e qn (fun r0 => k r0 H')
def qbk (x0 : Int) (H : AH) (k : Bool → AH → Prop) : Prop :=
 qh Tryz.prog 148 [(qkL .i64 x0)] H fun e H' => in1 .bool e qn (fun r0 => k r0 H')
def qbM (x0 : Int) (x1 : Bool) (H : AH) (k : Int → AH → Prop) : Prop :=
 qh Tryz.prog 127 [(qkL .i64 x0), (qln x1)] H fun e H' => in1 (.int .u64) e qn (fun r0 => k r0 H')
def qca (x0 : Int) (H : AH) (k : Sl → AH → Prop) : Prop :=
 qh Tryz.prog 83 [(qkL .i64 x0)] H fun e H' => in1 .sl e qn (fun r0 => k r0 H')
def qbt (x0 : List Value) (x1 : Int) (H : AH) (k : Int → AH → Prop) : Prop :=
 qh Tryz.prog 56 [(qlZ (qlr x0)), (qkL .i64 x1)] H fun e H' => in1 (.int .i64) e qn (fun r0 => k r0 H')
def qa6 (x0 : Option Addr) (x1 : Int) (H : AH) (k : Int → AH → Prop) : Prop :=
 qh Tryz.prog 128 [(qkU x0), (qkL .i64 x1)] H fun e H' => in1 (.int .i64) e qn (fun r0 => k r0 H')
def qbo (x0 : Option Addr) (H : AH) (k : Int → AH → Prop) : Prop :=
 qh Tryz.prog 82 [(qkU x0)] H fun e H' => in1 (.int .i64) e qn (fun r0 => k r0 H')
def gap_may (x0 : Int) (x1 : Int) (H : AH) (k : Bool → AH → Prop) : Prop :=
 qh Tryz.prog 153 [(qkL .i64 x0), (qkL .i64 x1)] H fun e H' => in1 .bool e qn (fun r0 => k r0 H')
def qcl (x0 : Int) (x1 : Int) (H : AH) (k : Int → AH → Prop) : Prop :=
 qh Tryz.prog 154 [(qkL .i64 x0), (qkL .i64 x1)] H fun e H' => in1 (.int .i64) e qn (fun r0 => k r0 H')
def gap_Gap (x0 : Int) (x1 : Int) (H : AH) (k : Int → AH → Prop) : Prop :=
 qh Tryz.prog 155 [(qkL .i64 x0), (qkL .i64 x1)] H fun e H' => in1 (.int .i64) e qn (fun r0 => k r0 H')
def qbO (x0 : Int) (x1 : Int) (x2 : Int) (H : AH) (k : Int → AH → Prop) : Prop :=
 qh Tryz.prog 130 [(qkL .i64 x0), (qkL .i64 x1), (qkL .i64 x2)] H fun e H' => in1 (.int .i64) e qn (fun r0 => k r0 H')
def qaL (x0 : Sl) (x1 : Int) (x2 : Int) (H : AH) (k : Int → AH → Prop) : Prop :=
 qh Tryz.prog 175 [(Sl.val x0), (qkL .i64 x1), (qkL .i64 x2)] H fun e H' => in1 (.int .i64) e qn (fun r0 => k r0 H')
def qaw (x0 : Option Addr) (x1 : Int) (H : AH) (k : Int → Sl → Int → AH → Prop) : Prop :=
 qh Tryz.prog 151 [(qkU x0), (qkL .i64 x1)] H fun e H' => in3 (.int .i64) .sl (.int .i64) e qn (fun r0 r1 r2 => k r0 r1 r2 H')
def qbc (x0 : Option Addr) (x1 : Int) (H : AH) (k : Bool → AH → Prop) : Prop :=
 qh Tryz.prog 176 [(qkU x0), (qkL .i64 x1)] H fun e H' => in1 .bool e qn (fun r0 => k r0 H')
def qbB (x0 : Option Addr) (x1 : Int) (H : AH) (k : List Value → Int → AH → Prop) : Prop :=
 qh Tryz.prog 152 [(qkU x0), (qkL .i64 x1)] H fun e H' => in2 .agg (.int .i64) e qn (fun r0 r1 => k r0 r1 H')
def qbK (x0 : Option Addr) (x1 : Int) (H : AH) (k : List Value → Int → AH → Prop) : Prop :=
 qh Tryz.prog 129 [(qkU x0), (qkL .i64 x1)] H fun e H' => in2 .agg (.int .i64) e qn (fun r0 r1 => k r0 r1 H')
def qa4 (x0 : Option Addr) (x1 : Int) (H : AH) (k : List Value → Int → AH → Prop) : Prop :=
 qh Tryz.prog 85 [(qkU x0), (qkL .i64 x1)] H fun e H' => in2 .agg (.int .i64) e qn (fun r0 r1 => k r0 r1 H')
def qbi (x0 : Sl) (x1 : Int) (H : AH) (k : List Value → AH → Prop) : Prop :=
 qh Tryz.prog 86 [(Sl.val x0), (qkL .i64 x1)] H fun e H' => in1 .agg e qn (fun r0 => k r0 H')
def qcH (x0 : Int) (x1 : Int) (H : AH) (k : Int → Int → AH → Prop) : Prop :=
 qh Tryz.prog 156 [(qkL .i64 x0), (qkL .i64 x1)] H fun e H' => in2 (.int .i64) (.int .i64) e qn (fun r0 r1 => k r0 r1 H')
def qaV (x0 : Option Addr) (H : AH) (k : Int → AH → Prop) : Prop :=
 qh Tryz.prog 91 [(qkU x0)] H fun e H' => in1 (.int .i64) e qn (fun r0 => k r0 H')
def qbF (x0 : List Value) (x1 : List Value) (x2 : Int) (H : AH) (k : List Value → AH → Prop) : Prop :=
 qh Tryz.prog 177 [(qlZ (qlr x0)), (qlZ (qlr x1)), (qkL .i64 x2)] H fun e H' => in1 .agg e qn (fun r0 => k r0 H')
def qaM (x0 : Option Addr) (x1 : Bool) (H : AH) (k : Int → AH → Prop) : Prop :=
 qh Tryz.prog 92 [(qkU x0), (qln x1)] H fun e H' => in1 (.int .i64) e qn (fun r0 => k r0 H')
def qW (x0 : Option Addr) (x1 : Int) (x2 : List Value) (H : AH) (k : Int → AH → Prop) : Prop :=
 qh Tryz.prog 157 [(qkU x0), (qkL .i64 x1), (qlZ (qlr x2))] H fun e H' => in1 (.int .i64) e qn (fun r0 => k r0 H')
def qbv (x0 : Sl) (H : AH) (k : Int → AH → Prop) : Prop :=
 qh Tryz.prog 158 [(Sl.val x0)] H fun e H' => in1 (.int .i64) e qn (fun r0 => k r0 H')
def qI (x0 : Option Addr) (x1 : Int) (x2 : Int) (H : AH) (k : Int → AH → Prop) : Prop :=
 qh Tryz.prog 41 [(qkU x0), (qkL .i64 x1), (qkL .u64 x2)] H fun e H' => in1 (.int .i64) e qn (fun r0 => k r0 H')
def qaE (x0 : Option Addr) (x1 : Int) (x2 : List Value) (H : AH) (k : Int → AH → Prop) : Prop :=
 qh Tryz.prog 132 [(qkU x0), (qkL .i64 x1), (qlZ (qlr x2))] H fun e H' => in1 (.int .i64) e qn (fun r0 => k r0 H')
def qbD (x0 : Option Addr) (H : AH) (k : Int → AH → Prop) : Prop :=
 qh Tryz.prog 131 [(qkU x0)] H fun e H' => in1 (.int .i64) e qn (fun r0 => k r0 H')
def qaJ (x0 : Option Addr) (x1 : Int) (x2 : List Value) (H : AH) (k : Int → AH → Prop) : Prop :=
 qh Tryz.prog 87 [(qkU x0), (qkL .i64 x1), (qlZ (qlr x2))] H fun e H' => in1 (.int .i64) e qn (fun r0 => k r0 H')
def qQ (x0 : Option Addr) (x1 : List Value) (H : AH) (k : Int → AH → Prop) : Prop :=
 qh Tryz.prog 30 [(qkU x0), (qlZ (qlr x1))] H fun e H' => in1 (.int .i64) e qn (fun r0 => k r0 H')
def qaT (x0 : Option Addr) (H : AH) (k : Int → AH → Prop) : Prop :=
 qh Tryz.prog 105 [(qkU x0)] H fun e H' => in1 (.int .i64) e qn (fun r0 => k r0 H')
def log_New (x0 : Option Addr) (x1 : Option Addr) (H : AH) (k : Option Addr → AH → Prop) : Prop :=
 qh Tryz.prog 74 [(qkU x0), (qkU x1)] H fun e H' => in1 .ptr e qn (fun r0 => k r0 H')
def qcg (x0 : Int) (H : AH) (k : Int → AH → Prop) : Prop :=
 qh Tryz.prog 145 [(qkL .i64 x0)] H fun e H' => in1 (.int .i64) e qn (fun r0 => k r0 H')
def qau (x0 : Option Addr) (H : AH) (k : Sl → Int → AH → Prop) : Prop :=
 qh Tryz.prog 106 [(qkU x0)] H fun e H' => in2 .sl (.int .i64) e qn (fun r0 r1 => k r0 r1 H')
def qay (x0 : Option Addr) (x1 : Sl) (H : AH) (k : Int → AH → Prop) : Prop :=
 qh Tryz.prog 122 [(qkU x0), (Sl.val x1)] H fun e H' => in1 (.int .i64) e qn (fun r0 => k r0 H')
def qbX (x0 : Option Addr) (H : AH) (k : Int → AH → Prop) : Prop :=
 qh Tryz.prog 75 [(qkU x0)] H fun e H' => in1 (.int .i64) e qn (fun r0 => k r0 H')
def qas (x0 : Option Addr) (x1 : Int) (H : AH) (k : List Value → Int → AH → Prop) : Prop :=
 qh Tryz.prog 55 [(qkU x0), (qkL .i64 x1)] H fun e H' => in2 .agg (.int .i64) e qn (fun r0 r1 => k r0 r1 H')
def qaf (x0 : Option Addr) (H : AH) (k : Sl → Int → AH → Prop) : Prop :=
 qh Tryz.prog 18 [(qkU x0)] H fun e H' => in2 .sl (.int .i64) e qn (fun r0 r1 => k r0 r1 H')
def qbr (x0 : Int) (H : AH) (k : Int → Bool → Bool → AH → Prop) : Prop :=
 qh Tryz.prog 123 [(qkL .u64 x0)] H fun e H' => in3 (.int .i64) .bool .bool e qn (fun r0 r1 r2 => k r0 r1 r2 H')
def qah (x0 : Sl) (x1 : Int) (H : AH) (k : Bool → AH → Prop) : Prop :=
 qh Tryz.prog 124 [(Sl.val x0), (qkL .i64 x1)] H fun e H' => in1 .bool e qn (fun r0 => k r0 H')
def qX (x0 : Sl) (H : AH) (k : Sl → Bool → AH → Prop) : Prop :=
 qh Tryz.prog 77 [(Sl.val x0)] H fun e H' => in2 .sl .bool e qn (fun r0 r1 => k r0 r1 H')
def qbj (x0 : List Value) (H : AH) (k : Int → AH → Prop) : Prop :=
 qh Tryz.prog 136 [(qlZ (qlr x0))] H fun e H' => in1 (.int .i64) e qn (fun r0 => k r0 H')
def qbz (x0 : List Value) (x1 : Option Addr) (H : AH) (k : Bool → AH → Prop) : Prop :=
 qh Tryz.prog 150 [(qlZ (qlr x0)), (qkU x1)] H fun e H' => in1 .bool e qn (fun r0 => k r0 H')
def qb4 (x0 : Sl) (x1 : Int) (H : AH) (k : Sl → Int → AH → Prop) : Prop :=
 qh Tryz.prog 125 [(Sl.val x0), (qkL .i64 x1)] H fun e H' => in2 .sl (.int .i64) e qn (fun r0 r1 => k r0 r1 H')
def qci (x0 : Sl) (x1 : Int) (H : AH) (k : Bool → AH → Prop) : Prop :=
 qh Tryz.prog 78 [(Sl.val x0), (qkL .i64 x1)] H fun e H' => in1 .bool e qn (fun r0 => k r0 H')
def qcd (x0 : Int) (H : AH) (k : Int → AH → Prop) : Prop :=
 qh Tryz.prog 95 [(qkL .i64 x0)] H fun e H' => in1 (.int .i64) e qn (fun r0 => k r0 H')
def qcn (x0 : List Value) (H : AH) (k : Int → AH → Prop) : Prop :=
 qh Tryz.prog 45 [(qlZ (qlr x0))] H fun e H' => in1 (.int .i64) e qn (fun r0 => k r0 H')
def qa8 (x0 : Int) (x1 : Sl) (H : AH) (k : Option Addr → AH → Prop) : Prop :=
 qh Tryz.prog 79 [(qkL .i64 x0), (Sl.val x1)] H fun e H' => in1 .ptr e qn (fun r0 => k r0 H')
def qaj (x0 : Option Addr) (x1 : List Value) (H : AH) (k : Option Addr → Int → AH → Prop) : Prop :=
 qh Tryz.prog 27 [(qkU x0), (qlZ (qlr x1))] H fun e H' => in2 .ptr (.int .i64) e qn (fun r0 r1 => k r0 r1 H')
def qaH (x0 : List Value) (x1 : Sl) (H : AH) (k : Option Addr → Option Addr → AH → Prop) : Prop :=
 qh Tryz.prog 15 [(qlZ (qlr x0)), (Sl.val x1)] H fun e H' => in2 .ptr .ptr e qn (fun r0 r1 => k r0 r1 H')
def qbI (x0 : Option Addr) (H : AH) (k : Bool → AH → Prop) : Prop :=
 qh Tryz.prog 94 [(qkU x0)] H fun e H' => in1 .bool e qn (fun r0 => k r0 H')
def qbV (x0 : Option Addr) (H : AH) (k : Bool → AH → Prop) : Prop :=
 qh Tryz.prog 44 [(qkU x0)] H fun e H' => in1 .bool e qn (fun r0 => k r0 H')
def qaU (x0 : Sl) (H : AH) (k : Sl → AH → Prop) : Prop :=
 qh Tryz.prog 108 [(Sl.val x0)] H fun e H' => in1 .sl e qn (fun r0 => k r0 H')
def qbN (x0 : Option Addr) (H : AH) (k : Sl → AH → Prop) : Prop :=
 qh Tryz.prog 57 [(qkU x0)] H fun e H' => in1 .sl e qn (fun r0 => k r0 H')
def qbh (x0 : Option Addr) (H : AH) (k : Sl → AH → Prop) : Prop :=
 qh Tryz.prog 20 [(qkU x0)] H fun e H' => in1 .sl e qn (fun r0 => k r0 H')
def qbf  (H : AH) (k : Bool → AH → Prop) : Prop :=
 qh Tryz.prog 13 [] H fun e H' => in1 .bool e qn (fun r0 => k r0 H')
def qaX (x0 : Int) (x1 : Int) (x2 : Int) (x3 : Int) (H : AH) (k : List Value → AH → Prop) : Prop :=
 qh Tryz.prog 14 [(qkL .i64 x0), (qkL .i64 x1), (qkL .i64 x2), (qkL .i64 x3)] H fun e H' => in1 .agg e qn (fun r0 => k r0 H')
def qae (x0 : Int) (H : AH) (k : Int → AH → Prop) : Prop :=
 qh Tryz.prog 58 [(qkL .i64 x0)] H fun e H' => in1 (.int .i64) e qn (fun r0 => k r0 H')
def qab (x0 : Int) (H : AH) (k : Int → Bool → Bool → AH → Prop) : Prop :=
 qh Tryz.prog 109 [(qkL .u64 x0)] H fun e H' => in3 (.int .i64) .bool .bool e qn (fun r0 r1 r2 => k r0 r1 r2 H')
def qaQ (x0 : Int) (H : AH) (k : Bool → AH → Prop) : Prop :=
 qh Tryz.prog 68 [(qkL .i64 x0)] H fun e H' => in1 .bool e qn (fun r0 => k r0 H')
def qaB (x0 : Int) (H : AH) (k : Bool → AH → Prop) : Prop :=
 qh Tryz.prog 116 [(qkL .i64 x0)] H fun e H' => in1 .bool e qn (fun r0 => k r0 H')
def qp (x0 : Sl) (x1 : Int) (H : AH) (k : Bool → AH → Prop) : Prop :=
 qh Tryz.prog 110 [(Sl.val x0), (qkL .i64 x1)] H fun e H' => in1 .bool e qn (fun r0 => k r0 H')
def qK (x0 : Sl) (H : AH) (k : Sl → Bool → AH → Prop) : Prop :=
 qh Tryz.prog 59 [(Sl.val x0)] H fun e H' => in2 .sl .bool e qn (fun r0 r1 => k r0 r1 H')
def qw (x0 : Sl) (x1 : Int) (H : AH) (k : Sl → AH → Prop) : Prop :=
 qh Tryz.prog 111 [(Sl.val x0), (qkL .i64 x1)] H fun e H' => in1 .sl e qn (fun r0 => k r0 H')
def qM (x0 : Int) (x1 : Sl) (H : AH) (k : Int → AH → Prop) : Prop :=
 qh Tryz.prog 112 [(qkL .i64 x0), (Sl.val x1)] H fun e H' => in1 (.int .i64) e qn (fun r0 => k r0 H')
def qL (x0 : Sl) (x1 : Int) (x2 : Sl) (H : AH) (k : Int → AH → Prop) : Prop :=
 qh Tryz.prog 60 [(Sl.val x0), (qkL .i64 x1), (Sl.val x2)] H fun e H' => in1 (.int .i64) e qn (fun r0 => k r0 H')
def qP (x0 : Sl) (H : AH) (k : Int → AH → Prop) : Prop :=
 qh Tryz.prog 115 [(Sl.val x0)] H fun e H' => in1 (.int .i64) e qn (fun r0 => k r0 H')
def qY (x0 : Int) (x1 : Int) (H : AH) (k : Int → AH → Prop) : Prop :=
 qh Tryz.prog 114 [(qkL .i64 x0), (qkL .i64 x1)] H fun e H' => in1 (.int .i64) e qn (fun r0 => k r0 H')
def qG (x0 : Sl) (x1 : Int) (x2 : Int) (H : AH) (k : Sl → Bool → AH → Prop) : Prop :=
 qh Tryz.prog 113 [(Sl.val x0), (qkL .i64 x1), (qkL .i64 x2)] H fun e H' => in2 .sl .bool e qn (fun r0 r1 => k r0 r1 H')
def qaF (x0 : Int) (x1 : Bool) (H : AH) (k : Int → AH → Prop) : Prop :=
 qh Tryz.prog 65 [(qkL .i64 x0), (qln x1)] H fun e H' => in1 (.int .u64) e qn (fun r0 => k r0 H')
def qJ (x0 : Sl) (x1 : Int) (x2 : Int) (H : AH) (k : Sl → AH → Prop) : Prop :=
 qh Tryz.prog 61 [(Sl.val x0), (qkL .i64 x1), (qkL .i64 x2)] H fun e H' => in1 .sl e qn (fun r0 => k r0 H')
def qal (x0 : List Value) (H : AH) (k : Int → AH → Prop) : Prop :=
 qh Tryz.prog 62 [(qlZ (qlr x0))] H fun e H' => in1 (.int .i64) e qn (fun r0 => k r0 H')
def qak (x0 : Sl) (x1 : Int) (x2 : Sl) (H : AH) (k : Sl → Int → Int → AH → Prop) : Prop :=
 qh Tryz.prog 21 [(Sl.val x0), (qkL .i64 x1), (Sl.val x2)] H fun e H' => in3 .sl (.int .i64) (.int .i64) e qn (fun r0 r1 r2 => k r0 r1 r2 H')
def qaN (x0 : Sl) (x1 : Int) (H : AH) (k : Int → AH → Prop) : Prop :=
 qh Tryz.prog 64 [(Sl.val x0), (qkL .i64 x1)] H fun e H' => in1 (.int .i64) e qn (fun r0 => k r0 H')
def ql (x0 : Sl) (x1 : Int) (H : AH) (k : Sl → Int → Bool → AH → Prop) : Prop :=
 qh Tryz.prog 63 [(Sl.val x0), (qkL .i64 x1)] H fun e H' => in3 .sl (.int .i64) .bool e qn (fun r0 r1 r2 => k r0 r1 r2 H')
def qap (x0 : Sl) (x1 : Int) (H : AH) (k : Sl → Int → AH → Prop) : Prop :=
 qh Tryz.prog 22 [(Sl.val x0), (qkL .i64 x1)] H fun e H' => in2 .sl (.int .i64) e qn (fun r0 r1 => k r0 r1 H')
def qR (x0 : Sl) (x1 : Int) (x2 : Int) (H : AH) (k : Bool → AH → Prop) : Prop :=
 qh Tryz.prog 66 [(Sl.val x0), (qkL .i64 x1), (qkL .i64 x2)] H fun e H' => in1 .bool e qn (fun r0 => k r0 H')
def qa1 (x0 : Int) (x1 : Int) (x2 : Int) (H : AH) (k : Bool → AH → Prop) : Prop :=
 qh Tryz.prog 117 [(qkL .i64 x0), (qkL .i64 x1), (qkL .i64 x2)] H fun e H' => in1 .bool e qn (fun r0 => k r0 H')
def qz (x0 : Sl) (x1 : Int) (x2 : Sl) (H : AH) (k : Sl → Bool → AH → Prop) : Prop :=
 qh Tryz.prog 67 [(Sl.val x0), (qkL .i64 x1), (Sl.val x2)] H fun e H' => in2 .sl .bool e qn (fun r0 r1 => k r0 r1 H')
def qaC (x0 : Sl) (x1 : Int) (x2 : Sl) (H : AH) (k : Sl → Int → AH → Prop) : Prop :=
 qh Tryz.prog 23 [(Sl.val x0), (qkL .i64 x1), (Sl.val x2)] H fun e H' => in2 .sl (.int .i64) e qn (fun r0 r1 => k r0 r1 H')
def qo (x0 : Sl) (H : AH) (k : Sl → AH → Prop) : Prop :=
 qh Tryz.prog 24 [(Sl.val x0)] H fun e H' => in1 .sl e qn (fun r0 => k r0 H')
def qi (x0 : List Value) (x1 : Sl) (H : AH) (k : Bool → AH → Prop) : Prop :=
 qh Tryz.prog 5 [(qlZ (qlr x0)), (Sl.val x1)] H fun e H' => in1 .bool e qn (fun r0 => k r0 H')
def qat (x0 : Int) (H : AH) (pk : Value → AH → Prop) (k : AH → Prop) : Prop :=
 qh Tryz.prog 100 [(qkL .i64 x0)] H fun e H' => in0  e (fun v => pk v H') (k H')
def qa5 (x0 : Option Addr) (H : AH) (pk : Value → AH → Prop) (k : Sl → AH → Prop) : Prop :=
 qh Tryz.prog 96 [(qkU x0)] H fun e H' => in1 .sl e (fun v => pk v H') (fun r0 => k r0 H')
def qbW (x0 : Int) (H : AH) (k : Int → AH → Prop) : Prop :=
 qh Tryz.prog 97 [(qkL .i64 x0)] H fun e H' => in1 (.int .i64) e qn (fun r0 => k r0 H')
def qaA (x0 : Option Addr) (H : AH) (pk : Value → AH → Prop) (k : AH → Prop) : Prop :=
 qh Tryz.prog 98 [(qkU x0)] H fun e H' => in0  e (fun v => pk v H') (k H')
def qag (x0 : Sl) (x1 : Int) (H : AH) (k : Sl → AH → Prop) : Prop :=
 qh Tryz.prog 162 [(Sl.val x0), (qkL .i64 x1)] H fun e H' => in1 .sl e qn (fun r0 => k r0 H')
def qbE (x0 : List Value) (x1 : Sl) (H : AH) (k : Int → AH → Prop) : Prop :=
 qh Tryz.prog 163 [(qlZ (qlr x0)), (Sl.val x1)] H fun e H' => in1 (.int .i64) e qn (fun r0 => k r0 H')
def qaR (x0 : Sl) (x1 : Int) (x2 : Sl) (H : AH) (k : Int → AH → Prop) : Prop :=
 qh Tryz.prog 134 [(Sl.val x0), (qkL .i64 x1), (Sl.val x2)] H fun e H' => in1 (.int .i64) e qn (fun r0 => k r0 H')
def qaP (x0 : Sl) (H : AH) (k : Int → AH → Prop) : Prop :=
 qh Tryz.prog 178 [(Sl.val x0)] H fun e H' => in1 (.int .i64) e qn (fun r0 => k r0 H')
def qbZ (x0 : Int) (x1 : Int) (H : AH) (k : Int → AH → Prop) : Prop :=
 qh Tryz.prog 179 [(qkL .i64 x0), (qkL .i64 x1)] H fun e H' => in1 (.int .i64) e qn (fun r0 => k r0 H')
def qba (x0 : Sl) (x1 : Int) (x2 : Int) (H : AH) (k : Sl → AH → Prop) : Prop :=
 qh Tryz.prog 164 [(Sl.val x0), (qkL .i64 x1), (qkL .i64 x2)] H fun e H' => in1 .sl e qn (fun r0 => k r0 H')
def qam (x0 : Sl) (x1 : Int) (x2 : Int) (H : AH) (k : Sl → AH → Prop) : Prop :=
 qh Tryz.prog 135 [(Sl.val x0), (qkL .i64 x1), (qkL .i64 x2)] H fun e H' => in1 .sl e qn (fun r0 => k r0 H')
def qbT (x0 : Sl) (x1 : Int) (x2 : Sl) (H : AH) (k : Sl → Int → Int → AH → Prop) : Prop :=
 qh Tryz.prog 99 [(Sl.val x0), (qkL .i64 x1), (Sl.val x2)] H fun e H' => in3 .sl (.int .i64) (.int .i64) e qn (fun r0 r1 r2 => k r0 r1 r2 H')
def qan (x0 : Sl) (H : AH) (k : Sl → AH → Prop) : Prop :=
 qh Tryz.prog 165 [(Sl.val x0)] H fun e H' => in1 .sl e qn (fun r0 => k r0 H')
def qaY (x0 : Sl) (x1 : Sl) (H : AH) (k : Sl → AH → Prop) : Prop :=
 qh Tryz.prog 137 [(Sl.val x0), (Sl.val x1)] H fun e H' => in1 .sl e qn (fun r0 => k r0 H')
def qaS (x0 : Sl) (H : AH) (k : Sl → AH → Prop) : Prop :=
 qh Tryz.prog 138 [(Sl.val x0)] H fun e H' => in1 .sl e qn (fun r0 => k r0 H')
def qV (x0 : Option Addr) (x1 : Sl) (H : AH) (k : Int → AH → Prop) : Prop :=
 qh Tryz.prog 139 [(qkU x0), (Sl.val x1)] H fun e H' => in1 (.int .i64) e qn (fun r0 => k r0 H')
def qbL (x0 : Option Addr) (x1 : Int) (H : AH) (k : Bool → AH → Prop) : Prop :=
 qh Tryz.prog 168 [(qkU x0), (qkL .i64 x1)] H fun e H' => in1 .bool e qn (fun r0 => k r0 H')
def qbq (x0 : Option Addr) (x1 : Int) (H : AH) (k : Int → AH → Prop) : Prop :=
 qh Tryz.prog 169 [(qkU x0), (qkL .i64 x1)] H fun e H' => in1 (.int .i64) e qn (fun r0 => k r0 H')
def qav (x0 : Option Addr) (x1 : Int) (H : AH) (k : Int → Bool → AH → Prop) : Prop :=
 qh Tryz.prog 140 [(qkU x0), (qkL .i64 x1)] H fun e H' => in2 (.int .i64) .bool e qn (fun r0 r1 => k r0 r1 H')
def qH (x0 : Option Addr) (x1 : Sl) (x2 : Sl) (H : AH) (pk : Value → AH → Prop) (k : AH → Prop) : Prop :=
 qh Tryz.prog 101 [(qkU x0), (Sl.val x1), (Sl.val x2)] H fun e H' => in0  e (fun v => pk v H') (k H')
def qb0 (x0 : Option Addr) (x1 : Int) (H : AH) (pk : Value → AH → Prop) (k : Int → AH → Prop) : Prop :=
 qh Tryz.prog 49 [(qkU x0), (qkL .i64 x1)] H fun e H' => in1 (.int .i64) e (fun v => pk v H') (fun r0 => k r0 H')
def qax (x0 : Sl) (H : AH) (k : Int → AH → Prop) : Prop :=
 qh Tryz.prog 171 [(Sl.val x0)] H fun e H' => in1 (.int .i64) e qn (fun r0 => k r0 H')
def qD (x0 : Sl) (x1 : Int) (H : AH) (k : Int → Int → Bool → AH → Prop) : Prop :=
 qh Tryz.prog 170 [(Sl.val x0), (qkL .i64 x1)] H fun e H' => in3 (.int .i64) (.int .i64) .bool e qn (fun r0 r1 r2 => k r0 r1 r2 H')
def qbe (x0 : Sl) (x1 : Int) (H : AH) (k : List Value → Bool → AH → Prop) : Prop :=
 qh Tryz.prog 141 [(Sl.val x0), (qkL .i64 x1)] H fun e H' => in2 .agg .bool e qn (fun r0 r1 => k r0 r1 H')
def qck (x0 : Sl) (x1 : Int) (H : AH) (k : Sl → Int → AH → Prop) : Prop :=
 qh Tryz.prog 102 [(Sl.val x0), (qkL .i64 x1)] H fun e H' => in2 .sl (.int .i64) e qn (fun r0 r1 => k r0 r1 H')
def qbC (x0 : Option Addr) (H : AH) (pk : Value → AH → Prop) (k : Int → AH → Prop) : Prop :=
 qh Tryz.prog 54 [(qkU x0)] H fun e H' => in1 (.int .i64) e (fun v => pk v H') (fun r0 => k r0 H')
def qb7 (x0 : Option Addr) (x1 : Int) (H : AH) (pk : Value → AH → Prop) (k : AH → Prop) : Prop :=
 qh Tryz.prog 50 [(qkU x0), (qkL .i64 x1)] H fun e H' => in0  e (fun v => pk v H') (k H')
def qbl (x0 : List Value) (x1 : Option Addr) (x2 : Option Addr) (H : AH) (k : Bool → AH → Prop) : Prop :=
 qh Tryz.prog 183 [(qlZ (qlr x0)), (qkU x1), (qkU x2)] H fun e H' => in1 .bool e qn (fun r0 => k r0 H')
def qbs (x0 : Sl) (x1 : Int) (x2 : Int) (H : AH) (k : Bool → AH → Prop) : Prop :=
 qh Tryz.prog 172 [(Sl.val x0), (qkL .i64 x1), (qkL .i64 x2)] H fun e H' => in1 .bool e qn (fun r0 => k r0 H')
def qbQ (x0 : Sl) (x1 : Int) (x2 : Int) (H : AH) (k : Int → AH → Prop) : Prop :=
 qh Tryz.prog 142 [(Sl.val x0), (qkL .i64 x1), (qkL .i64 x2)] H fun e H' => in1 (.int .i64) e qn (fun r0 => k r0 H')
def qbU (x0 : Sl) (x1 : Int) (x2 : Int) (H : AH) (k : Bool → AH → Prop) : Prop :=
 qh Tryz.prog 173 [(Sl.val x0), (qkL .i64 x1), (qkL .i64 x2)] H fun e H' => in1 .bool e qn (fun r0 => k r0 H')
def qbP (x0 : Sl) (x1 : Int) (x2 : Int) (H : AH) (k : Sl → Bool → AH → Prop) : Prop :=
 qh Tryz.prog 143 [(Sl.val x0), (qkL .i64 x1), (qkL .i64 x2)] H fun e H' => in2 .sl .bool e qn (fun r0 r1 => k r0 r1 H')
def qco (x0 : Sl) (x1 : Int) (x2 : Int) (H : AH) (k : Sl → Int → AH → Prop) : Prop :=
 qh Tryz.prog 103 [(Sl.val x0), (qkL .i64 x1), (qkL .i64 x2)] H fun e H' => in2 .sl (.int .i64) e qn (fun r0 r1 => k r0 r1 H')
def qb6 (x0 : Option Addr) (x1 : Int) (x2 : Int) (H : AH) (pk : Value → AH → Prop) (k : Sl → AH → Prop) : Prop :=
 qh Tryz.prog 51 [(qkU x0), (qkL .i64 x1), (qkL .i64 x2)] H fun e H' => in1 .sl e (fun v => pk v H') (fun r0 => k r0 H')
def qaq (x0 : Sl) (x1 : Int) (x2 : Sl) (H : AH) (k : Sl → Bool → AH → Prop) : Prop :=
 qh Tryz.prog 144 [(Sl.val x0), (qkL .i64 x1), (Sl.val x2)] H fun e H' => in2 .sl .bool e qn (fun r0 r1 => k r0 r1 H')
def qb9 (x0 : Sl) (x1 : Int) (x2 : Sl) (H : AH) (k : Sl → Int → AH → Prop) : Prop :=
 qh Tryz.prog 104 [(Sl.val x0), (qkL .i64 x1), (Sl.val x2)] H fun e H' => in2 .sl (.int .i64) e qn (fun r0 r1 => k r0 r1 H')
def qbY (x0 : Option Addr) (x1 : Int) (x2 : Sl) (H : AH) (pk : Value → AH → Prop) (k : AH → Prop) : Prop :=
 qh Tryz.prog 52 [(qkU x0), (qkL .i64 x1), (Sl.val x2)] H fun e H' => in0  e (fun v => pk v H') (k H')
def qaG (x0 : Option Addr) (x1 : Int) (H : AH) (pk : Value → AH → Prop) (k : AH → Prop) : Prop :=
 qh Tryz.prog 53 [(qkU x0), (qkL .i64 x1)] H fun e H' => in0  e (fun v => pk v H') (k H')
def qt.l1 (x0 : Sl) (x1b0 : Option Addr) (x1b1 : Option Addr) (k : Int → AH → Prop) (t2 : Int × Int) (HL2 : AH) (it2 : (Int × Int) → AH → Prop) : Prop :=
 bcase (decide ((t2.2 : Int) < ((x0.n : Nat) : Int))) ((0 ≤ t2.2 ∧ t2.2 < ((x0.n : Nat) : Int)) ∧ onPtr x0.a fun a14 => ldA HL2 (qkN a14 (qkS t2.2 * 3)) 3 fun c15 => qbl c15 x1b0 x1b1 HL2 fun b16 H16 => bcase b16 (k t2.2 H16) (it2 (t2.1, (qkM .i64 (t2.2 + (1 : Int)))) H16)) (k (-1 : Int) HL2)
def qt.b (x0 : Sl) (x1b0 : Option Addr) (x1b1 : Option Addr) (H : AH) (k : Int → AH → Prop) : Prop :=
 loopT (qt.l1 x0 x1b0 x1b1 k) (((0 : Int), (0 : Int)) : Int × Int) H
def qt.ann : Ann := { keep := fun r => match r with | 2 => [(4, .int .i64), (8, .int .i64)] | _ => [], ord := fun r => match r with  | _ => [] }
theorem qt.link {x0 : Sl} {x1b0 : Option Addr} {x1b1 : Option Addr} {H : AH} {k : Int → AH → Prop} (h : qt.b x0 x1b0 x1b1 H k) : qt x0 x1b0 x1b1 H k := lk1 pan hT hm Tryz.func149 (by kernel_rfl) (A := qt.ann) (by kernel_rfl) (by simp) (by kernel_rfl) h
def qS.b (x0 : Sl) (x1b0 : Option Addr) (x1b1 : Option Addr) (H : AH) (k : Bool → AH → Prop) : Prop :=
 qt x0 x1b0 x1b1 H fun n7 H7 => k (decide ((n7 : Int) ≥ (0 : Int))) H7
theorem qS.link {x0 : Sl} {x1b0 : Option Addr} {x1b1 : Option Addr} {H : AH} {k : Bool → AH → Prop} (h : qS.b x0 x1b0 x1b1 H k) : qS x0 x1b0 x1b1 H k := lk1 pan hT hm Tryz.func182 (by kernel_rfl) (A := ann0) (by kernel_rfl) (by simp) (by kernel_rfl) h
def qB.l1 (x0 : Sl) (x1b0 : Option Addr) (k : Int → AH → Prop) (t2 : Int × Int) (HL2 : AH) (it2 : (Int × Int) → AH → Prop) : Prop :=
 bcase (decide ((t2.2 : Int) < ((x0.n : Nat) : Int))) ((0 ≤ t2.2 ∧ t2.2 < ((x0.n : Nat) : Int)) ∧ onPtr x0.a fun a14 => ldA HL2 (qkN a14 (qkS t2.2 * 3)) 3 fun c15 => qbz c15 x1b0 HL2 fun b16 H16 => bcase b16 (k t2.2 H16) (it2 (t2.1, (qkM .i64 (t2.2 + (1 : Int)))) H16)) (k (-1 : Int) HL2)
def qB.b (x0 : Sl) (x1b0 : Option Addr) (H : AH) (k : Int → AH → Prop) : Prop :=
 loopT (qB.l1 x0 x1b0 k) (((0 : Int), (0 : Int)) : Int × Int) H
def qB.ann : Ann := { keep := fun r => match r with | 2 => [(4, .int .i64), (8, .int .i64)] | _ => [], ord := fun r => match r with  | _ => [] }
theorem qB.link {x0 : Sl} {x1b0 : Option Addr} {H : AH} {k : Int → AH → Prop} (h : qB.b x0 x1b0 H k) : qB x0 x1b0 H k := lk1 pan hT hm Tryz.func149 (by kernel_rfl) (A := qB.ann) (by kernel_rfl) (by simp) (by kernel_rfl) h
def qA.j1 (k : Int → AH → Prop) (t4 : Int × Int) (it4 : (Int × Int) → AH → Prop) (Hs2 : AH) (x24 : Bool) : Prop :=
 bcase x24 (k (qkM .i64 (t4.2 + (1 : Int))) Hs2) (it4 (t4.1, (qkM .i64 (t4.2 + (1 : Int)))) Hs2)
def qA.l2 (x0 : Sl) (k : Int → AH → Prop) (t4 : Int × Int) (HL4 : AH) (it4 : (Int × Int) → AH → Prop) : Prop :=
 bcase (decide ((t4.2 : Int) < ((x0.n : Nat) : Int))) ((0 ≤ t4.2 ∧ t4.2 < ((x0.n : Nat) : Int)) ∧ onPtr x0.a fun a15 => ldA HL4 (qkN a15 (qkS t4.2 * 5)) 5 fun c16 => newC HL4 ⟨[(qkL .i64 (0 : Int)), (qkL .i64 (0 : Int)), (qkL .i64 (0 : Int)), (qkL .i64 (0 : Int)), (qlo none 0 0)], .rw, 0⟩ fun o6 H6 => (qk0 c16 = 5 ∧ qlq c16 qq = true) ∧ stC H6 ⟨o6, 0, none⟩ c16 fun Hs2 => bcase (decide ((t4.2 : Int) ≥ (80 : Int))) (qA.j1 k t4 it4 Hs2 true) (elL (AH.cell? Hs2 (qkN ⟨o6, 0, none⟩ 4)) fun s21 => qA.j1 k t4 it4 Hs2 (decide ((((s21.n : Nat) : Int) : Int) > (500 : Int))))) (k (0 : Int) HL4)
def qA.b (x0 : Sl) (x1 : Sl) (H : AH) (k : Int → AH → Prop) : Prop :=
 bcase (decide ((((x1.n : Nat) : Int) : Int) > (200 : Int))) (k (1 : Int) H) (loopT (qA.l2 x0 k) (((0 : Int), (0 : Int)) : Int × Int) H)
def qA.ann : Ann := { keep := fun r => match r with | 4 => [(4, .int .i64), (12, .int .i64)] | _ => [], ord := fun r => match r with  | _ => [] }
theorem qA.link {x0 : Sl} {x1 : Sl} {H : AH} {k : Int → AH → Prop} (h : qA.b x0 x1 H k) : qA x0 x1 H k := lk1 pan hT hm Tryz.func12 (by kernel_rfl) (A := qA.ann) (by kernel_rfl) (by simp) (by kernel_rfl) h
def qbm.b (x0 : List Value) (H : AH) (k : Bool → AH → Prop) : Prop :=
 newC H ⟨x0, .rw, 0⟩ fun o1 H1 => elI .i64 (AH.cell? H1 (qkN ⟨o1, 0, none⟩ 0)) fun n4 => bcase (decide ((n4 : Int) ≥ (1 : Int))) (elI .i64 (AH.cell? H1 (qkN ⟨o1, 0, none⟩ 0)) fun n8 => bcase (decide ((n8 : Int) ≤ (64 : Int))) (elI .i64 (AH.cell? H1 (qkN ⟨o1, 0, none⟩ 1)) fun n13 => bcase (decide ((n13 : Int) ≥ (0 : Int))) (elI .i64 (AH.cell? H1 (qkN ⟨o1, 0, none⟩ 1)) fun n18 => bcase (decide ((n18 : Int) ≤ (16 : Int))) (elI .i64 (AH.cell? H1 (qkN ⟨o1, 0, none⟩ 2)) fun n23 => bcase (decide ((n23 : Int) ≥ (1 : Int))) (elI .i64 (AH.cell? H1 (qkN ⟨o1, 0, none⟩ 2)) fun n28 => bcase (decide ((n28 : Int) ≤ (1000 : Int))) (elI .i64 (AH.cell? H1 (qkN ⟨o1, 0, none⟩ 3)) fun n33 => bcase (decide ((n33 : Int) ≥ (1 : Int))) (elI .i64 (AH.cell? H1 (qkN ⟨o1, 0, none⟩ 3)) fun n38 => k (decide ((n38 : Int) ≤ (100 : Int))) H1) (k false H1)) (k false H1)) (k false H1)) (k false H1)) (k false H1)) (k false H1)) (k false H1)
theorem qbm.link {x0 : List Value} {H : AH} {k : Bool → AH → Prop} (h : qbm.b x0 H k) : qbm x0 H k := lk1 pan hT hm Tryz.func88 (by kernel_rfl) (A := ann0) (by kernel_rfl) (by simp) (by kernel_rfl) h
def qby.b (x0 : List Value) (H : AH) (k : Int → AH → Prop) : Prop :=
 newC H ⟨x0, .rw, 0⟩ fun o1 H1 => ldA H1 ⟨o1, 0, none⟩ 4 fun c3 => qbm c3 H1 fun b4 H4 => bcase (!b4) (k (0 : Int) H4) (elI .i64 (AH.cell? H4 (qkN ⟨o1, 0, none⟩ 0)) fun n7 => k (qkM .i64 ((16 : Int) + n7)) H4)
theorem qby.link {x0 : List Value} {H : AH} {k : Int → AH → Prop} (h : qby.b x0 H k) : qby x0 H k := lk1 pan hT hm Tryz.func89 (by kernel_rfl) (A := ann0) (by kernel_rfl) (by simp) (by kernel_rfl) h
def qbp.b (x0 : List Value) (H : AH) (k : Int → AH → Prop) : Prop :=
 newC H ⟨x0, .rw, 0⟩ fun o1 H1 => ldA H1 ⟨o1, 0, none⟩ 4 fun c3 => qbm c3 H1 fun b4 H4 => bcase (!b4) (k (0 : Int) H4) (ldA H4 ⟨o1, 0, none⟩ 4 fun c6 => elI .i64 (AH.cell? H4 (qkN ⟨o1, 0, none⟩ 1)) fun n10 => qby c6 H4 fun n7 H7 => AH.cell? H7 (qkN ⟨o1, 0, none⟩ 1) = some (qkL .i64 n10) ∧ k (qkM .i64 ((qkM .i64 (n7 + (1 : Int))) + n10)) H7)
def qbp.ann : Ann := { keep := fun r => match r with  | _ => [], ord := fun r => match r with | 3 => [0, 3, 4, 1, 2, 5, 6] | _ => [] }
theorem qbp.link {x0 : List Value} {H : AH} {k : Int → AH → Prop} (h : qbp.b x0 H k) : qbp x0 H k := lk1 pan hT hm Tryz.func32 (by kernel_rfl) (A := qbp.ann) (by kernel_rfl) (by simp) (by kernel_rfl) h
def nvm_New.l1 (x1 : Sl) (k : Option Addr → AH → Prop) (o16 : Nat) (s20 : Sl) (t5 : Int) (HL5 : AH) (it5 : (Int) → AH → Prop) : Prop :=
 bcase (decide ((t5 : Int) < ((s20.n : Nat) : Int))) (elL (AH.cell? HL5 (qkN ⟨o16, 0, none⟩ 0)) fun s28 => (0 ≤ t5 ∧ t5 < ((s28.n : Nat) : Int)) ∧ onPtr s28.a fun a30 => stC HL5 (qkN (qkN a30 (qkS t5 * 10)) 9) [(qkL .i64 (-1 : Int))] fun Hs2 => bcase (decide ((t5 : Int) < ((x1.n : Nat) : Int))) (elL (AH.cell? Hs2 (qkN ⟨o16, 0, none⟩ 0)) fun s39 => (0 ≤ t5 ∧ t5 < ((x1.n : Nat) : Int)) ∧ onPtr x1.a fun a43 => elI .i64 (AH.cell? Hs2 (qkN a43 (qkS t5 * 1))) fun n44 => (0 ≤ t5 ∧ t5 < ((s39.n : Nat) : Int)) ∧ onPtr s39.a fun a45 => stC Hs2 (qkN (qkN a45 (qkS t5 * 10)) 9) [(qkL .i64 n44)] fun Hs4 => it5 (qkM .i64 (t5 + (1 : Int))) Hs4) (it5 (qkM .i64 (t5 + (1 : Int))) Hs2)) (k (some ⟨o16, 0, none⟩) HL5)
def nvm_New.j2 (x0 : Int) (x1 : Sl) (H : AH) (k : Option Addr → AH → Prop) (x12 : Bool) : Prop :=
 bcase x12 (k none H) ((0 ≤ x0 ∧ x0 ≤ x0 ∧ x0 ≤ (lim : Int)) ∧ newC H ⟨zerosOf (qkS x0) [(qkL .u64 (0 : Int)), (qkL .u64 (0 : Int)), (qkL .u64 (0 : Int)), (qkL .u64 (0 : Int)), (qkL .u64 (0 : Int)), (qkL .u64 (0 : Int)), (qkL .u64 (0 : Int)), (qkL .u64 (0 : Int)), (qkL .i64 (0 : Int)), (qkL .i64 (0 : Int))], .rw, 10⟩ fun o14 H14 => newC H14 ⟨[(qlo (some ⟨o14, 0, none⟩) (qkS x0) 1), (qkL .u64 (0 : Int)), (qkL .u64 (0 : Int)), (qkL .u64 (0 : Int)), (qkL .u64 (0 : Int)), (qkL .u64 (0 : Int)), (qkL .u64 (0 : Int)), (qkL .u64 (0 : Int)), (qkL .u64 (0 : Int)), (qkL .u64 (0 : Int)), (qkL .u64 (0 : Int)), (qkL .u64 (0 : Int)), (qkL .u64 (0 : Int)), (qkL .u64 (0 : Int)), (qkL .u64 (0 : Int)), (qkL .u64 (0 : Int)), (qkL .u64 (0 : Int)), (qkL .u64 (0 : Int)), (qkL .u64 (0 : Int)), (qkL .u64 (0 : Int)), (qkL .u64 (0 : Int)), (qkL .u64 (0 : Int)), (qkL .u64 (0 : Int)), (qkL .u64 (0 : Int)), (qkL .u64 (0 : Int)), (qkL .u64 (0 : Int)), (qkL .u64 (0 : Int)), (qkL .u64 (0 : Int)), (qkL .u64 (0 : Int)), (qkL .u64 (0 : Int)), (qkL .u64 (0 : Int)), (qkL .u64 (0 : Int)), (qkL .u64 (0 : Int)), (qkL .u64 (0 : Int)), (qkL .u64 (0 : Int)), (qkL .u64 (0 : Int)), (qkL .i64 (0 : Int)), (qkL .i64 (-1 : Int)), (qkL .i64 (0 : Int)), (qln false)], .rw, 0⟩ fun o16 H16 => elL (AH.cell? H16 (qkN ⟨o16, 0, none⟩ 0)) fun s20 => loopT (nvm_New.l1 x1 k o16 s20) (((0 : Int)) : Int) H16)
def nvm_New.b (x0 : Int) (x1 : Sl) (H : AH) (k : Option Addr → AH → Prop) : Prop :=
 bcase (decide ((x0 : Int) < (1 : Int))) (nvm_New.j2 x0 x1 H k true) (nvm_New.j2 x0 x1 H k (decide ((x0 : Int) > (200 : Int))))
def nvm_New.ann : Ann := { keep := fun r => match r with | 5 => [(22, .int .i64)] | _ => [], ord := fun r => match r with | 9 => [0, 1, 2, 3, 4, 5, 6, 7, 8, 9, 10, 11] | _ => [] }
theorem nvm_New.link {x0 : Int} {x1 : Sl} {H : AH} {k : Option Addr → AH → Prop} (h : nvm_New.b x0 x1 H k) : nvm_New x0 x1 H k := lk1 pan hT hm Tryz.func31 (by kernel_rfl) (A := nvm_New.ann) (by kernel_rfl) (by simp) (by kernel_rfl) h
def qai.b (x0 : Option Addr) (H : AH) (k : Int → AH → Prop) : Prop :=
 bcase (qlA x0) (k (0 : Int) H) (onPtr x0 fun a6 => elL (AH.cell? H (qkN a6 0)) fun s8 => k ((s8.n : Nat) : Int) H)
theorem qai.link {x0 : Option Addr} {H : AH} {k : Int → AH → Prop} (h : qai.b x0 H k) : qai x0 H k := lk1 pan hT hm Tryz.func119 (by kernel_rfl) (A := ann0) (by kernel_rfl) (by simp) (by kernel_rfl) h
def qar.b (x0 : Option Addr) (H : AH) (k : Bool → AH → Prop) : Prop :=
 bcase (!(qlA x0)) (onPtr x0 fun a7 => elB (AH.cell? H (qkN a7 39)) fun b9 => k b9 H) (k false H)
theorem qar.link {x0 : Option Addr} {H : AH} {k : Bool → AH → Prop} (h : qar.b x0 H k) : qar x0 H k := lk1 pan hT hm Tryz.func120 (by kernel_rfl) (A := ann0) (by kernel_rfl) (by simp) (by kernel_rfl) h
def qbH.j1 (x0 : Option Addr) (k : Int → AH → Prop) (x5 : Bool) (Hj : AH) : Prop :=
 bcase x5 (k (1 : Int) Hj) (qar x0 Hj fun b18 H18 => bcase b18 (k (2 : Int) H18) (k (0 : Int) H18))
def qbH.b (x0 : Option Addr) (x1 : List Value) (H : AH) (k : Int → AH → Prop) : Prop :=
 newC H ⟨x1, .rw, 0⟩ fun o3 H3 => ldA H3 ⟨o3, 0, none⟩ 4 fun c6 => qbm c6 H3 fun b7 H7 => bcase (!b7) (qbH.j1 x0 k true H7) (ldA H7 ⟨o3, 0, none⟩ 4 fun c12 => qai x0 H7 fun n11 H11 => AH.row? H11 ⟨o3, 0, none⟩ 4 = some c12 ∧ qbp c12 H11 fun n13 H13 => qbH.j1 x0 k ((n11 : Int) != n13) H13)
def qbH.ann : Ann := { keep := fun r => match r with  | _ => [], ord := fun r => match r with | 1 => [0, 1, 2, 3, 4, 6, 5, 7, 8, 9, 10] | _ => [] }
theorem qbH.link {x0 : Option Addr} {x1 : List Value} {H : AH} {k : Int → AH → Prop} (h : qbH.b x0 x1 H k) : qbH x0 x1 H k := lk1 pan hT hm Tryz.func72 (by kernel_rfl) (A := qbH.ann) (by kernel_rfl) (by simp) (by kernel_rfl) h
def qaO.b (x0 : Option Addr) (x1 : Int) (H : AH) (k : Bool → AH → Prop) : Prop :=
 bcase (!(qlA x0)) (bcase (decide ((x1 : Int) ≥ (0 : Int))) (k (decide ((x1 : Int) < (35 : Int))) H) (k false H)) (k false H)
theorem qaO.link {x0 : Option Addr} {x1 : Int} {H : AH} {k : Bool → AH → Prop} (h : qaO.b x0 x1 H k) : qaO x0 x1 H k := lk1 pan hT hm Tryz.func90 (by kernel_rfl) (A := ann0) (by kernel_rfl) (by simp) (by kernel_rfl) h
def qN.b (x0 : Option Addr) (x1 : Int) (H : AH) (k : Int → Int → AH → Prop) : Prop :=
 qaO x0 x1 H fun b9 H9 => bcase (!b9) (k (0 : Int) (1 : Int) H9) (onPtr x0 fun a13 => elB (AH.cell? H9 (qkN a13 39)) fun b15 => bcase b15 (k (0 : Int) (2 : Int) H9) (onPtr x0 fun a18 => (0 ≤ x1 ∧ x1 < ((35 : Nat) : Int)) ∧ elI .u64 (AH.cell? H9 (qkN (qkN a18 1) (qkS x1 * 1))) fun n21 => k n21 (0 : Int) H9))
theorem qN.link {x0 : Option Addr} {x1 : Int} {H : AH} {k : Int → Int → AH → Prop} (h : qN.b x0 x1 H k) : qN x0 x1 H k := lk2 pan hT hm Tryz.func76 (by kernel_rfl) (A := ann0) (by kernel_rfl) (by simp) (by simp) (by kernel_rfl) h
def qO.j1 (x0 : Option Addr) (k : Sl → Int → AH → Prop) (t3 : Sl × Int × Sl × Int) (HL3 : AH) : Prop :=
 onPtr x0 fun a34 => elP (AH.cell? HL3 (qkN a34 0)) fun p36 => qar p36 HL3 fun b37 H37 => bcase b37 (k ⟨none, 0, 0⟩ (2 : Int) H37) (k t3.2.2.1 (0 : Int) H37)
def qO.l2 (x0 : Option Addr) (k : Sl → Int → AH → Prop) (n11 : Int) (t3 : Sl × Int × Sl × Int) (HL3 : AH) (it3 : (Sl × Int × Sl × Int) → AH → Prop) : Prop :=
 bcase (decide ((t3.2.2.2 : Int) < n11)) (onPtr x0 fun a17 => elP (AH.cell? HL3 (qkN a17 0)) fun p19 => qN p19 (qkM .i64 ((3 : Int) + t3.2.2.2)) HL3 fun n22a n22b H22 => bcase ((n22b : Int) != (0 : Int)) (k ⟨none, 0, 0⟩ n22b H22) (newC H22 ⟨[(qkL .u64 n22a)], .rw, 1⟩ fun o30 H30 => appendC 1 H30 t3.2.2.1 ⟨(some ⟨o30, 0, none⟩), 1, 1⟩ fun s31 H31 => it3 (t3.1, t3.2.1, s31, (qkM .i64 (t3.2.2.2 + (1 : Int)))) H31)) (qO.j1 x0 k t3 HL3)
def qO.b (x0 : Option Addr) (H : AH) (k : Sl → Int → AH → Prop) : Prop :=
 onPtr x0 fun a9 => elI .i64 (AH.cell? H (qkN a9 2)) fun n11 => loopT (qO.l2 x0 k n11) ((⟨none, 0, 0⟩, (0 : Int), ⟨none, 0, 0⟩, (0 : Int)) : Sl × Int × Sl × Int) H
def qO.ann : Ann := { keep := fun r => match r with | 3 => [(2, .sl), (3, .int .i64), (4, .sl), (12, .int .i64)] | _ => [], ord := fun r => match r with  | _ => [] }
theorem qO.link {x0 : Option Addr} {H : AH} {k : Sl → Int → AH → Prop} (h : qO.b x0 H k) : qO x0 H k := lk2 pan hT hm Tryz.func160 (by kernel_rfl) (A := qO.ann) (by kernel_rfl) (by simp) (by simp) (by kernel_rfl) h
def qb3.b (x0 : Int) (H : AH) (k : Int → AH → Prop) : Prop :=
 bcase (decide ((x0 : Int) < (1 : Int))) (k (0 : Int) H) (k (qkM .u64 ((qkM .u64 x0) + (1 : Int))) H)
theorem qb3.link {x0 : Int} {H : AH} {k : Int → AH → Prop} (h : qb3.b x0 H k) : qb3 x0 H k := lk1 pan hT hm Tryz.func159 (by kernel_rfl) (A := ann0) (by kernel_rfl) (by simp) (by kernel_rfl) h
def qa0.j1 (k : Bool → AH → Prop) (t2 : Bool × Int) (it2 : (Bool × Int) → AH → Prop) (H16 : AH) (x33 : Bool) : Prop :=
 bcase x33 (k false H16) (it2 (t2.1, (qkM .i64 (t2.2 + (1 : Int)))) H16)
def qa0.l2 (x0 : Sl) (x1 : Int) (k : Bool → AH → Prop) (t2 : Bool × Int) (HL2 : AH) (it2 : (Bool × Int) → AH → Prop) : Prop :=
 bcase (decide ((t2.2 : Int) < ((x0.n : Nat) : Int))) ((0 ≤ t2.2 ∧ t2.2 < ((x0.n : Nat) : Int)) ∧ onPtr x0.a fun a12 => elI .u64 (AH.cell? HL2 (qkN a12 (qkS t2.2 * 1))) fun n13 => qb3 x1 HL2 fun n16 H16 => bcase (decide ((n13 : Int) > n16)) (qa0.j1 k t2 it2 H16 true) (bcase (decide ((t2.2 : Int) > (0 : Int))) (bcase ((n13 : Int) != (0 : Int)) ((0 ≤ (qkM .i64 (t2.2 - (1 : Int))) ∧ (qkM .i64 (t2.2 - (1 : Int))) < ((x0.n : Nat) : Int)) ∧ onPtr x0.a fun a29 => elI .u64 (AH.cell? H16 (qkN a29 (qkS (qkM .i64 (t2.2 - (1 : Int))) * 1))) fun n30 => qa0.j1 k t2 it2 H16 ((n30 : Int) == (0 : Int))) (qa0.j1 k t2 it2 H16 false)) (qa0.j1 k t2 it2 H16 false))) (k (decide ((x1 : Int) ≥ (1 : Int))) HL2)
def qa0.b (x0 : Sl) (x1 : Int) (H : AH) (k : Bool → AH → Prop) : Prop :=
 loopT (qa0.l2 x0 x1 k) ((false, (0 : Int)) : Bool × Int) H
def qa0.ann : Ann := { keep := fun r => match r with | 2 => [(4, .bool), (9, .int .i64)] | _ => [], ord := fun r => match r with  | _ => [] }
theorem qa0.link {x0 : Sl} {x1 : Int} {H : AH} {k : Bool → AH → Prop} (h : qa0.b x0 x1 H k) : qa0 x0 x1 H k := lk1 pan hT hm Tryz.func174 (by kernel_rfl) (A := qa0.ann) (by kernel_rfl) (by simp) (by kernel_rfl) h
def qaW.j1 (x0 : Option Addr) (x1 : Int) (x2 : Int) (k : Option Addr → AH → Prop) (x31 : Bool) (Hj : AH) : Prop :=
 bcase x31 (k none Hj) (newC Hj ⟨[(qkU x0), (qkL .i64 x1), (qkL .i64 x2)], .rw, 0⟩ fun o36 H36 => qO (some ⟨o36, 0, none⟩) H36 fun s39a n39b H39 => bcase ((n39b : Int) != (0 : Int)) (k none H39) (qa0 s39a x1 H39 fun b47 H47 => bcase (!b47) (k none H47) (k (some ⟨o36, 0, none⟩) H47)))
def qaW.b (x0 : Option Addr) (x1 : Int) (x2 : Int) (H : AH) (k : Option Addr → AH → Prop) : Prop :=
 bcase (qlA x0) (qaW.j1 x0 x1 x2 k true H) (bcase (decide ((x1 : Int) < (1 : Int))) (qaW.j1 x0 x1 x2 k true H) (bcase (decide ((x2 : Int) < (0 : Int))) (qaW.j1 x0 x1 x2 k true H) (bcase (decide ((x2 : Int) > (16 : Int))) (qaW.j1 x0 x1 x2 k true H) (qai x0 H fun n26 H26 => qaW.j1 x0 x1 x2 k (((qkM .i64 (n26 - x2)) : Int) != x1) H26))))
theorem qaW.link {x0 : Option Addr} {x1 : Int} {x2 : Int} {H : AH} {k : Option Addr → AH → Prop} (h : qaW.b x0 x1 x2 H k) : qaW x0 x1 x2 H k := lk1 pan hT hm Tryz.func147 (by kernel_rfl) (A := ann0) (by kernel_rfl) (by simp) (by kernel_rfl) h
def qbb.j1 (x0 : Option Addr) (x1 : Int) (x3 : Int) (k : Option Addr → AH → Prop) (p32 : Option Addr) (H37 : AH) (x45 : Bool) : Prop :=
 bcase x45 (k none H37) (newC H37 ⟨[(qkU x0), (qkU p32), (qkL .i64 x1), (qkL .i64 x3), (qkL .i64 (0 : Int))], .rw, 0⟩ fun o51 H51 => k (some ⟨o51, 0, none⟩) H51)
def qbb.j2 (x0 : Option Addr) (x1 : Int) (x2 : Int) (x3 : Int) (k : Option Addr → AH → Prop) (x27 : Bool) (Hj : AH) : Prop :=
 bcase x27 (k none Hj) (qaW x0 (qkM .i64 (x1 + (1 : Int))) x2 Hj fun p32 H32 => bcase (qlA p32) (k none H32) (qN x0 (0 : Int) H32 fun n37a n37b H37 => bcase ((n37b : Int) != (0 : Int)) (qbb.j1 x0 x1 x3 k p32 H37 true) (qbb.j1 x0 x1 x3 k p32 H37 (decide ((n37a : Int) > (1099511627776 : Int))))))
def qbb.b (x0 : Option Addr) (x1 : Int) (x2 : Int) (x3 : Int) (H : AH) (k : Option Addr → AH → Prop) : Prop :=
 bcase (decide ((x1 : Int) < (1 : Int))) (qbb.j2 x0 x1 x2 x3 k true H) (qai x0 H fun n17 H17 => bcase (decide ((x1 : Int) > n17)) (qbb.j2 x0 x1 x2 x3 k true H17) (bcase (decide ((x3 : Int) < (1 : Int))) (qbb.j2 x0 x1 x2 x3 k true H17) (qbb.j2 x0 x1 x2 x3 k (decide ((x3 : Int) > (1000 : Int))) H17)))
theorem qbb.link {x0 : Option Addr} {x1 : Int} {x2 : Int} {x3 : Int} {H : AH} {k : Option Addr → AH → Prop} (h : qbb.b x0 x1 x2 x3 H k) : qbb x0 x1 x2 x3 H k := lk1 pan hT hm Tryz.func121 (by kernel_rfl) (A := ann0) (by kernel_rfl) (by simp) (by kernel_rfl) h
def qbJ.b (x0 : Option Addr) (x1 : List Value) (H : AH) (k : Option Addr → AH → Prop) : Prop :=
 newC H ⟨x1, .rw, 0⟩ fun o3 H3 => ldA H3 ⟨o3, 0, none⟩ 4 fun c6 => elI .i64 (AH.cell? H3 (qkN ⟨o3, 0, none⟩ 1)) fun n9 => elI .i64 (AH.cell? H3 (qkN ⟨o3, 0, none⟩ 2)) fun n11 => qby c6 H3 fun n7 H7 => AH.cell? H7 (qkN ⟨o3, 0, none⟩ 2) = some (qkL .i64 n11) ∧ AH.cell? H7 (qkN ⟨o3, 0, none⟩ 1) = some (qkL .i64 n9) ∧ qbb x0 n7 n9 n11 H7 fun p12 H12 => k p12 H12
def qbJ.ann : Ann := { keep := fun r => match r with  | _ => [], ord := fun r => match r with | 1 => [0, 1, 3, 4, 5, 6, 2, 7, 8] | _ => [] }
theorem qbJ.link {x0 : Option Addr} {x1 : List Value} {H : AH} {k : Option Addr → AH → Prop} (h : qbJ.b x0 x1 H k) : qbJ x0 x1 H k := lk1 pan hT hm Tryz.func73 (by kernel_rfl) (A := qbJ.ann) (by kernel_rfl) (by simp) (by kernel_rfl) h
def qcm.b (x0 : List Value) (H : AH) (k : Int → AH → Prop) : Prop :=
 newC H ⟨x0, .rw, 0⟩ fun o1 H1 => ldA H1 ⟨o1, 0, none⟩ 4 fun c3 => qbm c3 H1 fun b4 H4 => bcase (!b4) (k (0 : Int) H4) (elI .i64 (AH.cell? H4 (qkN ⟨o1, 0, none⟩ 0)) fun n7 => k (qkM .i64 (n7 * (8 : Int))) H4)
theorem qcm.link {x0 : List Value} {H : AH} {k : Int → AH → Prop} (h : qcm.b x0 H k) : qcm x0 H k := lk1 pan hT hm Tryz.func84 (by kernel_rfl) (A := ann0) (by kernel_rfl) (by simp) (by kernel_rfl) h
def qbd.b (x0 : Int) (H : AH) (k : Bool → AH → Prop) : Prop :=
 bcase (decide ((x0 : Int) ≥ (8 : Int))) (bcase (decide ((x0 : Int) ≤ (512 : Int))) (((8 : Int) : Int) ≠ 0 ∧ k (((qlK x0 (8 : Int)) : Int) == (0 : Int)) H) (k false H)) (k false H)
theorem qbd.link {x0 : Int} {H : AH} {k : Bool → AH → Prop} (h : qbd.b x0 H k) : qbd x0 H k := lk1 pan hT hm Tryz.func126 (by kernel_rfl) (A := ann0) (by kernel_rfl) (by simp) (by kernel_rfl) h
def qbk.b (x0 : Int) (H : AH) (k : Bool → AH → Prop) : Prop :=
 bcase (decide ((x0 : Int) ≥ (2 : Int))) (k (decide ((x0 : Int) ≤ (512 : Int))) H) (k false H)
theorem qbk.link {x0 : Int} {H : AH} {k : Bool → AH → Prop} (h : qbk.b x0 H k) : qbk x0 H k := lk1 pan hT hm Tryz.func148 (by kernel_rfl) (A := ann0) (by kernel_rfl) (by simp) (by kernel_rfl) h
def qbM.b (x0 : Int) (x1 : Bool) (H : AH) (k : Int → AH → Prop) : Prop :=
 qbk x0 H fun b7 H7 => bcase (!b7) (k (0 : Int) H7) ((0 : Int) ≤ (1 : Int) ∧ bcase x1 (k (orI .u64 (shlI .u64 (qkM .u64 x0) (1 : Int)) (1 : Int)) H7) (k (shlI .u64 (qkM .u64 x0) (1 : Int)) H7))
theorem qbM.link {x0 : Int} {x1 : Bool} {H : AH} {k : Int → AH → Prop} (h : qbM.b x0 x1 H k) : qbM x0 x1 H k := lk1 pan hT hm Tryz.func127 (by kernel_rfl) (A := ann0) (by kernel_rfl) (by simp) (by kernel_rfl) h
def qca.b (x0 : Int) (H : AH) (k : Sl → AH → Prop) : Prop :=
 qbd x0 H fun b5 H5 => bcase (!b5) (k ⟨none, 0, 0⟩ H5) ((0 ≤ x0 ∧ x0 ≤ x0 ∧ x0 ≤ (lim : Int)) ∧ newC H5 ⟨zerosOf (qkS x0) [(qkL .u64 (0 : Int))], .rw, 1⟩ fun o8 H8 => qbM x0 false H8 fun n11 H11 => (0 ≤ (0 : Int) ∧ (0 : Int) < (((qkS x0) : Nat) : Int)) ∧ stC H11 (qkN ⟨o8, 0, none⟩ (qkS (0 : Int) * 1)) [(qkL .u64 n11)] fun Hs2 => k ⟨(some ⟨o8, 0, none⟩), (qkS x0), 1⟩ Hs2)
theorem qca.link {x0 : Int} {H : AH} {k : Sl → AH → Prop} (h : qca.b x0 H k) : qca x0 H k := lk1 pan hT hm Tryz.func83 (by kernel_rfl) (A := ann0) (by kernel_rfl) (by simp) (by kernel_rfl) h
def qbt.b (x0 : List Value) (x1 : Int) (H : AH) (k : Int → AH → Prop) : Prop :=
 newC H ⟨x0, .rw, 0⟩ fun o2 H2 => ldA H2 ⟨o2, 0, none⟩ 4 fun c5 => qbm c5 H2 fun b6 H6 => bcase (!b6) (k (-1 : Int) H6) (bcase (decide ((x1 : Int) < (0 : Int))) (k (-1 : Int) H6) (elI .i64 (AH.cell? H6 (qkN ⟨o2, 0, none⟩ 0)) fun n15 => bcase (decide ((x1 : Int) ≥ n15)) (k (-1 : Int) H6) (k (qkM .i64 ((16 : Int) + x1)) H6)))
theorem qbt.link {x0 : List Value} {x1 : Int} {H : AH} {k : Int → AH → Prop} (h : qbt.b x0 x1 H k) : qbt x0 x1 H k := lk1 pan hT hm Tryz.func56 (by kernel_rfl) (A := ann0) (by kernel_rfl) (by simp) (by kernel_rfl) h
def qa6.j1 (x0 : Option Addr) (H : AH) (k : Int → AH → Prop) (x5 : Bool) : Prop :=
 bcase x5 (k (1 : Int) H) (onPtr x0 fun a22 => elP (AH.cell? H (qkN a22 0)) fun p24 => qar p24 H fun b25 H25 => bcase b25 (k (2 : Int) H25) (k (0 : Int) H25))
def qa6.b (x0 : Option Addr) (x1 : Int) (H : AH) (k : Int → AH → Prop) : Prop :=
 bcase (qlA x0) (qa6.j1 x0 H k true) (bcase (decide ((x1 : Int) < (0 : Int))) (qa6.j1 x0 H k true) (onPtr x0 fun a15 => elI .i64 (AH.cell? H (qkN a15 2)) fun n17 => qa6.j1 x0 H k (decide ((x1 : Int) ≥ n17))))
theorem qa6.link {x0 : Option Addr} {x1 : Int} {H : AH} {k : Int → AH → Prop} (h : qa6.b x0 x1 H k) : qa6 x0 x1 H k := lk1 pan hT hm Tryz.func128 (by kernel_rfl) (A := ann0) (by kernel_rfl) (by simp) (by kernel_rfl) h
def qbo.b (x0 : Option Addr) (H : AH) (k : Int → AH → Prop) : Prop :=
 bcase (qlA x0) (k (0 : Int) H) (onPtr x0 fun a9 => elP (AH.cell? H (qkN a9 0)) fun p11 => qN p11 (0 : Int) H fun n12a n12b H12 => k (qkM .i64 n12a) H12)
theorem qbo.link {x0 : Option Addr} {H : AH} {k : Int → AH → Prop} (h : qbo.b x0 H k) : qbo x0 H k := lk1 pan hT hm Tryz.func82 (by kernel_rfl) (A := ann0) (by kernel_rfl) (by simp) (by kernel_rfl) h
def gap_may.b (x0 : Int) (x1 : Int) (H : AH) (k : Bool → AH → Prop) : Prop :=
 bcase (decide ((x0 : Int) ≥ (1 : Int))) (bcase (decide ((x0 : Int) ≤ (100000 : Int))) (k (decide ((x1 : Int) ≥ (0 : Int))) H) (k false H)) (k false H)
theorem gap_may.link {x0 : Int} {x1 : Int} {H : AH} {k : Bool → AH → Prop} (h : gap_may.b x0 x1 H k) : gap_may x0 x1 H k := lk1 pan hT hm Tryz.func153 (by kernel_rfl) (A := ann0) (by kernel_rfl) (by simp) (by kernel_rfl) h
def qcl.b (x0 : Int) (x1 : Int) (H : AH) (k : Int → AH → Prop) : Prop :=
 ((qkM .i64 (x0 + (1 : Int))) : Int) ≠ 0 ∧ (x0 : Int) ≠ 0 ∧ k (qlK (qkM .i64 (qlF x1 (qkM .i64 (x0 + (1 : Int))))) x0) H
theorem qcl.link {x0 : Int} {x1 : Int} {H : AH} {k : Int → AH → Prop} (h : qcl.b x0 x1 H k) : qcl x0 x1 H k := lk1 pan hT hm Tryz.func154 (by kernel_rfl) (A := ann0) (by kernel_rfl) (by simp) (by kernel_rfl) h
def gap_Gap.b (x0 : Int) (x1 : Int) (H : AH) (k : Int → AH → Prop) : Prop :=
 gap_may x0 x1 H fun b7 H7 => bcase (!b7) (k (-1 : Int) H7) (((qkM .i64 (x0 + (1 : Int))) : Int) ≠ 0 ∧ k (qkM .i64 (x0 - (qlK x1 (qkM .i64 (x0 + (1 : Int)))))) H7)
theorem gap_Gap.link {x0 : Int} {x1 : Int} {H : AH} {k : Int → AH → Prop} (h : gap_Gap.b x0 x1 H k) : gap_Gap x0 x1 H k := lk1 pan hT hm Tryz.func155 (by kernel_rfl) (A := ann0) (by kernel_rfl) (by simp) (by kernel_rfl) h
def qbO.j1 (x0 : Int) (x1 : Int) (x2 : Int) (k : Int → AH → Prop) (H10 : AH) (x20 : Bool) : Prop :=
 bcase x20 (k (-1 : Int) H10) (qcl x0 x1 H10 fun n24 H24 => (x0 : Int) ≠ 0 ∧ gap_Gap x0 x1 H24 fun n31 H31 => bcase (decide (((qlK (qkM .i64 (x2 + n24)) x0) : Int) ≥ n31)) (k (qkM .i64 ((qlK (qkM .i64 (x2 + n24)) x0) + (1 : Int))) H31) (k (qlK (qkM .i64 (x2 + n24)) x0) H31))
def qbO.b (x0 : Int) (x1 : Int) (x2 : Int) (H : AH) (k : Int → AH → Prop) : Prop :=
 gap_may x0 x1 H fun b10 H10 => bcase (!b10) (qbO.j1 x0 x1 x2 k H10 true) (bcase (decide ((x2 : Int) < (0 : Int))) (qbO.j1 x0 x1 x2 k H10 true) (qbO.j1 x0 x1 x2 k H10 (decide ((x2 : Int) ≥ x0))))
theorem qbO.link {x0 : Int} {x1 : Int} {x2 : Int} {H : AH} {k : Int → AH → Prop} (h : qbO.b x0 x1 x2 H k) : qbO x0 x1 x2 H k := lk1 pan hT hm Tryz.func130 (by kernel_rfl) (A := ann0) (by kernel_rfl) (by simp) (by kernel_rfl) h
def qaL.l1 (x0 : Sl) (x1 : Int) (x2 : Int) (k : Int → AH → Prop) (t4 : Int × Int) (HL4 : AH) (it4 : (Int × Int) → AH → Prop) : Prop :=
 bcase (decide ((t4.2 : Int) ≥ (0 : Int))) ((0 ≤ t4.2 ∧ t4.2 < ((x0.n : Nat) : Int)) ∧ onPtr x0.a fun a24 => elI .u64 (AH.cell? HL4 (qkN a24 (qkS t4.2 * 1))) fun n25 => bcase ((n25 : Int) == (qkM .u64 ((qkM .u64 x2) + (1 : Int)))) (k (qkM .i64 (x1 + t4.2)) HL4) (it4 (t4.1, (qkM .i64 (t4.2 - (1 : Int)))) HL4)) (k x2 HL4)
def qaL.j2 (x0 : Sl) (x1 : Int) (x2 : Int) (H : AH) (k : Int → AH → Prop) (x14 : Bool) : Prop :=
 bcase x14 (k (-1 : Int) H) (loopT (qaL.l1 x0 x1 x2 k) (((0 : Int), (qkM .i64 (((x0.n : Nat) : Int) - (1 : Int)))) : Int × Int) H)
def qaL.b (x0 : Sl) (x1 : Int) (x2 : Int) (H : AH) (k : Int → AH → Prop) : Prop :=
 bcase (decide ((x2 : Int) < (0 : Int))) (qaL.j2 x0 x1 x2 H k true) (qaL.j2 x0 x1 x2 H k (decide ((x2 : Int) ≥ x1)))
def qaL.ann : Ann := { keep := fun r => match r with | 4 => [(6, .int .i64), (7, .int .i64)] | _ => [], ord := fun r => match r with  | _ => [] }
theorem qaL.link {x0 : Sl} {x1 : Int} {x2 : Int} {H : AH} {k : Int → AH → Prop} (h : qaL.b x0 x1 x2 H k) : qaL x0 x1 x2 H k := lk1 pan hT hm Tryz.func175 (by kernel_rfl) (A := qaL.ann) (by kernel_rfl) (by simp) (by kernel_rfl) h
def qaw.j1 (x0 : Option Addr) (x1 : Int) (H : AH) (k : Int → Sl → Int → AH → Prop) (x22 : Bool) : Prop :=
 bcase x22 (k (0 : Int) ⟨none, 0, 0⟩ (1 : Int) H) (qO x0 H fun s25a n25b H25 => onPtr x0 fun a30 => elI .i64 (AH.cell? H25 (qkN a30 1)) fun n32 => qaL s25a n32 x1 H25 fun n34 H34 => k n34 s25a n25b H34)
def qaw.b (x0 : Option Addr) (x1 : Int) (H : AH) (k : Int → Sl → Int → AH → Prop) : Prop :=
 bcase (qlA x0) (qaw.j1 x0 x1 H k true) (bcase (decide ((x1 : Int) < (0 : Int))) (qaw.j1 x0 x1 H k true) (onPtr x0 fun a18 => elI .i64 (AH.cell? H (qkN a18 1)) fun n20 => qaw.j1 x0 x1 H k (decide ((x1 : Int) ≥ n20))))
theorem qaw.link {x0 : Option Addr} {x1 : Int} {H : AH} {k : Int → Sl → Int → AH → Prop} (h : qaw.b x0 x1 H k) : qaw x0 x1 H k := lk3 pan hT hm Tryz.func151 (by kernel_rfl) (A := ann0) (by kernel_rfl) (by simp) (by simp) (by simp) (by kernel_rfl) h
def qbc.b (x0 : Option Addr) (x1 : Int) (H : AH) (k : Bool → AH → Prop) : Prop :=
 bcase (decide ((x1 : Int) ≥ (0 : Int))) (qai x0 H fun n10 H10 => k (decide ((x1 : Int) < n10)) H10) (k false H)
theorem qbc.link {x0 : Option Addr} {x1 : Int} {H : AH} {k : Bool → AH → Prop} (h : qbc.b x0 x1 H k) : qbc x0 x1 H k := lk1 pan hT hm Tryz.func176 (by kernel_rfl) (A := ann0) (by kernel_rfl) (by simp) (by kernel_rfl) h
def qbB.b (x0 : Option Addr) (x1 : Int) (H : AH) (k : List Value → Int → AH → Prop) : Prop :=
 newC H ⟨[(qkL .u64 (0 : Int)), (qkL .u64 (0 : Int)), (qkL .u64 (0 : Int)), (qkL .u64 (0 : Int)), (qkL .u64 (0 : Int)), (qkL .u64 (0 : Int)), (qkL .u64 (0 : Int)), (qkL .u64 (0 : Int))], .rw, 0⟩ fun o4 H4 => qbc x0 x1 H4 fun b9 H9 => bcase (!b9) ((qk0 [(qkL .u64 (0 : Int)), (qkL .u64 (0 : Int)), (qkL .u64 (0 : Int)), (qkL .u64 (0 : Int)), (qkL .u64 (0 : Int)), (qkL .u64 (0 : Int)), (qkL .u64 (0 : Int)), (qkL .u64 (0 : Int))] = 8 ∧ qlq [(qkL .u64 (0 : Int)), (qkL .u64 (0 : Int)), (qkL .u64 (0 : Int)), (qkL .u64 (0 : Int)), (qkL .u64 (0 : Int)), (qkL .u64 (0 : Int)), (qkL .u64 (0 : Int)), (qkL .u64 (0 : Int))] qq = true) ∧ stC H9 ⟨o4, 0, none⟩ [(qkL .u64 (0 : Int)), (qkL .u64 (0 : Int)), (qkL .u64 (0 : Int)), (qkL .u64 (0 : Int)), (qkL .u64 (0 : Int)), (qkL .u64 (0 : Int)), (qkL .u64 (0 : Int)), (qkL .u64 (0 : Int))] fun Hs2 => ldA Hs2 ⟨o4, 0, none⟩ 8 fun r0 => k r0 (1 : Int) Hs2) (onPtr x0 fun a14 => elB (AH.cell? H9 (qkN a14 39)) fun b16 => bcase b16 ((qk0 [(qkL .u64 (0 : Int)), (qkL .u64 (0 : Int)), (qkL .u64 (0 : Int)), (qkL .u64 (0 : Int)), (qkL .u64 (0 : Int)), (qkL .u64 (0 : Int)), (qkL .u64 (0 : Int)), (qkL .u64 (0 : Int))] = 8 ∧ qlq [(qkL .u64 (0 : Int)), (qkL .u64 (0 : Int)), (qkL .u64 (0 : Int)), (qkL .u64 (0 : Int)), (qkL .u64 (0 : Int)), (qkL .u64 (0 : Int)), (qkL .u64 (0 : Int)), (qkL .u64 (0 : Int))] qq = true) ∧ stC H9 ⟨o4, 0, none⟩ [(qkL .u64 (0 : Int)), (qkL .u64 (0 : Int)), (qkL .u64 (0 : Int)), (qkL .u64 (0 : Int)), (qkL .u64 (0 : Int)), (qkL .u64 (0 : Int)), (qkL .u64 (0 : Int)), (qkL .u64 (0 : Int))] fun Hs4 => ldA Hs4 ⟨o4, 0, none⟩ 8 fun r0 => k r0 (2 : Int) Hs4) (onPtr x0 fun a19 => elL (AH.cell? H9 (qkN a19 0)) fun s21 => (0 ≤ x1 ∧ x1 < ((s21.n : Nat) : Int)) ∧ onPtr s21.a fun a23 => ldA H9 (qkN (qkN a23 (qkS x1 * 10)) 0) 8 fun c25 => (qk0 c25 = 8 ∧ qlq c25 qq = true) ∧ stC H9 ⟨o4, 0, none⟩ c25 fun Hs6 => ldA Hs6 ⟨o4, 0, none⟩ 8 fun r0 => k r0 (0 : Int) Hs6))
theorem qbB.link {x0 : Option Addr} {x1 : Int} {H : AH} {k : List Value → Int → AH → Prop} (h : qbB.b x0 x1 H k) : qbB x0 x1 H k := lk2 pan hT hm Tryz.func152 (by kernel_rfl) (A := ann0) (by kernel_rfl) (by simp) (by simp) (by kernel_rfl) h
def qbK.b (x0 : Option Addr) (x1 : Int) (H : AH) (k : List Value → Int → AH → Prop) : Prop :=
 newC H ⟨[(qkL .u64 (0 : Int)), (qkL .u64 (0 : Int)), (qkL .u64 (0 : Int)), (qkL .u64 (0 : Int)), (qkL .u64 (0 : Int)), (qkL .u64 (0 : Int)), (qkL .u64 (0 : Int)), (qkL .u64 (0 : Int))], .rw, 0⟩ fun o4 H4 => qaw x0 x1 H4 fun n12a s12b n12c H12 => bcase ((n12c : Int) != (0 : Int)) ((qk0 [(qkL .u64 (0 : Int)), (qkL .u64 (0 : Int)), (qkL .u64 (0 : Int)), (qkL .u64 (0 : Int)), (qkL .u64 (0 : Int)), (qkL .u64 (0 : Int)), (qkL .u64 (0 : Int)), (qkL .u64 (0 : Int))] = 8 ∧ qlq [(qkL .u64 (0 : Int)), (qkL .u64 (0 : Int)), (qkL .u64 (0 : Int)), (qkL .u64 (0 : Int)), (qkL .u64 (0 : Int)), (qkL .u64 (0 : Int)), (qkL .u64 (0 : Int)), (qkL .u64 (0 : Int))] qq = true) ∧ stC H12 ⟨o4, 0, none⟩ [(qkL .u64 (0 : Int)), (qkL .u64 (0 : Int)), (qkL .u64 (0 : Int)), (qkL .u64 (0 : Int)), (qkL .u64 (0 : Int)), (qkL .u64 (0 : Int)), (qkL .u64 (0 : Int)), (qkL .u64 (0 : Int))] fun Hs2 => ldA Hs2 ⟨o4, 0, none⟩ 8 fun r0 => k r0 n12c Hs2) (onPtr x0 fun a21 => elP (AH.cell? H12 (qkN a21 0)) fun p23 => qbB p23 n12a H12 fun c25a n25b H25 => (qk0 c25a = 8 ∧ qlq c25a qq = true) ∧ stC H25 ⟨o4, 0, none⟩ c25a fun Hs4 => ldA Hs4 ⟨o4, 0, none⟩ 8 fun r0 => k r0 n25b Hs4)
theorem qbK.link {x0 : Option Addr} {x1 : Int} {H : AH} {k : List Value → Int → AH → Prop} (h : qbK.b x0 x1 H k) : qbK x0 x1 H k := lk2 pan hT hm Tryz.func129 (by kernel_rfl) (A := ann0) (by kernel_rfl) (by simp) (by simp) (by kernel_rfl) h
def qa4.b (x0 : Option Addr) (x1 : Int) (H : AH) (k : List Value → Int → AH → Prop) : Prop :=
 newC H ⟨[(qkL .u64 (0 : Int)), (qkL .u64 (0 : Int)), (qkL .u64 (0 : Int)), (qkL .u64 (0 : Int)), (qkL .u64 (0 : Int)), (qkL .u64 (0 : Int)), (qkL .u64 (0 : Int)), (qkL .u64 (0 : Int))], .rw, 0⟩ fun o4 H4 => qa6 x0 x1 H4 fun n9 H9 => bcase ((n9 : Int) != (0 : Int)) ((qk0 [(qkL .u64 (0 : Int)), (qkL .u64 (0 : Int)), (qkL .u64 (0 : Int)), (qkL .u64 (0 : Int)), (qkL .u64 (0 : Int)), (qkL .u64 (0 : Int)), (qkL .u64 (0 : Int)), (qkL .u64 (0 : Int))] = 8 ∧ qlq [(qkL .u64 (0 : Int)), (qkL .u64 (0 : Int)), (qkL .u64 (0 : Int)), (qkL .u64 (0 : Int)), (qkL .u64 (0 : Int)), (qkL .u64 (0 : Int)), (qkL .u64 (0 : Int)), (qkL .u64 (0 : Int))] qq = true) ∧ stC H9 ⟨o4, 0, none⟩ [(qkL .u64 (0 : Int)), (qkL .u64 (0 : Int)), (qkL .u64 (0 : Int)), (qkL .u64 (0 : Int)), (qkL .u64 (0 : Int)), (qkL .u64 (0 : Int)), (qkL .u64 (0 : Int)), (qkL .u64 (0 : Int))] fun Hs2 => ldA Hs2 ⟨o4, 0, none⟩ 8 fun r0 => k r0 n9 Hs2) (onPtr x0 fun a15 => elP (AH.cell? H9 (qkN a15 1)) fun p17 => onPtr x0 fun a19 => elI .i64 (AH.cell? H9 (qkN a19 2)) fun n21 => qbo x0 H9 fun n23 H23 => AH.cell? H23 (qkN a19 2) = some (qkL .i64 n21) ∧ AH.cell? H23 (qkN a15 1) = some (qkU p17) ∧ qbO n21 n23 x1 H23 fun n25 H25 => AH.cell? H25 (qkN a15 1) = some (qkU p17) ∧ qbK p17 n25 H25 fun c26a n26b H26 => (qk0 c26a = 8 ∧ qlq c26a qq = true) ∧ stC H26 ⟨o4, 0, none⟩ c26a fun Hs4 => ldA Hs4 ⟨o4, 0, none⟩ 8 fun r0 => k r0 n26b Hs4)
def qa4.ann : Ann := { keep := fun r => match r with  | _ => [], ord := fun r => match r with | 4 => [0, 1, 2, 3, 4, 5, 6, 7, 8, 10, 9, 11, 12, 13, 14, 15, 16] | _ => [] }
theorem qa4.link {x0 : Option Addr} {x1 : Int} {H : AH} {k : List Value → Int → AH → Prop} (h : qa4.b x0 x1 H k) : qa4 x0 x1 H k := lk2 pan hT hm Tryz.func85 (by kernel_rfl) (A := qa4.ann) (by kernel_rfl) (by simp) (by simp) (by kernel_rfl) h
def qbi.b (x0 : Sl) (x1 : Int) (H : AH) (k : List Value → AH → Prop) : Prop :=
 newC H ⟨[(qkL .u64 (0 : Int)), (qkL .u64 (0 : Int)), (qkL .u64 (0 : Int)), (qkL .u64 (0 : Int)), (qkL .u64 (0 : Int)), (qkL .u64 (0 : Int)), (qkL .u64 (0 : Int)), (qkL .u64 (0 : Int))], .rw, 0⟩ fun o4 H4 => newC H4 ⟨[(qkL .u64 (0 : Int)), (qkL .u64 (0 : Int)), (qkL .u64 (0 : Int)), (qkL .u64 (0 : Int)), (qkL .u64 (0 : Int)), (qkL .u64 (0 : Int)), (qkL .u64 (0 : Int)), (qkL .u64 (0 : Int))], .rw, 0⟩ fun o5 H5 => (0 ≤ (qkM .i64 (x1 * (8 : Int))) ∧ (qkM .i64 (x1 * (8 : Int))) ≤ ((x0.n : Nat) : Int)) ∧ copyC 1 H5 ⟨(some ⟨o5, 0, none⟩), 8, 0⟩ ⟨(Option.map (fun x => qkN x (qkS (qkM .i64 (x1 * (8 : Int))) * 1)) x0.a), (x0.n - qkS (qkM .i64 (x1 * (8 : Int)))), 0⟩ fun n11 H11 => ldA H11 ⟨o5, 0, none⟩ 8 fun c12 => (qk0 c12 = 8 ∧ qlq c12 qq = true) ∧ stC H11 ⟨o4, 0, none⟩ c12 fun Hs2 => ldA Hs2 ⟨o4, 0, none⟩ 8 fun r0 => k r0 Hs2
def qbi.ann : Ann := { keep := fun r => match r with  | _ => [], ord := fun r => match r with | 2 => [0, 1, 2, 3, 4, 5] | _ => [] }
theorem qbi.link {x0 : Sl} {x1 : Int} {H : AH} {k : List Value → AH → Prop} (h : qbi.b x0 x1 H k) : qbi x0 x1 H k := lk1 pan hT hm Tryz.func86 (by kernel_rfl) (A := qbi.ann) (by kernel_rfl) (by simp) (by kernel_rfl) h
def qcH.b (x0 : Int) (x1 : Int) (H : AH) (k : Int → Int → AH → Prop) : Prop :=
 gap_Gap x0 x1 H fun n8 H8 => bcase ((n8 : Int) == (-1 : Int)) (k (-1 : Int) (-1 : Int) H8) (bcase ((n8 : Int) == (0 : Int)) (k x0 (0 : Int) H8) (k (qkM .i64 (n8 - (1 : Int))) n8 H8))
theorem qcH.link {x0 : Int} {x1 : Int} {H : AH} {k : Int → Int → AH → Prop} (h : qcH.b x0 x1 H k) : qcH x0 x1 H k := lk2 pan hT hm Tryz.func156 (by kernel_rfl) (A := ann0) (by kernel_rfl) (by simp) (by simp) (by kernel_rfl) h
def qaV.b (x0 : Option Addr) (H : AH) (k : Int → AH → Prop) : Prop :=
 onPtr x0 fun a4 => elI .i64 (AH.cell? H (qkN a4 36)) fun n6 => onPtr x0 fun a8 => stC H (qkN a8 36) [(qkL .i64 (qkM .i64 (n6 + (1 : Int))))] fun Hs2 => onPtr x0 fun a12 => elI .i64 (AH.cell? Hs2 (qkN a12 37)) fun n14 => bcase ((n14 : Int) == (0 : Int)) (onPtr x0 fun a17 => stC Hs2 (qkN a17 39) [(qln true)] fun Hs4 => onPtr x0 fun a20 => elI .i64 (AH.cell? Hs4 (qkN a20 38)) fun n22 => k n22 Hs4) (onPtr x0 fun a25 => elI .i64 (AH.cell? Hs2 (qkN a25 37)) fun n27 => bcase (decide ((n27 : Int) > (0 : Int))) (onPtr x0 fun a30 => elI .i64 (AH.cell? Hs2 (qkN a30 37)) fun n32 => onPtr x0 fun a34 => stC Hs2 (qkN a34 37) [(qkL .i64 (qkM .i64 (n32 - (1 : Int))))] fun Hs6 => k (-1 : Int) Hs6) (k (-1 : Int) Hs2))
theorem qaV.link {x0 : Option Addr} {H : AH} {k : Int → AH → Prop} (h : qaV.b x0 H k) : qaV x0 H k := lk1 pan hT hm Tryz.func91 (by kernel_rfl) (A := ann0) (by kernel_rfl) (by simp) (by kernel_rfl) h
def qbF.j1 (k : List Value → AH → Prop) (o3 : Nat) (o6 : Nat) (HL2 : AH) : Prop :=
 ldA HL2 ⟨o3, 0, none⟩ 8 fun c23 => (qk0 c23 = 8 ∧ qlq c23 qq = true) ∧ stC HL2 ⟨o6, 0, none⟩ c23 fun Hs2 => ldA Hs2 ⟨o6, 0, none⟩ 8 fun r0 => k r0 Hs2
def qbF.l2 (x2 : Int) (k : List Value → AH → Prop) (o3 : Nat) (o6 : Nat) (c9 : List Value) (t2 : Int) (HL2 : AH) (it2 : (Int) → AH → Prop) : Prop :=
 bcase (decide ((t2 : Int) < (8 : Int))) ((0 ≤ t2 ∧ t2 < ((8 : Nat) : Int)) ∧ elI .u64 ((c9)[(qkS t2 * 1)]?) fun n13 => (0 : Int) ≤ t2 ∧ bcase (((andI .i64 (shrI .i64 x2 t2) (1 : Int)) : Int) == (1 : Int)) ((0 ≤ t2 ∧ t2 < ((8 : Nat) : Int)) ∧ stC HL2 (qkN ⟨o3, 0, none⟩ (qkS t2 * 1)) [(qkL .u64 n13)] fun Hs4 => it2 (qkM .i64 (t2 + (1 : Int))) Hs4) (it2 (qkM .i64 (t2 + (1 : Int))) HL2)) (qbF.j1 k o3 o6 HL2)
def qbF.b (x0 : List Value) (x1 : List Value) (x2 : Int) (H : AH) (k : List Value → AH → Prop) : Prop :=
 newC H ⟨x0, .rw, 0⟩ fun o3 H3 => newC H3 ⟨x1, .rw, 0⟩ fun o4 H4 => newC H4 ⟨[(qkL .u64 (0 : Int)), (qkL .u64 (0 : Int)), (qkL .u64 (0 : Int)), (qkL .u64 (0 : Int)), (qkL .u64 (0 : Int)), (qkL .u64 (0 : Int)), (qkL .u64 (0 : Int)), (qkL .u64 (0 : Int))], .rw, 0⟩ fun o6 H6 => ldA H6 ⟨o4, 0, none⟩ 8 fun c9 => loopT (qbF.l2 x2 k o3 o6 c9) (((0 : Int)) : Int) H6
def qbF.ann : Ann := { keep := fun r => match r with | 2 => [(10, .int .i64)] | _ => [], ord := fun r => match r with  | _ => [] }
theorem qbF.link {x0 : List Value} {x1 : List Value} {x2 : Int} {H : AH} {k : List Value → AH → Prop} (h : qbF.b x0 x1 x2 H k) : qbF x0 x1 x2 H k := lk1 pan hT hm Tryz.func177 (by kernel_rfl) (A := qbF.ann) (by kernel_rfl) (by simp) (by kernel_rfl) h
def qaM.b (x0 : Option Addr) (x1 : Bool) (H : AH) (k : Int → AH → Prop) : Prop :=
 onPtr x0 fun a7 => elB (AH.cell? H (qkN a7 39)) fun b9 => bcase b9 (k (2 : Int) H) (bcase x1 (k (3 : Int) H) (k (0 : Int) H))
theorem qaM.link {x0 : Option Addr} {x1 : Bool} {H : AH} {k : Int → AH → Prop} (h : qaM.b x0 x1 H k) : qaM x0 x1 H k := lk1 pan hT hm Tryz.func92 (by kernel_rfl) (A := ann0) (by kernel_rfl) (by simp) (by kernel_rfl) h
def qW.j1 (x0 : Option Addr) (k : Int → AH → Prop) (x9 : Bool) (Hj : AH) : Prop :=
 qaM x0 x9 Hj fun n65 H65 => k n65 H65
def qW.j2 (x0 : Option Addr) (x1 : Int) (k : Int → AH → Prop) (o5 : Nat) (H21 : AH) (n21 : Int) (a27 : Addr) (x9 : Bool) : Prop :=
 bcase (!x9) (ldA H21 (qkN (qkN a27 (qkS x1 * 10)) 0) 8 fun c50 => ldA H21 ⟨o5, 0, none⟩ 8 fun c51 => qbF c50 c51 n21 H21 fun c53 H53 => (qk0 c53 = 8 ∧ qlq c53 qq = true) ∧ stC H53 (qkN (qkN a27 (qkS x1 * 10)) 0) c53 fun Hs2 => elI .i64 (AH.cell? Hs2 (qkN (qkN a27 (qkS x1 * 10)) 8)) fun n59 => stC Hs2 (qkN (qkN a27 (qkS x1 * 10)) 8) [(qkL .i64 (qkM .i64 (n59 + (1 : Int))))] fun Hs4 => qW.j1 x0 k x9 Hs4) (qW.j1 x0 k x9 H21)
def qW.b (x0 : Option Addr) (x1 : Int) (x2 : List Value) (H : AH) (k : Int → AH → Prop) : Prop :=
 newC H ⟨x2, .rw, 0⟩ fun o5 H5 => qbc x0 x1 H5 fun b13 H13 => bcase (!b13) (k (1 : Int) H13) (onPtr x0 fun a17 => elB (AH.cell? H13 (qkN a17 39)) fun b19 => bcase b19 (k (2 : Int) H13) (qaV x0 H13 fun n21 H21 => onPtr x0 fun a23 => elL (AH.cell? H21 (qkN a23 0)) fun s25 => (0 ≤ x1 ∧ x1 < ((s25.n : Nat) : Int)) ∧ onPtr s25.a fun a27 => elI .i64 (AH.cell? H21 (qkN (qkN a27 (qkS x1 * 10)) 9)) fun n31 => bcase (decide ((n31 : Int) ≥ (0 : Int))) (elI .i64 (AH.cell? H21 (qkN (qkN a27 (qkS x1 * 10)) 8)) fun n37 => elI .i64 (AH.cell? H21 (qkN (qkN a27 (qkS x1 * 10)) 9)) fun n41 => qW.j2 x0 x1 k o5 H21 n21 a27 (decide ((n37 : Int) ≥ n41))) (qW.j2 x0 x1 k o5 H21 n21 a27 false)))
def qW.ann : Ann := { keep := fun r => match r with  | _ => [], ord := fun r => match r with | 7 => [0, 1, 2, 3, 4, 5, 6, 7, 8, 9, 10, 11, 12, 13, 14, 15, 16] | 9 => [0, 1, 2, 3, 4, 5, 6, 7, 8, 9, 10] | _ => [] }
theorem qW.link {x0 : Option Addr} {x1 : Int} {x2 : List Value} {H : AH} {k : Int → AH → Prop} (h : qW.b x0 x1 x2 H k) : qW x0 x1 x2 H k := lk1 pan hT hm Tryz.func157 (by kernel_rfl) (A := qW.ann) (by kernel_rfl) (by simp) (by kernel_rfl) h
def qbv.l1 (x0 : Sl) (k : Int → AH → Prop) (t2 : Int × Int) (HL2 : AH) (it2 : (Int × Int) → AH → Prop) : Prop :=
 bcase (decide ((t2.2 : Int) < ((x0.n : Nat) : Int))) ((0 ≤ t2.2 ∧ t2.2 < ((x0.n : Nat) : Int)) ∧ onPtr x0.a fun a10 => elI .u64 (AH.cell? HL2 (qkN a10 (qkS t2.2 * 1))) fun n11 => bcase ((n11 : Int) == (0 : Int)) (k t2.2 HL2) (it2 (t2.1, (qkM .i64 (t2.2 + (1 : Int)))) HL2)) (k (-1 : Int) HL2)
def qbv.b (x0 : Sl) (H : AH) (k : Int → AH → Prop) : Prop :=
 loopT (qbv.l1 x0 k) (((0 : Int), (0 : Int)) : Int × Int) H
def qbv.ann : Ann := { keep := fun r => match r with | 2 => [(2, .int .i64), (7, .int .i64)] | _ => [], ord := fun r => match r with  | _ => [] }
theorem qbv.link {x0 : Sl} {H : AH} {k : Int → AH → Prop} (h : qbv.b x0 H k) : qbv x0 H k := lk1 pan hT hm Tryz.func158 (by kernel_rfl) (A := qbv.ann) (by kernel_rfl) (by simp) (by kernel_rfl) h
def qI.j1 (x0 : Option Addr) (k : Int → AH → Prop) (Hj : AH) : Prop :=
 qaM x0 false Hj fun n28 H28 => k n28 H28
def qI.b (x0 : Option Addr) (x1 : Int) (x2 : Int) (H : AH) (k : Int → AH → Prop) : Prop :=
 qaO x0 x1 H fun b10 H10 => bcase (!b10) (k (1 : Int) H10) (onPtr x0 fun a14 => elB (AH.cell? H10 (qkN a14 39)) fun b16 => bcase b16 (k (2 : Int) H10) (qaV x0 H10 fun n18 H18 => bcase (((andI .i64 n18 (1 : Int)) : Int) == (1 : Int)) (onPtr x0 fun a24 => (0 ≤ x1 ∧ x1 < ((35 : Nat) : Int)) ∧ stC H18 (qkN (qkN a24 1) (qkS x1 * 1)) [(qkL .u64 x2)] fun Hs2 => qI.j1 x0 k Hs2) (qI.j1 x0 k H18)))
theorem qI.link {x0 : Option Addr} {x1 : Int} {x2 : Int} {H : AH} {k : Int → AH → Prop} (h : qI.b x0 x1 x2 H k) : qI x0 x1 x2 H k := lk1 pan hT hm Tryz.func41 (by kernel_rfl) (A := ann0) (by kernel_rfl) (by simp) (by kernel_rfl) h
def qaE.l1 (x0 : Option Addr) (x1 : Int) (k : Int → AH → Prop) (o5 : Nat) (t11 : Int × Int) (HL11 : AH) (it11 : (Int × Int) → AH → Prop) : Prop :=
 onPtr x0 fun a43 => elI .i64 (AH.cell? HL11 (qkN a43 2)) fun n45 => bcase (decide ((t11.2 : Int) < n45)) (onPtr x0 fun a53 => elP (AH.cell? HL11 (qkN a53 0)) fun p55 => onPtr x0 fun a57 => elI .i64 (AH.cell? HL11 (qkN a57 1)) fun n59 => ldA HL11 ⟨o5, 0, none⟩ 8 fun c62 => qW p55 (qkM .i64 (n59 + t11.2)) c62 HL11 fun n63 H63 => bcase ((n63 : Int) == (0 : Int)) (onPtr x0 fun a69 => elP (AH.cell? H63 (qkN a69 0)) fun p71 => qI p71 (qkM .i64 ((3 : Int) + t11.2)) (qkM .u64 ((qkM .u64 x1) + (1 : Int))) H63 fun n75 H75 => k n75 H75) (bcase ((n63 : Int) == (3 : Int)) (onPtr x0 fun a79 => elI .i64 (AH.cell? H63 (qkN a79 1)) fun n81 => qb3 n81 H63 fun n82 H82 => onPtr x0 fun a84 => elP (AH.cell? H82 (qkN a84 0)) fun p86 => qI p86 (qkM .i64 ((3 : Int) + t11.2)) n82 H82 fun n90 H90 => bcase ((n90 : Int) != (0 : Int)) (k n90 H90) (it11 (t11.1, (qkM .i64 (t11.2 + (1 : Int)))) H90)) (k n63 H63))) (k (3 : Int) HL11)
def qaE.b (x0 : Option Addr) (x1 : Int) (x2 : List Value) (H : AH) (k : Int → AH → Prop) : Prop :=
 newC H ⟨x2, .rw, 0⟩ fun o5 H5 => qaw x0 x1 H5 fun n19a s19b n19c H19 => bcase ((n19c : Int) != (0 : Int)) (k n19c H19) (onPtr x0 fun a27 => elP (AH.cell? H19 (qkN a27 0)) fun p29 => ldA H19 ⟨o5, 0, none⟩ 8 fun c31 => qW p29 n19a c31 H19 fun n32 H32 => bcase ((n32 : Int) != (3 : Int)) (k n32 H32) (qbv s19b H32 fun n37 H37 => bcase (decide ((n37 : Int) < (0 : Int))) (k (3 : Int) H37) (loopT (qaE.l1 x0 x1 k o5) (((0 : Int), n37) : Int × Int) H37)))
def qaE.ann : Ann := { keep := fun r => match r with | 11 => [(6, .int .i64), (12, .int .i64)] | _ => [], ord := fun r => match r with | 4 => [0, 1, 2, 3, 4, 5, 6, 7] | 14 => [0, 1, 2, 3, 4, 5, 6, 7, 8, 9, 10, 11, 12] | _ => [] }
theorem qaE.link {x0 : Option Addr} {x1 : Int} {x2 : List Value} {H : AH} {k : Int → AH → Prop} (h : qaE.b x0 x1 x2 H k) : qaE x0 x1 x2 H k := lk1 pan hT hm Tryz.func132 (by kernel_rfl) (A := qaE.ann) (by kernel_rfl) (by simp) (by kernel_rfl) h
def qbD.b (x0 : Option Addr) (H : AH) (k : Int → AH → Prop) : Prop :=
 qbo x0 H fun n10 H10 => onPtr x0 fun a13 => elI .i64 (AH.cell? H10 (qkN a13 2)) fun n15 => qcH n15 n10 H10 fun n17a n17b H17 => onPtr x0 fun a22 => elP (AH.cell? H17 (qkN a22 1)) fun p24 => qbK p24 n17a H17 fun c26a n26b H26 => newC H26 ⟨[(qkL .u64 (0 : Int)), (qkL .u64 (0 : Int)), (qkL .u64 (0 : Int)), (qkL .u64 (0 : Int)), (qkL .u64 (0 : Int)), (qkL .u64 (0 : Int)), (qkL .u64 (0 : Int)), (qkL .u64 (0 : Int))], .rw, 0⟩ fun o6 H6 => (qk0 c26a = 8 ∧ qlq c26a qq = true) ∧ stC H6 ⟨o6, 0, none⟩ c26a fun Hs2 => bcase ((n26b : Int) != (0 : Int)) (k n26b Hs2) (onPtr x0 fun a33 => elP (AH.cell? Hs2 (qkN a33 1)) fun p35 => ldA Hs2 ⟨o6, 0, none⟩ 8 fun c37 => qaE p35 n17b c37 Hs2 fun n38 H38 => bcase ((n38 : Int) != (0 : Int)) (k n38 H38) (onPtr x0 fun a43 => elP (AH.cell? H38 (qkN a43 0)) fun p45 => qI p45 (0 : Int) (qkM .u64 ((qkM .u64 n10) + (1 : Int))) H38 fun n49 H49 => k n49 H49))
def qbD.ann : Ann := { keep := fun r => match r with  | _ => [], ord := fun r => match r with | 6 => [0, 1, 2, 3, 4, 5, 6, 7] | _ => [] }
theorem qbD.link {x0 : Option Addr} {H : AH} {k : Int → AH → Prop} (h : qbD.b x0 H k) : qbD x0 H k := lk1 pan hT hm Tryz.func131 (by kernel_rfl) (A := qbD.ann) (by kernel_rfl) (by simp) (by kernel_rfl) h
def qaJ.j1 (x0 : Option Addr) (x1 : Int) (k : Int → AH → Prop) (o5 : Nat) (Hj : AH) : Prop :=
 onPtr x0 fun a40 => elP (AH.cell? Hj (qkN a40 1)) fun p42 => onPtr x0 fun a44 => elI .i64 (AH.cell? Hj (qkN a44 2)) fun n46 => ldA Hj ⟨o5, 0, none⟩ 8 fun c51 => qbo x0 Hj fun n48 H48 => AH.row? H48 ⟨o5, 0, none⟩ 8 = some c51 ∧ AH.cell? H48 (qkN a44 2) = some (qkL .i64 n46) ∧ AH.cell? H48 (qkN a40 1) = some (qkU p42) ∧ qbO n46 n48 x1 H48 fun n50 H50 => AH.row? H50 ⟨o5, 0, none⟩ 8 = some c51 ∧ AH.cell? H50 (qkN a40 1) = some (qkU p42) ∧ qaE p42 n50 c51 H50 fun n52 H52 => k n52 H52
def qaJ.b (x0 : Option Addr) (x1 : Int) (x2 : List Value) (H : AH) (k : Int → AH → Prop) : Prop :=
 newC H ⟨x2, .rw, 0⟩ fun o5 H5 => qa6 x0 x1 H5 fun n11 H11 => bcase ((n11 : Int) != (0 : Int)) (k n11 H11) (onPtr x0 fun a16 => elI .i64 (AH.cell? H11 (qkN a16 4)) fun n18 => onPtr x0 fun a20 => stC H11 (qkN a20 4) [(qkL .i64 (qkM .i64 (n18 + (1 : Int))))] fun Hs2 => onPtr x0 fun a23 => elI .i64 (AH.cell? Hs2 (qkN a23 4)) fun n25 => onPtr x0 fun a27 => elI .i64 (AH.cell? Hs2 (qkN a27 3)) fun n29 => bcase ((n25 : Int) == n29) (onPtr x0 fun a32 => stC Hs2 (qkN a32 4) [(qkL .i64 (0 : Int))] fun Hs4 => qbD x0 Hs4 fun n35 H35 => bcase ((n35 : Int) != (0 : Int)) (k n35 H35) (qaJ.j1 x0 x1 k o5 H35)) (qaJ.j1 x0 x1 k o5 Hs2))
def qaJ.ann : Ann := { keep := fun r => match r with  | _ => [], ord := fun r => match r with | 5 => [0, 1, 2, 3, 4, 5, 6, 7, 8] | 10 => [0, 1, 2, 3, 4, 5, 6, 7, 8, 10, 12, 9, 11, 13, 14] | _ => [] }
theorem qaJ.link {x0 : Option Addr} {x1 : Int} {x2 : List Value} {H : AH} {k : Int → AH → Prop} (h : qaJ.b x0 x1 x2 H k) : qaJ x0 x1 x2 H k := lk1 pan hT hm Tryz.func87 (by kernel_rfl) (A := qaJ.ann) (by kernel_rfl) (by simp) (by kernel_rfl) h
def qQ.j1 (k : Int → AH → Prop) (t14 : Int × Int) (it14 : (Int × Int) → AH → Prop) (x13 : Int) (Hj : AH) : Prop :=
 bcase ((x13 : Int) != (0 : Int)) (k x13 Hj) (it14 (t14.1, (qkM .i64 (t14.2 + (1 : Int)))) Hj)
def qQ.j2 (k : Int → AH → Prop) (o3 : Nat) (p34 : Option Addr) (s37 : Sl) (t14 : Int × Int) (it14 : (Int × Int) → AH → Prop) (n48b : Int) (x59 : Bool) (Hj : AH) : Prop :=
 bcase x59 (ldA Hj ⟨o3, 0, none⟩ 4 fun c61 => qbt c61 t14.2 Hj fun n63 H63 => qbi s37 t14.2 H63 fun c66 H66 => qaJ p34 n63 c66 H66 fun n67 H67 => qQ.j1 k t14 it14 n67 H67) (qQ.j1 k t14 it14 n48b Hj)
def qQ.l3 (k : Int → AH → Prop) (o3 : Nat) (p34 : Option Addr) (s37 : Sl) (n39 : Int) (t14 : Int × Int) (HL14 : AH) (it14 : (Int × Int) → AH → Prop) : Prop :=
 bcase (decide ((t14.2 : Int) < n39)) (ldA HL14 ⟨o3, 0, none⟩ 4 fun c45 => qbt c45 t14.2 HL14 fun n47 H47 => qa4 p34 n47 H47 fun c48a n48b H48 => newC H48 ⟨[(qkL .u64 (0 : Int)), (qkL .u64 (0 : Int)), (qkL .u64 (0 : Int)), (qkL .u64 (0 : Int)), (qkL .u64 (0 : Int)), (qkL .u64 (0 : Int)), (qkL .u64 (0 : Int)), (qkL .u64 (0 : Int))], .rw, 0⟩ fun o12 H12 => (qk0 c48a = 8 ∧ qlq c48a qq = true) ∧ stC H12 ⟨o12, 0, none⟩ c48a fun Hs2 => bcase ((n48b : Int) == (0 : Int)) (ldA Hs2 ⟨o12, 0, none⟩ 8 fun c54 => qbi s37 t14.2 Hs2 fun c57 H57 => AH.row? H57 ⟨o12, 0, none⟩ 8 = some c54 ∧ elO (eqCells (List.replicate 8 (K.int .u64)) c54 c57) fun e58 => qQ.j2 k o3 p34 s37 t14 it14 n48b (!e58) H57) (qQ.j2 k o3 p34 s37 t14 it14 n48b false Hs2)) (k (0 : Int) HL14)
def qQ.j4 (x0 : Option Addr) (k : Int → AH → Prop) (o3 : Nat) (t5 : Int × Int) (HL5 : AH) : Prop :=
 ldA HL5 ⟨o3, 0, none⟩ 4 fun c33 => qbJ x0 c33 HL5 fun p34 H34 => ldA H34 ⟨o3, 0, none⟩ 4 fun c35 => qcm c35 H34 fun n36 H36 => qca n36 H36 fun s37 H37 => elI .i64 (AH.cell? H37 (qkN ⟨o3, 0, none⟩ 0)) fun n39 => loopT (qQ.l3 k o3 p34 s37 n39) ((t5.1, (0 : Int)) : Int × Int) H37
def qQ.l5 (x0 : Option Addr) (k : Int → AH → Prop) (o3 : Nat) (t5 : Int × Int) (HL5 : AH) (it5 : (Int × Int) → AH → Prop) : Prop :=
 bcase (decide ((t5.2 : Int) < (35 : Int))) (qN x0 t5.2 HL5 fun n26a n26b H26 => bcase ((n26a : Int) != (0 : Int)) (k (5 : Int) H26) (it5 (t5.1, (qkM .i64 (t5.2 + (1 : Int)))) H26)) (qQ.j4 x0 k o3 t5 HL5)
def qQ.b (x0 : Option Addr) (x1 : List Value) (H : AH) (k : Int → AH → Prop) : Prop :=
 newC H ⟨x1, .rw, 0⟩ fun o3 H3 => ldA H3 ⟨o3, 0, none⟩ 4 fun c15 => qbH x0 c15 H3 fun n16 H16 => bcase ((n16 : Int) != (0 : Int)) (k n16 H16) (loopT (qQ.l5 x0 k o3) (((0 : Int), (0 : Int)) : Int × Int) H16)
def qQ.ann : Ann := { keep := fun r => match r with | 5 => [(4, .int .i64), (20, .int .i64)] | 14 => [(4, .int .i64), (40, .int .i64)] | _ => [], ord := fun r => match r with | 17 => [0, 1, 2, 3, 4, 5, 6, 7, 8] | _ => [] }
theorem qQ.link {x0 : Option Addr} {x1 : List Value} {H : AH} {k : Int → AH → Prop} (h : qQ.b x0 x1 H k) : qQ x0 x1 H k := lk1 pan hT hm Tryz.func30 (by kernel_rfl) (A := qQ.ann) (by kernel_rfl) (by simp) (by kernel_rfl) h
def qaT.b (x0 : Option Addr) (H : AH) (k : Int → AH → Prop) : Prop :=
 bcase (qlA x0) (k (0 : Int) H) (onPtr x0 fun a6 => elI .i64 (AH.cell? H (qkN a6 2)) fun n8 => k n8 H)
theorem qaT.link {x0 : Option Addr} {H : AH} {k : Int → AH → Prop} (h : qaT.b x0 H k) : qaT x0 H k := lk1 pan hT hm Tryz.func105 (by kernel_rfl) (A := ann0) (by kernel_rfl) (by simp) (by kernel_rfl) h
def log_New.j1 (x0 : Option Addr) (x1 : Option Addr) (k : Option Addr → AH → Prop) (x15 : Bool) (Hj : AH) : Prop :=
 bcase x15 (k none Hj) (newC Hj ⟨[(qkU x0), (qkU x1)], .rw, 0⟩ fun o19 H19 => k (some ⟨o19, 0, none⟩) H19)
def log_New.b (x0 : Option Addr) (x1 : Option Addr) (H : AH) (k : Option Addr → AH → Prop) : Prop :=
 bcase (qlA x0) (log_New.j1 x0 x1 k true H) (bcase (qlA x1) (log_New.j1 x0 x1 k true H) (qaT x1 H fun n13 H13 => log_New.j1 x0 x1 k (decide ((n13 : Int) ≤ (16 : Int))) H13))
theorem log_New.link {x0 : Option Addr} {x1 : Option Addr} {H : AH} {k : Option Addr → AH → Prop} (h : log_New.b x0 x1 H k) : log_New x0 x1 H k := lk1 pan hT hm Tryz.func74 (by kernel_rfl) (A := ann0) (by kernel_rfl) (by simp) (by kernel_rfl) h
def qcg.b (x0 : Int) (H : AH) (k : Int → AH → Prop) : Prop :=
 ((8 : Int) : Int) ≠ 0 ∧ k (qkM .i64 (qlF (qkM .i64 ((qkM .i64 (x0 + (8 : Int))) - (1 : Int))) (8 : Int))) H
theorem qcg.link {x0 : Int} {H : AH} {k : Int → AH → Prop} (h : qcg.b x0 H k) : qcg x0 H k := lk1 pan hT hm Tryz.func145 (by kernel_rfl) (A := ann0) (by kernel_rfl) (by simp) (by kernel_rfl) h
def qau.j1 (t8 : Sl × Int × Sl × Int) (it8 : (Sl × Int × Sl × Int) → AH → Prop) (o10 : Nat) (H71 : AH) (x11 : Int) : Prop :=
 ldA H71 ⟨o10, 0, none⟩ 8 fun c78 => (qk0 c78 = 8) ∧ (qk0 (setMany [(qkL .i64 x11), (qkL .u64 (0 : Int)), (qkL .u64 (0 : Int)), (qkL .u64 (0 : Int)), (qkL .u64 (0 : Int)), (qkL .u64 (0 : Int)), (qkL .u64 (0 : Int)), (qkL .u64 (0 : Int)), (qkL .u64 (0 : Int))] 1 c78) = 9) ∧ newC H71 ⟨(setMany [(qkL .i64 (0 : Int)), (qkL .u64 (0 : Int)), (qkL .u64 (0 : Int)), (qkL .u64 (0 : Int)), (qkL .u64 (0 : Int)), (qkL .u64 (0 : Int)), (qkL .u64 (0 : Int)), (qkL .u64 (0 : Int)), (qkL .u64 (0 : Int))] 0 (setMany [(qkL .i64 x11), (qkL .u64 (0 : Int)), (qkL .u64 (0 : Int)), (qkL .u64 (0 : Int)), (qkL .u64 (0 : Int)), (qkL .u64 (0 : Int)), (qkL .u64 (0 : Int)), (qkL .u64 (0 : Int)), (qkL .u64 (0 : Int))] 1 c78)), .rw, 9⟩ fun o80 H80 => appendC 9 H80 t8.2.2.1 ⟨(some ⟨o80, 0, none⟩), 1, 1⟩ fun s81 H81 => it8 (t8.1, t8.2.1, s81, (qkM .i64 (t8.2.2.2 + (1 : Int)))) H81
def qau.l2 (x0 : Option Addr) (k : Sl → Int → AH → Prop) (n18a : Int) (t8 : Sl × Int × Sl × Int) (HL8 : AH) (it8 : (Sl × Int × Sl × Int) → AH → Prop) : Prop :=
 bcase (decide ((t8.2.2.2 : Int) < (qkM .i64 n18a))) (onPtr x0 fun a35 => elP (AH.cell? HL8 (qkN a35 1)) fun p37 => ((8 : Int) : Int) ≠ 0 ∧ qa4 p37 (qkM .i64 (qlF t8.2.2.2 (8 : Int))) HL8 fun c40a n40b H40 => newC H40 ⟨[(qkL .u64 (0 : Int)), (qkL .u64 (0 : Int)), (qkL .u64 (0 : Int)), (qkL .u64 (0 : Int)), (qkL .u64 (0 : Int)), (qkL .u64 (0 : Int)), (qkL .u64 (0 : Int)), (qkL .u64 (0 : Int))], .rw, 0⟩ fun o8 H8 => (qk0 c40a = 8 ∧ qlq c40a qq = true) ∧ stC H8 ⟨o8, 0, none⟩ c40a fun Hs2 => bcase ((n40b : Int) != (0 : Int)) (k ⟨none, 0, 0⟩ n40b Hs2) (onPtr x0 fun a48 => elP (AH.cell? Hs2 (qkN a48 1)) fun p50 => newC Hs2 ⟨[(qkL .u64 (0 : Int)), (qkL .u64 (0 : Int)), (qkL .u64 (0 : Int)), (qkL .u64 (0 : Int)), (qkL .u64 (0 : Int)), (qkL .u64 (0 : Int)), (qkL .u64 (0 : Int)), (qkL .u64 (0 : Int))], .rw, 0⟩ fun o10 H10 => qcg (qkM .i64 n18a) H10 fun n53 H53 => AH.cell? H53 (qkN a48 1) = some (qkU p50) ∧ qa4 p50 (qkM .i64 (n53 + t8.2.2.2)) H53 fun c56a n56b H56 => (qk0 c56a = 8 ∧ qlq c56a qq = true) ∧ stC H56 ⟨o10, 0, none⟩ c56a fun Hs4 => bcase ((n56b : Int) != (0 : Int)) (k ⟨none, 0, 0⟩ n56b Hs4) (((8 : Int) : Int) ≠ 0 ∧ (0 ≤ (qlK t8.2.2.2 (8 : Int)) ∧ (qlK t8.2.2.2 (8 : Int)) < ((8 : Nat) : Int)) ∧ elI .u64 (AH.cell? Hs4 (qkN ⟨o8, 0, none⟩ (qkS (qlK t8.2.2.2 (8 : Int)) * 1))) fun n65 => onPtr x0 fun a68 => elP (AH.cell? Hs4 (qkN a68 1)) fun p70 => qaT p70 Hs4 fun n71 H71 => bcase (decide ((n65 : Int) < (qkM .u64 n71))) (qau.j1 t8 it8 o10 H71 (qkM .i64 n65)) (qau.j1 t8 it8 o10 H71 (-1 : Int))))) (k t8.2.2.1 (0 : Int) HL8)
def qau.b (x0 : Option Addr) (H : AH) (k : Sl → Int → AH → Prop) : Prop :=
 onPtr x0 fun a15 => elP (AH.cell? H (qkN a15 0)) fun p17 => qN p17 (1 : Int) H fun n18a n18b H18 => bcase ((n18b : Int) != (0 : Int)) (k ⟨none, 0, 0⟩ n18b H18) (bcase (decide ((n18a : Int) > (14 : Int))) (k ⟨none, 0, 0⟩ (6 : Int) H18) (loopT (qau.l2 x0 k n18a) ((⟨none, 0, 0⟩, (0 : Int), ⟨none, 0, 0⟩, (0 : Int)) : Sl × Int × Sl × Int) H18))
def qau.ann : Ann := { keep := fun r => match r with | 8 => [(2, .sl), (3, .int .i64), (6, .sl), (30, .int .i64)] | _ => [], ord := fun r => match r with | 13 => [0, 1, 2, 3, 4, 5, 7, 13, 6, 8, 9, 10, 11, 12, 14, 15] | _ => [] }
theorem qau.link {x0 : Option Addr} {H : AH} {k : Sl → Int → AH → Prop} (h : qau.b x0 H k) : qau x0 H k := lk2 pan hT hm Tryz.func106 (by kernel_rfl) (A := qau.ann) (by kernel_rfl) (by simp) (by simp) (by kernel_rfl) h
def qay.j1 (x0 : Option Addr) (k : Int → AH → Prop) (HL2 : AH) : Prop :=
 onPtr x0 fun a31 => elP (AH.cell? HL2 (qkN a31 0)) fun p33 => qI p33 (1 : Int) (0 : Int) HL2 fun n34 H34 => k n34 H34
def qay.l2 (x0 : Option Addr) (x1 : Sl) (k : Int → AH → Prop) (t2 : Int × Int) (HL2 : AH) (it2 : (Int × Int) → AH → Prop) : Prop :=
 bcase (decide ((t2.2 : Int) < ((x1.n : Nat) : Int))) ((0 ≤ t2.2 ∧ t2.2 < ((x1.n : Nat) : Int)) ∧ onPtr x1.a fun a12 => ldA HL2 (qkN a12 (qkS t2.2 * 9)) 9 fun c13 => newC HL2 ⟨[(qkL .i64 (0 : Int)), (qkL .u64 (0 : Int)), (qkL .u64 (0 : Int)), (qkL .u64 (0 : Int)), (qkL .u64 (0 : Int)), (qkL .u64 (0 : Int)), (qkL .u64 (0 : Int)), (qkL .u64 (0 : Int)), (qkL .u64 (0 : Int))], .rw, 0⟩ fun o6 H6 => (qk0 c13 = 9 ∧ qlq c13 qq = true) ∧ stC H6 ⟨o6, 0, none⟩ c13 fun Hs2 => onPtr x0 fun a15 => elP (AH.cell? Hs2 (qkN a15 1)) fun p17 => elI .i64 (AH.cell? Hs2 (qkN ⟨o6, 0, none⟩ 0)) fun n19 => ldA Hs2 (qkN ⟨o6, 0, none⟩ 1) 8 fun c21 => qaJ p17 n19 c21 Hs2 fun n22 H22 => bcase ((n22 : Int) == (0 : Int)) (it2 (t2.1, (qkM .i64 (t2.2 + (1 : Int)))) H22) (bcase ((n22 : Int) == (3 : Int)) (k (0 : Int) H22) (k n22 H22))) (qay.j1 x0 k HL2)
def qay.b (x0 : Option Addr) (x1 : Sl) (H : AH) (k : Int → AH → Prop) : Prop :=
 loopT (qay.l2 x0 x1 k) (((0 : Int), (0 : Int)) : Int × Int) H
def qay.ann : Ann := { keep := fun r => match r with | 2 => [(4, .int .i64), (10, .int .i64)] | _ => [], ord := fun r => match r with | 4 => [0, 1, 2, 3, 4, 5, 6, 7, 8, 9] | _ => [] }
theorem qay.link {x0 : Option Addr} {x1 : Sl} {H : AH} {k : Int → AH → Prop} (h : qay.b x0 x1 H k) : qay x0 x1 H k := lk1 pan hT hm Tryz.func122 (by kernel_rfl) (A := qay.ann) (by kernel_rfl) (by simp) (by kernel_rfl) h
def qbX.b (x0 : Option Addr) (H : AH) (k : Int → AH → Prop) : Prop :=
 bcase (qlA x0) (k (1 : Int) H) (qau x0 H fun s9a n9b H9 => bcase ((n9b : Int) != (0 : Int)) (k n9b H9) (bcase ((((s9a.n : Nat) : Int) : Int) == (0 : Int)) (k (0 : Int) H9) (onPtr x0 fun a22 => elP (AH.cell? H9 (qkN a22 1)) fun p24 => qaT p24 H9 fun n25 H25 => log_May n25 s9a H25 fun b27 H27 => bcase (!b27) (k (6 : Int) H27) (qay x0 s9a H27 fun n31 H31 => k n31 H31))))
theorem qbX.link {x0 : Option Addr} {H : AH} {k : Int → AH → Prop} (h : qbX.b x0 H k) : qbX x0 H k := lk1 pan hT hm Tryz.func75 (by kernel_rfl) (A := ann0) (by kernel_rfl) (by simp) (by kernel_rfl) h
def qas.j1 (x0 : Option Addr) (x1 : Int) (k : List Value → Int → AH → Prop) (o4 : Nat) (x5 : Int) (Hj : AH) : Prop :=
 onPtr x0 fun a56 => elP (AH.cell? Hj (qkN a56 1)) fun p58 => qa4 p58 x1 Hj fun c60a n60b H60 => (qk0 c60a = 8 ∧ qlq c60a qq = true) ∧ stC H60 ⟨o4, 0, none⟩ c60a fun Hs6 => ldA Hs6 ⟨o4, 0, none⟩ 8 fun r0 => k r0 n60b Hs6
def qas.l2 (x0 : Option Addr) (x1 : Int) (k : List Value → Int → AH → Prop) (o4 : Nat) (s28a : Sl) (t8 : Int × Int) (HL8 : AH) (it8 : (Int × Int) → AH → Prop) : Prop :=
 bcase (decide ((t8.2 : Int) < ((s28a.n : Nat) : Int))) ((0 ≤ t8.2 ∧ t8.2 < ((s28a.n : Nat) : Int)) ∧ onPtr s28a.a fun a46 => ldA HL8 (qkN a46 (qkS t8.2 * 9)) 9 fun c47 => newC HL8 ⟨[(qkL .i64 (0 : Int)), (qkL .u64 (0 : Int)), (qkL .u64 (0 : Int)), (qkL .u64 (0 : Int)), (qkL .u64 (0 : Int)), (qkL .u64 (0 : Int)), (qkL .u64 (0 : Int)), (qkL .u64 (0 : Int)), (qkL .u64 (0 : Int))], .rw, 0⟩ fun o9 H9 => (qk0 c47 = 9 ∧ qlq c47 qq = true) ∧ stC H9 ⟨o9, 0, none⟩ c47 fun Hs8 => elI .i64 (AH.cell? Hs8 (qkN ⟨o9, 0, none⟩ 0)) fun n49 => bcase ((n49 : Int) == x1) (ldA Hs8 (qkN ⟨o9, 0, none⟩ 1) 8 fun c53 => (qk0 c53 = 8 ∧ qlq c53 qq = true) ∧ stC Hs8 ⟨o4, 0, none⟩ c53 fun Hs10 => ldA Hs10 ⟨o4, 0, none⟩ 8 fun r0 => k r0 (0 : Int) Hs10) (it8 (t8.1, (qkM .i64 (t8.2 + (1 : Int)))) Hs8)) (qas.j1 x0 x1 k o4 t8.1 HL8)
def qas.j3 (x0 : Option Addr) (x1 : Int) (k : List Value → Int → AH → Prop) (o4 : Nat) (x24 : Bool) (Hj : AH) : Prop :=
 bcase x24 ((qk0 [(qkL .u64 (0 : Int)), (qkL .u64 (0 : Int)), (qkL .u64 (0 : Int)), (qkL .u64 (0 : Int)), (qkL .u64 (0 : Int)), (qkL .u64 (0 : Int)), (qkL .u64 (0 : Int)), (qkL .u64 (0 : Int))] = 8 ∧ qlq [(qkL .u64 (0 : Int)), (qkL .u64 (0 : Int)), (qkL .u64 (0 : Int)), (qkL .u64 (0 : Int)), (qkL .u64 (0 : Int)), (qkL .u64 (0 : Int)), (qkL .u64 (0 : Int)), (qkL .u64 (0 : Int))] qq = true) ∧ stC Hj ⟨o4, 0, none⟩ [(qkL .u64 (0 : Int)), (qkL .u64 (0 : Int)), (qkL .u64 (0 : Int)), (qkL .u64 (0 : Int)), (qkL .u64 (0 : Int)), (qkL .u64 (0 : Int)), (qkL .u64 (0 : Int)), (qkL .u64 (0 : Int))] fun Hs2 => ldA Hs2 ⟨o4, 0, none⟩ 8 fun r0 => k r0 (1 : Int) Hs2) (qau x0 Hj fun s28a n28b H28 => bcase ((n28b : Int) == (2 : Int)) ((qk0 [(qkL .u64 (0 : Int)), (qkL .u64 (0 : Int)), (qkL .u64 (0 : Int)), (qkL .u64 (0 : Int)), (qkL .u64 (0 : Int)), (qkL .u64 (0 : Int)), (qkL .u64 (0 : Int)), (qkL .u64 (0 : Int))] = 8 ∧ qlq [(qkL .u64 (0 : Int)), (qkL .u64 (0 : Int)), (qkL .u64 (0 : Int)), (qkL .u64 (0 : Int)), (qkL .u64 (0 : Int)), (qkL .u64 (0 : Int)), (qkL .u64 (0 : Int)), (qkL .u64 (0 : Int))] qq = true) ∧ stC H28 ⟨o4, 0, none⟩ [(qkL .u64 (0 : Int)), (qkL .u64 (0 : Int)), (qkL .u64 (0 : Int)), (qkL .u64 (0 : Int)), (qkL .u64 (0 : Int)), (qkL .u64 (0 : Int)), (qkL .u64 (0 : Int)), (qkL .u64 (0 : Int))] fun Hs4 => ldA Hs4 ⟨o4, 0, none⟩ 8 fun r0 => k r0 n28b Hs4) (onPtr x0 fun a36 => elP (AH.cell? H28 (qkN a36 1)) fun p38 => qaT p38 H28 fun n39 H39 => log_May n39 s28a H39 fun b41 H41 => bcase b41 (loopT (qas.l2 x0 x1 k o4 s28a) (((0 : Int), (0 : Int)) : Int × Int) H41) (qas.j1 x0 x1 k o4 (0 : Int) H41)))
def qas.b (x0 : Option Addr) (x1 : Int) (H : AH) (k : List Value → Int → AH → Prop) : Prop :=
 newC H ⟨[(qkL .u64 (0 : Int)), (qkL .u64 (0 : Int)), (qkL .u64 (0 : Int)), (qkL .u64 (0 : Int)), (qkL .u64 (0 : Int)), (qkL .u64 (0 : Int)), (qkL .u64 (0 : Int)), (qkL .u64 (0 : Int))], .rw, 0⟩ fun o4 H4 => bcase (qlA x0) (qas.j3 x0 x1 k o4 true H4) (bcase (decide ((x1 : Int) < (16 : Int))) (qas.j3 x0 x1 k o4 true H4) (onPtr x0 fun a19 => elP (AH.cell? H4 (qkN a19 1)) fun p21 => qaT p21 H4 fun n22 H22 => qas.j3 x0 x1 k o4 (decide ((x1 : Int) ≥ n22)) H22))
def qas.ann : Ann := { keep := fun r => match r with | 8 => [(5, .int .i64), (44, .int .i64)] | _ => [], ord := fun r => match r with  | _ => [] }
theorem qas.link {x0 : Option Addr} {x1 : Int} {H : AH} {k : List Value → Int → AH → Prop} (h : qas.b x0 x1 H k) : qas x0 x1 H k := lk2 pan hT hm Tryz.func55 (by kernel_rfl) (A := qas.ann) (by kernel_rfl) (by simp) (by simp) (by kernel_rfl) h
def qaf.l1 (x0 : Option Addr) (k : Sl → Int → AH → Prop) (n14 : Int) (t5 : Sl × Int × Sl × Int) (HL5 : AH) (it5 : (Sl × Int × Sl × Int) → AH → Prop) : Prop :=
 bcase (decide ((t5.2.2.2 : Int) < n14)) (onPtr x0 fun a20 => elP (AH.cell? HL5 (qkN a20 6)) fun p22 => onPtr x0 fun a24 => ldA HL5 (qkN a24 1) 4 fun c26 => newC HL5 ⟨[(qkL .u64 (0 : Int)), (qkL .u64 (0 : Int)), (qkL .u64 (0 : Int)), (qkL .u64 (0 : Int)), (qkL .u64 (0 : Int)), (qkL .u64 (0 : Int)), (qkL .u64 (0 : Int)), (qkL .u64 (0 : Int))], .rw, 0⟩ fun o6 H6 => qbt c26 t5.2.2.2 H6 fun n28 H28 => AH.cell? H28 (qkN a20 6) = some (qkU p22) ∧ qas p22 n28 H28 fun c29a n29b H29 => (qk0 c29a = 8 ∧ qlq c29a qq = true) ∧ stC H29 ⟨o6, 0, none⟩ c29a fun Hs2 => bcase ((n29b : Int) != (0 : Int)) (k ⟨none, 0, 0⟩ n29b Hs2) (appendC 1 Hs2 t5.2.2.1 ⟨(some ⟨o6, 0, none⟩), 8, 0⟩ fun s37 H37 => it5 (t5.1, t5.2.1, s37, (qkM .i64 (t5.2.2.2 + (1 : Int)))) H37)) (k t5.2.2.1 (0 : Int) HL5)
def qaf.b (x0 : Option Addr) (H : AH) (k : Sl → Int → AH → Prop) : Prop :=
 bcase (qlA x0) (k ⟨none, 0, 0⟩ (1 : Int) H) (onPtr x0 fun a11 => elI .i64 (AH.cell? H (qkN (qkN a11 1) 0)) fun n14 => loopT (qaf.l1 x0 k n14) ((⟨none, 0, 0⟩, (0 : Int), ⟨none, 0, 0⟩, (0 : Int)) : Sl × Int × Sl × Int) H)
def qaf.ann : Ann := { keep := fun r => match r with | 5 => [(2, .sl), (3, .int .i64), (4, .sl), (15, .int .i64)] | _ => [], ord := fun r => match r with | 7 => [0, 1, 2, 3, 4, 5, 6, 7, 8, 14, 9, 10, 11, 12, 13, 15, 16] | _ => [] }
theorem qaf.link {x0 : Option Addr} {H : AH} {k : Sl → Int → AH → Prop} (h : qaf.b x0 H k) : qaf x0 H k := lk2 pan hT hm Tryz.func18 (by kernel_rfl) (A := qaf.ann) (by kernel_rfl) (by simp) (by simp) (by kernel_rfl) h
def qbr.j1 (x0 : Int) (k : Int → Bool → Bool → AH → Prop) (x14 : Bool) (Hj : AH) : Prop :=
 bcase x14 (k (0 : Int) false false Hj) ((0 : Int) ≤ (1 : Int) ∧ k (qkM .i64 (shrI .u64 x0 (1 : Int))) (((andI .u64 x0 (1 : Int)) : Int) == (1 : Int)) true Hj)
def qbr.b (x0 : Int) (H : AH) (k : Int → Bool → Bool → AH → Prop) : Prop :=
 (0 : Int) ≤ (1 : Int) ∧ bcase (decide (((shrI .u64 x0 (1 : Int)) : Int) > (512 : Int))) (qbr.j1 x0 k true H) ((0 : Int) ≤ (1 : Int) ∧ qbk (qkM .i64 (shrI .u64 x0 (1 : Int))) H fun b12 H12 => qbr.j1 x0 k (!b12) H12)
theorem qbr.link {x0 : Int} {H : AH} {k : Int → Bool → Bool → AH → Prop} (h : qbr.b x0 H k) : qbr x0 H k := lk3 pan hT hm Tryz.func123 (by kernel_rfl) (A := ann0) (by kernel_rfl) (by simp) (by simp) (by simp) (by kernel_rfl) h
def qah.j1 (k : Bool → AH → Prop) (t5 : Bool × Int × Bool × Int) (it5 : (Bool × Int × Bool × Int) → AH → Prop) (o8 : Nat) (x43 : Bool) (Hj : AH) : Prop :=
 bcase x43 (k false Hj) (elI .i64 (AH.cell? Hj (qkN ⟨o8, 0, none⟩ 1)) fun n46 => elB (AH.cell? Hj (qkN ⟨o8, 0, none⟩ 2)) fun b49 => it5 (t5.1, (qkM .i64 (t5.2.1 + n46)), (!b49), (qkM .i64 (t5.2.2.2 + (1 : Int)))) Hj)
def qah.l2 (x0 : Sl) (x1 : Int) (k : Bool → AH → Prop) (t5 : Bool × Int × Bool × Int) (HL5 : AH) (it5 : (Bool × Int × Bool × Int) → AH → Prop) : Prop :=
 bcase (decide ((t5.2.2.2 : Int) < ((x0.n : Nat) : Int))) ((0 ≤ t5.2.2.2 ∧ t5.2.2.2 < ((x0.n : Nat) : Int)) ∧ onPtr x0.a fun a16 => ldA HL5 (qkN a16 (qkS t5.2.2.2 * 3)) 3 fun c17 => newC HL5 ⟨[(qkL .i64 (0 : Int)), (qkL .i64 (0 : Int)), (qln false)], .rw, 0⟩ fun o8 H8 => (qk0 c17 = 3 ∧ qlq c17 qq = true) ∧ stC H8 ⟨o8, 0, none⟩ c17 fun Hs2 => elI .i64 (AH.cell? Hs2 (qkN ⟨o8, 0, none⟩ 0)) fun n19 => bcase ((n19 : Int) != t5.2.1) (qah.j1 k t5 it5 o8 true Hs2) (elI .i64 (AH.cell? Hs2 (qkN ⟨o8, 0, none⟩ 1)) fun n24 => qbk n24 Hs2 fun b25 H25 => bcase (!b25) (qah.j1 k t5 it5 o8 true H25) (bcase t5.2.2.1 (elB (AH.cell? H25 (qkN ⟨o8, 0, none⟩ 2)) fun b32 => bcase (!b32) (qah.j1 k t5 it5 o8 true H25) (elI .i64 (AH.cell? H25 (qkN ⟨o8, 0, none⟩ 1)) fun n38 => qah.j1 k t5 it5 o8 (decide ((n38 : Int) > (qkM .i64 (x1 - t5.2.1)))) H25)) (elI .i64 (AH.cell? H25 (qkN ⟨o8, 0, none⟩ 1)) fun n38 => qah.j1 k t5 it5 o8 (decide ((n38 : Int) > (qkM .i64 (x1 - t5.2.1)))) H25)))) (k ((t5.2.1 : Int) == x1) HL5)
def qah.b (x0 : Sl) (x1 : Int) (H : AH) (k : Bool → AH → Prop) : Prop :=
 qbd x1 H fun b10 H10 => bcase (!b10) (k false H10) (loopT (qah.l2 x0 x1 k) ((false, (0 : Int), false, (0 : Int)) : Bool × Int × Bool × Int) H10)
def qah.ann : Ann := { keep := fun r => match r with | 5 => [(4, .bool), (5, .int .i64), (6, .bool), (14, .int .i64)] | _ => [], ord := fun r => match r with  | _ => [] }
theorem qah.link {x0 : Sl} {x1 : Int} {H : AH} {k : Bool → AH → Prop} (h : qah.b x0 x1 H k) : qah x0 x1 H k := lk1 pan hT hm Tryz.func124 (by kernel_rfl) (A := qah.ann) (by kernel_rfl) (by simp) (by kernel_rfl) h
def qX.j1 (x0 : Sl) (k : Sl → Bool → AH → Prop) (t3 : Sl × Bool × Sl × Int) (HL3 : AH) : Prop :=
 qah t3.2.2.1 ((x0.n : Nat) : Int) HL3 fun b37 H37 => bcase (!b37) (k ⟨none, 0, 0⟩ false H37) (k t3.2.2.1 true H37)
def qX.l2 (x0 : Sl) (k : Sl → Bool → AH → Prop) (t3 : Sl × Bool × Sl × Int) (HL3 : AH) (it3 : (Sl × Bool × Sl × Int) → AH → Prop) : Prop :=
 bcase (decide ((t3.2.2.2 : Int) < ((x0.n : Nat) : Int))) ((0 ≤ t3.2.2.2 ∧ t3.2.2.2 < ((x0.n : Nat) : Int)) ∧ onPtr x0.a fun a16 => elI .u64 (AH.cell? HL3 (qkN a16 (qkS t3.2.2.2 * 1))) fun n17 => qbr n17 HL3 fun n18a b18b b18c H18 => bcase (!b18c) (k ⟨none, 0, 0⟩ false H18) ((qk0 [(qkL .i64 t3.2.2.2), (qkL .i64 n18a), (qln b18b)] = 3) ∧ newC H18 ⟨[(qkL .i64 t3.2.2.2), (qkL .i64 n18a), (qln b18b)], .rw, 3⟩ fun o29 H29 => appendC 3 H29 t3.2.2.1 ⟨(some ⟨o29, 0, none⟩), 1, 1⟩ fun s30 H30 => it3 (t3.1, t3.2.1, s30, (qkM .i64 (t3.2.2.2 + n18a))) H30)) (qX.j1 x0 k t3 HL3)
def qX.b (x0 : Sl) (H : AH) (k : Sl → Bool → AH → Prop) : Prop :=
 loopT (qX.l2 x0 k) ((⟨none, 0, 0⟩, false, ⟨none, 0, 0⟩, (0 : Int)) : Sl × Bool × Sl × Int) H
def qX.ann : Ann := { keep := fun r => match r with | 3 => [(2, .sl), (3, .bool), (4, .sl), (5, .int .i64)] | _ => [], ord := fun r => match r with  | _ => [] }
theorem qX.link {x0 : Sl} {H : AH} {k : Sl → Bool → AH → Prop} (h : qX.b x0 H k) : qX x0 H k := lk2 pan hT hm Tryz.func77 (by kernel_rfl) (A := qX.ann) (by kernel_rfl) (by simp) (by simp) (by kernel_rfl) h
def qbj.j1 (k : Int → AH → Prop) (o1 : Nat) (H1 : AH) (x10 : Bool) : Prop :=
 bcase x10 (k (0 : Int) H1) (elI .i64 (AH.cell? H1 (qkN ⟨o1, 0, none⟩ 0)) fun n12 => k (qkM .i64 ((qkM .i64 (n12 + (1 : Int))) * (8 : Int))) H1)
def qbj.b (x0 : List Value) (H : AH) (k : Int → AH → Prop) : Prop :=
 newC H ⟨x0, .rw, 0⟩ fun o1 H1 => elI .i64 (AH.cell? H1 (qkN ⟨o1, 0, none⟩ 0)) fun n4 => bcase (decide ((n4 : Int) < (0 : Int))) (qbj.j1 k o1 H1 true) (elI .i64 (AH.cell? H1 (qkN ⟨o1, 0, none⟩ 0)) fun n8 => qbj.j1 k o1 H1 (decide ((n8 : Int) > (512 : Int))))
theorem qbj.link {x0 : List Value} {H : AH} {k : Int → AH → Prop} (h : qbj.b x0 H k) : qbj x0 H k := lk1 pan hT hm Tryz.func136 (by kernel_rfl) (A := ann0) (by kernel_rfl) (by simp) (by kernel_rfl) h
def qbz.b (x0 : List Value) (x1 : Option Addr) (H : AH) (k : Bool → AH → Prop) : Prop :=
 newC H ⟨x0, .rw, 0⟩ fun o2 H2 => elB (AH.cell? H2 (qkN ⟨o2, 0, none⟩ 2)) fun b5 => bcase b5 (ldA H2 ⟨o2, 0, none⟩ 3 fun c7 => onPtr x1 fun a9 => elI .i64 (AH.cell? H2 a9) fun n9 => qbj c7 H2 fun n8 H8 => AH.cell? H8 a9 = some (qkL .i64 n9) ∧ k ((n8 : Int) == n9) H8) (k false H2)
def qbz.ann : Ann := { keep := fun r => match r with  | _ => [], ord := fun r => match r with | 1 => [0, 1, 2, 3, 5, 4, 6, 7, 8] | _ => [] }
theorem qbz.link {x0 : List Value} {x1 : Option Addr} {H : AH} {k : Bool → AH → Prop} (h : qbz.b x0 x1 H k) : qbz x0 x1 H k := lk1 pan hT hm Tryz.func150 (by kernel_rfl) (A := qbz.ann) (by kernel_rfl) (by simp) (by kernel_rfl) h
def qb4.b (x0 : Sl) (x1 : Int) (H : AH) (k : Sl → Int → AH → Prop) : Prop :=
 newC H ⟨[(qkL .i64 x1)], .rw, 0⟩ fun o3 H3 => qX x0 H3 fun s10a b10b H10 => qB s10a (some ⟨o3, 0, none⟩) H10 fun n16 H16 => k s10a n16 H16
theorem qb4.link {x0 : Sl} {x1 : Int} {H : AH} {k : Sl → Int → AH → Prop} (h : qb4.b x0 x1 H k) : qb4 x0 x1 H k := lk2 pan hT hm Tryz.func125 (by kernel_rfl) (A := ann0) (by kernel_rfl) (by simp) (by simp) (by kernel_rfl) h
def qci.b (x0 : Sl) (x1 : Int) (H : AH) (k : Bool → AH → Prop) : Prop :=
 qb4 x0 x1 H fun s10a n10b H10 => k (decide ((n10b : Int) ≥ (0 : Int))) H10
theorem qci.link {x0 : Sl} {x1 : Int} {H : AH} {k : Bool → AH → Prop} (h : qci.b x0 x1 H k) : qci x0 x1 H k := lk1 pan hT hm Tryz.func78 (by kernel_rfl) (A := ann0) (by kernel_rfl) (by simp) (by kernel_rfl) h
def qcd.b (x0 : Int) (H : AH) (k : Int → AH → Prop) : Prop :=
 ((4 : Int) : Int) ≠ 0 ∧ k (qkM .i64 (qlF (if (0 : Int) > x0 then (0 : Int) else x0) (4 : Int))) H
theorem qcd.link {x0 : Int} {H : AH} {k : Int → AH → Prop} (h : qcd.b x0 H k) : qcd x0 H k := lk1 pan hT hm Tryz.func95 (by kernel_rfl) (A := ann0) (by kernel_rfl) (by simp) (by kernel_rfl) h
def qcn.b (x0 : List Value) (H : AH) (k : Int → AH → Prop) : Prop :=
 newC H ⟨x0, .rw, 0⟩ fun o1 H1 => ldA H1 ⟨o1, 0, none⟩ 4 fun c3 => qbm c3 H1 fun b4 H4 => bcase (!b4) (k (0 : Int) H4) (elI .i64 (AH.cell? H4 (qkN ⟨o1, 0, none⟩ 0)) fun n7 => qcd (qkM .i64 (n7 - (1 : Int))) H4 fun n9 H9 => k (qkM .i64 (n9 + (1 : Int))) H9)
theorem qcn.link {x0 : List Value} {H : AH} {k : Int → AH → Prop} (h : qcn.b x0 H k) : qcn x0 H k := lk1 pan hT hm Tryz.func45 (by kernel_rfl) (A := ann0) (by kernel_rfl) (by simp) (by kernel_rfl) h
def qa8.l1 (x1 : Sl) (k : Option Addr → AH → Prop) (o21 : Nat) (t5 : Int) (HL5 : AH) (it5 : (Int) → AH → Prop) : Prop :=
 bcase (decide ((t5 : Int) < ((x1.n : Nat) : Int))) ((0 ≤ t5 ∧ t5 < ((x1.n : Nat) : Int)) ∧ onPtr x1.a fun a26 => elI .i64 (AH.cell? HL5 (qkN a26 (qkS t5 * 1))) fun n27 => elL (AH.cell? HL5 (qkN ⟨o21, 0, none⟩ 1)) fun s36 => newC HL5 ⟨[(qkL .i64 (if (1099511627776 : Int) < (if (0 : Int) > n27 then (0 : Int) else n27) then (1099511627776 : Int) else (if (0 : Int) > n27 then (0 : Int) else n27)))], .rw, 1⟩ fun o38 H38 => elL (AH.cell? H38 (qkN ⟨o21, 0, none⟩ 2)) fun s43 => newC H38 ⟨[(qkL .i64 (if (1099511627776 : Int) < (if (0 : Int) > n27 then (0 : Int) else n27) then (1099511627776 : Int) else (if (0 : Int) > n27 then (0 : Int) else n27)))], .rw, 1⟩ fun o45 H45 => appendC 1 H45 s36 ⟨(some ⟨o38, 0, none⟩), 1, 1⟩ fun s39 H39 => AH.cell? H39 (qkN ⟨o21, 0, none⟩ 2) = some (Sl.val s43) ∧ appendC 1 H39 s43 ⟨(some ⟨o45, 0, none⟩), 1, 1⟩ fun s46 H46 => stC H46 (qkN ⟨o21, 0, none⟩ 1) [(Sl.val s39)] fun Hs2 => stC Hs2 (qkN ⟨o21, 0, none⟩ 2) [(Sl.val s46)] fun Hs4 => it5 (qkM .i64 (t5 + (1 : Int))) Hs4) (k (some ⟨o21, 0, none⟩) HL5)
def qa8.j2 (x0 : Int) (x1 : Sl) (H : AH) (k : Option Addr → AH → Prop) (x18 : Bool) : Prop :=
 bcase x18 (k none H) (newC H ⟨[(qkL .i64 x0), (qlo none 0 0), (qlo none 0 0)], .rw, 0⟩ fun o21 H21 => loopT (qa8.l1 x1 k o21) (((0 : Int)) : Int) H21)
def qa8.b (x0 : Int) (x1 : Sl) (H : AH) (k : Option Addr → AH → Prop) : Prop :=
 bcase (decide ((x0 : Int) < (1 : Int))) (qa8.j2 x0 x1 H k true) (bcase (decide ((x0 : Int) > (100 : Int))) (qa8.j2 x0 x1 H k true) (qa8.j2 x0 x1 H k (decide ((((x1.n : Nat) : Int) : Int) > (16 : Int)))))
def qa8.ann : Ann := { keep := fun r => match r with | 5 => [(24, .int .i64)] | _ => [], ord := fun r => match r with | 8 => [0, 1, 2, 3, 4, 5, 6, 7, 9, 10, 11, 12, 13, 14, 8, 15, 16, 17, 18, 19, 20, 21] | _ => [] }
theorem qa8.link {x0 : Int} {x1 : Sl} {H : AH} {k : Option Addr → AH → Prop} (h : qa8.b x0 x1 H k) : qa8 x0 x1 H k := lk1 pan hT hm Tryz.func79 (by kernel_rfl) (A := qa8.ann) (by kernel_rfl) (by simp) (by kernel_rfl) h
def qaj.j1 (k : Option Addr → Int → AH → Prop) (o3 : Nat) (o30 : Nat) (t22 : Option Addr × Int × Sl × Int) (HL22 : AH) : Prop :=
 elI .i64 (AH.cell? HL22 (qkN ⟨o3, 0, none⟩ 3)) fun n115 => qa8 n115 t22.2.2.1 HL22 fun p117 H117 => stC H117 (qkN ⟨o30, 0, none⟩ 7) [(qkU p117)] fun Hs4 => k (some ⟨o30, 0, none⟩) (0 : Int) Hs4
def qaj.l2 (x0 : Option Addr) (k : Option Addr → Int → AH → Prop) (o3 : Nat) (o30 : Nat) (n92 : Int) (t22 : Option Addr × Int × Sl × Int) (HL22 : AH) (it22 : (Option Addr × Int × Sl × Int) → AH → Prop) : Prop :=
 bcase (decide ((t22.2.2.2 : Int) < n92)) (qN x0 (qkM .i64 ((19 : Int) + t22.2.2.2)) HL22 fun n100a n100b H100 => bcase ((n100b : Int) != (0 : Int)) (k none n100b H100) (newC H100 ⟨[(qkL .i64 (qkM .i64 (if (1099511627776 : Int) < n100a then (1099511627776 : Int) else n100a)))], .rw, 1⟩ fun o110 H110 => appendC 1 H110 t22.2.2.1 ⟨(some ⟨o110, 0, none⟩), 1, 1⟩ fun s111 H111 => it22 (t22.1, t22.2.1, s111, (qkM .i64 (t22.2.2.2 + (1 : Int)))) H111)) (qaj.j1 k o3 o30 t22 HL22)
def qaj.j3 (x0 : Option Addr) (k : Option Addr → Int → AH → Prop) (o3 : Nat) (o30 : Nat) (x90 : Bool) (Hj : AH) : Prop :=
 bcase x90 (k none (6 : Int) Hj) (ldA Hj ⟨o3, 0, none⟩ 4 fun c91 => qcn c91 Hj fun n92 H92 => loopT (qaj.l2 x0 k o3 o30 n92) ((none, (0 : Int), ⟨none, 0, 0⟩, (0 : Int)) : Option Addr × Int × Sl × Int) H92)
def qaj.b (x0 : Option Addr) (x1 : List Value) (H : AH) (k : Option Addr → Int → AH → Prop) : Prop :=
 newC H ⟨x1, .rw, 0⟩ fun o3 H3 => ldA H3 ⟨o3, 0, none⟩ 4 fun c19 => qbH x0 c19 H3 fun n20 H20 => bcase ((n20 : Int) != (0 : Int)) (k none n20 H20) (ldA H20 ⟨o3, 0, none⟩ 4 fun c25 => ldA H20 ⟨o3, 0, none⟩ 4 fun c27 => qbJ x0 c27 H20 fun p28 H28 => AH.row? H28 ⟨o3, 0, none⟩ 4 = some c25 ∧ (qk0 c25 = 4) ∧ newC H28 ⟨(List.set (setMany [(qkU x0), (qkL .i64 (0 : Int)), (qkL .i64 (0 : Int)), (qkL .i64 (0 : Int)), (qkL .i64 (0 : Int)), (qkU none), (qkU none), (qkU none), (qln false)] 1 c25) 5 (qkU p28)), .rw, 0⟩ fun o30 H30 => elP (AH.cell? H30 (qkN ⟨o30, 0, none⟩ 5)) fun p36 => log_New x0 p36 H30 fun p37 H37 => stC H37 (qkN ⟨o30, 0, none⟩ 6) [(qkU p37)] fun Hs2 => elP (AH.cell? Hs2 (qkN ⟨o30, 0, none⟩ 6)) fun p43 => bcase (qlA p43) (k none (6 : Int) Hs2) (elP (AH.cell? Hs2 (qkN ⟨o30, 0, none⟩ 6)) fun p48 => qbX p48 Hs2 fun n49 H49 => bcase ((n49 : Int) != (0 : Int)) (k none n49 H49) (qaf (some ⟨o30, 0, none⟩) H49 fun s55a n55b H55 => bcase ((n55b : Int) != (0 : Int)) (k none n55b H55) (qN x0 (2 : Int) H55 fun n63a n63b H63 => bcase ((n63b : Int) != (0 : Int)) (k none n63b H63) (qX s55a H63 fun s71a b71b H71 => bcase (!b71b) (qaj.j3 x0 k o3 o30 true H71) (bcase ((n63a : Int) != (0 : Int)) (bcase (decide ((n63a : Int) > (1048576 : Int))) (qaj.j3 x0 k o3 o30 true H71) (qci s55a (qkM .i64 n63a) H71 fun b86 H86 => qaj.j3 x0 k o3 o30 (!b86) H86)) (qaj.j3 x0 k o3 o30 false H71)))))))
def qaj.ann : Ann := { keep := fun r => match r with | 22 => [(4, .ptr), (5, .int .i64), (14, .sl), (93, .int .i64)] | _ => [], ord := fun r => match r with | 4 => [0, 1, 2, 3, 4, 5, 6, 7] | _ => [] }
theorem qaj.link {x0 : Option Addr} {x1 : List Value} {H : AH} {k : Option Addr → Int → AH → Prop} (h : qaj.b x0 x1 H k) : qaj x0 x1 H k := lk2 pan hT hm Tryz.func27 (by kernel_rfl) (A := qaj.ann) (by kernel_rfl) (by simp) (by simp) (by kernel_rfl) h
def qaH.b (x0 : List Value) (x1 : Sl) (H : AH) (k : Option Addr → Option Addr → AH → Prop) : Prop :=
 newC H ⟨x0, .rw, 0⟩ fun o2 H2 => ldA H2 ⟨o2, 0, none⟩ 4 fun c9 => qbp c9 H2 fun n10 H10 => nvm_New n10 x1 H10 fun p12 H12 => ldA H12 ⟨o2, 0, none⟩ 4 fun c14 => qQ p12 c14 H12 fun n15 H15 => bcase ((n15 : Int) != (0 : Int)) (k none p12 H15) (ldA H15 ⟨o2, 0, none⟩ 4 fun c20 => qaj p12 c20 H15 fun p21a n21b H21 => bcase ((n21b : Int) != (0 : Int)) (k none p12 H21) (k p21a p12 H21))
theorem qaH.link {x0 : List Value} {x1 : Sl} {H : AH} {k : Option Addr → Option Addr → AH → Prop} (h : qaH.b x0 x1 H k) : qaH x0 x1 H k := lk2 pan hT hm Tryz.func15 (by kernel_rfl) (A := ann0) (by kernel_rfl) (by simp) (by simp) (by kernel_rfl) h
def qbI.b (x0 : Option Addr) (H : AH) (k : Bool → AH → Prop) : Prop :=
 bcase (qlA x0) (k false H) (onPtr x0 fun a9 => elP (AH.cell? H (qkN a9 0)) fun p11 => qN p11 (1 : Int) H fun n12a n12b H12 => k ((n12a : Int) != (0 : Int)) H12)
theorem qbI.link {x0 : Option Addr} {H : AH} {k : Bool → AH → Prop} (h : qbI.b x0 H k) : qbI x0 H k := lk1 pan hT hm Tryz.func94 (by kernel_rfl) (A := ann0) (by kernel_rfl) (by simp) (by kernel_rfl) h
def qbV.b (x0 : Option Addr) (H : AH) (k : Bool → AH → Prop) : Prop :=
 bcase (!(qlA x0)) (onPtr x0 fun a7 => elB (AH.cell? H (qkN a7 8)) fun b9 => bcase b9 (k true H) (onPtr x0 fun a12 => elP (AH.cell? H (qkN a12 6)) fun p14 => qbI p14 H fun b15 H15 => k b15 H15)) (k false H)
theorem qbV.link {x0 : Option Addr} {H : AH} {k : Bool → AH → Prop} (h : qbV.b x0 H k) : qbV x0 H k := lk1 pan hT hm Tryz.func44 (by kernel_rfl) (A := ann0) (by kernel_rfl) (by simp) (by kernel_rfl) h
def qaU.b (x0 : Sl) (H : AH) (k : Sl → AH → Prop) : Prop :=
 bcase (qlA x0.a) (k ⟨none, 0, 0⟩ H) (newC H ⟨[], .rw, 1⟩ fun o5 H5 => appendC 1 H5 ⟨(some ⟨o5, 0, none⟩), 0, 1⟩ x0 fun s7 H7 => k s7 H7)
theorem qaU.link {x0 : Sl} {H : AH} {k : Sl → AH → Prop} (h : qaU.b x0 H k) : qaU x0 H k := lk1 pan hT hm Tryz.func108 (by kernel_rfl) (A := ann0) (by kernel_rfl) (by simp) (by kernel_rfl) h
def qbN.b (x0 : Option Addr) (H : AH) (k : Sl → AH → Prop) : Prop :=
 bcase (qlA x0) (k ⟨none, 0, 0⟩ H) (onPtr x0 fun a6 => elL (AH.cell? H (qkN a6 1)) fun s8 => qaU s8 H fun s9 H9 => k s9 H9)
theorem qbN.link {x0 : Option Addr} {H : AH} {k : Sl → AH → Prop} (h : qbN.b x0 H k) : qbN x0 H k := lk1 pan hT hm Tryz.func57 (by kernel_rfl) (A := ann0) (by kernel_rfl) (by simp) (by kernel_rfl) h
def qbh.b (x0 : Option Addr) (H : AH) (k : Sl → AH → Prop) : Prop :=
 bcase (qlA x0) (k ⟨none, 0, 0⟩ H) (onPtr x0 fun a6 => elP (AH.cell? H (qkN a6 7)) fun p8 => qbN p8 H fun s9 H9 => k s9 H9)
theorem qbh.link {x0 : Option Addr} {H : AH} {k : Sl → AH → Prop} (h : qbh.b x0 H k) : qbh x0 H k := lk1 pan hT hm Tryz.func20 (by kernel_rfl) (A := ann0) (by kernel_rfl) (by simp) (by kernel_rfl) h
def qbf.b (H : AH) (k : Bool → AH → Prop) : Prop :=
 qaH [(qkL .i64 (4 : Int)), (qkL .i64 (0 : Int)), (qkL .i64 (3 : Int)), (qkL .i64 (2 : Int))] ⟨none, 0, 0⟩ H fun p8a p8b H8 => bcase (qlA p8a) (k false H8) (qv p8a [(qkL .i64 (1 : Int)), (qkL .i64 (0 : Int)), (qkL .i64 (8 : Int)), (qkL .i64 (0 : Int)), (qlo none 0 0)] H8 fun c15 H15 => newC H15 ⟨[(qkL .i64 (0 : Int)), (qkL .i64 (0 : Int)), (qlo none 0 0)], .rw, 0⟩ fun o3 H3 => (qk0 c15 = 3 ∧ qlq c15 qq = true) ∧ stC H3 ⟨o3, 0, none⟩ c15 fun Hs2 => newC Hs2 ⟨[(qkL .u8 (7 : Int))], .rw, 1⟩ fun o17 H17 => qv p8a [(qkL .i64 (4 : Int)), (qkL .i64 (8 : Int)), (qkL .i64 (0 : Int)), (qkL .i64 (0 : Int)), (qlo (some ⟨o17, 0, none⟩) 1 1)] H17 fun c19 H19 => newC H19 ⟨[(qkL .i64 (0 : Int)), (qkL .i64 (0 : Int)), (qlo none 0 0)], .rw, 0⟩ fun o4 H4 => (qk0 c19 = 3 ∧ qlq c19 qq = true) ∧ stC H4 ⟨o4, 0, none⟩ c19 fun Hs4 => qv p8a [(qkL .i64 (3 : Int)), (qkL .i64 (8 : Int)), (qkL .i64 (2 : Int)), (qkL .i64 (0 : Int)), (qlo none 0 0)] Hs4 fun c22 H22 => newC H22 ⟨[(qkL .i64 (0 : Int)), (qkL .i64 (0 : Int)), (qlo none 0 0)], .rw, 0⟩ fun o5 H5 => (qk0 c22 = 3 ∧ qlq c22 qq = true) ∧ stC H5 ⟨o5, 0, none⟩ c22 fun Hs6 => elI .i64 (AH.cell? Hs6 (qkN ⟨o3, 0, none⟩ 0)) fun n24 => bcase ((n24 : Int) == (0 : Int)) (elI .i64 (AH.cell? Hs6 (qkN ⟨o3, 0, none⟩ 1)) fun n28 => bcase ((n28 : Int) == (8 : Int)) (elI .i64 (AH.cell? Hs6 (qkN ⟨o4, 0, none⟩ 0)) fun n33 => bcase ((n33 : Int) == (0 : Int)) (elL (AH.cell? Hs6 (qkN ⟨o5, 0, none⟩ 2)) fun s38 => strC Hs6 s38 fun y39 => bcase (ByteArray.toList ⟨qlr y39⟩ == ByteArray.toList ⟨#[7, 0]⟩) (qbV p8a Hs6 fun b44 H44 => bcase (!b44) (qbh p8a H44 fun s49 H49 => k ((((s49.n : Nat) : Int) : Int) == (1 : Int)) H49) (k false H44)) (k false Hs6)) (k false Hs6)) (k false Hs6)) (k false Hs6))
theorem qbf.link {_u : Unit} {H : AH} {k : Bool → AH → Prop} (h : qbf.b  H k) : qbf  H k := lk1 pan hT hm Tryz.func13 (by kernel_rfl) (A := ann0) (by kernel_rfl) (by simp) (by kernel_rfl) h
def qaX.b (x0 : Int) (x1 : Int) (x2 : Int) (x3 : Int) (H : AH) (k : List Value → AH → Prop) : Prop :=
 newC H ⟨[(qkL .i64 (0 : Int)), (qkL .i64 (0 : Int)), (qkL .i64 (0 : Int)), (qkL .i64 (0 : Int))], .rw, 0⟩ fun o8 H8 => ((24 : Int) : Int) ≠ 0 ∧ ((17 : Int) : Int) ≠ 0 ∧ ((30 : Int) : Int) ≠ 0 ∧ ((10 : Int) : Int) ≠ 0 ∧ (qk0 [(qkL .i64 (qkM .i64 ((1 : Int) + (qkM .i64 (qlK (qkM .u64 x0) (24 : Int)))))), (qkL .i64 (qkM .i64 (qlK (qkM .u64 x1) (17 : Int)))), (qkL .i64 (qkM .i64 ((1 : Int) + (qkM .i64 (qlK (qkM .u64 x2) (30 : Int)))))), (qkL .i64 (qkM .i64 ((1 : Int) + (qkM .i64 (qlK (qkM .u64 x3) (10 : Int))))))] = 4 ∧ qlq [(qkL .i64 (qkM .i64 ((1 : Int) + (qkM .i64 (qlK (qkM .u64 x0) (24 : Int)))))), (qkL .i64 (qkM .i64 (qlK (qkM .u64 x1) (17 : Int)))), (qkL .i64 (qkM .i64 ((1 : Int) + (qkM .i64 (qlK (qkM .u64 x2) (30 : Int)))))), (qkL .i64 (qkM .i64 ((1 : Int) + (qkM .i64 (qlK (qkM .u64 x3) (10 : Int))))))] qq = true) ∧ stC H8 ⟨o8, 0, none⟩ [(qkL .i64 (qkM .i64 ((1 : Int) + (qkM .i64 (qlK (qkM .u64 x0) (24 : Int)))))), (qkL .i64 (qkM .i64 (qlK (qkM .u64 x1) (17 : Int)))), (qkL .i64 (qkM .i64 ((1 : Int) + (qkM .i64 (qlK (qkM .u64 x2) (30 : Int)))))), (qkL .i64 (qkM .i64 ((1 : Int) + (qkM .i64 (qlK (qkM .u64 x3) (10 : Int))))))] fun Hs2 => ldA Hs2 ⟨o8, 0, none⟩ 4 fun r0 => k r0 Hs2
theorem qaX.link {x0 : Int} {x1 : Int} {x2 : Int} {x3 : Int} {H : AH} {k : List Value → AH → Prop} (h : qaX.b x0 x1 x2 x3 H k) : qaX x0 x1 x2 x3 H k := lk1 pan hT hm Tryz.func14 (by kernel_rfl) (A := ann0) (by kernel_rfl) (by simp) (by kernel_rfl) h
def qae.j1 (x0 : Int) (H : AH) (k : Int → AH → Prop) (x8 : Bool) : Prop :=
 bcase x8 (k (0 : Int) H) (((8 : Int) : Int) ≠ 0 ∧ k (qkM .i64 ((1 : Int) + (qkM .i64 (qlF (qkM .i64 (x0 + (7 : Int))) (8 : Int))))) H)
def qae.b (x0 : Int) (H : AH) (k : Int → AH → Prop) : Prop :=
 bcase (decide ((x0 : Int) < (1 : Int))) (qae.j1 x0 H k true) (qae.j1 x0 H k (decide ((x0 : Int) > (448 : Int))))
theorem qae.link {x0 : Int} {H : AH} {k : Int → AH → Prop} (h : qae.b x0 H k) : qae x0 H k := lk1 pan hT hm Tryz.func58 (by kernel_rfl) (A := ann0) (by kernel_rfl) (by simp) (by kernel_rfl) h
def qab.j1 (x0 : Int) (H : AH) (k : Int → Bool → Bool → AH → Prop) (x12 : Bool) : Prop :=
 bcase x12 (k (0 : Int) false false H) ((0 : Int) ≤ (1 : Int) ∧ k (qkM .i64 (shrI .u64 x0 (1 : Int))) (((andI .u64 x0 (1 : Int)) : Int) == (1 : Int)) true H)
def qab.b (x0 : Int) (H : AH) (k : Int → Bool → Bool → AH → Prop) : Prop :=
 (0 : Int) ≤ (1 : Int) ∧ bcase (decide (((shrI .u64 x0 (1 : Int)) : Int) < (2 : Int))) (qab.j1 x0 H k true) ((0 : Int) ≤ (1 : Int) ∧ qab.j1 x0 H k (decide (((shrI .u64 x0 (1 : Int)) : Int) > (512 : Int))))
theorem qab.link {x0 : Int} {H : AH} {k : Int → Bool → Bool → AH → Prop} (h : qab.b x0 H k) : qab x0 H k := lk3 pan hT hm Tryz.func109 (by kernel_rfl) (A := ann0) (by kernel_rfl) (by simp) (by simp) (by simp) (by kernel_rfl) h
def qaQ.b (x0 : Int) (H : AH) (k : Bool → AH → Prop) : Prop :=
 bcase (decide ((x0 : Int) ≥ (8 : Int))) (bcase (decide ((x0 : Int) ≤ (512 : Int))) (((8 : Int) : Int) ≠ 0 ∧ k (((qlK x0 (8 : Int)) : Int) == (0 : Int)) H) (k false H)) (k false H)
theorem qaQ.link {x0 : Int} {H : AH} {k : Bool → AH → Prop} (h : qaQ.b x0 H k) : qaQ x0 H k := lk1 pan hT hm Tryz.func68 (by kernel_rfl) (A := ann0) (by kernel_rfl) (by simp) (by kernel_rfl) h
def qaB.b (x0 : Int) (H : AH) (k : Bool → AH → Prop) : Prop :=
 bcase (decide ((x0 : Int) ≥ (2 : Int))) (k (decide ((x0 : Int) ≤ (512 : Int))) H) (k false H)
theorem qaB.link {x0 : Int} {H : AH} {k : Bool → AH → Prop} (h : qaB.b x0 H k) : qaB x0 H k := lk1 pan hT hm Tryz.func116 (by kernel_rfl) (A := ann0) (by kernel_rfl) (by simp) (by kernel_rfl) h
def qp.j1 (k : Bool → AH → Prop) (t5 : Bool × Int × Int) (it5 : (Bool × Int × Int) → AH → Prop) (o7 : Nat) (x53 : Bool) (Hj : AH) : Prop :=
 bcase x53 (k false Hj) (elI .i64 (AH.cell? Hj (qkN ⟨o7, 0, none⟩ 1)) fun n56 => it5 (t5.1, (qkM .i64 (t5.2.1 + n56)), (qkM .i64 (t5.2.2 + (1 : Int)))) Hj)
def qp.l2 (x0 : Sl) (x1 : Int) (k : Bool → AH → Prop) (t5 : Bool × Int × Int) (HL5 : AH) (it5 : (Bool × Int × Int) → AH → Prop) : Prop :=
 bcase (decide ((t5.2.2 : Int) < ((x0.n : Nat) : Int))) ((0 ≤ t5.2.2 ∧ t5.2.2 < ((x0.n : Nat) : Int)) ∧ onPtr x0.a fun a16 => ldA HL5 (qkN a16 (qkS t5.2.2 * 3)) 3 fun c17 => newC HL5 ⟨[(qkL .i64 (0 : Int)), (qkL .i64 (0 : Int)), (qln false)], .rw, 0⟩ fun o7 H7 => (qk0 c17 = 3 ∧ qlq c17 qq = true) ∧ stC H7 ⟨o7, 0, none⟩ c17 fun Hs2 => elI .i64 (AH.cell? Hs2 (qkN ⟨o7, 0, none⟩ 0)) fun n19 => bcase ((n19 : Int) != t5.2.1) (qp.j1 k t5 it5 o7 true Hs2) (elI .i64 (AH.cell? Hs2 (qkN ⟨o7, 0, none⟩ 1)) fun n24 => qaB n24 Hs2 fun b25 H25 => bcase (!b25) (qp.j1 k t5 it5 o7 true H25) (elI .i64 (AH.cell? H25 (qkN ⟨o7, 0, none⟩ 1)) fun n30 => bcase (decide ((n30 : Int) > (qkM .i64 (x1 - t5.2.1)))) (qp.j1 k t5 it5 o7 true H25) (bcase (decide ((t5.2.2 : Int) > (0 : Int))) (elB (AH.cell? H25 (qkN ⟨o7, 0, none⟩ 2)) fun b41 => bcase (!b41) ((0 ≤ (qkM .i64 (t5.2.2 - (1 : Int))) ∧ (qkM .i64 (t5.2.2 - (1 : Int))) < ((x0.n : Nat) : Int)) ∧ onPtr x0.a fun a48 => elB (AH.cell? H25 (qkN (qkN a48 (qkS (qkM .i64 (t5.2.2 - (1 : Int))) * 3)) 2)) fun b50 => qp.j1 k t5 it5 o7 (!b50) H25) (qp.j1 k t5 it5 o7 false H25)) (qp.j1 k t5 it5 o7 false H25))))) (k ((t5.2.1 : Int) == x1) HL5)
def qp.b (x0 : Sl) (x1 : Int) (H : AH) (k : Bool → AH → Prop) : Prop :=
 qaQ x1 H fun b9 H9 => bcase (!b9) (k false H9) (loopT (qp.l2 x0 x1 k) ((false, (0 : Int), (0 : Int)) : Bool × Int × Int) H9)
def qp.ann : Ann := { keep := fun r => match r with | 5 => [(4, .bool), (5, .int .i64), (13, .int .i64)] | _ => [], ord := fun r => match r with  | _ => [] }
theorem qp.link {x0 : Sl} {x1 : Int} {H : AH} {k : Bool → AH → Prop} (h : qp.b x0 x1 H k) : qp x0 x1 H k := lk1 pan hT hm Tryz.func110 (by kernel_rfl) (A := qp.ann) (by kernel_rfl) (by simp) (by kernel_rfl) h
def qK.j1 (x0 : Sl) (k : Sl → Bool → AH → Prop) (t3 : Sl × Bool × Sl × Int) (HL3 : AH) : Prop :=
 qp t3.2.2.1 ((x0.n : Nat) : Int) HL3 fun b37 H37 => bcase (!b37) (k ⟨none, 0, 0⟩ false H37) (k t3.2.2.1 true H37)
def qK.l2 (x0 : Sl) (k : Sl → Bool → AH → Prop) (t3 : Sl × Bool × Sl × Int) (HL3 : AH) (it3 : (Sl × Bool × Sl × Int) → AH → Prop) : Prop :=
 bcase (decide ((t3.2.2.2 : Int) < ((x0.n : Nat) : Int))) ((0 ≤ t3.2.2.2 ∧ t3.2.2.2 < ((x0.n : Nat) : Int)) ∧ onPtr x0.a fun a16 => elI .u64 (AH.cell? HL3 (qkN a16 (qkS t3.2.2.2 * 1))) fun n17 => qab n17 HL3 fun n18a b18b b18c H18 => bcase (!b18c) (k ⟨none, 0, 0⟩ false H18) ((qk0 [(qkL .i64 t3.2.2.2), (qkL .i64 n18a), (qln b18b)] = 3) ∧ newC H18 ⟨[(qkL .i64 t3.2.2.2), (qkL .i64 n18a), (qln b18b)], .rw, 3⟩ fun o29 H29 => appendC 3 H29 t3.2.2.1 ⟨(some ⟨o29, 0, none⟩), 1, 1⟩ fun s30 H30 => it3 (t3.1, t3.2.1, s30, (qkM .i64 (t3.2.2.2 + n18a))) H30)) (qK.j1 x0 k t3 HL3)
def qK.b (x0 : Sl) (H : AH) (k : Sl → Bool → AH → Prop) : Prop :=
 loopT (qK.l2 x0 k) ((⟨none, 0, 0⟩, false, ⟨none, 0, 0⟩, (0 : Int)) : Sl × Bool × Sl × Int) H
def qK.ann : Ann := { keep := fun r => match r with | 3 => [(2, .sl), (3, .bool), (4, .sl), (5, .int .i64)] | _ => [], ord := fun r => match r with  | _ => [] }
theorem qK.link {x0 : Sl} {H : AH} {k : Sl → Bool → AH → Prop} (h : qK.b x0 H k) : qK x0 H k := lk2 pan hT hm Tryz.func59 (by kernel_rfl) (A := qK.ann) (by kernel_rfl) (by simp) (by simp) (by kernel_rfl) h
def qw.j1 (t5 : Sl × Int) (it5 : (Sl × Int) → AH → Prop) (Hs2 : AH) (x5 : Sl) (x54 : Bool) : Prop :=
 bcase x54 (newC Hs2 ⟨[(qkL .i64 t5.2)], .rw, 1⟩ fun o57 H57 => appendC 1 H57 x5 ⟨(some ⟨o57, 0, none⟩), 1, 1⟩ fun s58 H58 => it5 (s58, (qkM .i64 (t5.2 + (1 : Int)))) H58) (it5 (x5, (qkM .i64 (t5.2 + (1 : Int)))) Hs2)
def qw.j2 (x0 : Sl) (t5 : Sl × Int) (it5 : (Sl × Int) → AH → Prop) (o7 : Nat) (Hs2 : AH) (x5 : Sl) : Prop :=
 bcase ((((x5.n : Nat) : Int) : Int) == (0 : Int)) (qw.j1 t5 it5 Hs2 x5 true) ((0 ≤ (0 : Int) ∧ (0 : Int) < ((x5.n : Nat) : Int)) ∧ onPtr x5.a fun a46 => elI .i64 (AH.cell? Hs2 (qkN a46 (qkS (0 : Int) * 1))) fun n47 => (0 ≤ n47 ∧ n47 < ((x0.n : Nat) : Int)) ∧ onPtr x0.a fun a48 => elI .i64 (AH.cell? Hs2 (qkN (qkN a48 (qkS n47 * 3)) 1)) fun n50 => elI .i64 (AH.cell? Hs2 (qkN ⟨o7, 0, none⟩ 1)) fun n52 => qw.j1 t5 it5 Hs2 x5 ((n50 : Int) == n52))
def qw.j3 (x0 : Sl) (t5 : Sl × Int) (it5 : (Sl × Int) → AH → Prop) (o7 : Nat) (Hs2 : AH) (x39 : Bool) : Prop :=
 bcase x39 (qw.j2 x0 t5 it5 o7 Hs2 ⟨none, 0, 0⟩) (qw.j2 x0 t5 it5 o7 Hs2 t5.1)
def qw.j4 (x0 : Sl) (t5 : Sl × Int) (it5 : (Sl × Int) → AH → Prop) (o7 : Nat) (Hs2 : AH) (x24 : Bool) : Prop :=
 bcase x24 (it5 (t5.1, (qkM .i64 (t5.2 + (1 : Int)))) Hs2) (bcase (decide ((((t5.1.n : Nat) : Int) : Int) > (0 : Int))) ((0 ≤ (0 : Int) ∧ (0 : Int) < ((t5.1.n : Nat) : Int)) ∧ onPtr t5.1.a fun a31 => elI .i64 (AH.cell? Hs2 (qkN a31 (qkS (0 : Int) * 1))) fun n32 => (0 ≤ n32 ∧ n32 < ((x0.n : Nat) : Int)) ∧ onPtr x0.a fun a33 => elI .i64 (AH.cell? Hs2 (qkN (qkN a33 (qkS n32 * 3)) 1)) fun n35 => elI .i64 (AH.cell? Hs2 (qkN ⟨o7, 0, none⟩ 1)) fun n37 => qw.j3 x0 t5 it5 o7 Hs2 (decide ((n35 : Int) > n37))) (qw.j3 x0 t5 it5 o7 Hs2 false))
def qw.l5 (x0 : Sl) (x1 : Int) (k : Sl → AH → Prop) (t5 : Sl × Int) (HL5 : AH) (it5 : (Sl × Int) → AH → Prop) : Prop :=
 bcase (decide ((t5.2 : Int) < ((x0.n : Nat) : Int))) ((0 ≤ t5.2 ∧ t5.2 < ((x0.n : Nat) : Int)) ∧ onPtr x0.a fun a15 => ldA HL5 (qkN a15 (qkS t5.2 * 3)) 3 fun c16 => newC HL5 ⟨[(qkL .i64 (0 : Int)), (qkL .i64 (0 : Int)), (qln false)], .rw, 0⟩ fun o7 H7 => (qk0 c16 = 3 ∧ qlq c16 qq = true) ∧ stC H7 ⟨o7, 0, none⟩ c16 fun Hs2 => elB (AH.cell? Hs2 (qkN ⟨o7, 0, none⟩ 2)) fun b18 => bcase b18 (qw.j4 x0 t5 it5 o7 Hs2 true) (elI .i64 (AH.cell? Hs2 (qkN ⟨o7, 0, none⟩ 1)) fun n21 => qw.j4 x0 t5 it5 o7 Hs2 (decide ((n21 : Int) < x1)))) (k t5.1 HL5)
def qw.b (x0 : Sl) (x1 : Int) (H : AH) (k : Sl → AH → Prop) : Prop :=
 bcase (decide ((x1 : Int) < (2 : Int))) (k ⟨none, 0, 0⟩ H) (loopT (qw.l5 x0 x1 k) ((⟨none, 0, 0⟩, (0 : Int)) : Sl × Int) H)
def qw.ann : Ann := { keep := fun r => match r with | 5 => [(5, .sl), (12, .int .i64)] | _ => [], ord := fun r => match r with | 8 => [0, 1, 2, 3, 4, 5, 6, 7, 8, 9, 10, 11, 12, 13, 14] | 10 => [0, 1, 2, 3, 4, 5, 6, 7, 8, 9, 10, 11, 12, 13, 14] | _ => [] }
theorem qw.link {x0 : Sl} {x1 : Int} {H : AH} {k : Sl → AH → Prop} (h : qw.b x0 x1 H k) : qw x0 x1 H k := lk1 pan hT hm Tryz.func111 (by kernel_rfl) (A := qw.ann) (by kernel_rfl) (by simp) (by kernel_rfl) h
def qM.j1 (x0 : Int) (x1 : Sl) (H : AH) (k : Int → AH → Prop) (x13 : Bool) : Prop :=
 bcase x13 (k (0 : Int) H) (((32 : Int) : Int) ≠ 0 ∧ (0 ≤ (qkM .i64 (qlF x0 (32 : Int))) ∧ (qkM .i64 (qlF x0 (32 : Int))) < ((x1.n : Nat) : Int)) ∧ onPtr x1.a fun a17 => elI .i64 (AH.cell? H (qkN a17 (qkS (qkM .i64 (qlF x0 (32 : Int))) * 1))) fun n18 => k n18 H)
def qM.b (x0 : Int) (x1 : Sl) (H : AH) (k : Int → AH → Prop) : Prop :=
 bcase (decide ((x0 : Int) < (0 : Int))) (qM.j1 x0 x1 H k true) (((32 : Int) : Int) ≠ 0 ∧ qM.j1 x0 x1 H k (decide (((qkM .i64 (qlF x0 (32 : Int))) : Int) ≥ ((x1.n : Nat) : Int))))
theorem qM.link {x0 : Int} {x1 : Sl} {H : AH} {k : Int → AH → Prop} (h : qM.b x0 x1 H k) : qM x0 x1 H k := lk1 pan hT hm Tryz.func112 (by kernel_rfl) (A := ann0) (by kernel_rfl) (by simp) (by kernel_rfl) h
def qL.j1 (t3 : Int × Int) (it3 : (Int × Int) → AH → Prop) (n17 : Int) (x66 : Bool) (Hj : AH) : Prop :=
 bcase x66 (it3 (n17, (qkM .i64 (t3.2 + (1 : Int)))) Hj) (it3 (t3.1, (qkM .i64 (t3.2 + (1 : Int)))) Hj)
def qL.l2 (x0 : Sl) (x2 : Sl) (k : Int → AH → Prop) (s12 : Sl) (t3 : Int × Int) (HL3 : AH) (it3 : (Int × Int) → AH → Prop) : Prop :=
 bcase (decide ((t3.2 : Int) < ((s12.n : Nat) : Int))) ((0 ≤ t3.2 ∧ t3.2 < ((s12.n : Nat) : Int)) ∧ onPtr s12.a fun a16 => elI .i64 (AH.cell? HL3 (qkN a16 (qkS t3.2 * 1))) fun n17 => bcase (decide ((t3.1 : Int) < (0 : Int))) (qL.j1 t3 it3 n17 true HL3) ((0 ≤ n17 ∧ n17 < ((x0.n : Nat) : Int)) ∧ onPtr x0.a fun a23 => elI .i64 (AH.cell? HL3 (qkN (qkN a23 (qkS n17 * 3)) 0)) fun n25 => (0 ≤ t3.1 ∧ t3.1 < ((x0.n : Nat) : Int)) ∧ onPtr x0.a fun a30 => elI .i64 (AH.cell? HL3 (qkN (qkN a30 (qkS t3.1 * 3)) 0)) fun n32 => qM n25 x2 HL3 fun n27 H27 => AH.cell? H27 (qkN (qkN a30 (qkS t3.1 * 3)) 0) = some (qkL .i64 n32) ∧ qM n32 x2 H27 fun n34 H34 => bcase (decide ((n27 : Int) < n34)) (qL.j1 t3 it3 n17 true H34) ((0 ≤ n17 ∧ n17 < ((x0.n : Nat) : Int)) ∧ onPtr x0.a fun a40 => elI .i64 (AH.cell? H34 (qkN (qkN a40 (qkS n17 * 3)) 0)) fun n42 => (0 ≤ t3.1 ∧ t3.1 < ((x0.n : Nat) : Int)) ∧ onPtr x0.a fun a47 => elI .i64 (AH.cell? H34 (qkN (qkN a47 (qkS t3.1 * 3)) 0)) fun n49 => qM n42 x2 H34 fun n44 H44 => AH.cell? H44 (qkN (qkN a47 (qkS t3.1 * 3)) 0) = some (qkL .i64 n49) ∧ qM n49 x2 H44 fun n51 H51 => bcase ((n44 : Int) == n51) ((0 ≤ n17 ∧ n17 < ((x0.n : Nat) : Int)) ∧ onPtr x0.a fun a56 => elI .i64 (AH.cell? H51 (qkN (qkN a56 (qkS n17 * 3)) 0)) fun n58 => (0 ≤ t3.1 ∧ t3.1 < ((x0.n : Nat) : Int)) ∧ onPtr x0.a fun a61 => elI .i64 (AH.cell? H51 (qkN (qkN a61 (qkS t3.1 * 3)) 0)) fun n63 => qL.j1 t3 it3 n17 (decide ((n58 : Int) < n63)) H51) (qL.j1 t3 it3 n17 false H51)))) (k t3.1 HL3)
def qL.b (x0 : Sl) (x1 : Int) (x2 : Sl) (H : AH) (k : Int → AH → Prop) : Prop :=
 qw x0 x1 H fun s12 H12 => loopT (qL.l2 x0 x2 k s12) (((-1 : Int), (0 : Int)) : Int × Int) H12
def qL.ann : Ann := { keep := fun r => match r with | 3 => [(7, .int .i64), (14, .int .i64)] | _ => [], ord := fun r => match r with | 5 => [0, 1, 2, 3, 4, 5, 6, 7, 8, 10, 11, 12, 13, 14, 15, 9, 16, 17, 18, 19, 20, 21, 22, 23, 24, 25, 27, 28, 29, 30, 31, 32, 26, 33, 34, 35, 36, 37, 38, 39, 40, 41, 42, 43, 44, 45, 46, 47, 48] | _ => [] }
theorem qL.link {x0 : Sl} {x1 : Int} {x2 : Sl} {H : AH} {k : Int → AH → Prop} (h : qL.b x0 x1 x2 H k) : qL x0 x1 x2 H k := lk1 pan hT hm Tryz.func60 (by kernel_rfl) (A := qL.ann) (by kernel_rfl) (by simp) (by kernel_rfl) h
def qP.j1 (k : Int → AH → Prop) (t3 : Int × Int × Int) (it3 : (Int × Int × Int) → AH → Prop) (o5 : Nat) (Hs2 : AH) (x19 : Bool) : Prop :=
 bcase x19 (k (0 : Int) Hs2) (elI .i64 (AH.cell? Hs2 (qkN ⟨o5, 0, none⟩ 1)) fun n22 => it3 (t3.1, (qkM .i64 (t3.2.1 + n22)), (qkM .i64 (t3.2.2 + (1 : Int)))) Hs2)
def qP.l2 (x0 : Sl) (k : Int → AH → Prop) (t3 : Int × Int × Int) (HL3 : AH) (it3 : (Int × Int × Int) → AH → Prop) : Prop :=
 bcase (decide ((t3.2.2 : Int) < ((x0.n : Nat) : Int))) ((0 ≤ t3.2.2 ∧ t3.2.2 < ((x0.n : Nat) : Int)) ∧ onPtr x0.a fun a10 => ldA HL3 (qkN a10 (qkS t3.2.2 * 3)) 3 fun c11 => newC HL3 ⟨[(qkL .i64 (0 : Int)), (qkL .i64 (0 : Int)), (qln false)], .rw, 0⟩ fun o5 H5 => (qk0 c11 = 3 ∧ qlq c11 qq = true) ∧ stC H5 ⟨o5, 0, none⟩ c11 fun Hs2 => elI .i64 (AH.cell? Hs2 (qkN ⟨o5, 0, none⟩ 1)) fun n13 => bcase (decide ((n13 : Int) < (0 : Int))) (qP.j1 k t3 it3 o5 Hs2 true) (elI .i64 (AH.cell? Hs2 (qkN ⟨o5, 0, none⟩ 1)) fun n17 => qP.j1 k t3 it3 o5 Hs2 (decide ((n17 : Int) > (1000 : Int))))) (k t3.2.1 HL3)
def qP.b (x0 : Sl) (H : AH) (k : Int → AH → Prop) : Prop :=
 loopT (qP.l2 x0 k) (((0 : Int), (0 : Int), (0 : Int)) : Int × Int × Int) H
def qP.ann : Ann := { keep := fun r => match r with | 3 => [(2, .int .i64), (3, .int .i64), (8, .int .i64)] | _ => [], ord := fun r => match r with  | _ => [] }
theorem qP.link {x0 : Sl} {H : AH} {k : Int → AH → Prop} (h : qP.b x0 H k) : qP x0 H k := lk1 pan hT hm Tryz.func115 (by kernel_rfl) (A := qP.ann) (by kernel_rfl) (by simp) (by kernel_rfl) h
def qY.j1 (x0 : Int) (x1 : Int) (H : AH) (k : Int → AH → Prop) (x5 : Bool) : Prop :=
 bcase x5 (k (0 : Int) H) (bcase (decide (((qkM .i64 (x0 - x1)) : Int) < (2 : Int))) (k x0 H) (k x1 H))
def qY.b (x0 : Int) (x1 : Int) (H : AH) (k : Int → AH → Prop) : Prop :=
 bcase (decide ((x1 : Int) < (2 : Int))) (qY.j1 x0 x1 H k true) (qY.j1 x0 x1 H k (decide ((x1 : Int) > x0)))
theorem qY.link {x0 : Int} {x1 : Int} {H : AH} {k : Int → AH → Prop} (h : qY.b x0 x1 H k) : qY x0 x1 H k := lk1 pan hT hm Tryz.func114 (by kernel_rfl) (A := ann0) (by kernel_rfl) (by simp) (by kernel_rfl) h
def qG.j1 (x0 : Sl) (x1 : Int) (k : Sl → Bool → AH → Prop) (x9 : Sl) (Hj : AH) : Prop :=
 (0 ≤ (qkM .i64 (x1 + (1 : Int))) ∧ (qkM .i64 (x1 + (1 : Int))) ≤ ((x0.n : Nat) : Int)) ∧ appendC 3 Hj x9 ⟨(Option.map (fun x => qkN x (qkS (qkM .i64 (x1 + (1 : Int))) * 3)) x0.a), (x0.n - qkS (qkM .i64 (x1 + (1 : Int)))), 0⟩ fun s92 H92 => k s92 true H92
def qG.j2 (x0 : Sl) (x1 : Int) (x2 : Int) (k : Sl → Bool → AH → Prop) (x41 : Bool) (Hj : AH) : Prop :=
 bcase x41 (k ⟨none, 0, 0⟩ false Hj) ((0 ≤ x1 ∧ x1 < ((x0.n : Nat) : Int)) ∧ onPtr x0.a fun a44 => elI .i64 (AH.cell? Hj (qkN (qkN a44 (qkS x1 * 3)) 1)) fun n46 => qY n46 x2 Hj fun n48 H48 => (0 ≤ x1 ∧ x1 ≤ ((x0.n : Nat) : Int)) ∧ (0 ≤ x1 ∧ x1 < ((x0.n : Nat) : Int)) ∧ onPtr x0.a fun a55 => elI .i64 (AH.cell? H48 (qkN (qkN a55 (qkS x1 * 3)) 0)) fun n57 => (qk0 [(qkL .i64 n57), (qkL .i64 n48), (qln true)] = 3) ∧ newC H48 ⟨[(qkL .i64 n57), (qkL .i64 n48), (qln true)], .rw, 3⟩ fun o60 H60 => appendC 3 H60 ⟨none, 0, 0⟩ ⟨x0.a, (qkS x1), 0⟩ fun s52 H52 => AH.cell? H52 (qkN (qkN a55 (qkS x1 * 3)) 0) = some (qkL .i64 n57) ∧ appendC 3 H52 s52 ⟨(some ⟨o60, 0, none⟩), 1, 1⟩ fun s61 H61 => (0 ≤ x1 ∧ x1 < ((x0.n : Nat) : Int)) ∧ onPtr x0.a fun a65 => elI .i64 (AH.cell? H61 (qkN (qkN a65 (qkS x1 * 3)) 1)) fun n67 => bcase (decide ((n48 : Int) < n67)) ((0 ≤ x1 ∧ x1 < ((x0.n : Nat) : Int)) ∧ onPtr x0.a fun a72 => elI .i64 (AH.cell? H61 (qkN (qkN a72 (qkS x1 * 3)) 0)) fun n74 => (0 ≤ x1 ∧ x1 < ((x0.n : Nat) : Int)) ∧ onPtr x0.a fun a79 => elI .i64 (AH.cell? H61 (qkN (qkN a79 (qkS x1 * 3)) 1)) fun n81 => (qk0 [(qkL .i64 (qkM .i64 (n74 + n48))), (qkL .i64 (qkM .i64 (n81 - n48))), (qln false)] = 3) ∧ newC H61 ⟨[(qkL .i64 (qkM .i64 (n74 + n48))), (qkL .i64 (qkM .i64 (n81 - n48))), (qln false)], .rw, 3⟩ fun o85 H85 => appendC 3 H85 s61 ⟨(some ⟨o85, 0, none⟩), 1, 1⟩ fun s86 H86 => qG.j1 x0 x1 k s86 H86) (qG.j1 x0 x1 k s61 H61))
def qG.b (x0 : Sl) (x1 : Int) (x2 : Int) (H : AH) (k : Sl → Bool → AH → Prop) : Prop :=
 qP x0 H fun n12 H12 => qp x0 n12 H12 fun b13 H13 => bcase (!b13) (qG.j2 x0 x1 x2 k true H13) (bcase (decide ((x1 : Int) < (0 : Int))) (qG.j2 x0 x1 x2 k true H13) (bcase (decide ((x1 : Int) ≥ ((x0.n : Nat) : Int))) (qG.j2 x0 x1 x2 k true H13) ((0 ≤ x1 ∧ x1 < ((x0.n : Nat) : Int)) ∧ onPtr x0.a fun a28 => elB (AH.cell? H13 (qkN (qkN a28 (qkS x1 * 3)) 2)) fun b30 => bcase b30 (qG.j2 x0 x1 x2 k true H13) ((0 ≤ x1 ∧ x1 < ((x0.n : Nat) : Int)) ∧ onPtr x0.a fun a35 => elI .i64 (AH.cell? H13 (qkN (qkN a35 (qkS x1 * 3)) 1)) fun n37 => qY n37 x2 H13 fun n39 H39 => qG.j2 x0 x1 x2 k ((n39 : Int) == (0 : Int)) H39))))
def qG.ann : Ann := { keep := fun r => match r with  | _ => [], ord := fun r => match r with | 4 => [0, 1, 2, 4, 5, 6, 7, 8, 9, 10, 11, 3, 12, 13] | 6 => [0, 1, 2, 3, 4, 5, 6, 7, 8, 9, 10, 11, 12, 13, 14, 15, 16, 17, 18] | _ => [] }
theorem qG.link {x0 : Sl} {x1 : Int} {x2 : Int} {H : AH} {k : Sl → Bool → AH → Prop} (h : qG.b x0 x1 x2 H k) : qG x0 x1 x2 H k := lk2 pan hT hm Tryz.func113 (by kernel_rfl) (A := qG.ann) (by kernel_rfl) (by simp) (by simp) (by kernel_rfl) h
def qaF.b (x0 : Int) (x1 : Bool) (H : AH) (k : Int → AH → Prop) : Prop :=
 qaB x0 H fun b7 H7 => bcase (!b7) (k (0 : Int) H7) ((0 : Int) ≤ (1 : Int) ∧ bcase x1 (k (orI .u64 (shlI .u64 (qkM .u64 x0) (1 : Int)) (1 : Int)) H7) (k (shlI .u64 (qkM .u64 x0) (1 : Int)) H7))
theorem qaF.link {x0 : Int} {x1 : Bool} {H : AH} {k : Int → AH → Prop} (h : qaF.b x0 x1 H k) : qaF x0 x1 H k := lk1 pan hT hm Tryz.func65 (by kernel_rfl) (A := ann0) (by kernel_rfl) (by simp) (by kernel_rfl) h
def qJ.j1 (x0 : Sl) (x1 : Int) (k : Sl → AH → Prop) (n27 : Int) (t7 : Sl × Int) (HL7 : AH) : Prop :=
 (0 ≤ x1 ∧ x1 < ((x0.n : Nat) : Int)) ∧ onPtr x0.a fun a56 => elI .i64 (AH.cell? HL7 (qkN (qkN a56 (qkS x1 * 3)) 1)) fun n58 => bcase (decide ((n27 : Int) < n58)) ((0 ≤ x1 ∧ x1 < ((x0.n : Nat) : Int)) ∧ onPtr x0.a fun a63 => elI .i64 (AH.cell? HL7 (qkN (qkN a63 (qkS x1 * 3)) 0)) fun n65 => (0 ≤ x1 ∧ x1 < ((x0.n : Nat) : Int)) ∧ onPtr x0.a fun a70 => elI .i64 (AH.cell? HL7 (qkN (qkN a70 (qkS x1 * 3)) 1)) fun n72 => qaF (qkM .i64 (n72 - n27)) false HL7 fun n75 H75 => AH.cell? H75 (qkN (qkN a63 (qkS x1 * 3)) 0) = some (qkL .i64 n65) ∧ (qk0 [(qkL .i64 (qkM .i64 (n65 + n27))), (qkL .u64 n75)] = 2) ∧ newC H75 ⟨[(qkL .i64 (qkM .i64 (n65 + n27))), (qkL .u64 n75)], .rw, 2⟩ fun o77 H77 => appendC 2 H77 t7.1 ⟨(some ⟨o77, 0, none⟩), 1, 1⟩ fun s78 H78 => k s78 H78) (k t7.1 HL7)
def qJ.l2 (x0 : Sl) (x1 : Int) (k : Sl → AH → Prop) (n27 : Int) (t7 : Sl × Int) (HL7 : AH) (it7 : (Sl × Int) → AH → Prop) : Prop :=
 bcase (decide ((t7.2 : Int) < n27)) ((0 ≤ x1 ∧ x1 < ((x0.n : Nat) : Int)) ∧ onPtr x0.a fun a45 => elI .i64 (AH.cell? HL7 (qkN (qkN a45 (qkS x1 * 3)) 0)) fun n47 => (qk0 [(qkL .i64 (qkM .i64 (n47 + t7.2))), (qkL .u64 (0 : Int))] = 2) ∧ newC HL7 ⟨[(qkL .i64 (qkM .i64 (n47 + t7.2))), (qkL .u64 (0 : Int))], .rw, 2⟩ fun o51 H51 => appendC 2 H51 t7.1 ⟨(some ⟨o51, 0, none⟩), 1, 1⟩ fun s52 H52 => it7 (s52, (qkM .i64 (t7.2 + (1 : Int)))) H52) (qJ.j1 x0 x1 k n27 t7 HL7)
def qJ.b (x0 : Sl) (x1 : Int) (x2 : Int) (H : AH) (k : Sl → AH → Prop) : Prop :=
 qG x0 x1 x2 H fun s16a b16b H16 => bcase (!b16b) (k ⟨none, 0, 0⟩ H16) ((0 ≤ x1 ∧ x1 < ((x0.n : Nat) : Int)) ∧ onPtr x0.a fun a23 => elI .i64 (AH.cell? H16 (qkN (qkN a23 (qkS x1 * 3)) 1)) fun n25 => qY n25 x2 H16 fun n27 H27 => (0 ≤ x1 ∧ x1 < ((x0.n : Nat) : Int)) ∧ onPtr x0.a fun a30 => elI .i64 (AH.cell? H27 (qkN (qkN a30 (qkS x1 * 3)) 0)) fun n32 => qaF n27 true H27 fun n34 H34 => AH.cell? H34 (qkN (qkN a30 (qkS x1 * 3)) 0) = some (qkL .i64 n32) ∧ (qk0 [(qkL .i64 n32), (qkL .u64 n34)] = 2) ∧ newC H34 ⟨[(qkL .i64 n32), (qkL .u64 n34)], .rw, 2⟩ fun o36 H36 => loopT (qJ.l2 x0 x1 k n27) ((⟨(some ⟨o36, 0, none⟩), 1, 1⟩, (1 : Int)) : Sl × Int) H36)
def qJ.ann : Ann := { keep := fun r => match r with | 7 => [(10, .sl), (11, .int .i64)] | _ => [], ord := fun r => match r with | 5 => [0, 1, 2, 3, 4, 5, 6, 7, 8, 9] | 11 => [0, 1, 2, 3, 4, 5, 6, 7, 8, 9, 10, 11, 12, 13, 14, 15, 16, 17, 18, 19] | _ => [] }
theorem qJ.link {x0 : Sl} {x1 : Int} {x2 : Int} {H : AH} {k : Sl → AH → Prop} (h : qJ.b x0 x1 x2 H k) : qJ x0 x1 x2 H k := lk1 pan hT hm Tryz.func61 (by kernel_rfl) (A := qJ.ann) (by kernel_rfl) (by simp) (by kernel_rfl) h
def qal.j1 (k : Int → AH → Prop) (o1 : Nat) (H1 : AH) (x10 : Bool) : Prop :=
 bcase x10 (k (0 : Int) H1) (elI .i64 (AH.cell? H1 (qkN ⟨o1, 0, none⟩ 0)) fun n12 => k (qkM .i64 ((qkM .i64 (n12 + (1 : Int))) * (8 : Int))) H1)
def qal.b (x0 : List Value) (H : AH) (k : Int → AH → Prop) : Prop :=
 newC H ⟨x0, .rw, 0⟩ fun o1 H1 => elI .i64 (AH.cell? H1 (qkN ⟨o1, 0, none⟩ 0)) fun n4 => bcase (decide ((n4 : Int) < (0 : Int))) (qal.j1 k o1 H1 true) (elI .i64 (AH.cell? H1 (qkN ⟨o1, 0, none⟩ 0)) fun n8 => qal.j1 k o1 H1 (decide ((n8 : Int) > (512 : Int))))
theorem qal.link {x0 : List Value} {H : AH} {k : Int → AH → Prop} (h : qal.b x0 H k) : qal x0 H k := lk1 pan hT hm Tryz.func62 (by kernel_rfl) (A := ann0) (by kernel_rfl) (by simp) (by kernel_rfl) h
def qak.b (x0 : Sl) (x1 : Int) (x2 : Sl) (H : AH) (k : Sl → Int → Int → AH → Prop) : Prop :=
 qae x1 H fun n13 H13 => bcase ((n13 : Int) == (0 : Int)) (k ⟨none, 0, 0⟩ (0 : Int) (1 : Int) H13) (qK x0 H13 fun s17a b17b H17 => bcase (!b17b) (k ⟨none, 0, 0⟩ (0 : Int) (6 : Int) H17) (qae x1 H17 fun n24 H24 => qL s17a n24 x2 H24 fun n26 H26 => bcase (decide ((n26 : Int) < (0 : Int))) (k ⟨none, 0, 0⟩ (0 : Int) (4 : Int) H26) ((0 ≤ n26 ∧ n26 < ((s17a.n : Nat) : Int)) ∧ onPtr s17a.a fun a36 => ldA H26 (qkN a36 (qkS n26 * 3)) 3 fun c37 => qae x1 H26 fun n32 H32 => AH.row? H32 (qkN a36 (qkS n26 * 3)) 3 = some c37 ∧ qJ s17a n26 n32 H32 fun s33 H33 => AH.row? H33 (qkN a36 (qkS n26 * 3)) 3 = some c37 ∧ qal c37 H33 fun n38 H38 => k s33 n38 (0 : Int) H38)))
def qak.ann : Ann := { keep := fun r => match r with  | _ => [], ord := fun r => match r with | 9 => [0, 1, 2, 5, 6, 7, 8, 3, 4, 9, 10, 11, 12] | _ => [] }
theorem qak.link {x0 : Sl} {x1 : Int} {x2 : Sl} {H : AH} {k : Sl → Int → Int → AH → Prop} (h : qak.b x0 x1 x2 H k) : qak x0 x1 x2 H k := lk3 pan hT hm Tryz.func21 (by kernel_rfl) (A := qak.ann) (by kernel_rfl) (by simp) (by simp) (by simp) (by kernel_rfl) h
def qaN.l1 (x0 : Sl) (x1 : Int) (k : Int → AH → Prop) (t2 : Int × Int) (HL2 : AH) (it2 : (Int × Int) → AH → Prop) : Prop :=
 bcase (decide ((t2.2 : Int) < ((x0.n : Nat) : Int))) ((0 ≤ t2.2 ∧ t2.2 < ((x0.n : Nat) : Int)) ∧ onPtr x0.a fun a12 => ldA HL2 (qkN a12 (qkS t2.2 * 3)) 3 fun c13 => newC HL2 ⟨[(qkL .i64 (0 : Int)), (qkL .i64 (0 : Int)), (qln false)], .rw, 0⟩ fun o6 H6 => (qk0 c13 = 3 ∧ qlq c13 qq = true) ∧ stC H6 ⟨o6, 0, none⟩ c13 fun Hs2 => elB (AH.cell? Hs2 (qkN ⟨o6, 0, none⟩ 2)) fun b15 => bcase b15 (ldA Hs2 ⟨o6, 0, none⟩ 3 fun c17 => qal c17 Hs2 fun n18 H18 => bcase ((n18 : Int) == x1) (k t2.2 H18) (it2 (t2.1, (qkM .i64 (t2.2 + (1 : Int)))) H18)) (it2 (t2.1, (qkM .i64 (t2.2 + (1 : Int)))) Hs2)) (k (-1 : Int) HL2)
def qaN.b (x0 : Sl) (x1 : Int) (H : AH) (k : Int → AH → Prop) : Prop :=
 loopT (qaN.l1 x0 x1 k) (((0 : Int), (0 : Int)) : Int × Int) H
def qaN.ann : Ann := { keep := fun r => match r with | 2 => [(4, .int .i64), (9, .int .i64)] | _ => [], ord := fun r => match r with  | _ => [] }
theorem qaN.link {x0 : Sl} {x1 : Int} {H : AH} {k : Int → AH → Prop} (h : qaN.b x0 x1 H k) : qaN x0 x1 H k := lk1 pan hT hm Tryz.func64 (by kernel_rfl) (A := qaN.ann) (by kernel_rfl) (by simp) (by kernel_rfl) h
def ql.j1 (x0 : Sl) (k : Sl → Int → Bool → AH → Prop) (x7 : Int) (x8 : Int) (t10 : Int × Int) (HL10 : AH) : Prop :=
 (0 ≤ x7 ∧ x7 ≤ ((x0.n : Nat) : Int)) ∧ (0 ≤ x7 ∧ x7 < ((x0.n : Nat) : Int)) ∧ onPtr x0.a fun a86 => elI .i64 (AH.cell? HL10 (qkN (qkN a86 (qkS x7 * 3)) 0)) fun n88 => (qk0 [(qkL .i64 n88), (qkL .i64 t10.1), (qln false)] = 3) ∧ newC HL10 ⟨[(qkL .i64 n88), (qkL .i64 t10.1), (qln false)], .rw, 3⟩ fun o91 H91 => appendC 3 H91 ⟨none, 0, 0⟩ ⟨x0.a, (qkS x7), 0⟩ fun s83 H83 => AH.cell? H83 (qkN (qkN a86 (qkS x7 * 3)) 0) = some (qkL .i64 n88) ∧ appendC 3 H83 s83 ⟨(some ⟨o91, 0, none⟩), 1, 1⟩ fun s92 H92 => (0 ≤ x8 ∧ x8 ≤ ((x0.n : Nat) : Int)) ∧ appendC 3 H92 s92 ⟨(Option.map (fun x => qkN x (qkS x8 * 3)) x0.a), (x0.n - qkS x8), 0⟩ fun s97 H97 => k s97 x7 true H97
def ql.l2 (x0 : Sl) (k : Sl → Int → Bool → AH → Prop) (x7 : Int) (x8 : Int) (t10 : Int × Int) (HL10 : AH) (it10 : (Int × Int) → AH → Prop) : Prop :=
 bcase (decide ((t10.2 : Int) < (((qkS x8 - qkS x7) : Nat) : Int))) ((0 ≤ t10.2 ∧ t10.2 < (((qkS x8 - qkS x7) : Nat) : Int)) ∧ onPtr (Option.map (fun x => qkN x (qkS x7 * 3)) x0.a) fun a73 => ldA HL10 (qkN a73 (qkS t10.2 * 3)) 3 fun c74 => newC HL10 ⟨[(qkL .i64 (0 : Int)), (qkL .i64 (0 : Int)), (qln false)], .rw, 0⟩ fun o11 H11 => (qk0 c74 = 3 ∧ qlq c74 qq = true) ∧ stC H11 ⟨o11, 0, none⟩ c74 fun Hs2 => elI .i64 (AH.cell? Hs2 (qkN ⟨o11, 0, none⟩ 1)) fun n77 => it10 ((qkM .i64 (t10.1 + n77)), (qkM .i64 (t10.2 + (1 : Int)))) Hs2) (ql.j1 x0 k x7 x8 t10 HL10)
def ql.j3 (x0 : Sl) (k : Sl → Int → Bool → AH → Prop) (H16 : AH) (x7 : Int) (x8 : Int) : Prop :=
 (0 ≤ x7 ∧ x7 ≤ x8 ∧ x8 ≤ ((x0.n : Nat) : Int)) ∧ loopT (ql.l2 x0 k x7 x8) (((0 : Int), (0 : Int)) : Int × Int) H16
def ql.j4 (x0 : Sl) (x1 : Int) (k : Sl → Int → Bool → AH → Prop) (H16 : AH) (x7 : Int) (x63 : Bool) : Prop :=
 bcase x63 (ql.j3 x0 k H16 x7 (qkM .i64 ((qkM .i64 (x1 + (1 : Int))) + (1 : Int)))) (ql.j3 x0 k H16 x7 (qkM .i64 (x1 + (1 : Int))))
def ql.j5 (x0 : Sl) (x1 : Int) (k : Sl → Int → Bool → AH → Prop) (H16 : AH) (x7 : Int) : Prop :=
 bcase (decide (((qkM .i64 (x1 + (1 : Int))) : Int) < ((x0.n : Nat) : Int))) ((0 ≤ (qkM .i64 (x1 + (1 : Int))) ∧ (qkM .i64 (x1 + (1 : Int))) < ((x0.n : Nat) : Int)) ∧ onPtr x0.a fun a59 => elB (AH.cell? H16 (qkN (qkN a59 (qkS (qkM .i64 (x1 + (1 : Int))) * 3)) 2)) fun b61 => ql.j4 x0 x1 k H16 x7 (!b61)) (ql.j4 x0 x1 k H16 x7 false)
def ql.j6 (x0 : Sl) (x1 : Int) (k : Sl → Int → Bool → AH → Prop) (H16 : AH) (x49 : Bool) : Prop :=
 bcase x49 (ql.j5 x0 x1 k H16 (qkM .i64 (x1 - (1 : Int)))) (ql.j5 x0 x1 k H16 x1)
def ql.j7 (x0 : Sl) (x1 : Int) (k : Sl → Int → Bool → AH → Prop) (H16 : AH) (x35 : Bool) : Prop :=
 bcase x35 (k ⟨none, 0, 0⟩ (0 : Int) false H16) (bcase (decide ((x1 : Int) > (0 : Int))) ((0 ≤ (qkM .i64 (x1 - (1 : Int))) ∧ (qkM .i64 (x1 - (1 : Int))) < ((x0.n : Nat) : Int)) ∧ onPtr x0.a fun a45 => elB (AH.cell? H16 (qkN (qkN a45 (qkS (qkM .i64 (x1 - (1 : Int))) * 3)) 2)) fun b47 => ql.j6 x0 x1 k H16 (!b47)) (ql.j6 x0 x1 k H16 false))
def ql.b (x0 : Sl) (x1 : Int) (H : AH) (k : Sl → Int → Bool → AH → Prop) : Prop :=
 qP x0 H fun n15 H15 => qp x0 n15 H15 fun b16 H16 => bcase (!b16) (ql.j7 x0 x1 k H16 true) (bcase (decide ((x1 : Int) < (0 : Int))) (ql.j7 x0 x1 k H16 true) (bcase (decide ((x1 : Int) ≥ ((x0.n : Nat) : Int))) (ql.j7 x0 x1 k H16 true) ((0 ≤ x1 ∧ x1 < ((x0.n : Nat) : Int)) ∧ onPtr x0.a fun a31 => elB (AH.cell? H16 (qkN (qkN a31 (qkS x1 * 3)) 2)) fun b33 => ql.j7 x0 x1 k H16 (!b33))))
def ql.ann : Ann := { keep := fun r => match r with | 10 => [(9, .int .i64), (71, .int .i64)] | _ => [], ord := fun r => match r with | 14 => [0, 1, 2, 4, 5, 6, 7, 8, 9, 10, 11, 3, 12, 13] | _ => [] }
theorem ql.link {x0 : Sl} {x1 : Int} {H : AH} {k : Sl → Int → Bool → AH → Prop} (h : ql.b x0 x1 H k) : ql x0 x1 H k := lk3 pan hT hm Tryz.func63 (by kernel_rfl) (A := ql.ann) (by kernel_rfl) (by simp) (by simp) (by simp) (by kernel_rfl) h
def qap.b (x0 : Sl) (x1 : Int) (H : AH) (k : Sl → Int → AH → Prop) : Prop :=
 qK x0 H fun s12a b12b H12 => bcase (!b12b) (k ⟨none, 0, 0⟩ (6 : Int) H12) (qaN s12a x1 H12 fun n21 H21 => ql s12a n21 H21 fun s22a n22b b22c H22 => bcase (!b22c) (k ⟨none, 0, 0⟩ (1 : Int) H22) ((0 ≤ n22b ∧ n22b < ((s22a.n : Nat) : Int)) ∧ onPtr s22a.a fun a30 => elI .i64 (AH.cell? H22 (qkN (qkN a30 (qkS n22b * 3)) 0)) fun n32 => (0 ≤ n22b ∧ n22b < ((s22a.n : Nat) : Int)) ∧ onPtr s22a.a fun a35 => elI .i64 (AH.cell? H22 (qkN (qkN a35 (qkS n22b * 3)) 1)) fun n37 => qaF n37 false H22 fun n38 H38 => AH.cell? H38 (qkN (qkN a30 (qkS n22b * 3)) 0) = some (qkL .i64 n32) ∧ (qk0 [(qkL .i64 n32), (qkL .u64 n38)] = 2) ∧ newC H38 ⟨[(qkL .i64 n32), (qkL .u64 n38)], .rw, 2⟩ fun o40 H40 => k ⟨(some ⟨o40, 0, none⟩), 1, 1⟩ (0 : Int) H40))
def qap.ann : Ann := { keep := fun r => match r with  | _ => [], ord := fun r => match r with | 7 => [0, 1, 2, 3, 4, 5, 6, 7, 8, 9, 10, 11, 12, 13, 14] | _ => [] }
theorem qap.link {x0 : Sl} {x1 : Int} {H : AH} {k : Sl → Int → AH → Prop} (h : qap.b x0 x1 H k) : qap x0 x1 H k := lk2 pan hT hm Tryz.func22 (by kernel_rfl) (A := qap.ann) (by kernel_rfl) (by simp) (by simp) (by kernel_rfl) h
def qR.l1 (x0 : Sl) (x1 : Int) (x2 : Int) (k : Bool → AH → Prop) (t4 : Bool × Int) (HL4 : AH) (it4 : (Bool × Int) → AH → Prop) : Prop :=
 bcase (decide ((t4.2 : Int) < ((x0.n : Nat) : Int))) ((0 ≤ t4.2 ∧ t4.2 < ((x0.n : Nat) : Int)) ∧ onPtr x0.a fun a20 => ldA HL4 (qkN a20 (qkS t4.2 * 3)) 3 fun c21 => newC HL4 ⟨[(qkL .i64 (0 : Int)), (qkL .i64 (0 : Int)), (qln false)], .rw, 0⟩ fun o8 H8 => (qk0 c21 = 3 ∧ qlq c21 qq = true) ∧ stC H8 ⟨o8, 0, none⟩ c21 fun Hs2 => elI .i64 (AH.cell? Hs2 (qkN ⟨o8, 0, none⟩ 0)) fun n23 => elI .i64 (AH.cell? Hs2 (qkN ⟨o8, 0, none⟩ 1)) fun n25 => elB (AH.cell? Hs2 (qkN ⟨o8, 0, none⟩ 2)) fun b29 => bcase b29 (ldA Hs2 ⟨o8, 0, none⟩ 3 fun c32 => qal c32 Hs2 fun n33 H33 => bcase (decide ((x1 : Int) ≥ n33)) (bcase (decide ((x1 : Int) ≤ (qkM .i64 ((qkM .i64 (n23 + n25)) * (8 : Int))))) (bcase (decide ((x2 : Int) ≤ (qkM .i64 ((qkM .i64 ((qkM .i64 (n23 + n25)) * (8 : Int))) - x1)))) (k true H33) (it4 (t4.1, (qkM .i64 (t4.2 + (1 : Int)))) H33)) (it4 (t4.1, (qkM .i64 (t4.2 + (1 : Int)))) H33)) (it4 (t4.1, (qkM .i64 (t4.2 + (1 : Int)))) H33)) (it4 (t4.1, (qkM .i64 (t4.2 + (1 : Int)))) Hs2)) (k false HL4)
def qR.j2 (x0 : Sl) (x1 : Int) (x2 : Int) (H : AH) (k : Bool → AH → Prop) (x15 : Bool) : Prop :=
 bcase x15 (k false H) (loopT (qR.l1 x0 x1 x2 k) ((false, (0 : Int)) : Bool × Int) H)
def qR.b (x0 : Sl) (x1 : Int) (x2 : Int) (H : AH) (k : Bool → AH → Prop) : Prop :=
 bcase (decide ((x2 : Int) < (0 : Int))) (qR.j2 x0 x1 x2 H k true) (qR.j2 x0 x1 x2 H k (decide ((x2 : Int) > (448 : Int))))
def qR.ann : Ann := { keep := fun r => match r with | 4 => [(6, .bool), (18, .int .i64)] | _ => [], ord := fun r => match r with  | _ => [] }
theorem qR.link {x0 : Sl} {x1 : Int} {x2 : Int} {H : AH} {k : Bool → AH → Prop} (h : qR.b x0 x1 x2 H k) : qR x0 x1 x2 H k := lk1 pan hT hm Tryz.func66 (by kernel_rfl) (A := qR.ann) (by kernel_rfl) (by simp) (by kernel_rfl) h
def qa1.b (x0 : Int) (x1 : Int) (x2 : Int) (H : AH) (k : Bool → AH → Prop) : Prop :=
 bcase (decide ((x1 : Int) ≥ (0 : Int))) (bcase (decide ((x2 : Int) ≥ (0 : Int))) (bcase (decide ((x2 : Int) ≤ (448 : Int))) (bcase (decide ((x1 : Int) ≤ (qkM .i64 ((8 : Int) * x0)))) (k (decide ((x2 : Int) ≤ (qkM .i64 ((qkM .i64 ((8 : Int) * x0)) - x1)))) H) (k false H)) (k false H)) (k false H)) (k false H)
theorem qa1.link {x0 : Int} {x1 : Int} {x2 : Int} {H : AH} {k : Bool → AH → Prop} (h : qa1.b x0 x1 x2 H k) : qa1 x0 x1 x2 H k := lk1 pan hT hm Tryz.func117 (by kernel_rfl) (A := ann0) (by kernel_rfl) (by simp) (by kernel_rfl) h
def qz.j1 (x1 : Int) (t5 : Sl × Int) (it5 : (Sl × Int) → AH → Prop) (n28 : Int) (x8 : Sl) (Hj : AH) : Prop :=
 (0 ≤ (qkM .i64 (((x8.n : Nat) : Int) - (1 : Int))) ∧ (qkM .i64 (((x8.n : Nat) : Int) - (1 : Int))) < ((x8.n : Nat) : Int)) ∧ onPtr x8.a fun a66 => elI .u64 (AH.cell? Hj (qkN (qkN a66 (qkS (qkM .i64 (((x8.n : Nat) : Int) - (1 : Int))) * 2)) 1)) fun n71 => (0 : Int) ≤ (qkM .u64 (qkM .i64 ((qlK (qkM .i64 (x1 + t5.2)) (8 : Int)) * (8 : Int)))) ∧ (0 : Int) ≤ (qkM .u64 (qkM .i64 ((qlK (qkM .i64 (x1 + t5.2)) (8 : Int)) * (8 : Int)))) ∧ stC Hj (qkN (qkN a66 (qkS (qkM .i64 (((x8.n : Nat) : Int) - (1 : Int))) * 2)) 1) [(qkL .u64 (orI .u64 (andNotI .u64 n71 (shlI .u64 (255 : Int) (qkM .u64 (qkM .i64 ((qlK (qkM .i64 (x1 + t5.2)) (8 : Int)) * (8 : Int)))))) (shlI .u64 (qkM .u64 n28) (qkM .u64 (qkM .i64 ((qlK (qkM .i64 (x1 + t5.2)) (8 : Int)) * (8 : Int)))))))] fun Hs2 => it5 (x8, (qkM .i64 (t5.2 + (1 : Int)))) Hs2
def qz.j2 (x0 : Sl) (x1 : Int) (t5 : Sl × Int) (it5 : (Sl × Int) → AH → Prop) (HL5 : AH) (n28 : Int) (x52 : Bool) : Prop :=
 bcase x52 ((0 ≤ (qkM .i64 (qlF (qkM .i64 (x1 + t5.2)) (8 : Int))) ∧ (qkM .i64 (qlF (qkM .i64 (x1 + t5.2)) (8 : Int))) < ((x0.n : Nat) : Int)) ∧ onPtr x0.a fun a57 => elI .u64 (AH.cell? HL5 (qkN a57 (qkS (qkM .i64 (qlF (qkM .i64 (x1 + t5.2)) (8 : Int))) * 1))) fun n58 => (qk0 [(qkL .i64 (qkM .i64 (qlF (qkM .i64 (x1 + t5.2)) (8 : Int)))), (qkL .u64 n58)] = 2) ∧ newC HL5 ⟨[(qkL .i64 (qkM .i64 (qlF (qkM .i64 (x1 + t5.2)) (8 : Int)))), (qkL .u64 n58)], .rw, 2⟩ fun o60 H60 => appendC 2 H60 t5.1 ⟨(some ⟨o60, 0, none⟩), 1, 1⟩ fun s61 H61 => qz.j1 x1 t5 it5 n28 s61 H61) (qz.j1 x1 t5 it5 n28 t5.1 HL5)
def qz.l3 (x0 : Sl) (x1 : Int) (x2 : Sl) (k : Sl → Bool → AH → Prop) (t5 : Sl × Int) (HL5 : AH) (it5 : (Sl × Int) → AH → Prop) : Prop :=
 bcase (decide ((t5.2 : Int) < ((x2.n : Nat) : Int))) ((0 ≤ t5.2 ∧ t5.2 < ((x2.n : Nat) : Int)) ∧ onPtr x2.a fun a27 => elI .u8 (AH.cell? HL5 (qkN a27 (qkS t5.2 * 1))) fun n28 => ((8 : Int) : Int) ≠ 0 ∧ ((8 : Int) : Int) ≠ 0 ∧ bcase ((((t5.1.n : Nat) : Int) : Int) == (0 : Int)) (qz.j2 x0 x1 t5 it5 HL5 n28 true) ((0 ≤ (qkM .i64 (((t5.1.n : Nat) : Int) - (1 : Int))) ∧ (qkM .i64 (((t5.1.n : Nat) : Int) - (1 : Int))) < ((t5.1.n : Nat) : Int)) ∧ onPtr t5.1.a fun a47 => elI .i64 (AH.cell? HL5 (qkN (qkN a47 (qkS (qkM .i64 (((t5.1.n : Nat) : Int) - (1 : Int))) * 2)) 0)) fun n49 => qz.j2 x0 x1 t5 it5 HL5 n28 ((n49 : Int) != (qkM .i64 (qlF (qkM .i64 (x1 + t5.2)) (8 : Int)))))) (k t5.1 true HL5)
def qz.b (x0 : Sl) (x1 : Int) (x2 : Sl) (H : AH) (k : Sl → Bool → AH → Prop) : Prop :=
 qa1 ((x0.n : Nat) : Int) x1 ((x2.n : Nat) : Int) H fun b20 H20 => bcase (!b20) (k ⟨none, 0, 0⟩ false H20) (loopT (qz.l3 x0 x1 x2 k) ((⟨none, 0, 0⟩, (0 : Int)) : Sl × Int) H20)
def qz.ann : Ann := { keep := fun r => match r with | 5 => [(8, .sl), (24, .int .i64)] | _ => [], ord := fun r => match r with  | _ => [] }
theorem qz.link {x0 : Sl} {x1 : Int} {x2 : Sl} {H : AH} {k : Sl → Bool → AH → Prop} (h : qz.b x0 x1 x2 H k) : qz x0 x1 x2 H k := lk2 pan hT hm Tryz.func67 (by kernel_rfl) (A := qz.ann) (by kernel_rfl) (by simp) (by simp) (by kernel_rfl) h
def qaC.b (x0 : Sl) (x1 : Int) (x2 : Sl) (H : AH) (k : Sl → Int → AH → Prop) : Prop :=
 qK x0 H fun s14a b14b H14 => bcase (!b14b) (k ⟨none, 0, 0⟩ (6 : Int) H14) (qR s14a x1 ((x2.n : Nat) : Int) H14 fun b23 H23 => bcase (!b23) (k ⟨none, 0, 0⟩ (1 : Int) H23) (qz x0 x1 x2 H23 fun s29a b29b H29 => k s29a (0 : Int) H29))
theorem qaC.link {x0 : Sl} {x1 : Int} {x2 : Sl} {H : AH} {k : Sl → Int → AH → Prop} (h : qaC.b x0 x1 x2 H k) : qaC x0 x1 x2 H k := lk2 pan hT hm Tryz.func23 (by kernel_rfl) (A := ann0) (by kernel_rfl) (by simp) (by simp) (by kernel_rfl) h
def qo.j1 (t3 : Sl × Int) (it3 : (Sl × Int) → AH → Prop) (n18 : Int) (t7 : Int) (HL7 : AH) (x45 : Bool) : Prop :=
 bcase x45 ((0 ≤ t7 ∧ t7 ≤ ((t3.1.n : Nat) : Int)) ∧ newC HL7 ⟨[(qkL .i64 (qkM .i64 (qlF n18 (8 : Int))))], .rw, 1⟩ fun o51 H51 => (0 ≤ t7 ∧ t7 ≤ ((t3.1.n : Nat) : Int)) ∧ appendC 1 H51 ⟨none, 0, 0⟩ ⟨t3.1.a, (qkS t7), 0⟩ fun s49 H49 => appendC 1 H49 s49 ⟨(some ⟨o51, 0, none⟩), 1, 1⟩ fun s52 H52 => appendC 1 H52 s52 ⟨(Option.map (fun x => qkN x (qkS t7 * 1)) t3.1.a), (t3.1.n - qkS t7), 0⟩ fun s56 H56 => it3 (s56, (qkM .i64 (t3.2 + (1 : Int)))) H56) (it3 (t3.1, (qkM .i64 (t3.2 + (1 : Int)))) HL7)
def qo.j2 (t3 : Sl × Int) (it3 : (Sl × Int) → AH → Prop) (n18 : Int) (t7 : Int) (HL7 : AH) : Prop :=
 bcase ((t7 : Int) == ((t3.1.n : Nat) : Int)) (qo.j1 t3 it3 n18 t7 HL7 true) ((0 ≤ t7 ∧ t7 < ((t3.1.n : Nat) : Int)) ∧ onPtr t3.1.a fun a41 => elI .i64 (AH.cell? HL7 (qkN a41 (qkS t7 * 1))) fun n42 => qo.j1 t3 it3 n18 t7 HL7 ((n42 : Int) != (qkM .i64 (qlF n18 (8 : Int)))))
def qo.j3 (t3 : Sl × Int) (it3 : (Sl × Int) → AH → Prop) (n18 : Int) (t7 : Int) (it7 : (Int) → AH → Prop) (HL7 : AH) (x31 : Bool) : Prop :=
 bcase x31 (it7 (qkM .i64 (t7 + (1 : Int))) HL7) (qo.j2 t3 it3 n18 t7 HL7)
def qo.l4 (t3 : Sl × Int) (it3 : (Sl × Int) → AH → Prop) (n18 : Int) (t7 : Int) (HL7 : AH) (it7 : (Int) → AH → Prop) : Prop :=
 bcase (decide ((t7 : Int) < ((t3.1.n : Nat) : Int))) ((0 ≤ t7 ∧ t7 < ((t3.1.n : Nat) : Int)) ∧ onPtr t3.1.a fun a27 => elI .i64 (AH.cell? HL7 (qkN a27 (qkS t7 * 1))) fun n28 => qo.j3 t3 it3 n18 t7 it7 HL7 (decide ((n28 : Int) < (qkM .i64 (qlF n18 (8 : Int)))))) (qo.j3 t3 it3 n18 t7 it7 HL7 false)
def qo.l5 (x0 : Sl) (k : Sl → AH → Prop) (t3 : Sl × Int) (HL3 : AH) (it3 : (Sl × Int) → AH → Prop) : Prop :=
 bcase (decide ((t3.2 : Int) < ((x0.n : Nat) : Int))) ((0 ≤ t3.2 ∧ t3.2 < ((x0.n : Nat) : Int)) ∧ onPtr x0.a fun a12 => ldA HL3 (qkN a12 (qkS t3.2 * 2)) 2 fun c13 => newC HL3 ⟨[(qkL .i64 (0 : Int)), (qkL .u64 (0 : Int))], .rw, 0⟩ fun o5 H5 => (qk0 c13 = 2 ∧ qlq c13 qq = true) ∧ stC H5 ⟨o5, 0, none⟩ c13 fun Hs2 => elI .i64 (AH.cell? Hs2 (qkN ⟨o5, 0, none⟩ 0)) fun n15 => bcase (decide ((n15 : Int) < (0 : Int))) (it3 (t3.1, (qkM .i64 (t3.2 + (1 : Int)))) Hs2) (elI .i64 (AH.cell? Hs2 (qkN ⟨o5, 0, none⟩ 0)) fun n18 => ((8 : Int) : Int) ≠ 0 ∧ loopT (qo.l4 t3 it3 n18) (((0 : Int)) : Int) Hs2)) (k t3.1 HL3)
def qo.b (x0 : Sl) (H : AH) (k : Sl → AH → Prop) : Prop :=
 loopT (qo.l5 x0 k) ((⟨none, 0, 0⟩, (0 : Int)) : Sl × Int) H
def qo.ann : Ann := { keep := fun r => match r with | 3 => [(3, .sl), (10, .int .i64)] | 7 => [(7, .int .i64)] | _ => [], ord := fun r => match r with | 10 => [0, 1, 2, 4, 5, 7, 8, 9, 3, 6, 10, 11] | _ => [] }
theorem qo.link {x0 : Sl} {H : AH} {k : Sl → AH → Prop} (h : qo.b x0 H k) : qo x0 H k := lk1 pan hT hm Tryz.func24 (by kernel_rfl) (A := qo.ann) (by kernel_rfl) (by simp) (by kernel_rfl) h
def qi.j1 (k : Bool → AH → Prop) (HL8 : AH) : Prop :=
 qbf  HL8 fun b142 H142 => k b142 H142
def qi.l2 (k : Bool → AH → Prop) (t8 : Bool × Int) (it8 : (Bool × Int) → AH → Prop) (s91 : Sl) (s120 : Sl) (t35 : Bool × Int) (HL35 : AH) (it35 : (Bool × Int) → AH → Prop) : Prop :=
 bcase (decide ((t35.2 : Int) < ((s120.n : Nat) : Int))) ((0 ≤ t35.2 ∧ t35.2 < ((s120.n : Nat) : Int)) ∧ onPtr s120.a fun a133 => elI .i64 (AH.cell? HL35 (qkN a133 (qkS t35.2 * 1))) fun n134 => (0 ≤ t35.2 ∧ t35.2 < ((s91.n : Nat) : Int)) ∧ onPtr s91.a fun a137 => elI .i64 (AH.cell? HL35 (qkN a137 (qkS t35.2 * 1))) fun n138 => bcase ((n134 : Int) != n138) (k false HL35) (it35 (t35.1, (qkM .i64 (t35.2 + (1 : Int)))) HL35)) (it8 (t35.1, (qkM .i64 (t8.2 + (1 : Int)))) HL35)
def qi.j3 (k : Bool → AH → Prop) (p35a : Option Addr) (t8 : Bool × Int) (it8 : (Bool × Int) → AH → Prop) (s91 : Sl) (x4 : Bool) (Hj : AH) : Prop :=
 qbh p35a Hj fun s120 H120 => bcase ((((s120.n : Nat) : Int) : Int) != ((s91.n : Nat) : Int)) (k false H120) (loopT (qi.l2 k t8 it8 s91 s120) ((x4, (0 : Int)) : Bool × Int) H120)
def qi.l4 (k : Bool → AH → Prop) (p35a : Option Addr) (t8 : Bool × Int) (it8 : (Bool × Int) → AH → Prop) (s91 : Sl) (s100 : Sl) (t25 : Bool × Int) (HL25 : AH) (it25 : (Bool × Int) → AH → Prop) : Prop :=
 bcase (decide ((t25.2 : Int) < ((s100.n : Nat) : Int))) ((0 ≤ t25.2 ∧ t25.2 < ((s100.n : Nat) : Int)) ∧ onPtr s100.a fun a104 => elI .i64 (AH.cell? HL25 (qkN a104 (qkS t25.2 * 1))) fun n105 => ((4 : Int) : Int) ≠ 0 ∧ bcase (decide (((qkM .i64 (qlF n105 (4 : Int))) : Int) ≥ ((s91.n : Nat) : Int))) (k false HL25) (((4 : Int) : Int) ≠ 0 ∧ (0 ≤ (qkM .i64 (qlF n105 (4 : Int))) ∧ (qkM .i64 (qlF n105 (4 : Int))) < ((s91.n : Nat) : Int)) ∧ onPtr s91.a fun a114 => elI .i64 (AH.cell? HL25 (qkN a114 (qkS (qkM .i64 (qlF n105 (4 : Int))) * 1))) fun n115 => (0 ≤ (qkM .i64 (qlF n105 (4 : Int))) ∧ (qkM .i64 (qlF n105 (4 : Int))) < ((s91.n : Nat) : Int)) ∧ onPtr s91.a fun a117 => stC HL25 (qkN a117 (qkS (qkM .i64 (qlF n105 (4 : Int))) * 1)) [(qkL .i64 (qkM .i64 (n115 + (1 : Int))))] fun Hs8 => it25 (t25.1, (qkM .i64 (t25.2 + (1 : Int)))) Hs8)) (qi.j3 k p35a t8 it8 s91 t25.1 HL25)
def qi.j5 (k : Bool → AH → Prop) (p35a : Option Addr) (t8 : Bool × Int) (it8 : (Bool × Int) → AH → Prop) (x12 : Sl) (H91 : AH) (s91 : Sl) (x98 : Bool) : Prop :=
 bcase x98 (qo x12 H91 fun s100 H100 => loopT (qi.l4 k p35a t8 it8 s91 s100) ((t8.1, (0 : Int)) : Bool × Int) H100) (qi.j3 k p35a t8 it8 s91 t8.1 H91)
def qi.j6 (k : Bool → AH → Prop) (p35a : Option Addr) (t8 : Bool × Int) (it8 : (Bool × Int) → AH → Prop) (o8 : Nat) (s52 : Sl) (x12 : Sl) (x13 : Int) (Hj : AH) : Prop :=
 ldA Hj ⟨o8, 0, none⟩ 5 fun c87 => qv p35a c87 Hj fun c88 H88 => newC H88 ⟨[(qkL .i64 (0 : Int)), (qkL .i64 (0 : Int)), (qlo none 0 0)], .rw, 0⟩ fun o14 H14 => (qk0 c88 = 3 ∧ qlq c88 qq = true) ∧ stC H14 ⟨o14, 0, none⟩ c88 fun Hs6 => newC Hs6 ⟨[], .rw, 1⟩ fun o89 H89 => appendC 1 H89 ⟨(some ⟨o89, 0, none⟩), 0, 1⟩ s52 fun s91 H91 => bcase ((x13 : Int) == (0 : Int)) (elI .i64 (AH.cell? H91 (qkN ⟨o14, 0, none⟩ 0)) fun n96 => qi.j5 k p35a t8 it8 x12 H91 s91 ((n96 : Int) == (0 : Int))) (qi.j5 k p35a t8 it8 x12 H91 s91 false)
def qi.l7 (x1 : Sl) (k : Bool → AH → Prop) (p35a : Option Addr) (t8 : Bool × Int) (HL8 : AH) (it8 : (Bool × Int) → AH → Prop) : Prop :=
 bcase (decide ((t8.2 : Int) < ((x1.n : Nat) : Int))) ((0 ≤ t8.2 ∧ t8.2 < ((x1.n : Nat) : Int)) ∧ onPtr x1.a fun a44 => ldA HL8 (qkN a44 (qkS t8.2 * 5)) 5 fun c45 => newC HL8 ⟨[(qkL .i64 (0 : Int)), (qkL .i64 (0 : Int)), (qkL .i64 (0 : Int)), (qkL .i64 (0 : Int)), (qlo none 0 0)], .rw, 0⟩ fun o8 H8 => (qk0 c45 = 5 ∧ qlq c45 qq = true) ∧ stC H8 ⟨o8, 0, none⟩ c45 fun Hs4 => qaf p35a Hs4 fun s48a n48b H48 => qbh p35a H48 fun s52 H52 => elI .i64 (AH.cell? H52 (qkN ⟨o8, 0, none⟩ 0)) fun n54 => bcase ((n54 : Int) == (1 : Int)) (elI .i64 (AH.cell? H52 (qkN ⟨o8, 0, none⟩ 2)) fun n60 => qak s48a n60 s52 H52 fun s62a n62b n62c H62 => qi.j6 k p35a t8 it8 o8 s52 s62a n62c H62) (bcase ((n54 : Int) == (2 : Int)) (elI .i64 (AH.cell? H52 (qkN ⟨o8, 0, none⟩ 1)) fun n71 => qap s48a n71 H52 fun s72a n72b H72 => qi.j6 k p35a t8 it8 o8 s52 s72a n72b H72) (bcase ((n54 : Int) == (4 : Int)) (elI .i64 (AH.cell? H52 (qkN ⟨o8, 0, none⟩ 1)) fun n80 => elL (AH.cell? H52 (qkN ⟨o8, 0, none⟩ 4)) fun s82 => qaC s48a n80 s82 H52 fun s83a n83b H83 => qi.j6 k p35a t8 it8 o8 s52 s83a n83b H83) (qi.j6 k p35a t8 it8 o8 s52 ⟨none, 0, 0⟩ (1 : Int) H52)))) (qi.j1 k HL8)
def qi.b (x0 : List Value) (x1 : Sl) (H : AH) (k : Bool → AH → Prop) : Prop :=
 newC H ⟨x0, .rw, 0⟩ fun o2 H2 => qA x1 ⟨none, 0, 0⟩ H2 fun n21 H21 => bcase (decide ((n21 : Int) > (0 : Int))) (qbf  H21 fun b23 H23 => k b23 H23) (elI .i64 (AH.cell? H21 (qkN ⟨o2, 0, none⟩ 0)) fun n25 => elI .i64 (AH.cell? H21 (qkN ⟨o2, 0, none⟩ 1)) fun n27 => elI .i64 (AH.cell? H21 (qkN ⟨o2, 0, none⟩ 2)) fun n29 => elI .i64 (AH.cell? H21 (qkN ⟨o2, 0, none⟩ 3)) fun n31 => qaX n25 n27 n29 n31 H21 fun c32 H32 => (qk0 c32 = 4 ∧ qlq c32 qq = true) ∧ stC H32 ⟨o2, 0, none⟩ c32 fun Hs2 => ldA Hs2 ⟨o2, 0, none⟩ 4 fun c34 => qaH c34 ⟨none, 0, 0⟩ Hs2 fun p35a p35b H35 => bcase (qlA p35a) (k false H35) (loopT (qi.l7 x1 k p35a) ((false, (0 : Int)) : Bool × Int) H35))
def qi.ann : Ann := { keep := fun r => match r with | 8 => [(4, .bool), (42, .int .i64)] | 25 => [(4, .bool), (102, .int .i64)] | 35 => [(4, .bool), (128, .int .i64)] | _ => [], ord := fun r => match r with | 37 => [0, 1, 2, 3, 4, 5, 6, 7, 8] | _ => [] }
theorem qi.link {x0 : List Value} {x1 : Sl} {H : AH} {k : Bool → AH → Prop} (h : qi.b x0 x1 H k) : qi x0 x1 H k := lk1 pan hT hm Tryz.func5 (by kernel_rfl) (A := qi.ann) (by kernel_rfl) (by simp) (by kernel_rfl) h
def qat.b (x0 : Int) (H : AH) (pk : Value → AH → Prop) (k : AH → Prop) : Prop :=
 bcase ((x0 : Int) != (0 : Int)) (pk (Value.iface 37 (qkL .i64 x0)) H) (k H)
theorem qat.link {x0 : Int} {H : AH} {pk : Value → AH → Prop} {k : AH → Prop} (h : qat.b x0 H pk k) : qat x0 H pk k := lk0 pan hT hm Tryz.func100 (by kernel_rfl) (A := ann0) (by kernel_rfl) (by kernel_rfl) h
def qa5.b (x0 : Option Addr) (H : AH) (pk : Value → AH → Prop) (k : Sl → AH → Prop) : Prop :=
 qaf x0 H fun s7a n7b H7 => qat n7b H7 (fun pv11 Hp11 => pk pv11 Hp11) fun H11 => k s7a H11
theorem qa5.link {x0 : Option Addr} {H : AH} {pk : Value → AH → Prop} {k : Sl → AH → Prop} (h : qa5.b x0 H pk k) : qa5 x0 H pk k := lk1 pan hT hm Tryz.func96 (by kernel_rfl) (A := ann0) (by kernel_rfl) (by simp) (by kernel_rfl) h
def qbW.j1 (x0 : Int) (H : AH) (k : Int → AH → Prop) (x8 : Bool) : Prop :=
 bcase x8 (k (0 : Int) H) (((8 : Int) : Int) ≠ 0 ∧ k (qkM .i64 ((qkM .i64 (qlF (qkM .i64 (x0 + (7 : Int))) (8 : Int))) + (1 : Int))) H)
def qbW.b (x0 : Int) (H : AH) (k : Int → AH → Prop) : Prop :=
 bcase (decide ((x0 : Int) < (1 : Int))) (qbW.j1 x0 H k true) (qbW.j1 x0 H k (decide ((x0 : Int) > (448 : Int))))
theorem qbW.link {x0 : Int} {H : AH} {k : Int → AH → Prop} (h : qbW.b x0 H k) : qbW x0 H k := lk1 pan hT hm Tryz.func97 (by kernel_rfl) (A := ann0) (by kernel_rfl) (by simp) (by kernel_rfl) h
def qaA.b (x0 : Option Addr) (H : AH) (pk : Value → AH → Prop) (k : AH → Prop) : Prop :=
 qbV x0 H fun b3 H3 => bcase b3 (pk (Value.iface 37 (qkL .i64 (3 : Int))) H3) (k H3)
theorem qaA.link {x0 : Option Addr} {H : AH} {pk : Value → AH → Prop} {k : AH → Prop} (h : qaA.b x0 H pk k) : qaA x0 H pk k := lk0 pan hT hm Tryz.func98 (by kernel_rfl) (A := ann0) (by kernel_rfl) (by kernel_rfl) h
def qag.j1 (t3 : Sl × Int) (it3 : (Sl × Int) → AH → Prop) (Hs2 : AH) (x5 : Sl) (x56 : Bool) : Prop :=
 bcase x56 (newC Hs2 ⟨[(qkL .i64 t3.2)], .rw, 1⟩ fun o59 H59 => appendC 1 H59 x5 ⟨(some ⟨o59, 0, none⟩), 1, 1⟩ fun s60 H60 => it3 (s60, (qkM .i64 (t3.2 + (1 : Int)))) H60) (it3 (x5, (qkM .i64 (t3.2 + (1 : Int)))) Hs2)
def qag.j2 (x0 : Sl) (t3 : Sl × Int) (it3 : (Sl × Int) → AH → Prop) (o7 : Nat) (Hs2 : AH) (x5 : Sl) : Prop :=
 bcase ((((x5.n : Nat) : Int) : Int) == (0 : Int)) (qag.j1 t3 it3 Hs2 x5 true) (elI .i64 (AH.cell? Hs2 (qkN ⟨o7, 0, none⟩ 1)) fun n47 => (0 ≤ (0 : Int) ∧ (0 : Int) < ((x5.n : Nat) : Int)) ∧ onPtr x5.a fun a50 => elI .i64 (AH.cell? Hs2 (qkN a50 (qkS (0 : Int) * 1))) fun n51 => (0 ≤ n51 ∧ n51 < ((x0.n : Nat) : Int)) ∧ onPtr x0.a fun a52 => elI .i64 (AH.cell? Hs2 (qkN (qkN a52 (qkS n51 * 3)) 1)) fun n54 => qag.j1 t3 it3 Hs2 x5 ((n47 : Int) == n54))
def qag.j3 (x0 : Sl) (t3 : Sl × Int) (it3 : (Sl × Int) → AH → Prop) (o7 : Nat) (Hs2 : AH) (x41 : Bool) : Prop :=
 bcase x41 (qag.j2 x0 t3 it3 o7 Hs2 ⟨none, 0, 0⟩) (qag.j2 x0 t3 it3 o7 Hs2 t3.1)
def qag.j4 (x0 : Sl) (t3 : Sl × Int) (it3 : (Sl × Int) → AH → Prop) (o7 : Nat) (Hs2 : AH) (x26 : Bool) : Prop :=
 bcase x26 (it3 (t3.1, (qkM .i64 (t3.2 + (1 : Int)))) Hs2) (bcase (decide ((((t3.1.n : Nat) : Int) : Int) > (0 : Int))) (elI .i64 (AH.cell? Hs2 (qkN ⟨o7, 0, none⟩ 1)) fun n32 => (0 ≤ (0 : Int) ∧ (0 : Int) < ((t3.1.n : Nat) : Int)) ∧ onPtr t3.1.a fun a35 => elI .i64 (AH.cell? Hs2 (qkN a35 (qkS (0 : Int) * 1))) fun n36 => (0 ≤ n36 ∧ n36 < ((x0.n : Nat) : Int)) ∧ onPtr x0.a fun a37 => elI .i64 (AH.cell? Hs2 (qkN (qkN a37 (qkS n36 * 3)) 1)) fun n39 => qag.j3 x0 t3 it3 o7 Hs2 (decide ((n32 : Int) < n39))) (qag.j3 x0 t3 it3 o7 Hs2 false))
def qag.l5 (x0 : Sl) (x1 : Int) (k : Sl → AH → Prop) (t3 : Sl × Int) (HL3 : AH) (it3 : (Sl × Int) → AH → Prop) : Prop :=
 bcase (decide ((t3.2 : Int) < ((x0.n : Nat) : Int))) ((0 ≤ t3.2 ∧ t3.2 < ((x0.n : Nat) : Int)) ∧ onPtr x0.a fun a13 => ldA HL3 (qkN a13 (qkS t3.2 * 3)) 3 fun c14 => newC HL3 ⟨[(qkL .i64 (0 : Int)), (qkL .i64 (0 : Int)), (qln false)], .rw, 0⟩ fun o7 H7 => (qk0 c14 = 3 ∧ qlq c14 qq = true) ∧ stC H7 ⟨o7, 0, none⟩ c14 fun Hs2 => bcase (decide ((x1 : Int) < (2 : Int))) (qag.j4 x0 t3 it3 o7 Hs2 true) (elB (AH.cell? Hs2 (qkN ⟨o7, 0, none⟩ 2)) fun b19 => bcase b19 (qag.j4 x0 t3 it3 o7 Hs2 true) (elI .i64 (AH.cell? Hs2 (qkN ⟨o7, 0, none⟩ 1)) fun n23 => qag.j4 x0 t3 it3 o7 Hs2 (decide ((n23 : Int) < x1))))) (k t3.1 HL3)
def qag.b (x0 : Sl) (x1 : Int) (H : AH) (k : Sl → AH → Prop) : Prop :=
 loopT (qag.l5 x0 x1 k) ((⟨none, 0, 0⟩, (0 : Int)) : Sl × Int) H
def qag.ann : Ann := { keep := fun r => match r with | 3 => [(5, .sl), (10, .int .i64)] | _ => [], ord := fun r => match r with | 6 => [0, 1, 2, 3, 4, 5, 6, 7, 8, 9, 10, 11, 12, 13, 14] | 8 => [0, 1, 2, 3, 4, 5, 6, 7, 8, 9, 10, 11, 12, 13, 14] | _ => [] }
theorem qag.link {x0 : Sl} {x1 : Int} {H : AH} {k : Sl → AH → Prop} (h : qag.b x0 x1 H k) : qag x0 x1 H k := lk1 pan hT hm Tryz.func162 (by kernel_rfl) (A := qag.ann) (by kernel_rfl) (by simp) (by kernel_rfl) h
def qbE.j1 (x1 : Sl) (k : Int → AH → Prop) (o2 : Nat) (H2 : AH) (x15 : Bool) : Prop :=
 bcase x15 (k (0 : Int) H2) (elI .i64 (AH.cell? H2 (qkN ⟨o2, 0, none⟩ 0)) fun n18 => ((32 : Int) : Int) ≠ 0 ∧ (0 ≤ (qkM .i64 (qlF n18 (32 : Int))) ∧ (qkM .i64 (qlF n18 (32 : Int))) < ((x1.n : Nat) : Int)) ∧ onPtr x1.a fun a20 => elI .i64 (AH.cell? H2 (qkN a20 (qkS (qkM .i64 (qlF n18 (32 : Int))) * 1))) fun n21 => k n21 H2)
def qbE.b (x0 : List Value) (x1 : Sl) (H : AH) (k : Int → AH → Prop) : Prop :=
 newC H ⟨x0, .rw, 0⟩ fun o2 H2 => elI .i64 (AH.cell? H2 (qkN ⟨o2, 0, none⟩ 0)) fun n6 => bcase (decide ((n6 : Int) < (0 : Int))) (qbE.j1 x1 k o2 H2 true) (elI .i64 (AH.cell? H2 (qkN ⟨o2, 0, none⟩ 0)) fun n10 => ((32 : Int) : Int) ≠ 0 ∧ qbE.j1 x1 k o2 H2 (decide (((qkM .i64 (qlF n10 (32 : Int))) : Int) ≥ ((x1.n : Nat) : Int))))
theorem qbE.link {x0 : List Value} {x1 : Sl} {H : AH} {k : Int → AH → Prop} (h : qbE.b x0 x1 H k) : qbE x0 x1 H k := lk1 pan hT hm Tryz.func163 (by kernel_rfl) (A := ann0) (by kernel_rfl) (by simp) (by kernel_rfl) h
def qaR.j1 (t3 : Int × Int) (it3 : (Int × Int) → AH → Prop) (n19 : Int) (H34 : AH) (x55 : Bool) : Prop :=
 bcase x55 (it3 (n19, (qkM .i64 (t3.2 + (1 : Int)))) H34) (it3 (t3.1, (qkM .i64 (t3.2 + (1 : Int)))) H34)
def qaR.l2 (x0 : Sl) (x2 : Sl) (k : Int → AH → Prop) (s14 : Sl) (t3 : Int × Int) (HL3 : AH) (it3 : (Int × Int) → AH → Prop) : Prop :=
 bcase (decide ((t3.2 : Int) < ((s14.n : Nat) : Int))) ((0 ≤ t3.2 ∧ t3.2 < ((s14.n : Nat) : Int)) ∧ onPtr s14.a fun a18 => elI .i64 (AH.cell? HL3 (qkN a18 (qkS t3.2 * 1))) fun n19 => bcase (decide ((t3.1 : Int) < (0 : Int))) (it3 (n19, (qkM .i64 (t3.2 + (1 : Int)))) HL3) ((0 ≤ n19 ∧ n19 < ((x0.n : Nat) : Int)) ∧ onPtr x0.a fun a25 => ldA HL3 (qkN a25 (qkS n19 * 3)) 3 fun c26 => (0 ≤ t3.1 ∧ t3.1 < ((x0.n : Nat) : Int)) ∧ onPtr x0.a fun a31 => ldA HL3 (qkN a31 (qkS t3.1 * 3)) 3 fun c32 => qbE c26 x2 HL3 fun n28 H28 => AH.row? H28 (qkN a31 (qkS t3.1 * 3)) 3 = some c32 ∧ qbE c32 x2 H28 fun n34 H34 => bcase (decide ((n28 : Int) < n34)) (qaR.j1 t3 it3 n19 H34 true) (bcase ((n28 : Int) == n34) ((0 ≤ n19 ∧ n19 < ((x0.n : Nat) : Int)) ∧ onPtr x0.a fun a45 => elI .i64 (AH.cell? H34 (qkN (qkN a45 (qkS n19 * 3)) 0)) fun n47 => (0 ≤ t3.1 ∧ t3.1 < ((x0.n : Nat) : Int)) ∧ onPtr x0.a fun a50 => elI .i64 (AH.cell? H34 (qkN (qkN a50 (qkS t3.1 * 3)) 0)) fun n52 => qaR.j1 t3 it3 n19 H34 (decide ((n47 : Int) < n52))) (qaR.j1 t3 it3 n19 H34 false)))) (k t3.1 HL3)
def qaR.b (x0 : Sl) (x1 : Int) (x2 : Sl) (H : AH) (k : Int → AH → Prop) : Prop :=
 qag x0 x1 H fun s14 H14 => loopT (qaR.l2 x0 x2 k s14) (((-1 : Int), (0 : Int)) : Int × Int) H14
def qaR.ann : Ann := { keep := fun r => match r with | 3 => [(7, .int .i64), (16, .int .i64)] | _ => [], ord := fun r => match r with | 7 => [0, 1, 2, 3, 4, 6, 7, 8, 9, 10, 5, 11, 12, 13] | 8 => [0, 1, 2, 3, 4, 5, 6, 7, 8, 9, 10, 11, 12, 13, 14, 15, 16, 17, 18, 19, 20] | _ => [] }
theorem qaR.link {x0 : Sl} {x1 : Int} {x2 : Sl} {H : AH} {k : Int → AH → Prop} (h : qaR.b x0 x1 x2 H k) : qaR x0 x1 x2 H k := lk1 pan hT hm Tryz.func134 (by kernel_rfl) (A := qaR.ann) (by kernel_rfl) (by simp) (by kernel_rfl) h
def qaP.j1 (k : Int → AH → Prop) (t3 : Int × Int × Int) (it3 : (Int × Int × Int) → AH → Prop) (o5 : Nat) (H14 : AH) (x19 : Bool) : Prop :=
 bcase x19 (k (0 : Int) H14) (elI .i64 (AH.cell? H14 (qkN ⟨o5, 0, none⟩ 1)) fun n22 => it3 (t3.1, (qkM .i64 (t3.2.1 + n22)), (qkM .i64 (t3.2.2 + (1 : Int)))) H14)
def qaP.l2 (x0 : Sl) (k : Int → AH → Prop) (t3 : Int × Int × Int) (HL3 : AH) (it3 : (Int × Int × Int) → AH → Prop) : Prop :=
 bcase (decide ((t3.2.2 : Int) < ((x0.n : Nat) : Int))) ((0 ≤ t3.2.2 ∧ t3.2.2 < ((x0.n : Nat) : Int)) ∧ onPtr x0.a fun a10 => ldA HL3 (qkN a10 (qkS t3.2.2 * 3)) 3 fun c11 => newC HL3 ⟨[(qkL .i64 (0 : Int)), (qkL .i64 (0 : Int)), (qln false)], .rw, 0⟩ fun o5 H5 => (qk0 c11 = 3 ∧ qlq c11 qq = true) ∧ stC H5 ⟨o5, 0, none⟩ c11 fun Hs2 => elI .i64 (AH.cell? Hs2 (qkN ⟨o5, 0, none⟩ 1)) fun n13 => qbk n13 Hs2 fun b14 H14 => bcase (!b14) (qaP.j1 k t3 it3 o5 H14 true) (qaP.j1 k t3 it3 o5 H14 (decide ((t3.2.1 : Int) > (512 : Int))))) (k t3.2.1 HL3)
def qaP.b (x0 : Sl) (H : AH) (k : Int → AH → Prop) : Prop :=
 loopT (qaP.l2 x0 k) (((0 : Int), (0 : Int), (0 : Int)) : Int × Int × Int) H
def qaP.ann : Ann := { keep := fun r => match r with | 3 => [(2, .int .i64), (3, .int .i64), (8, .int .i64)] | _ => [], ord := fun r => match r with  | _ => [] }
theorem qaP.link {x0 : Sl} {H : AH} {k : Int → AH → Prop} (h : qaP.b x0 H k) : qaP x0 H k := lk1 pan hT hm Tryz.func178 (by kernel_rfl) (A := qaP.ann) (by kernel_rfl) (by simp) (by kernel_rfl) h
def qbZ.j1 (x0 : Int) (x1 : Int) (H : AH) (k : Int → AH → Prop) (x5 : Bool) : Prop :=
 bcase x5 (k (0 : Int) H) (bcase (decide (((qkM .i64 (x0 - x1)) : Int) < (2 : Int))) (k x0 H) (k x1 H))
def qbZ.b (x0 : Int) (x1 : Int) (H : AH) (k : Int → AH → Prop) : Prop :=
 bcase (decide ((x1 : Int) < (2 : Int))) (qbZ.j1 x0 x1 H k true) (qbZ.j1 x0 x1 H k (decide ((x1 : Int) > x0)))
theorem qbZ.link {x0 : Int} {x1 : Int} {H : AH} {k : Int → AH → Prop} (h : qbZ.b x0 x1 H k) : qbZ x0 x1 H k := lk1 pan hT hm Tryz.func179 (by kernel_rfl) (A := ann0) (by kernel_rfl) (by simp) (by kernel_rfl) h
def qba.j1 (x0 : Sl) (x1 : Int) (x2 : Int) (k : Sl → AH → Prop) (H13 : AH) (x31 : Bool) : Prop :=
 bcase x31 (k ⟨none, 0, 0⟩ H13) ((0 ≤ x1 ∧ x1 < ((x0.n : Nat) : Int)) ∧ onPtr x0.a fun a34 => ldA H13 (qkN a34 (qkS x1 * 3)) 3 fun c35 => newC H13 ⟨[(qkL .i64 (0 : Int)), (qkL .i64 (0 : Int)), (qln false)], .rw, 0⟩ fun o7 H7 => (qk0 c35 = 3 ∧ qlq c35 qq = true) ∧ stC H7 ⟨o7, 0, none⟩ c35 fun Hs2 => elI .i64 (AH.cell? Hs2 (qkN ⟨o7, 0, none⟩ 1)) fun n37 => qbZ n37 x2 Hs2 fun n39 H39 => bcase ((n39 : Int) == (0 : Int)) (k ⟨none, 0, 0⟩ H39) (elI .i64 (AH.cell? H39 (qkN ⟨o7, 0, none⟩ 0)) fun n43 => (qk0 [(qkL .i64 n43), (qkL .i64 n39), (qln true)] = 3) ∧ newC H39 ⟨[(qkL .i64 n43), (qkL .i64 n39), (qln true)], .rw, 3⟩ fun o46 H46 => elI .i64 (AH.cell? H46 (qkN ⟨o7, 0, none⟩ 1)) fun n49 => bcase (decide ((n39 : Int) < n49)) (elI .i64 (AH.cell? H46 (qkN ⟨o7, 0, none⟩ 0)) fun n53 => elI .i64 (AH.cell? H46 (qkN ⟨o7, 0, none⟩ 1)) fun n57 => (qk0 [(qkL .i64 (qkM .i64 (n53 + n39))), (qkL .i64 (qkM .i64 (n57 - n39))), (qln false)] = 3) ∧ newC H46 ⟨[(qkL .i64 (qkM .i64 (n53 + n39))), (qkL .i64 (qkM .i64 (n57 - n39))), (qln false)], .rw, 3⟩ fun o61 H61 => appendC 3 H61 ⟨(some ⟨o46, 0, none⟩), 1, 1⟩ ⟨(some ⟨o61, 0, none⟩), 1, 1⟩ fun s62 H62 => k s62 H62) (k ⟨(some ⟨o46, 0, none⟩), 1, 1⟩ H46)))
def qba.b (x0 : Sl) (x1 : Int) (x2 : Int) (H : AH) (k : Sl → AH → Prop) : Prop :=
 qaP x0 H fun n12 H12 => qah x0 n12 H12 fun b13 H13 => bcase (!b13) (qba.j1 x0 x1 x2 k H13 true) (bcase (decide ((x1 : Int) < (0 : Int))) (qba.j1 x0 x1 x2 k H13 true) (bcase (decide ((x1 : Int) ≥ ((x0.n : Nat) : Int))) (qba.j1 x0 x1 x2 k H13 true) ((0 ≤ x1 ∧ x1 < ((x0.n : Nat) : Int)) ∧ onPtr x0.a fun a28 => elB (AH.cell? H13 (qkN (qkN a28 (qkS x1 * 3)) 2)) fun b30 => qba.j1 x0 x1 x2 k H13 b30)))
theorem qba.link {x0 : Sl} {x1 : Int} {x2 : Int} {H : AH} {k : Sl → AH → Prop} (h : qba.b x0 x1 x2 H k) : qba x0 x1 x2 H k := lk1 pan hT hm Tryz.func164 (by kernel_rfl) (A := ann0) (by kernel_rfl) (by simp) (by kernel_rfl) h
def qam.j1 (t3 : Sl × Int) (it3 : (Sl × Int) → AH → Prop) (o9 : Nat) (t7 : Sl × Int) (it7 : (Sl × Int) → AH → Prop) (HL7 : AH) (x38 : Bool) : Prop :=
 bcase x38 (elI .i64 (AH.cell? HL7 (qkN ⟨o9, 0, none⟩ 0)) fun n43 => (qk0 [(qkL .i64 (qkM .i64 (n43 + t7.2))), (qkL .u64 (0 : Int))] = 2) ∧ newC HL7 ⟨[(qkL .i64 (qkM .i64 (n43 + t7.2))), (qkL .u64 (0 : Int))], .rw, 2⟩ fun o47 H47 => appendC 2 H47 t7.1 ⟨(some ⟨o47, 0, none⟩), 1, 1⟩ fun s48 H48 => it7 (s48, (qkM .i64 (t7.2 + (1 : Int)))) H48) (it3 (t7.1, (qkM .i64 (t3.2 + (1 : Int)))) HL7)
def qam.l2 (t3 : Sl × Int) (it3 : (Sl × Int) → AH → Prop) (o9 : Nat) (t7 : Sl × Int) (HL7 : AH) (it7 : (Sl × Int) → AH → Prop) : Prop :=
 elI .i64 (AH.cell? HL7 (qkN ⟨o9, 0, none⟩ 1)) fun n33 => bcase (decide ((t7.2 : Int) < n33)) (elB (AH.cell? HL7 (qkN ⟨o9, 0, none⟩ 2)) fun b37 => qam.j1 t3 it3 o9 t7 it7 HL7 b37) (qam.j1 t3 it3 o9 t7 it7 HL7 false)
def qam.l3 (k : Sl → AH → Prop) (s14 : Sl) (t3 : Sl × Int) (HL3 : AH) (it3 : (Sl × Int) → AH → Prop) : Prop :=
 bcase (decide ((t3.2 : Int) < ((s14.n : Nat) : Int))) ((0 ≤ t3.2 ∧ t3.2 < ((s14.n : Nat) : Int)) ∧ onPtr s14.a fun a18 => ldA HL3 (qkN a18 (qkS t3.2 * 3)) 3 fun c19 => newC HL3 ⟨[(qkL .i64 (0 : Int)), (qkL .i64 (0 : Int)), (qln false)], .rw, 0⟩ fun o9 H9 => (qk0 c19 = 3 ∧ qlq c19 qq = true) ∧ stC H9 ⟨o9, 0, none⟩ c19 fun Hs2 => elI .i64 (AH.cell? Hs2 (qkN ⟨o9, 0, none⟩ 0)) fun n22 => elI .i64 (AH.cell? Hs2 (qkN ⟨o9, 0, none⟩ 1)) fun n24 => elB (AH.cell? Hs2 (qkN ⟨o9, 0, none⟩ 2)) fun b26 => qbM n24 b26 Hs2 fun n27 H27 => AH.cell? H27 (qkN ⟨o9, 0, none⟩ 0) = some (qkL .i64 n22) ∧ (qk0 [(qkL .i64 n22), (qkL .u64 n27)] = 2) ∧ newC H27 ⟨[(qkL .i64 n22), (qkL .u64 n27)], .rw, 2⟩ fun o29 H29 => appendC 2 H29 t3.1 ⟨(some ⟨o29, 0, none⟩), 1, 1⟩ fun s30 H30 => loopT (qam.l2 t3 it3 o9) ((s30, (1 : Int)) : Sl × Int) H30) (k t3.1 HL3)
def qam.b (x0 : Sl) (x1 : Int) (x2 : Int) (H : AH) (k : Sl → AH → Prop) : Prop :=
 qba x0 x1 x2 H fun s14 H14 => loopT (qam.l3 k s14) ((⟨none, 0, 0⟩, (0 : Int)) : Sl × Int) H14
def qam.ann : Ann := { keep := fun r => match r with | 3 => [(7, .sl), (16, .int .i64)] | 7 => [(7, .sl), (10, .int .i64)] | _ => [], ord := fun r => match r with | 5 => [0, 1, 2, 3, 4, 5, 6, 7, 8, 9, 10, 11] | _ => [] }
theorem qam.link {x0 : Sl} {x1 : Int} {x2 : Int} {H : AH} {k : Sl → AH → Prop} (h : qam.b x0 x1 x2 H k) : qam x0 x1 x2 H k := lk1 pan hT hm Tryz.func135 (by kernel_rfl) (A := qam.ann) (by kernel_rfl) (by simp) (by kernel_rfl) h
def qbT.b (x0 : Sl) (x1 : Int) (x2 : Sl) (H : AH) (k : Sl → Int → Int → AH → Prop) : Prop :=
 qbW x1 H fun n14 H14 => bcase ((n14 : Int) == (0 : Int)) (k ⟨none, 0, 0⟩ (0 : Int) (1 : Int) H14) (qX x0 H14 fun s19a b19b H19 => bcase (!b19b) (k ⟨none, 0, 0⟩ (0 : Int) (6 : Int) H19) (qaR s19a n14 x2 H19 fun n27 H27 => bcase (decide ((n27 : Int) < (0 : Int))) (k ⟨none, 0, 0⟩ (0 : Int) (4 : Int) H27) ((0 ≤ n27 ∧ n27 < ((s19a.n : Nat) : Int)) ∧ onPtr s19a.a fun a36 => ldA H27 (qkN a36 (qkS n27 * 3)) 3 fun c37 => qam s19a n27 n14 H27 fun s33 H33 => AH.row? H33 (qkN a36 (qkS n27 * 3)) 3 = some c37 ∧ qbj c37 H33 fun n38 H38 => k s33 n38 (0 : Int) H38)))
def qbT.ann : Ann := { keep := fun r => match r with  | _ => [], ord := fun r => match r with | 10 => [0, 1, 2, 4, 5, 6, 7, 3, 8, 9, 10, 11] | _ => [] }
theorem qbT.link {x0 : Sl} {x1 : Int} {x2 : Sl} {H : AH} {k : Sl → Int → Int → AH → Prop} (h : qbT.b x0 x1 x2 H k) : qbT x0 x1 x2 H k := lk3 pan hT hm Tryz.func99 (by kernel_rfl) (A := qbT.ann) (by kernel_rfl) (by simp) (by simp) (by simp) (by kernel_rfl) h
def qan.b (x0 : Sl) (H : AH) (k : Sl → AH → Prop) : Prop :=
 bcase (qlA x0.a) (k ⟨none, 0, 0⟩ H) (newC H ⟨[], .rw, 1⟩ fun o5 H5 => appendC 1 H5 ⟨(some ⟨o5, 0, none⟩), 0, 1⟩ x0 fun s7 H7 => k s7 H7)
theorem qan.link {x0 : Sl} {H : AH} {k : Sl → AH → Prop} (h : qan.b x0 H k) : qan x0 H k := lk1 pan hT hm Tryz.func165 (by kernel_rfl) (A := ann0) (by kernel_rfl) (by simp) (by kernel_rfl) h
def qaY.j1 (s9 : Sl) (t3 : Int) (it3 : (Int) → AH → Prop) (o7 : Nat) (Hs2 : AH) (x25 : Bool) : Prop :=
 bcase x25 (elI .i64 (AH.cell? Hs2 (qkN ⟨o7, 0, none⟩ 0)) fun n28 => elI .u64 (AH.cell? Hs2 (qkN ⟨o7, 0, none⟩ 1)) fun n30 => (0 ≤ n28 ∧ n28 < ((s9.n : Nat) : Int)) ∧ onPtr s9.a fun a31 => stC Hs2 (qkN a31 (qkS n28 * 1)) [(qkL .u64 n30)] fun Hs4 => it3 (qkM .i64 (t3 + (1 : Int))) Hs4) (it3 (qkM .i64 (t3 + (1 : Int))) Hs2)
def qaY.l2 (x1 : Sl) (k : Sl → AH → Prop) (s9 : Sl) (t3 : Int) (HL3 : AH) (it3 : (Int) → AH → Prop) : Prop :=
 bcase (decide ((t3 : Int) < ((x1.n : Nat) : Int))) ((0 ≤ t3 ∧ t3 < ((x1.n : Nat) : Int)) ∧ onPtr x1.a fun a14 => ldA HL3 (qkN a14 (qkS t3 * 2)) 2 fun c15 => newC HL3 ⟨[(qkL .i64 (0 : Int)), (qkL .u64 (0 : Int))], .rw, 0⟩ fun o7 H7 => (qk0 c15 = 2 ∧ qlq c15 qq = true) ∧ stC H7 ⟨o7, 0, none⟩ c15 fun Hs2 => elI .i64 (AH.cell? Hs2 (qkN ⟨o7, 0, none⟩ 0)) fun n17 => bcase (decide ((n17 : Int) ≥ (0 : Int))) (elI .i64 (AH.cell? Hs2 (qkN ⟨o7, 0, none⟩ 0)) fun n21 => qaY.j1 s9 t3 it3 o7 Hs2 (decide ((n21 : Int) < ((s9.n : Nat) : Int)))) (qaY.j1 s9 t3 it3 o7 Hs2 false)) (k s9 HL3)
def qaY.b (x0 : Sl) (x1 : Sl) (H : AH) (k : Sl → AH → Prop) : Prop :=
 qan x0 H fun s9 H9 => loopT (qaY.l2 x1 k s9) (((0 : Int)) : Int) H9
def qaY.ann : Ann := { keep := fun r => match r with | 3 => [(12, .int .i64)] | _ => [], ord := fun r => match r with  | _ => [] }
theorem qaY.link {x0 : Sl} {x1 : Sl} {H : AH} {k : Sl → AH → Prop} (h : qaY.b x0 x1 H k) : qaY x0 x1 H k := lk1 pan hT hm Tryz.func137 (by kernel_rfl) (A := qaY.ann) (by kernel_rfl) (by simp) (by kernel_rfl) h
def qaS.j1 (k : Sl → AH → Prop) (t3 : Sl × Int) (HL3 : AH) : Prop :=
 qcr t3.1 HL3 fun H23 => qb5 t3.1 H23 fun s25 H25 => k s25 H25
def qaS.l2 (x0 : Sl) (k : Sl → AH → Prop) (t3 : Sl × Int) (HL3 : AH) (it3 : (Sl × Int) → AH → Prop) : Prop :=
 bcase (decide ((t3.2 : Int) < ((x0.n : Nat) : Int))) ((0 ≤ t3.2 ∧ t3.2 < ((x0.n : Nat) : Int)) ∧ onPtr x0.a fun a10 => ldA HL3 (qkN a10 (qkS t3.2 * 2)) 2 fun c11 => newC HL3 ⟨[(qkL .i64 (0 : Int)), (qkL .u64 (0 : Int))], .rw, 0⟩ fun o5 H5 => (qk0 c11 = 2 ∧ qlq c11 qq = true) ∧ stC H5 ⟨o5, 0, none⟩ c11 fun Hs2 => elI .i64 (AH.cell? Hs2 (qkN ⟨o5, 0, none⟩ 0)) fun n13 => bcase (decide ((n13 : Int) ≥ (0 : Int))) (elI .i64 (AH.cell? Hs2 (qkN ⟨o5, 0, none⟩ 0)) fun n17 => ((8 : Int) : Int) ≠ 0 ∧ newC Hs2 ⟨[(qkL .i64 (qkM .i64 (qlF n17 (8 : Int))))], .rw, 1⟩ fun o19 H19 => appendC 1 H19 t3.1 ⟨(some ⟨o19, 0, none⟩), 1, 1⟩ fun s20 H20 => it3 (s20, (qkM .i64 (t3.2 + (1 : Int)))) H20) (it3 (t3.1, (qkM .i64 (t3.2 + (1 : Int)))) Hs2)) (qaS.j1 k t3 HL3)
def qaS.b (x0 : Sl) (H : AH) (k : Sl → AH → Prop) : Prop :=
 loopT (qaS.l2 x0 k) ((⟨none, 0, 0⟩, (0 : Int)) : Sl × Int) H
def qaS.ann : Ann := { keep := fun r => match r with | 3 => [(3, .sl), (8, .int .i64)] | _ => [], ord := fun r => match r with  | _ => [] }
theorem qaS.link {x0 : Sl} {H : AH} {k : Sl → AH → Prop} (h : qaS.b x0 H k) : qaS x0 H k := lk1 pan hT hm Tryz.func138 (by kernel_rfl) (A := qaS.ann) (by kernel_rfl) (by simp) (by kernel_rfl) h
def qV.j1 (x0 : Option Addr) (x1 : Sl) (k : Int → AH → Prop) (HL15 : AH) : Prop :=
 onPtr x0 fun a80 => elP (AH.cell? HL15 (qkN a80 0)) fun p82 => qI p82 (1 : Int) (qkM .u64 ((x1.n : Nat) : Int)) HL15 fun n86 H86 => bcase ((n86 : Int) != (0 : Int)) (k n86 H86) (qay x0 x1 H86 fun n92 H92 => k n92 H92)
def qV.l2 (x0 : Option Addr) (x1 : Sl) (k : Int → AH → Prop) (t9 : Sl × Int) (t15 : Int × Int) (HL15 : AH) (it15 : (Int × Int) → AH → Prop) : Prop :=
 bcase (decide ((t15.2 : Int) < ((t9.1.n : Nat) : Int))) ((0 ≤ t15.2 ∧ t15.2 < ((t9.1.n : Nat) : Int)) ∧ onPtr t9.1.a fun a66 => ldA HL15 (qkN a66 (qkS t15.2 * 8)) 8 fun c67 => newC HL15 ⟨[(qkL .u64 (0 : Int)), (qkL .u64 (0 : Int)), (qkL .u64 (0 : Int)), (qkL .u64 (0 : Int)), (qkL .u64 (0 : Int)), (qkL .u64 (0 : Int)), (qkL .u64 (0 : Int)), (qkL .u64 (0 : Int))], .rw, 0⟩ fun o9 H9 => (qk0 c67 = 8 ∧ qlq c67 qq = true) ∧ stC H9 ⟨o9, 0, none⟩ c67 fun Hs6 => onPtr x0 fun a69 => elP (AH.cell? Hs6 (qkN a69 1)) fun p71 => ldA Hs6 ⟨o9, 0, none⟩ 8 fun c73 => qaJ p71 t15.2 c73 Hs6 fun n74 H74 => bcase ((n74 : Int) != (0 : Int)) (k n74 H74) (it15 (t15.1, (qkM .i64 (t15.2 + (1 : Int)))) H74)) (qV.j1 x0 x1 k HL15)
def qV.l3 (x0 : Option Addr) (x1 : Sl) (k : Int → AH → Prop) (t9 : Sl × Int) (HL9 : AH) (it9 : (Sl × Int) → AH → Prop) : Prop :=
 bcase (decide ((t9.2 : Int) < ((x1.n : Nat) : Int))) ((0 ≤ t9.2 ∧ t9.2 < ((x1.n : Nat) : Int)) ∧ onPtr x1.a fun a43 => ldA HL9 (qkN a43 (qkS t9.2 * 9)) 9 fun c44 => newC HL9 ⟨[(qkL .i64 (0 : Int)), (qkL .u64 (0 : Int)), (qkL .u64 (0 : Int)), (qkL .u64 (0 : Int)), (qkL .u64 (0 : Int)), (qkL .u64 (0 : Int)), (qkL .u64 (0 : Int)), (qkL .u64 (0 : Int)), (qkL .u64 (0 : Int))], .rw, 0⟩ fun o7 H7 => (qk0 c44 = 9 ∧ qlq c44 qq = true) ∧ stC H7 ⟨o7, 0, none⟩ c44 fun Hs2 => ((8 : Int) : Int) ≠ 0 ∧ ((8 : Int) : Int) ≠ 0 ∧ elI .i64 (AH.cell? Hs2 (qkN ⟨o7, 0, none⟩ 0)) fun n51 => (0 ≤ (qkM .i64 (qlF t9.2 (8 : Int))) ∧ (qkM .i64 (qlF t9.2 (8 : Int))) < ((t9.1.n : Nat) : Int)) ∧ onPtr t9.1.a fun a53 => (0 ≤ (qlK t9.2 (8 : Int)) ∧ (qlK t9.2 (8 : Int)) < ((8 : Nat) : Int)) ∧ stC Hs2 (qkN (qkN a53 (qkS (qkM .i64 (qlF t9.2 (8 : Int))) * 8)) (qkS (qlK t9.2 (8 : Int)) * 1)) [(qkL .u64 (qkM .u64 n51))] fun Hs4 => ldA Hs4 (qkN ⟨o7, 0, none⟩ 1) 8 fun c57 => (qk0 c57 = 8) ∧ newC Hs4 ⟨(setMany [(qkL .u64 (0 : Int)), (qkL .u64 (0 : Int)), (qkL .u64 (0 : Int)), (qkL .u64 (0 : Int)), (qkL .u64 (0 : Int)), (qkL .u64 (0 : Int)), (qkL .u64 (0 : Int)), (qkL .u64 (0 : Int))] 0 c57), .rw, 8⟩ fun o58 H58 => appendC 8 H58 t9.1 ⟨(some ⟨o58, 0, none⟩), 1, 1⟩ fun s59 H59 => it9 (s59, (qkM .i64 (t9.2 + (1 : Int)))) H59) (loopT (qV.l2 x0 x1 k t9) (((0 : Int), (0 : Int)) : Int × Int) HL9)
def qV.j4 (x0 : Option Addr) (x1 : Sl) (k : Int → AH → Prop) (x12 : Bool) (Hj : AH) : Prop :=
 bcase x12 (k (1 : Int) Hj) (onPtr x0 fun a27 => elP (AH.cell? Hj (qkN a27 0)) fun p29 => qar p29 Hj fun b30 H30 => bcase b30 (k (2 : Int) H30) (qbI x0 H30 fun b33 H33 => bcase b33 (k (5 : Int) H33) (qcg ((x1.n : Nat) : Int) H33 fun n36 H36 => (0 ≤ n36 ∧ n36 ≤ (16 : Int) ∧ (16 : Int) ≤ (lim : Int)) ∧ newC H36 ⟨zerosOf (qkS n36) [(qkL .u64 (0 : Int)), (qkL .u64 (0 : Int)), (qkL .u64 (0 : Int)), (qkL .u64 (0 : Int)), (qkL .u64 (0 : Int)), (qkL .u64 (0 : Int)), (qkL .u64 (0 : Int)), (qkL .u64 (0 : Int))], .rw, 8⟩ fun o37 H37 => loopT (qV.l3 x0 x1 k) ((⟨(some ⟨o37, 0, none⟩), (qkS n36), 1⟩, (0 : Int)) : Sl × Int) H37)))
def qV.b (x0 : Option Addr) (x1 : Sl) (H : AH) (k : Int → AH → Prop) : Prop :=
 bcase (qlA x0) (qV.j4 x0 x1 k true H) (onPtr x0 fun a17 => elP (AH.cell? H (qkN a17 1)) fun p19 => qaT p19 H fun n20 H20 => log_May n20 x1 H20 fun b22 H22 => qV.j4 x0 x1 k (!b22) H22)
def qV.ann : Ann := { keep := fun r => match r with | 9 => [(5, .sl), (40, .int .i64)] | 15 => [(4, .int .i64), (63, .int .i64)] | _ => [], ord := fun r => match r with | 11 => [0, 1, 2, 3, 4, 5, 6, 7, 8, 9, 10] | 17 => [0, 1, 2, 3, 4, 5, 6, 7] | _ => [] }
theorem qV.link {x0 : Option Addr} {x1 : Sl} {H : AH} {k : Int → AH → Prop} (h : qV.b x0 x1 H k) : qV x0 x1 H k := lk1 pan hT hm Tryz.func139 (by kernel_rfl) (A := qV.ann) (by kernel_rfl) (by simp) (by kernel_rfl) h
def qbL.b (x0 : Option Addr) (x1 : Int) (H : AH) (k : Bool → AH → Prop) : Prop :=
 bcase (!(qlA x0)) (bcase (decide ((x1 : Int) ≥ (0 : Int))) (onPtr x0 fun a14 => elL (AH.cell? H (qkN a14 1)) fun s16 => k (decide ((x1 : Int) < ((s16.n : Nat) : Int))) H) (k false H)) (k false H)
theorem qbL.link {x0 : Option Addr} {x1 : Int} {H : AH} {k : Bool → AH → Prop} (h : qbL.b x0 x1 H k) : qbL x0 x1 H k := lk1 pan hT hm Tryz.func168 (by kernel_rfl) (A := ann0) (by kernel_rfl) (by simp) (by kernel_rfl) h
def qbq.b (x0 : Option Addr) (x1 : Int) (H : AH) (k : Int → AH → Prop) : Prop :=
 qbL x0 x1 H fun b7 H7 => bcase (!b7) (k (0 : Int) H7) (onPtr x0 fun a10 => elL (AH.cell? H7 (qkN a10 1)) fun s12 => (0 ≤ x1 ∧ x1 < ((s12.n : Nat) : Int)) ∧ onPtr s12.a fun a14 => elI .i64 (AH.cell? H7 (qkN a14 (qkS x1 * 1))) fun n15 => onPtr x0 fun a17 => elL (AH.cell? H7 (qkN a17 2)) fun s19 => (0 ≤ x1 ∧ x1 < ((s19.n : Nat) : Int)) ∧ onPtr s19.a fun a21 => elI .i64 (AH.cell? H7 (qkN a21 (qkS x1 * 1))) fun n22 => k (qkM .i64 (n15 - n22)) H7)
def qbq.ann : Ann := { keep := fun r => match r with  | _ => [], ord := fun r => match r with | 3 => [0, 1, 2, 3, 4, 5, 6, 7, 8, 9, 10, 11, 12, 13, 14, 15] | _ => [] }
theorem qbq.link {x0 : Option Addr} {x1 : Int} {H : AH} {k : Int → AH → Prop} (h : qbq.b x0 x1 H k) : qbq x0 x1 H k := lk1 pan hT hm Tryz.func169 (by kernel_rfl) (A := qbq.ann) (by kernel_rfl) (by simp) (by kernel_rfl) h
def qav.j1 (x0 : Option Addr) (x1 : Int) (k : Int → Bool → AH → Prop) (n26 : Int) (n22 : Int) (Hj : AH) : Prop :=
 onPtr x0 fun a43 => elL (AH.cell? Hj (qkN a43 1)) fun s45 => (0 ≤ x1 ∧ x1 < ((s45.n : Nat) : Int)) ∧ onPtr s45.a fun a47 => elI .i64 (AH.cell? Hj (qkN a47 (qkS x1 * 1))) fun n48 => k n48 (decide ((n22 : Int) ≥ n26)) Hj
def qav.b (x0 : Option Addr) (x1 : Int) (H : AH) (k : Int → Bool → AH → Prop) : Prop :=
 qbL x0 x1 H fun b9 H9 => bcase (!b9) (k (0 : Int) false H9) (onPtr x0 fun a12 => elL (AH.cell? H9 (qkN a12 1)) fun s14 => (0 ≤ x1 ∧ x1 < ((s14.n : Nat) : Int)) ∧ onPtr s14.a fun a16 => elI .i64 (AH.cell? H9 (qkN a16 (qkS x1 * 1))) fun n17 => (0 ≤ x1 ∧ x1 < ((s14.n : Nat) : Int)) ∧ onPtr s14.a fun a19 => stC H9 (qkN a19 (qkS x1 * 1)) [(qkL .i64 (qkM .i64 (n17 + (1 : Int))))] fun Hs2 => onPtr x0 fun a24 => elI .i64 (AH.cell? Hs2 (qkN a24 0)) fun n26 => qbq x0 x1 Hs2 fun n22 H22 => AH.cell? H22 (qkN a24 0) = some (qkL .i64 n26) ∧ bcase (decide ((n22 : Int) ≥ n26)) (onPtr x0 fun a30 => elL (AH.cell? H22 (qkN a30 2)) fun s32 => onPtr x0 fun a35 => elL (AH.cell? H22 (qkN a35 1)) fun s37 => (0 ≤ x1 ∧ x1 < ((s37.n : Nat) : Int)) ∧ onPtr s37.a fun a39 => elI .i64 (AH.cell? H22 (qkN a39 (qkS x1 * 1))) fun n40 => (0 ≤ x1 ∧ x1 < ((s32.n : Nat) : Int)) ∧ onPtr s32.a fun a41 => stC H22 (qkN a41 (qkS x1 * 1)) [(qkL .i64 n40)] fun Hs4 => qav.j1 x0 x1 k n26 n22 Hs4) (qav.j1 x0 x1 k n26 n22 H22))
def qav.ann : Ann := { keep := fun r => match r with  | _ => [], ord := fun r => match r with | 4 => [0, 1, 3, 4, 5, 6, 2, 7, 8] | 6 => [0, 1, 2, 3, 4, 5, 6, 7, 8, 9, 10, 11, 12, 13] | _ => [] }
theorem qav.link {x0 : Option Addr} {x1 : Int} {H : AH} {k : Int → Bool → AH → Prop} (h : qav.b x0 x1 H k) : qav x0 x1 H k := lk2 pan hT hm Tryz.func140 (by kernel_rfl) (A := qav.ann) (by kernel_rfl) (by simp) (by simp) (by kernel_rfl) h
def qH.l1 (x0 : Option Addr) (k : AH → Prop) (pk : Value → AH → Prop) (s59 : Sl) (t11 : Int) (HL11 : AH) (it11 : (Int) → AH → Prop) : Prop :=
 bcase (decide ((t11 : Int) < ((s59.n : Nat) : Int))) ((0 ≤ t11 ∧ t11 < ((s59.n : Nat) : Int)) ∧ onPtr s59.a fun a63 => elI .i64 (AH.cell? HL11 (qkN a63 (qkS t11 * 1))) fun n64 => qcd n64 HL11 fun n66 H66 => onPtr x0 fun a69 => elP (AH.cell? H66 (qkN a69 7)) fun p71 => qav p71 n66 H66 fun n73a b73b H73 => bcase b73b (onPtr x0 fun a78 => elP (AH.cell? H73 (qkN a78 0)) fun p80 => qI p80 (qkM .i64 ((19 : Int) + n66)) (qkM .u64 n73a) H73 fun n85 H85 => qat n85 H85 (fun pv86 Hp86 => pk pv86 Hp86) fun H86 => it11 (qkM .i64 (t11 + (1 : Int))) H86) (it11 (qkM .i64 (t11 + (1 : Int))) H73)) (k HL11)
def qH.j2 (x0 : Option Addr) (x2 : Sl) (k : AH → Prop) (pk : Value → AH → Prop) (n44 : Int) (Hj : AH) : Prop :=
 qat n44 Hj (fun pv57 Hp57 => pk pv57 Hp57) fun H57 => qaS x2 H57 fun s59 H59 => loopT (qH.l1 x0 k pk s59) (((0 : Int)) : Int) H59
def qH.j3 (x0 : Option Addr) (x2 : Sl) (k : AH → Prop) (pk : Value → AH → Prop) (t3 : Sl × Int) (HL3 : AH) : Prop :=
 onPtr x0 fun a40 => elP (AH.cell? HL3 (qkN a40 6)) fun p42 => qV p42 t3.1 HL3 fun n44 H44 => onPtr x0 fun a47 => elB (AH.cell? H44 (qkN a47 8)) fun b49 => bcase b49 (onPtr x0 fun a54 => stC H44 (qkN a54 8) [(qln true)] fun Hs2 => qH.j2 x0 x2 k pk n44 Hs2) (onPtr x0 fun a54 => stC H44 (qkN a54 8) [(qln ((n44 : Int) == (3 : Int)))] fun Hs4 => qH.j2 x0 x2 k pk n44 Hs4)
def qH.l4 (x0 : Option Addr) (x2 : Sl) (k : AH → Prop) (pk : Value → AH → Prop) (s17 : Sl) (s19 : Sl) (t3 : Sl × Int) (HL3 : AH) (it3 : (Sl × Int) → AH → Prop) : Prop :=
 bcase (decide ((t3.2 : Int) < ((s19.n : Nat) : Int))) ((0 ≤ t3.2 ∧ t3.2 < ((s19.n : Nat) : Int)) ∧ onPtr s19.a fun a23 => elI .i64 (AH.cell? HL3 (qkN a23 (qkS t3.2 * 1))) fun n24 => onPtr x0 fun a27 => ldA HL3 (qkN a27 1) 4 fun c29 => qbt c29 n24 HL3 fun n31 H31 => qbi s17 n24 H31 fun c34 H34 => (qk0 c34 = 8) ∧ (qk0 (setMany [(qkL .i64 n31), (qkL .u64 (0 : Int)), (qkL .u64 (0 : Int)), (qkL .u64 (0 : Int)), (qkL .u64 (0 : Int)), (qkL .u64 (0 : Int)), (qkL .u64 (0 : Int)), (qkL .u64 (0 : Int)), (qkL .u64 (0 : Int))] 1 c34) = 9) ∧ newC H34 ⟨(setMany [(qkL .i64 (0 : Int)), (qkL .u64 (0 : Int)), (qkL .u64 (0 : Int)), (qkL .u64 (0 : Int)), (qkL .u64 (0 : Int)), (qkL .u64 (0 : Int)), (qkL .u64 (0 : Int)), (qkL .u64 (0 : Int)), (qkL .u64 (0 : Int))] 0 (setMany [(qkL .i64 n31), (qkL .u64 (0 : Int)), (qkL .u64 (0 : Int)), (qkL .u64 (0 : Int)), (qkL .u64 (0 : Int)), (qkL .u64 (0 : Int)), (qkL .u64 (0 : Int)), (qkL .u64 (0 : Int)), (qkL .u64 (0 : Int))] 1 c34)), .rw, 9⟩ fun o36 H36 => appendC 9 H36 t3.1 ⟨(some ⟨o36, 0, none⟩), 1, 1⟩ fun s37 H37 => it3 (s37, (qkM .i64 (t3.2 + (1 : Int)))) H37) (qH.j3 x0 x2 k pk t3 HL3)
def qH.b (x0 : Option Addr) (x1 : Sl) (x2 : Sl) (H : AH) (pk : Value → AH → Prop) (k : AH → Prop) : Prop :=
 qaY x1 x2 H fun s17 H17 => qaS x2 H17 fun s19 H19 => loopT (qH.l4 x0 x2 k pk s17 s19) ((⟨none, 0, 0⟩, (0 : Int)) : Sl × Int) H19
def qH.ann : Ann := { keep := fun r => match r with | 3 => [(6, .sl), (21, .int .i64)] | 11 => [(61, .int .i64)] | _ => [], ord := fun r => match r with  | _ => [] }
theorem qH.link {x0 : Option Addr} {x1 : Sl} {x2 : Sl} {H : AH} {pk : Value → AH → Prop} {k : AH → Prop} (h : qH.b x0 x1 x2 H pk k) : qH x0 x1 x2 H pk k := lk0 pan hT hm Tryz.func101 (by kernel_rfl) (A := qH.ann) (by kernel_rfl) (by kernel_rfl) h
def qb0.b (x0 : Option Addr) (x1 : Int) (H : AH) (pk : Value → AH → Prop) (k : Int → AH → Prop) : Prop :=
 qa5 x0 H (fun pv10 Hp10 => pk pv10 Hp10) fun s10 H10 => qbW x1 H10 fun n12 H12 => bcase ((n12 : Int) == (0 : Int)) (pk (Value.iface 37 (qkL .i64 (1 : Int))) H12) (qaA x0 H12 (fun pv16 Hp16 => pk pv16 Hp16) fun H16 => onPtr x0 fun a21 => elP (AH.cell? H16 (qkN a21 7)) fun p23 => qbN p23 H16 fun s24 H24 => qbT s10 x1 s24 H24 fun s25a n25b n25c H25 => qat n25c H25 (fun pv30 Hp30 => pk pv30 Hp30) fun H30 => qH x0 s10 s25a H30 (fun pv34 Hp34 => pk pv34 Hp34) fun H34 => k n25b H34)
theorem qb0.link {x0 : Option Addr} {x1 : Int} {H : AH} {pk : Value → AH → Prop} {k : Int → AH → Prop} (h : qb0.b x0 x1 H pk k) : qb0 x0 x1 H pk k := lk1 pan hT hm Tryz.func49 (by kernel_rfl) (A := ann0) (by kernel_rfl) (by simp) (by kernel_rfl) h
def qax.j1 (k : Int → AH → Prop) (t3 : Int × Int × Int) (it3 : (Int × Int × Int) → AH → Prop) (o5 : Nat) (H14 : AH) (x19 : Bool) : Prop :=
 bcase x19 (k (0 : Int) H14) (elI .i64 (AH.cell? H14 (qkN ⟨o5, 0, none⟩ 1)) fun n22 => it3 (t3.1, (qkM .i64 (t3.2.1 + n22)), (qkM .i64 (t3.2.2 + (1 : Int)))) H14)
def qax.l2 (x0 : Sl) (k : Int → AH → Prop) (t3 : Int × Int × Int) (HL3 : AH) (it3 : (Int × Int × Int) → AH → Prop) : Prop :=
 bcase (decide ((t3.2.2 : Int) < ((x0.n : Nat) : Int))) ((0 ≤ t3.2.2 ∧ t3.2.2 < ((x0.n : Nat) : Int)) ∧ onPtr x0.a fun a10 => ldA HL3 (qkN a10 (qkS t3.2.2 * 3)) 3 fun c11 => newC HL3 ⟨[(qkL .i64 (0 : Int)), (qkL .i64 (0 : Int)), (qln false)], .rw, 0⟩ fun o5 H5 => (qk0 c11 = 3 ∧ qlq c11 qq = true) ∧ stC H5 ⟨o5, 0, none⟩ c11 fun Hs2 => elI .i64 (AH.cell? Hs2 (qkN ⟨o5, 0, none⟩ 1)) fun n13 => qbk n13 Hs2 fun b14 H14 => bcase (!b14) (qax.j1 k t3 it3 o5 H14 true) (qax.j1 k t3 it3 o5 H14 (decide ((t3.2.1 : Int) > (512 : Int))))) (k t3.2.1 HL3)
def qax.b (x0 : Sl) (H : AH) (k : Int → AH → Prop) : Prop :=
 loopT (qax.l2 x0 k) (((0 : Int), (0 : Int), (0 : Int)) : Int × Int × Int) H
def qax.ann : Ann := { keep := fun r => match r with | 3 => [(2, .int .i64), (3, .int .i64), (8, .int .i64)] | _ => [], ord := fun r => match r with  | _ => [] }
theorem qax.link {x0 : Sl} {H : AH} {k : Int → AH → Prop} (h : qax.b x0 H k) : qax x0 H k := lk1 pan hT hm Tryz.func171 (by kernel_rfl) (A := qax.ann) (by kernel_rfl) (by simp) (by kernel_rfl) h
def qD.j1 (x1 : Int) (k : Int → Int → Bool → AH → Prop) (H10 : AH) (x4 : Int) (x57 : Bool) : Prop :=
 bcase x57 (k x4 (qkM .i64 ((qkM .i64 (x1 + (1 : Int))) + (1 : Int))) true H10) (k x4 (qkM .i64 (x1 + (1 : Int))) true H10)
def qD.j2 (x0 : Sl) (x1 : Int) (k : Int → Int → Bool → AH → Prop) (H10 : AH) (x4 : Int) : Prop :=
 bcase (decide (((qkM .i64 (x1 + (1 : Int))) : Int) < ((x0.n : Nat) : Int))) ((0 ≤ (qkM .i64 (x1 + (1 : Int))) ∧ (qkM .i64 (x1 + (1 : Int))) < ((x0.n : Nat) : Int)) ∧ onPtr x0.a fun a53 => elB (AH.cell? H10 (qkN (qkN a53 (qkS (qkM .i64 (x1 + (1 : Int))) * 3)) 2)) fun b55 => qD.j1 x1 k H10 x4 (!b55)) (qD.j1 x1 k H10 x4 false)
def qD.j3 (x0 : Sl) (x1 : Int) (k : Int → Int → Bool → AH → Prop) (H10 : AH) (x43 : Bool) : Prop :=
 bcase x43 (qD.j2 x0 x1 k H10 (qkM .i64 (x1 - (1 : Int)))) (qD.j2 x0 x1 k H10 x1)
def qD.j4 (x0 : Sl) (x1 : Int) (k : Int → Int → Bool → AH → Prop) (H10 : AH) (x29 : Bool) : Prop :=
 bcase x29 (k (0 : Int) (0 : Int) false H10) (bcase (decide ((x1 : Int) > (0 : Int))) ((0 ≤ (qkM .i64 (x1 - (1 : Int))) ∧ (qkM .i64 (x1 - (1 : Int))) < ((x0.n : Nat) : Int)) ∧ onPtr x0.a fun a39 => elB (AH.cell? H10 (qkN (qkN a39 (qkS (qkM .i64 (x1 - (1 : Int))) * 3)) 2)) fun b41 => qD.j3 x0 x1 k H10 (!b41)) (qD.j3 x0 x1 k H10 false))
def qD.b (x0 : Sl) (x1 : Int) (H : AH) (k : Int → Int → Bool → AH → Prop) : Prop :=
 qax x0 H fun n9 H9 => qah x0 n9 H9 fun b10 H10 => bcase (!b10) (qD.j4 x0 x1 k H10 true) (bcase (decide ((x1 : Int) < (0 : Int))) (qD.j4 x0 x1 k H10 true) (bcase (decide ((x1 : Int) ≥ ((x0.n : Nat) : Int))) (qD.j4 x0 x1 k H10 true) ((0 ≤ x1 ∧ x1 < ((x0.n : Nat) : Int)) ∧ onPtr x0.a fun a25 => elB (AH.cell? H10 (qkN (qkN a25 (qkS x1 * 3)) 2)) fun b27 => qD.j4 x0 x1 k H10 (!b27))))
theorem qD.link {x0 : Sl} {x1 : Int} {H : AH} {k : Int → Int → Bool → AH → Prop} (h : qD.b x0 x1 H k) : qD x0 x1 H k := lk3 pan hT hm Tryz.func170 (by kernel_rfl) (A := ann0) (by kernel_rfl) (by simp) (by simp) (by simp) (by kernel_rfl) h
def qbe.b (x0 : Sl) (x1 : Int) (H : AH) (k : List Value → Bool → AH → Prop) : Prop :=
 newC H ⟨[(qkL .i64 (0 : Int)), (qkL .u64 (0 : Int))], .rw, 0⟩ fun o4 H4 => qD x0 x1 H4 fun n12a n12b b12c H12 => bcase (!b12c) ((qk0 [(qkL .i64 (0 : Int)), (qkL .u64 (0 : Int))] = 2 ∧ qlq [(qkL .i64 (0 : Int)), (qkL .u64 (0 : Int))] qq = true) ∧ stC H12 ⟨o4, 0, none⟩ [(qkL .i64 (0 : Int)), (qkL .u64 (0 : Int))] fun Hs2 => ldA Hs2 ⟨o4, 0, none⟩ 2 fun r0 => k r0 false Hs2) ((0 ≤ n12a ∧ n12a < ((x0.n : Nat) : Int)) ∧ onPtr x0.a fun a21 => elI .i64 (AH.cell? H12 (qkN (qkN a21 (qkS n12a * 3)) 0)) fun n23 => (0 ≤ n12a ∧ n12a ≤ n12b ∧ n12b ≤ ((x0.n : Nat) : Int)) ∧ qax ⟨(Option.map (fun x => qkN x (qkS n12a * 3)) x0.a), (qkS n12b - qkS n12a), 0⟩ H12 fun n28 H28 => AH.cell? H28 (qkN (qkN a21 (qkS n12a * 3)) 0) = some (qkL .i64 n23) ∧ qbM n28 false H28 fun n29 H29 => AH.cell? H29 (qkN (qkN a21 (qkS n12a * 3)) 0) = some (qkL .i64 n23) ∧ (qk0 [(qkL .i64 n23), (qkL .u64 n29)] = 2 ∧ qlq [(qkL .i64 n23), (qkL .u64 n29)] qq = true) ∧ stC H29 ⟨o4, 0, none⟩ [(qkL .i64 n23), (qkL .u64 n29)] fun Hs4 => ldA Hs4 ⟨o4, 0, none⟩ 2 fun r0 => k r0 true Hs4)
def qbe.ann : Ann := { keep := fun r => match r with  | _ => [], ord := fun r => match r with | 4 => [0, 1, 2, 3, 4, 5, 6, 7, 8, 9, 10, 11, 12, 13] | _ => [] }
theorem qbe.link {x0 : Sl} {x1 : Int} {H : AH} {k : List Value → Bool → AH → Prop} (h : qbe.b x0 x1 H k) : qbe x0 x1 H k := lk2 pan hT hm Tryz.func141 (by kernel_rfl) (A := qbe.ann) (by kernel_rfl) (by simp) (by simp) (by kernel_rfl) h
def qck.b (x0 : Sl) (x1 : Int) (H : AH) (k : Sl → Int → AH → Prop) : Prop :=
 qb4 x0 x1 H fun s13a n13b H13 => bcase ((((s13a.n : Nat) : Int) : Int) == (0 : Int)) (k ⟨none, 0, 0⟩ (6 : Int) H13) (qbe s13a n13b H13 fun c22a b22b H22 => newC H22 ⟨[(qkL .i64 (0 : Int)), (qkL .u64 (0 : Int))], .rw, 0⟩ fun o8 H8 => (qk0 c22a = 2 ∧ qlq c22a qq = true) ∧ stC H8 ⟨o8, 0, none⟩ c22a fun Hs2 => bcase (!b22b) (k ⟨none, 0, 0⟩ (1 : Int) Hs2) (ldA Hs2 ⟨o8, 0, none⟩ 2 fun c27 => (qk0 c27 = 2) ∧ newC Hs2 ⟨(setMany [(qkL .i64 (0 : Int)), (qkL .u64 (0 : Int))] 0 c27), .rw, 2⟩ fun o28 H28 => k ⟨(some ⟨o28, 0, none⟩), 1, 1⟩ (0 : Int) H28))
theorem qck.link {x0 : Sl} {x1 : Int} {H : AH} {k : Sl → Int → AH → Prop} (h : qck.b x0 x1 H k) : qck x0 x1 H k := lk2 pan hT hm Tryz.func102 (by kernel_rfl) (A := ann0) (by kernel_rfl) (by simp) (by simp) (by kernel_rfl) h
def qbC.b (x0 : Option Addr) (H : AH) (pk : Value → AH → Prop) (k : Int → AH → Prop) : Prop :=
 onPtr x0 fun a7 => elP (AH.cell? H (qkN a7 0)) fun p9 => qN p9 (2 : Int) H fun n10a n10b H10 => qat n10b H10 (fun pv14 Hp14 => pk pv14 Hp14) fun H14 => k (qkM .i64 n10a) H14
theorem qbC.link {x0 : Option Addr} {H : AH} {pk : Value → AH → Prop} {k : Int → AH → Prop} (h : qbC.b x0 H pk k) : qbC x0 H pk k := lk1 pan hT hm Tryz.func54 (by kernel_rfl) (A := ann0) (by kernel_rfl) (by simp) (by kernel_rfl) h
def qb7.b (x0 : Option Addr) (x1 : Int) (H : AH) (pk : Value → AH → Prop) (k : AH → Prop) : Prop :=
 qa5 x0 H (fun pv8 Hp8 => pk pv8 Hp8) fun s8 H8 => qck s8 x1 H8 fun s12a n12b H12 => qat n12b H12 (fun pv16 Hp16 => pk pv16 Hp16) fun H16 => qbC x0 H16 (fun pv18 Hp18 => pk pv18 Hp18) fun n18 H18 => bcase ((n18 : Int) == x1) (pk (Value.iface 37 (qkL .i64 (5 : Int))) H18) (qaA x0 H18 (fun pv23 Hp23 => pk pv23 Hp23) fun H23 => qH x0 s8 s12a H23 (fun pv27 Hp27 => pk pv27 Hp27) fun H27 => k H27)
theorem qb7.link {x0 : Option Addr} {x1 : Int} {H : AH} {pk : Value → AH → Prop} {k : AH → Prop} (h : qb7.b x0 x1 H pk k) : qb7 x0 x1 H pk k := lk0 pan hT hm Tryz.func50 (by kernel_rfl) (A := ann0) (by kernel_rfl) (by kernel_rfl) h
def qbl.b (x0 : List Value) (x1 : Option Addr) (x2 : Option Addr) (H : AH) (k : Bool → AH → Prop) : Prop :=
 newC H ⟨x0, .rw, 0⟩ fun o3 H3 => elB (AH.cell? H3 (qkN ⟨o3, 0, none⟩ 2)) fun b6 => bcase b6 (onPtr x1 fun a8 => elI .i64 (AH.cell? H3 a8) fun n8 => ldA H3 ⟨o3, 0, none⟩ 3 fun c9 => qbj c9 H3 fun n10 H10 => AH.cell? H10 a8 = some (qkL .i64 n8) ∧ bcase (decide ((n8 : Int) ≥ n10)) (onPtr x1 fun a14 => elI .i64 (AH.cell? H10 a14) fun n14 => elI .i64 (AH.cell? H10 (qkN ⟨o3, 0, none⟩ 0)) fun n16 => elI .i64 (AH.cell? H10 (qkN ⟨o3, 0, none⟩ 1)) fun n18 => onPtr x2 fun a21 => elI .i64 (AH.cell? H10 a21) fun n21 => k (decide ((n14 : Int) ≤ (qkM .i64 ((qkM .i64 ((qkM .i64 (n16 + n18)) * (8 : Int))) - n21)))) H10) (k false H10)) (k false H3)
def qbl.ann : Ann := { keep := fun r => match r with  | _ => [], ord := fun r => match r with | 1 => [0, 1, 2, 3, 4, 5, 6, 7, 8, 9, 10, 11, 12, 13, 14, 15, 16, 17, 18, 19, 20] | _ => [] }
theorem qbl.link {x0 : List Value} {x1 : Option Addr} {x2 : Option Addr} {H : AH} {k : Bool → AH → Prop} (h : qbl.b x0 x1 x2 H k) : qbl x0 x1 x2 H k := lk1 pan hT hm Tryz.func183 (by kernel_rfl) (A := qbl.ann) (by kernel_rfl) (by simp) (by kernel_rfl) h
def qbs.j1 (x0 : Sl) (k : Bool → AH → Prop) (o4 : Nat) (o5 : Nat) (H5 : AH) (x14 : Bool) : Prop :=
 bcase x14 (k false H5) (qX x0 H5 fun s17a b17b H17 => qS s17a (some ⟨o4, 0, none⟩) (some ⟨o5, 0, none⟩) H17 fun b22 H22 => k b22 H22)
def qbs.b (x0 : Sl) (x1 : Int) (x2 : Int) (H : AH) (k : Bool → AH → Prop) : Prop :=
 newC H ⟨[(qkL .i64 x1)], .rw, 0⟩ fun o4 H4 => newC H4 ⟨[(qkL .i64 x2)], .rw, 0⟩ fun o5 H5 => elI .i64 (AH.cell? H5 ⟨o5, 0, none⟩) fun n9 => bcase (decide ((n9 : Int) < (0 : Int))) (qbs.j1 x0 k o4 o5 H5 true) (elI .i64 (AH.cell? H5 ⟨o5, 0, none⟩) fun n12 => qbs.j1 x0 k o4 o5 H5 (decide ((n12 : Int) > (448 : Int))))
theorem qbs.link {x0 : Sl} {x1 : Int} {x2 : Int} {H : AH} {k : Bool → AH → Prop} (h : qbs.b x0 x1 x2 H k) : qbs x0 x1 x2 H k := lk1 pan hT hm Tryz.func172 (by kernel_rfl) (A := ann0) (by kernel_rfl) (by simp) (by kernel_rfl) h
def qbQ.b (x0 : Sl) (x1 : Int) (x2 : Int) (H : AH) (k : Int → AH → Prop) : Prop :=
 qX x0 H fun s11a b11b H11 => bcase (!b11b) (k (6 : Int) H11) (qbs x0 x1 x2 H11 fun b19 H19 => bcase (!b19) (k (1 : Int) H19) (k (0 : Int) H19))
theorem qbQ.link {x0 : Sl} {x1 : Int} {x2 : Int} {H : AH} {k : Int → AH → Prop} (h : qbQ.b x0 x1 x2 H k) : qbQ x0 x1 x2 H k := lk1 pan hT hm Tryz.func142 (by kernel_rfl) (A := ann0) (by kernel_rfl) (by simp) (by kernel_rfl) h
def qbU.b (x0 : Sl) (x1 : Int) (x2 : Int) (H : AH) (k : Bool → AH → Prop) : Prop :=
 bcase (decide ((x1 : Int) ≥ (0 : Int))) (bcase (decide ((x2 : Int) ≥ (0 : Int))) (bcase (decide ((x2 : Int) ≤ (448 : Int))) (k (decide ((x1 : Int) ≤ (qkM .i64 ((qkM .i64 (((x0.n : Nat) : Int) * (8 : Int))) - x2)))) H) (k false H)) (k false H)) (k false H)
theorem qbU.link {x0 : Sl} {x1 : Int} {x2 : Int} {H : AH} {k : Bool → AH → Prop} (h : qbU.b x0 x1 x2 H k) : qbU x0 x1 x2 H k := lk1 pan hT hm Tryz.func173 (by kernel_rfl) (A := ann0) (by kernel_rfl) (by simp) (by kernel_rfl) h
def qbP.l1 (x0 : Sl) (x1 : Int) (x2 : Int) (k : Sl → Bool → AH → Prop) (t5 : Sl × Int) (HL5 : AH) (it5 : (Sl × Int) → AH → Prop) : Prop :=
 bcase (decide ((t5.2 : Int) < (qkM .i64 (x1 + x2)))) (((8 : Int) : Int) ≠ 0 ∧ (0 ≤ (qkM .i64 (qlF t5.2 (8 : Int))) ∧ (qkM .i64 (qlF t5.2 (8 : Int))) < ((x0.n : Nat) : Int)) ∧ onPtr x0.a fun a27 => elI .u64 (AH.cell? HL5 (qkN a27 (qkS (qkM .i64 (qlF t5.2 (8 : Int))) * 1))) fun n28 => ((8 : Int) : Int) ≠ 0 ∧ (0 : Int) ≤ (qkM .i64 ((qlK t5.2 (8 : Int)) * (8 : Int))) ∧ newC HL5 ⟨[(qkL .u8 (qkM .u8 (shrI .u64 n28 (qkM .i64 ((qlK t5.2 (8 : Int)) * (8 : Int))))))], .rw, 1⟩ fun o34 H34 => appendC 1 H34 t5.1 ⟨(some ⟨o34, 0, none⟩), 1, 1⟩ fun s35 H35 => it5 (s35, (qkM .i64 (t5.2 + (1 : Int)))) H35) (k t5.1 true HL5)
def qbP.b (x0 : Sl) (x1 : Int) (x2 : Int) (H : AH) (k : Sl → Bool → AH → Prop) : Prop :=
 qbU x0 x1 x2 H fun b13 H13 => bcase (!b13) (k ⟨none, 0, 0⟩ false H13) (loopT (qbP.l1 x0 x1 x2 k) ((⟨none, 0, 0⟩, x1) : Sl × Int) H13)
def qbP.ann : Ann := { keep := fun r => match r with | 5 => [(8, .sl), (9, .int .i64)] | _ => [], ord := fun r => match r with  | _ => [] }
theorem qbP.link {x0 : Sl} {x1 : Int} {x2 : Int} {H : AH} {k : Sl → Bool → AH → Prop} (h : qbP.b x0 x1 x2 H k) : qbP x0 x1 x2 H k := lk2 pan hT hm Tryz.func143 (by kernel_rfl) (A := qbP.ann) (by kernel_rfl) (by simp) (by simp) (by kernel_rfl) h
def qco.b (x0 : Sl) (x1 : Int) (x2 : Int) (H : AH) (k : Sl → Int → AH → Prop) : Prop :=
 qbQ x0 x1 x2 H fun n14 H14 => bcase ((n14 : Int) != (0 : Int)) (k ⟨none, 0, 0⟩ n14 H14) (qbP x0 x1 x2 H14 fun s22a b22b H22 => k s22a (0 : Int) H22)
theorem qco.link {x0 : Sl} {x1 : Int} {x2 : Int} {H : AH} {k : Sl → Int → AH → Prop} (h : qco.b x0 x1 x2 H k) : qco x0 x1 x2 H k := lk2 pan hT hm Tryz.func103 (by kernel_rfl) (A := ann0) (by kernel_rfl) (by simp) (by simp) (by kernel_rfl) h
def qb6.b (x0 : Option Addr) (x1 : Int) (x2 : Int) (H : AH) (pk : Value → AH → Prop) (k : Sl → AH → Prop) : Prop :=
 qa5 x0 H (fun pv11 Hp11 => pk pv11 Hp11) fun s11 H11 => qco s11 x1 x2 H11 fun s14a n14b H14 => qat n14b H14 (fun pv18 Hp18 => pk pv18 Hp18) fun H18 => k s14a H18
theorem qb6.link {x0 : Option Addr} {x1 : Int} {x2 : Int} {H : AH} {pk : Value → AH → Prop} {k : Sl → AH → Prop} (h : qb6.b x0 x1 x2 H pk k) : qb6 x0 x1 x2 H pk k := lk1 pan hT hm Tryz.func51 (by kernel_rfl) (A := ann0) (by kernel_rfl) (by simp) (by kernel_rfl) h
def qaq.j1 (x1 : Int) (t5 : Sl × Int) (it5 : (Sl × Int) → AH → Prop) (n25 : Int) (x8 : Sl) (Hj : AH) : Prop :=
 (0 ≤ (qkM .i64 (((x8.n : Nat) : Int) - (1 : Int))) ∧ (qkM .i64 (((x8.n : Nat) : Int) - (1 : Int))) < ((x8.n : Nat) : Int)) ∧ onPtr x8.a fun a59 => elI .u64 (AH.cell? Hj (qkN (qkN a59 (qkS (qkM .i64 (((x8.n : Nat) : Int) - (1 : Int))) * 2)) 1)) fun n64 => ((8 : Int) : Int) ≠ 0 ∧ (0 : Int) ≤ (qkM .i64 ((qlK (qkM .i64 (x1 + t5.2)) (8 : Int)) * (8 : Int))) ∧ ((8 : Int) : Int) ≠ 0 ∧ (0 : Int) ≤ (qkM .i64 ((qlK (qkM .i64 (x1 + t5.2)) (8 : Int)) * (8 : Int))) ∧ stC Hj (qkN (qkN a59 (qkS (qkM .i64 (((x8.n : Nat) : Int) - (1 : Int))) * 2)) 1) [(qkL .u64 (orI .u64 (andNotI .u64 n64 (shlI .u64 (255 : Int) (qkM .i64 ((qlK (qkM .i64 (x1 + t5.2)) (8 : Int)) * (8 : Int))))) (shlI .u64 (qkM .u64 n25) (qkM .i64 ((qlK (qkM .i64 (x1 + t5.2)) (8 : Int)) * (8 : Int))))))] fun Hs2 => it5 (x8, (qkM .i64 (t5.2 + (1 : Int)))) Hs2
def qaq.j2 (x0 : Sl) (x1 : Int) (t5 : Sl × Int) (it5 : (Sl × Int) → AH → Prop) (HL5 : AH) (n25 : Int) (x43 : Bool) : Prop :=
 bcase x43 (((8 : Int) : Int) ≠ 0 ∧ ((8 : Int) : Int) ≠ 0 ∧ (0 ≤ (qkM .i64 (qlF (qkM .i64 (x1 + t5.2)) (8 : Int))) ∧ (qkM .i64 (qlF (qkM .i64 (x1 + t5.2)) (8 : Int))) < ((x0.n : Nat) : Int)) ∧ onPtr x0.a fun a50 => elI .u64 (AH.cell? HL5 (qkN a50 (qkS (qkM .i64 (qlF (qkM .i64 (x1 + t5.2)) (8 : Int))) * 1))) fun n51 => (qk0 [(qkL .i64 (qkM .i64 (qlF (qkM .i64 (x1 + t5.2)) (8 : Int)))), (qkL .u64 n51)] = 2) ∧ newC HL5 ⟨[(qkL .i64 (qkM .i64 (qlF (qkM .i64 (x1 + t5.2)) (8 : Int)))), (qkL .u64 n51)], .rw, 2⟩ fun o53 H53 => appendC 2 H53 t5.1 ⟨(some ⟨o53, 0, none⟩), 1, 1⟩ fun s54 H54 => qaq.j1 x1 t5 it5 n25 s54 H54) (qaq.j1 x1 t5 it5 n25 t5.1 HL5)
def qaq.l3 (x0 : Sl) (x1 : Int) (x2 : Sl) (k : Sl → Bool → AH → Prop) (t5 : Sl × Int) (HL5 : AH) (it5 : (Sl × Int) → AH → Prop) : Prop :=
 bcase (decide ((t5.2 : Int) < ((x2.n : Nat) : Int))) ((0 ≤ t5.2 ∧ t5.2 < ((x2.n : Nat) : Int)) ∧ onPtr x2.a fun a24 => elI .u8 (AH.cell? HL5 (qkN a24 (qkS t5.2 * 1))) fun n25 => bcase ((((t5.1.n : Nat) : Int) : Int) == (0 : Int)) (qaq.j2 x0 x1 t5 it5 HL5 n25 true) ((0 ≤ (qkM .i64 (((t5.1.n : Nat) : Int) - (1 : Int))) ∧ (qkM .i64 (((t5.1.n : Nat) : Int) - (1 : Int))) < ((t5.1.n : Nat) : Int)) ∧ onPtr t5.1.a fun a37 => elI .i64 (AH.cell? HL5 (qkN (qkN a37 (qkS (qkM .i64 (((t5.1.n : Nat) : Int) - (1 : Int))) * 2)) 0)) fun n39 => ((8 : Int) : Int) ≠ 0 ∧ qaq.j2 x0 x1 t5 it5 HL5 n25 ((n39 : Int) != (qkM .i64 (qlF (qkM .i64 (x1 + t5.2)) (8 : Int)))))) (k t5.1 true HL5)
def qaq.b (x0 : Sl) (x1 : Int) (x2 : Sl) (H : AH) (k : Sl → Bool → AH → Prop) : Prop :=
 qbU x0 x1 ((x2.n : Nat) : Int) H fun b17 H17 => bcase (!b17) (k ⟨none, 0, 0⟩ false H17) (loopT (qaq.l3 x0 x1 x2 k) ((⟨none, 0, 0⟩, (0 : Int)) : Sl × Int) H17)
def qaq.ann : Ann := { keep := fun r => match r with | 5 => [(8, .sl), (21, .int .i64)] | _ => [], ord := fun r => match r with | 11 => [0, 1, 2, 3, 4, 5, 6, 7, 8, 9, 10, 11, 12, 13, 14, 15, 16, 17, 18, 19] | _ => [] }
theorem qaq.link {x0 : Sl} {x1 : Int} {x2 : Sl} {H : AH} {k : Sl → Bool → AH → Prop} (h : qaq.b x0 x1 x2 H k) : qaq x0 x1 x2 H k := lk2 pan hT hm Tryz.func144 (by kernel_rfl) (A := qaq.ann) (by kernel_rfl) (by simp) (by simp) (by kernel_rfl) h
def qb9.b (x0 : Sl) (x1 : Int) (x2 : Sl) (H : AH) (k : Sl → Int → AH → Prop) : Prop :=
 qbQ x0 x1 ((x2.n : Nat) : Int) H fun n15 H15 => bcase ((n15 : Int) != (0 : Int)) (k ⟨none, 0, 0⟩ n15 H15) (qaq x0 x1 x2 H15 fun s23a b23b H23 => k s23a (0 : Int) H23)
theorem qb9.link {x0 : Sl} {x1 : Int} {x2 : Sl} {H : AH} {k : Sl → Int → AH → Prop} (h : qb9.b x0 x1 x2 H k) : qb9 x0 x1 x2 H k := lk2 pan hT hm Tryz.func104 (by kernel_rfl) (A := ann0) (by kernel_rfl) (by simp) (by simp) (by kernel_rfl) h
def qbY.b (x0 : Option Addr) (x1 : Int) (x2 : Sl) (H : AH) (pk : Value → AH → Prop) (k : AH → Prop) : Prop :=
 qa5 x0 H (fun pv10 Hp10 => pk pv10 Hp10) fun s10 H10 => qb9 s10 x1 x2 H10 fun s15a n15b H15 => qat n15b H15 (fun pv19 Hp19 => pk pv19 Hp19) fun H19 => bcase ((((s15a.n : Nat) : Int) : Int) == (0 : Int)) (k H19) (qaA x0 H19 (fun pv24 Hp24 => pk pv24 Hp24) fun H24 => qH x0 s10 s15a H24 (fun pv28 Hp28 => pk pv28 Hp28) fun H28 => k H28)
theorem qbY.link {x0 : Option Addr} {x1 : Int} {x2 : Sl} {H : AH} {pk : Value → AH → Prop} {k : AH → Prop} (h : qbY.b x0 x1 x2 H pk k) : qbY x0 x1 x2 H pk k := lk0 pan hT hm Tryz.func52 (by kernel_rfl) (A := ann0) (by kernel_rfl) (by kernel_rfl) h
def qaG.j1 (x0 : Option Addr) (x1 : Int) (k : AH → Prop) (pk : Value → AH → Prop) (x14 : Bool) (Hj : AH) : Prop :=
 bcase x14 (pk (Value.iface 37 (qkL .i64 (1 : Int))) Hj) (qaA x0 Hj (fun pv17 Hp17 => pk pv17 Hp17) fun H17 => onPtr x0 fun a19 => elP (AH.cell? H17 (qkN a19 0)) fun p21 => qI p21 (2 : Int) (qkM .u64 x1) H17 fun n24 H24 => qat n24 H24 (fun pv25 Hp25 => pk pv25 Hp25) fun H25 => k H25)
def qaG.b (x0 : Option Addr) (x1 : Int) (H : AH) (pk : Value → AH → Prop) (k : AH → Prop) : Prop :=
 qa5 x0 H (fun pv6 Hp6 => pk pv6 Hp6) fun s6 H6 => bcase ((x1 : Int) != (0 : Int)) (qci s6 x1 H6 fun b12 H12 => qaG.j1 x0 x1 k pk (!b12) H12) (qaG.j1 x0 x1 k pk false H6)
theorem qaG.link {x0 : Option Addr} {x1 : Int} {H : AH} {pk : Value → AH → Prop} {k : AH → Prop} (h : qaG.b x0 x1 H pk k) : qaG x0 x1 H pk k := lk0 pan hT hm Tryz.func53 (by kernel_rfl) (A := ann0) (by kernel_rfl) (by kernel_rfl) h
def pl (a b c d : Int) : List Value := [.int .i64 a, .int .i64 b, .int .i64 c, .int .i64 d]
def mayP (a b c d : Int) : Bool := decide (1 ≤ a ∧ a ≤ 64 ∧ 0 ≤ b ∧ b ≤ 16 ∧ 1 ≤ c ∧ c ≤ 1000 ∧ 1 ≤ d ∧ d ≤ 100)
def wordsP (a b c d : Int) : Int := if mayP a b c d = true then 8 * a else 0
def pagesP (a b c d : Int) : Int := if mayP a b c d = true then (a + 3) / 4 else 0
def logicalP (a b c d : Int) : Int := if mayP a b c d = true then 16 + a else 0
def deviceP (a b c d : Int) : Int := if mayP a b c d = true then 17 + a + b else 0
def homeP (a b c d x : Int) : Int := if mayP a b c d = true ∧ 0 ≤ x ∧ x < a then 16 + x else -1
section
variable {a b c d x : Int} {H : AH} {e : Nat}
theorem pl_row : AH.row? (H.push ⟨pl a b c d, .rw, e⟩) ⟨H.size, 0, none⟩ 4 = some (pl a b c d) := row_new rfl rfl
theorem pl_ld {k : List Value → Prop} : ldA (H.push ⟨pl a b c d, .rw, e⟩) ⟨H.size, 0, none⟩ 4 k ↔ k (pl a b c d) := qu pl_row
theorem pl_0 : AH.cell? (H.push ⟨pl a b c d, .rw, e⟩) (qkN ⟨H.size, 0, none⟩ 0) = some (.int .i64 a) := qdF _ _ _ _
theorem pl_1 : AH.cell? (H.push ⟨pl a b c d, .rw, e⟩) (qkN ⟨H.size, 0, none⟩ 1) = some (.int .i64 b) := qdF _ _ _ _
theorem pl_2 : AH.cell? (H.push ⟨pl a b c d, .rw, e⟩) (qkN ⟨H.size, 0, none⟩ 2) = some (.int .i64 c) := qdF _ _ _ _
theorem pl_3 : AH.cell? (H.push ⟨pl a b c d, .rw, e⟩) (qkN ⟨H.size, 0, none⟩ 3) = some (.int .i64 d) := qdF _ _ _ _
theorem qac : mayP a b c d = true ↔ 1 ≤ a ∧ a ≤ 64 ∧ 0 ≤ b ∧ b ≤ 16 ∧ 1 ≤ c ∧ c ≤ 1000 ∧ 1 ≤ d ∧ d ≤ 100 := by simp [mayP]
theorem hK {o : AObj} {P : Prop} : (qa H (H.push o) ∧ P) ↔ P := ⟨fun h => h.2, fun h => ⟨(qa.refl H).push _, h⟩⟩
theorem qbm.s {k : Bool → AH → Prop} (h : k (mayP a b c d) H) : qbm (pl a b c d) H k := by
 refine gcB (mayP a b c d) (qbm.link ?_) h
 simp only [qbm.b, qx, pl_0, pl_1, pl_2, pl_3, qf, qg, decide_eq_true_eq, hK]
 repeat' split
 all_goals simp only [mayP, decide_eq_decide, Bool.false_eq, decide_eq_false_iff_not]
 all_goals omega
theorem qcm.s {k : Int → AH → Prop} (h : k (wordsP a b c d) H) : qcm (pl a b c d) H k := by
 refine gcI (wordsP a b c d) (qcm.link ?_) h
 simp only [qcm.b, qx, pl_ld]
 refine qbm.s ?_
 simp only [pl_0, qf, qg, hK, wordsP, ql9]
 cases hm : mayP a b c d
 ·simp
 ·have := qac.1 hm
  simp only [Bool.true_eq_false, eq_self, if_false, if_true]
  rw [qd (by omega) (by omega)]
  omega
theorem qcd.s {k : Int → AH → Prop} (hx : -9223372036854775808 ≤ x ∧ x ≤ 9223372036854775807) (h : k ((if 0 > x then 0 else x) / 4) H) : qcd x H k := by
 refine gcI ((if 0 > x then 0 else x) / 4) (qcd.link ?_) h
 refine ⟨by decide, qa.refl H, ?_⟩
 have : (0 : Int) ≤ (if 0 > x then 0 else x) := by split <;> omega
 rw [qlk this, qd (by split <;> omega) (by split <;> omega)]
theorem qcn.s {k : Int → AH → Prop} (h : k (pagesP a b c d) H) : qcn (pl a b c d) H k := by
 refine gcI (pagesP a b c d) (qcn.link ?_) h
 simp only [qcn.b, qx, pl_ld]
 refine qbm.s ?_
 simp only [pl_0, qf, qg, hK, pagesP, ql9]
 cases hm : mayP a b c d
 ·simp
 ·have := qac.1 hm
  simp only [Bool.true_eq_false, eq_self, if_false, if_true]
  rw [qd (by omega) (by omega)]
  refine qcd.s (by omega) ?_
  rw [qd (by split <;> omega) (by split <;> omega)]
  simp only [hK]
  split <;> omega
theorem qby.s {k : Int → AH → Prop} (h : k (logicalP a b c d) H) : qby (pl a b c d) H k := by
 refine gcI (logicalP a b c d) (qby.link ?_) h
 simp only [qby.b, qx, pl_ld]
 refine qbm.s ?_
 simp only [pl_0, qf, qg, hK, logicalP, ql9]
 cases hm : mayP a b c d
 ·simp
 ·have := qac.1 hm
  simp only [Bool.true_eq_false, eq_self, if_false, if_true]
  rw [qd (by omega) (by omega)]
theorem qbp.s {k : Int → AH → Prop} (h : k (deviceP a b c d) H) : qbp (pl a b c d) H k := by
 refine gcI (deviceP a b c d) (qbp.link ?_) h
 simp only [qbp.b, qx, pl_ld]
 refine qbm.s ?_
 simp only [pl_0, pl_1, qf, qg, hK, deviceP, ql9]
 cases hm : mayP a b c d
 ·simp
 ·have := qac.1 hm
  simp only [Bool.true_eq_false, eq_self, if_false, if_true]
  rw [pl_ld]
  refine qby.s ?_
  refine ⟨pl_1, ?_⟩
  simp only [logicalP, hm, if_true, hK]
  rw [qd (n := 16 + a + 1) (by omega) (by omega), qd (by omega) (by omega)]
  omega
theorem qbt.s {k : Int → AH → Prop} (h : k (homeP a b c d x) H) : qbt (pl a b c d) x H k := by
 refine gcI (homeP a b c d x) (qbt.link ?_) h
 simp only [qbt.b, qx, pl_ld]
 refine qbm.s ?_
 simp only [pl_0, pl_1, qf, qg, hK, homeP, ql9, decide_eq_true_eq]
 cases hm : mayP a b c d
 ·simp
 ·have := qac.1 hm
  simp only [Bool.true_eq_false, eq_self, if_false, true_and]
  split
  ·rw [if_neg (by omega)]
  ·split
   ·rw [if_neg (by omega)]
   ·rw [if_pos (by omega), qd (by omega) (by omega)]
end
def opl (K a b c : Int) (s : Sl) : List Value := [.int .i64 K, .int .i64 a, .int .i64 b, .int .i64 c, s.val]
def linesP (K b : Int) (n : Nat) : Int :=
 if K = 1 then (if 0 ≤ b ∧ b ≤ 448 then b / 64 + 4 else 0) else if K = 4 then (if n ≤ 448 then (n : Int) / 64 + 2 else 0) else if K = 2 then 1 else 0
section
variable {K a b c d m x : Int} {sl : Sl} {H : AH} {e : Nat}
theorem elL_val {k : Sl → Prop} : elL (some sl.val) k ↔ k sl := qbn _ _ _ _
theorem qfi : 0 ≤ linesP K b sl.n ∧ linesP K b sl.n ≤ 11 := by
 unfold linesP
 repeat' split
 all_goals omega
theorem op_len : (opl K a b c sl).length = 5 := rfl
theorem op_ok : (opl K a b c sl).all qq = true := rfl
end
def isU (n : Int) : Prop := 0 ≤ n ∧ n ≤ 18446744073709551615
def isI (n : Int) : Prop := -9223372036854775808 ≤ n ∧ n ≤ 9223372036854775807
def isB (n : Int) : Prop := 0 ≤ n ∧ n ≤ 255
def iV (v : Int) : List Value := [.int .i64 v]
def wU (v : Int) : List Value := [.int .u64 v]
def bU (v : Int) : List Value := [.int .u8 v]
end Go.Proofs.YtemeclnpdpkfdaaGreat
namespace Go.Abs
theorem own_len {α : Type} {B : Nat} {H : AH} {s : Sl} {z : Nat} {f : α → List Value} {l : List α} (h : Own B H s z f l) : s.n = l.length := by
 rcases h with ⟨rfl, rfl⟩ | ⟨b, rfl, _, _, _⟩ <;> rfl
theorem qjE {α : Type} {cells : List Value} {z : Nat} {f : α → List Value} : ∀ {l : List α} {o : Nat}, (∀ i x, l[i]? = some x → (cells.drop (o + i * z)).take z = f x ∧ (f x).length = z) → (cells.drop o).take (l.length * z) = l.flatMap f := by
 intro l
 induction l with
 | nil => intro o _; simp
 | cons a r ih =>
  intro o h
  have h0 := h 0 a rfl
  rw [Nat.zero_mul, Nat.add_zero] at h0
  have hr := ih (o := o + z) fun i x hx => by
   have := h (i + 1) x (by simpa using hx)
   rw [show o + z + i * z = o + (i + 1) * z by rw [Nat.add_mul]; omega]
   exact this
  simp only [qk3, qlz]
  rw [Nat.add_mul, Nat.one_mul, Nat.add_comm, List.take_add, h0.1, List.drop_drop, hr]
theorem qjA {α : Type} {H : AH} {s : Sl} {z : Nat} {f : α → List Value} {l : List α} (hf : ∀ x, (f x).length = z) (hc : ∀ x, (f x).all qq = true) (h : Rows H s z f l) : AH.rowS? H s z = some (l.flatMap f) := by
 simp only [AH.rowS?]
 by_cases h0 : s.n = 0
 ·rw [if_pos h0]
  have : l = [] := List.length_eq_zero_iff.1 (by rw [← h.1]; exact h0)
  subst this; rfl
 ·rw [if_neg h0]
  have hpos : 0 < l.length := by rw [← h.1]; omega
  obtain ⟨b, o, ha, hb, _⟩ := h.at hpos
  have hrow : ∀ i x, l[i]? = some x → AH.row? H ⟨b, o + i * z, none⟩ z = some (f x) := by
   intro i x hx
   obtain ⟨a, e1, e2, e3, e4⟩ := h.2 i x hx
   rw [ha] at e1
   injection e1 with e1
   subst e1
   exact e4
  have hun : ∀ i x, l[i]? = some x → (H.get b).md ≠ .dead ∧ ((H.get b).cells.drop (o + i * z)).take z = f x ∧ o + i * z + z ≤ (H.get b).cells.length := by
   intro i x hx
   have := hrow i x hx
   simp only [AH.row?, qk4, qkX, if_false] at this
   split at this
   ·cases this
   ·rename_i hd
    split at this
    ·rename_i hh
     injection this with this
     exact ⟨hd, this, hh.1⟩
    ·cases this
  have hl := hun (l.length - 1) l[l.length - 1] (qkO (by omega))
  have hflat := qjE (cells := (H.get b).cells) (z := z) (f := f) (l := l) (o := o) fun i x hx => ⟨(hun i x hx).2.1, hf x⟩
  have hle : o + l.length * z ≤ (H.get b).cells.length := by
   have := hl.2.2
   obtain ⟨n, hn⟩ : ∃ n, l.length = n + 1 := ⟨l.length - 1, by omega⟩
   rw [hn] at this ⊢
   rw [Nat.add_sub_cancel] at this
   rw [Nat.add_mul]
   omega
  have hall : (l.flatMap f).all qq = true := by simp [List.all_flatMap, hc]
  rw [ha]
  simp only [AH.row?, qk4, qkX, if_false]
  rw [if_neg hl.1, h.1, hflat, if_pos ⟨hle, hall⟩]
theorem qhg {α : Type} {H0 H : AH} {B : Nat} {s t : Sl} {z : Nat} {f : α → List Value} {l r : List α} {k : Sl → AH → Prop} (hf : ∀ x, (f x).length = z) (hc : ∀ x, (f x).all qq = true)
  (hO : Own B H s z f l) (hR : Rows H t z f r) (hB : H0.size ≤ B) (hBH : B ≤ H.size) (hK : qa H0 H) (hlim : l.length + r.length ≤ limS z)
  (h : ∀ s' H', Own B H' s' z f (l ++ r) → qa H0 H' → H.size ≤ H'.size → (∀ b, b < H.size → (∀ a, s.a = some a → b ≠ a.block) → H'.get b = H.get b) → k s' H') :
  appendC z H s t k := by
 have hrow := qjA hf hc hR
 have hge := hK.1
 have hs : s.n = l.length := own_len hO
 refine ⟨by rw [hs, hR.1]; exact hlim, ?_⟩
 by_cases h0 : t.n = 0
 ·rw [if_pos h0]
  have : r = [] := List.length_eq_zero_iff.1 (by rw [← hR.1]; exact h0)
  subst this
  refine h _ _ (by rw [List.append_nil]; exact hO) hK (qkV _) fun _ _ _ => rfl
 rw [if_neg h0]
 refine ⟨_, hrow, ?_⟩
 have ht := hR.1
 rcases hO with ⟨rfl, rfl⟩ | ⟨b, rfl, hb1, hb2, hg⟩
 ·refine h _ _ (.inr ⟨H.size, ?_, ?_, ?_, ?_⟩) (hK.push _) (by simp [qm]) ?_
  ·simp [newAt, ht]
  ·omega
  ·simp [qm]
  ·simp [qr]
  ·intro b hb _; exact qT (by omega)
 ·refine ⟨⟨rfl, rfl, rfl, by rw [hg], by rw [hg, qdB hf], by rw [hg]⟩, ?_⟩
  refine h _ _ (.inr ⟨H.size, ?_, ?_, ?_, ?_⟩) ((hK.kill (b := b) (Nat.le_trans hB hb1)).push _) (by simp [qm, qbg]) ?_
  ·simp [newAt, ht]
  ·omega
  ·simp [qm, qbg]
  ·simp only [qr, qbg, if_true]
   rw [hg]
   simp
  ·intro b' hb' hne
   have hne' : b' ≠ b := hne _ rfl
   rw [qT (by simp only [qbg]; omega), qdJ hne']
theorem qbR {α : Type} {H0 H : AH} {B : Nat} {s t : Sl} {z : Nat} {f : α → List Value} {l r : List α} {k : Sl → AH → Prop} (hf : ∀ x, (f x).length = z) (hc : ∀ x, (f x).all qq = true)
  (hO : Own B H s z f l) (hR : Rows H t z f r) (hB : H0.size ≤ B) (hBH : B ≤ H.size) (hK : qa H0 H) (hlim : l.length + r.length ≤ lim)
  (h : ∀ s' H', Own B H' s' z f (l ++ r) → qa H0 H' → H.size ≤ H'.size → (∀ b, b < H.size → (∀ a, s.a = some a → b ≠ a.block) → H'.get b = H.get b) → k s' H') :
  appendC z H s t k := qhg hf hc hO hR hB hBH hK (le_limS hlim z) h
theorem qdt {α : Type} {H : AH} {s : Sl} {z : Nat} {f : α → List Value} {l : List α} {k : Nat} (h : Rows H s z f l) (hk : k ≤ l.length) : Rows H ⟨s.a, k, 0⟩ z f (l.take k) := by
 refine ⟨by simp; omega, fun i x hi => h.2 i x ?_⟩
 rw [qlD] at hi
 split at hi
 ·exact hi
 ·cases hi
theorem qdm {α : Type} {H : AH} {s : Sl} {z : Nat} {f : α → List Value} {l : List α} {k : Nat} (h : Rows H s z f l) (hk : k ≤ l.length) : Rows H ⟨Option.map (fun x => qkN x (k * z)) s.a, s.n - k, 0⟩ z f (l.drop k) := by
 refine ⟨by simp [h.1], fun i x hi => ?_⟩
 rw [qlE] at hi
 obtain ⟨a, h1, h2, h3, h4⟩ := h.2 _ _ hi
 obtain ⟨b, o, sp⟩ := a
 simp only at h2 h3 h4
 subst h2
 refine ⟨⟨b, o + k * z, none⟩, by rw [h1, Option.map_some, qk], rfl, h3, ?_⟩
 rw [← h4]
 simp only
 congr 2
 rw [Nat.add_mul]; omega
def getB (v : Int) (j : Nat) : Int := (v / 2 ^ (8 * j)) % 256
def setB (v : Int) (j : Nat) (c : Int) : Int :=
 ((((qlC 64 v) &&& ~~~(BitVec.ofNat 64 (255 * 2 ^ (8 * j)))) ||| (BitVec.ofNat 64 (c.toNat * 2 ^ (8 * j)))).toNat : Int)
theorem qiM (v : Int) (j : Nat) (c : Int) : 0 ≤ setB v j c ∧ setB v j c ≤ 18446744073709551615 := by
 unfold setB
 have := (((qlC 64 v) &&& ~~~(BitVec.ofNat 64 (255 * 2 ^ (8 * j)))) ||| (BitVec.ofNat 64 (c.toNat * 2 ^ (8 * j)))).isLt
 omega
theorem qfP (n j : Nat) : getB (n : Int) j = ((n / 2 ^ (8 * j)) % 256 : Nat) := by
 unfold getB
 rw [Int.natCast_emod, Int.natCast_ediv, Int.natCast_pow]
 rfl
theorem qd5 (n j t : Nat) : ((n / 2 ^ (8 * j)) % 256).testBit t = (decide (t < 8) && n.testBit (8 * j + t)) := by
 have : (256 : Nat) = 2 ^ 8 := rfl
 rw [this, Nat.testBit_mod_two_pow, Nat.testBit_div_two_pow, Nat.add_comm]
theorem qgs {v c : Int} {j : Nat} (hj : j < 8) (hc : 0 ≤ c ∧ c ≤ 255) : getB (setB v j c) j = c := by
 obtain ⟨n, rfl⟩ := qk9 hc.1
 unfold setB
 rw [qfP]
 congr 1
 apply Nat.eq_of_testBit_eq
 intro t
 rw [qd5, BitVec.testBit_toNat]
 simp only [qkQ]
 have hn : n < 2 ^ 8 := by omega
 by_cases ht : t < 8
 ·have h64 : 8 * j + t < 64 := by omega
  simp only [ht, decide_true, Bool.true_and, BitVec.getLsbD_or, BitVec.getLsbD_and, BitVec.getLsbD_not, BitVec.getLsbD_ofNat, h64, Nat.testBit_mul_two_pow]
  rw [show decide (8 * j + t ≥ 8 * j) = true from by simp, show 8 * j + t - 8 * j = t from by omega]
  have h255 : Nat.testBit 255 t = true := by
   have : (255 : Nat) = 2 ^ 8 - 1 := rfl
   rw [this, Nat.testBit_two_pow_sub_one]; simpa using ht
  simp [h255]
 ·have : n.testBit t = false := Nat.testBit_lt_two_pow (qlY hn (Nat.pow_le_pow_right (by omega) (by omega)))
  simp [ht, this]
theorem qgm {v c : Int} {j i : Nat} (hv : 0 ≤ v ∧ v ≤ 18446744073709551615) (hj : j < 8) (hi : i < 8) (hij : i ≠ j) (hc : 0 ≤ c ∧ c ≤ 255) : getB (setB v j c) i = getB v i := by
 obtain ⟨n, rfl⟩ := qk9 hc.1
 obtain ⟨m, rfl⟩ := qk9 hv.1
 unfold setB
 rw [qfP, qfP]
 congr 1
 apply Nat.eq_of_testBit_eq
 intro t
 rw [qd5, qd5, BitVec.testBit_toNat]
 simp only [qkQ]
 have hn : n < 2 ^ 8 := by omega
 by_cases ht : t < 8
 ·have h64 : 8 * i + t < 64 := by omega
  simp only [ht, decide_true, Bool.true_and, BitVec.getLsbD_or, BitVec.getLsbD_and, BitVec.getLsbD_not, BitVec.getLsbD_ofNat, h64, Nat.testBit_mul_two_pow, BitVec.ofInt_natCast]
  have hz : ∀ q : Nat, q < 2 ^ 8 → (decide (8 * i + t ≥ 8 * j) && q.testBit (8 * i + t - 8 * j)) = false := by
   intro q hq
   by_cases hge : 8 * i + t ≥ 8 * j
   ·have : 8 ≤ 8 * i + t - 8 * j := by omega
    rw [Nat.testBit_lt_two_pow (qlY hq (Nat.pow_le_pow_right (by omega) this))]; simp
   ·simp [hge]
  rw [hz 255 (by omega), hz n hn]
  simp
 ·simp [ht]
theorem qkn {v : Int} (hv : 0 ≤ v ∧ v ≤ 18446744073709551615) {j : Nat} (hj : j < 8) : qkM .u8 (shrI .u64 v (8 * (j : Int))) = getB v j := by
 unfold shrI getB
 rw [show (min ((8 * (j : Int)).toNat) (qlO .u64)) = 8 * j from by simp [qlO]; omega]
 rw [Int.fdiv_eq_ediv_of_nonneg _ (Int.pow_nonneg (by omega))]
 simp only [qkM, qlO, IntKind.signed, Bool.false_and, Int.reducePow, qkX, if_false]
theorem qdU (x : Int) : qlC 64 (qkM .u64 x) = qlC 64 x := by
 simp only [qkM, qlO, IntKind.signed, Bool.false_and, qkX, if_false]
 apply BitVec.eq_of_toInt_eq
 simp only [BitVec.toInt_ofInt]
 exact Int.emod_bmod x (2 ^ 64)
theorem qkq (n : Nat) (h : n < 2 ^ 64) : qkM .u64 (n : Int) = n := qbw (by omega) (by omega)
theorem qhd {v c : Int} (hc : 0 ≤ c ∧ c ≤ 255) {j : Nat} (hj : j < 8) :
  orI .u64 (andNotI .u64 v (shlI .u64 255 (8 * (j : Int)))) (shlI .u64 (qkM .u64 c) (8 * (j : Int))) = setB v j c := by
 have h1 : ∀ x : Int, shlI .u64 x (8 * (j : Int)) = qkM .u64 (x * 2 ^ (8 * j)) := by
  intro x
  unfold shlI
  rw [show (min ((8 * (j : Int)).toNat) (qlO .u64)) = 8 * j from by simp [qlO]; omega]
 have h2 : ∀ a b : Int, andNotI .u64 a b = qkM .u64 ((qlC 64 a &&& ~~~(qlC 64 b)).toNat : Int) := fun _ _ => rfl
 have h3 : ∀ a b : Int, orI .u64 a b = qkM .u64 ((qlC 64 a ||| qlC 64 b).toNat : Int) := fun _ _ => rfl
 rw [h3, h2, h1, h1, qbw (n := c) (by omega) (by omega), qdU, qdU, qdU, qkq _ (BitVec.isLt _)]
 unfold setB
 obtain ⟨n, rfl⟩ := qk9 hc.1
 have e1 : (255 : Int) * 2 ^ (8 * j) = ((255 * 2 ^ (8 * j) : Nat) : Int) := by rw [Int.natCast_mul, Int.natCast_pow]; rfl
 have e2 : (n : Int) * 2 ^ (8 * j) = ((n * 2 ^ (8 * j) : Nat) : Int) := by rw [Int.natCast_mul, Int.natCast_pow]; rfl
 rw [e1, e2]
 simp only [BitVec.ofInt_natCast, qkQ, BitVec.ofNat_toNat, BitVec.setWidth_eq]
end Go.Abs
namespace Go.Proofs.YtemeclnpdpkfdaaGreat
open Go Go.Abs
theorem qjL {H : AH} {b o : Nat} {v : Value} (h : AH.row? H ⟨b, o, none⟩ 1 = some [v]) : AH.cell? H ⟨b, o, none⟩ = some v := by
 have := (AH.row?_cell h).2.2.2.2 0 v rfl
 simpa using this
theorem qaZ {α : Type} {H : AH} {s : Sl} {g : α → Value} {l : List α} (h : qk7 H s 1 (fun x => [g x]) l) {i : Nat} (hi : i < l.length) :
  ∃ b o, s.a = some ⟨b, o, none⟩ ∧ b < H.size ∧ AH.cell? H (qkN ⟨b, o, none⟩ (i * 1)) = some (g (l[i])) := by
 obtain ⟨b, o, h1, h2, h3⟩ := h.at hi
 refine ⟨b, o, h1, h2, ?_⟩
 rw [qk] at h3 ⊢
 exact qjL h3
def inside (len : Nat) (off n : Int) : Prop := 0 ≤ off ∧ 0 ≤ n ∧ n ≤ 448 ∧ off ≤ 8 * len - n
instance (len : Nat) (off n : Int) : Decidable (inside len off n) := by unfold inside; infer_instance
def byteAt (ws : List Int) (i : Nat) : Int := getB (ws.getD (i / 8) 0) (i % 8)
def bytesOf (ws : List Int) (off n : Nat) : List Int := (List.range n).map fun j => byteAt ws (off + j)
def qao (ws : List Int) : Prop := ∀ v ∈ ws, 0 ≤ v ∧ v ≤ 18446744073709551615
section
variable {off n : Int} {H : AH} {sl : Sl}
theorem qbU.s {k : Bool → AH → Prop} (hs : sl.n ≤ 1000000000) (ho : -9223372036854775808 ≤ off ∧ off ≤ 9223372036854775807) (h : k (decide (inside sl.n off n)) H) : qbU sl off n H k := by
 refine gcB (decide (inside sl.n off n)) (qbU.link ?_) h
 simp only [qbU.b, qg, decide_eq_true_eq, qa.refl, true_and]
 by_cases h1 : off ≥ 0
 ·rw [if_pos h1]
  by_cases h2 : n ≥ 0
  ·rw [if_pos h2]
   by_cases h3 : n ≤ 448
   ·rw [if_pos h3, qd (n := (sl.n : Int) * 8) (by omega) (by omega), qd (by omega) (by omega)]
    refine decide_eq_decide.2 ?_; unfold inside; omega
   ·rw [if_neg h3]; refine (decide_eq_false ?_).symm; unfold inside; omega
  ·rw [if_neg h2]; refine (decide_eq_false ?_).symm; unfold inside; omega
 ·rw [if_neg h1]; refine (decide_eq_false ?_).symm; unfold inside; omega
theorem qbP.s {ws : List Int} {k : Sl → Bool → AH → Prop} (hw : qk7 H sl 1 wU ws) (h64 : qao ws) (hlen : ws.length ≤ 1000000) (ho : -9223372036854775808 ≤ off ∧ off ≤ 9223372036854775807)
  (h1 : inside ws.length off n → ∀ s H', qa H H' → Own H.size H' s 1 bU (bytesOf ws off.toNat n.toNat) → k s true H') (h0 : ¬ inside ws.length off n → k ⟨none, 0, 0⟩ false H) : qbP sl off n H k := by
 refine qbP.link ?_
 unfold qbP.b
 have hn : sl.n = ws.length := hw.1
 refine qbU.s (by omega) ho ?_
 rw [hn]
 by_cases hin : inside ws.length off n
 ·rw [show decide (inside ws.length off n) = true from by simpa using hin, Bool.not_true, qc]
  have hin' := hin
  unfold inside at hin
  refine qC (t := ((⟨none, 0, 0⟩, off) : Sl × Int)) (H := H) (I := fun (t : Sl × Int) H' => ∃ j : Nat, t.2 = off + j ∧ (j : Int) ≤ n ∧ qa H H' ∧ Own H.size H' t.1 1 bU (bytesOf ws off.toNat j)) (m := fun (t : Sl × Int) _ => qkS (off + n - t.2)) ?_ ?_
  ·intro t H1 hI it hit
   obtain ⟨s, i⟩ := t
   obtain ⟨j, hi, hj, hK, hO⟩ := hI
   simp only at hi hO
   subst hi
   have hR := hw.keep hK
   unfold qbP.l1
   simp only
   rw [qd (n := off + n) (by omega) (by omega)]
   by_cases hlt : (j : Int) < n
   ·rw [show decide (off + (j : Int) < off + n) = true from by simp; omega, qj]
    rw [qlk (by omega), ql0 (by omega), qd (n := (off + (j : Int)) / 8) (by omega) (by omega), hn]
    have hidx : ((off + (j : Int)) / 8).toNat < ws.length := by omega
    obtain ⟨b, o, ha, hb, hcell⟩ := qaZ (g := fun v => qkL .u64 v) hR hidx
    refine ⟨by decide, ⟨by omega, by omega⟩, ?_⟩
    rw [ha, qe, hcell, qf, qd (n := (off + (j : Int)) % 8 * 8) (by omega) (by omega)]
    refine ⟨by decide, by omega, ?_⟩
    have hjm : ((off + (j : Int)) % 8) = (((off.toNat + j) % 8 : Nat) : Int) := by omega
    have hidx' : ((off + (j : Int)) / 8).toNat = (off.toNat + j) / 8 := by omega
    have hv := h64 _ (qk1 hidx)
    have hbyte : qkM .u8 (shrI .u64 ws[((off + (j : Int)) / 8).toNat] ((off + (j : Int)) % 8 * 8)) = byteAt ws (off.toNat + j) := by
     rw [Int.mul_comm, hjm, qkn hv (by omega)]
     unfold byteAt
     rw [qkP, ← hidx', qkO hidx, qll]
    rw [hbyte]
    simp only [qx]
    refine qa7 (H0 := H) (B := H.size) (f := bU) (x := byteAt ws (off.toNat + j)) (l := bytesOf ws off.toNat j) (fun _ => rfl) rfl hO (qkV _) hK.1 hK (by simp only [bytesOf, List.length_map, List.length_range, lim]; omega) ?_
    intro s' H' hO' hK' _ _
    rw [qd (n := off + (j : Int) + 1) (by omega) (by omega)]
    refine hit _ _ ⟨j + 1, by simp only; omega, by omega, hK', ?_⟩ (by simp only; omega)
    have : bytesOf ws off.toNat (j + 1) = bytesOf ws off.toNat j ++ [byteAt ws (off.toNat + j)] := by simp [bytesOf, qlQ]
    rw [this]; exact hO'
   ·rw [show decide (off + (j : Int) < off + n) = false from by simp; omega, qc]
    have hjn : n.toNat = j := by omega
    exact h1 hin' _ _ hK (hjn ▸ hO)
  ·exact ⟨0, by simp, by omega, qa.refl H, .inl ⟨rfl, rfl⟩⟩
 ·rw [show decide (inside ws.length off n) = false from by simpa using hin, Bool.not_false, qj]
  exact h0 hin
end
end Go.Proofs.YtemeclnpdpkfdaaGreat
namespace Go.Abs
theorem qkh {α : Type} {f : α → List Value} {z : Nat} (hf : ∀ x, (f x).length = z) {j : Nat} {v : Value} (hj : j < z) : ∀ (l : List α) (i : Nat) (x y : α), l[i]? = some x → f y = (f x).set j v →
  (l.flatMap f).set (i * z + j) v = (l.set i y).flatMap f := by
 intro l
 induction l with
 | nil => intro i x y h; simp at h
 | cons a l ih =>
  intro i x y h hy
  cases i with
  | zero =>
   simp only [List.getElem?_cons_zero, Option.some.injEq] at h
   subst h
   simp only [Nat.zero_mul, qk6, qlz, List.set_cons_zero]
   rw [hy, List.set_append_left _ _ (by rw [hf]; exact hj)]
  | succ i =>
   simp only [List.getElem?_cons_succ] at h
   simp only [qlz, List.set_cons_succ]
   rw [← ih i x y h hy, List.set_append_right _ _ (by rw [hf, Nat.succ_mul]; omega)]
   congr 2
   rw [hf, Nat.succ_mul]; omega
theorem Own.cell {α : Type} {B : Nat} {H : AH} {s : Sl} {z : Nat} {f : α → List Value} {l : List α} (h : Own B H s z f l) (hf : ∀ x, (f x).length = z) {i : Nat} {x : α} (hi : l[i]? = some x) {j : Nat} (hj : j < z) :
  ∃ b, s.a = some ⟨b, 0, none⟩ ∧ B ≤ b ∧ b < H.size ∧ AH.cell? H ⟨b, i * z + j, none⟩ = (f x)[j]? := by
 rcases h with ⟨_, rfl⟩ | ⟨b, rfl, h1, h2, hg⟩
 ·simp at hi
 ·refine ⟨b, rfl, h1, h2, ?_⟩
  simp only [AH.cell?, hg, qk4, qkX, if_false]
  rw [if_neg (by simp)]
  have := qhW hf l i x hi
  rw [← this, qlD, if_pos hj, qlE]
theorem Own.put {α : Type} {B : Nat} {H : AH} {s : Sl} {z : Nat} {f : α → List Value} {l : List α} (h : Own B H s z f l) (hf : ∀ x, (f x).length = z) {i : Nat} {x y : α} (hi : l[i]? = some x) {j : Nat} (hj : j < z) {v : Value}
  (hy : f y = (f x).set j v) : ∃ b, s.a = some ⟨b, 0, none⟩ ∧ B ≤ b ∧ b < H.size ∧ AH.canPut H ⟨b, i * z + j, none⟩ 1 ∧ Own B (H.put ⟨b, i * z + j, none⟩ [v]) s z f (l.set i y) ∧
   ∀ b', b' ≠ b → (H.put ⟨b, i * z + j, none⟩ [v]).get b' = H.get b' := by
 rcases h with ⟨_, rfl⟩ | ⟨b, rfl, h1, h2, hg⟩
 ·simp at hi
 ·have hlt : i < l.length := (List.getElem?_eq_some_iff.1 hi).1
  have hle : i * z + j + 1 ≤ (l.flatMap f).length := by
   rw [qdB hf]
   calc i * z + j + 1 ≤ i * z + z := by omega
    _ = (i + 1) * z := by rw [Nat.succ_mul]
    _ ≤ l.length * z := Nat.mul_le_mul_right _ hlt
  refine ⟨b, rfl, h1, h2, ⟨rfl, by rw [hg], by rw [hg]; exact hle⟩, .inr ⟨b, by simp, h1, h2, ?_⟩, fun b' hb' => ?_⟩
  ·simp only [AH.put, qZ, if_true, hg, setMany]
   rw [qkh hf hj l i x y hi hy]
  ·simp only [AH.put, qZ]; rw [if_neg hb']
end Go.Abs
namespace Go.Proofs.YtemeclnpdpkfdaaGreat
open Go Go.Abs
def putB (ws : List Int) (i : Nat) (c : Int) : List Int := ws.set (i / 8) (setB (ws.getD (i / 8) 0) (i % 8) c)
def putBs : List Int → Nat → List Int → List Int
 | ws, _, [] => ws
 | ws, i, c :: r => putBs (putB ws i c) (i + 1) r
def eU (x : Int × Int) : List Value := [.int .i64 x.1, .int .u64 x.2]
def editsOf (cur : List Int) (q m : Nat) : List (Int × Int) := (List.range m).map fun j => (((q + j : Nat) : Int), cur.getD (q + j) 0)
def touched (off k : Nat) : Nat := if k = 0 then 0 else (off + k - 1) / 8 - off / 8 + 1
def qcs (bs : List Int) : Prop := ∀ v ∈ bs, 0 ≤ v ∧ v ≤ 255
theorem qdG (ws : List Int) (i : Nat) (c : Int) : (putB ws i c).length = ws.length := by simp [putB]
theorem qcq : ∀ (bs ws : List Int) (i : Nat), (putBs ws i bs).length = ws.length := by
 intro bs
 induction bs with
 | nil => intro ws i; rfl
 | cons c r ih => intro ws i; simp [putBs, ih, qdG]
theorem qgb : ∀ (bs ws : List Int) (i : Nat) (c : Int), putBs ws i (bs ++ [c]) = putB (putBs ws i bs) (i + bs.length) c := by
 intro bs
 induction bs with
 | nil => intro ws i c; rfl
 | cons b r ih => intro ws i c; simp only [List.cons_append, putBs, ih, qk3]; congr 1; omega
theorem qfb (ws : List Int) (i : Nat) (c : Int) (w : Nat) (h : i / 8 < ws.length) : (putB ws i c).getD w 0 = if w = i / 8 then setB (ws.getD (i / 8) 0) (i % 8) c else ws.getD w 0 := by
 unfold putB
 simp only [qkP]
 by_cases hw : w = i / 8
 ·subst hw; simp [h]
 ·rw [if_neg hw, qlg (by omega)]
theorem qen : ∀ (bs ws : List Int) (i w : Nat), (i + bs.length ≤ w * 8 ∨ w < i / 8) → i + bs.length ≤ ws.length * 8 → (putBs ws i bs).getD w 0 = ws.getD w 0 := by
 intro bs
 induction bs with
 | nil => intro ws i w _ _; rfl
 | cons c r ih =>
  intro ws i w h hl
  simp only [qk3] at h hl
  simp only [putBs]
  rw [ih _ _ _ (by omega) (by rw [qdG]; omega), qfb _ _ _ _ (by omega), if_neg (by omega)]
section
variable {off : Nat} {H : AH} {x0 x2 : Sl}
theorem qa3 (cur : List Int) (q m : Nat) : (editsOf cur q m).length = m := by simp [editsOf]
theorem qcU {cur : List Int} {q m i : Nat} (h : i < m) : (editsOf cur q m)[i]? = some (((q + i : Nat) : Int), cur.getD (q + i) 0) := by
 simp [editsOf, h]
theorem qeY {ws : List Int} (h : qao ws) (i : Nat) (c : Int) : qao (putB ws i c) := by
 intro v hv
 unfold putB at hv
 rcases List.mem_or_eq_of_mem_set hv with hv | rfl
 ·exact h v hv
 ·exact qiM _ _ _
theorem qfw {cur : List Int} {q m i : Nat} {c : Int} (hm : 1 ≤ m) (hi : i / 8 = q + m - 1) (hl : i / 8 < cur.length) :
  (editsOf cur q m).set (m - 1) (((i / 8 : Nat) : Int), setB (cur.getD (i / 8) 0) (i % 8) c) = editsOf (putB cur i c) q m := by
 apply qlc
 intro j
 by_cases hj : j < m
 ·rw [qcU hj, qfb _ _ _ _ hl]
  by_cases hjm : j = m - 1
  ·subst hjm
   rw [qlv (by rw [qa3]; omega), if_pos (by omega), show q + (m - 1) = i / 8 from by omega]
  ·rw [qlg (by omega), qcU hj, if_neg (by omega)]
 ·rw [qkT (by rw [List.length_set, qa3]; omega), qkT (by rw [qa3]; omega)]
theorem qh5 {it : Sl × Int → AH → Prop} {H0 H1 : AH} {s : Sl} {cur : List Int} {k m : Nat} {c : Int} {t : Sl × Int} (ht : t.2 = (k : Int)) (hK : qa H0 H1) (hO : Own H0.size H1 s 2 eU (editsOf cur (off / 8) m)) (hm : 1 ≤ m) (hm' : m ≤ 1000)
  (hi : (off + k) / 8 = off / 8 + m - 1) (hl : (off + k) / 8 < cur.length) (hc : 0 ≤ c ∧ c ≤ 255) (hoff : off + k ≤ 100000000)
  (hit : ∀ H', qa H0 H' → Own H0.size H' s 2 eU (editsOf (putB cur (off + k) c) (off / 8) m) → it (s, (k : Int) + 1) H') : qaq.j1 (off : Int) t it c s H1 := by
 unfold qaq.j1
 have hlen : s.n = m := by
  rcases hO with ⟨rfl, h⟩ | ⟨b, rfl, _, _, _⟩
  ·have := qa3 cur (off / 8) m
   rw [h] at this; simpa using this
  ·simp [qa3]
 rw [hlen, ht, qd (n := (m : Int) - 1) (by omega) (by omega), qd (n := (off : Int) + (k : Int)) (by omega) (by omega)]
 have hidx : ((m : Int) - 1).toNat = m - 1 := by omega
 have hget := qcU (cur := cur) (q := off / 8) (show m - 1 < m from by omega)
 have hq : off / 8 + (m - 1) = (off + k) / 8 := by omega
 rw [hq] at hget
 obtain ⟨b, ha, hb1, hb2, hcell⟩ := hO.cell (fun _ => rfl) hget (j := 1) (by omega)
 refine ⟨⟨by omega, by omega⟩, ?_⟩
 rw [ha, qe, hidx, qk, qk, qk6, hcell]
 have hmod : ((off : Int) + (k : Int)).tmod 8 = (((off + k) % 8 : Nat) : Int) := by rw [ql0 (by omega)]; omega
 rw [hmod]
 show elI .u64 (some (qkL .u64 (cur.getD ((off + k) / 8) 0))) _
 rw [qf, qd (n := (((off + k) % 8 : Nat) : Int) * 8) (by omega) (by omega), Int.mul_comm _ 8, qhd hc (by omega)]
 refine ⟨by decide, by omega, by decide, by omega, ?_⟩
 obtain ⟨b', ha', _, _, hcan, hO', hsame⟩ := hO.put (y := ((((off + k) / 8 : Nat) : Int), setB (cur.getD ((off + k) / 8) 0) ((off + k) % 8) c)) (fun _ => rfl) hget (j := 1) (by omega) (v := .int .u64 (setB (cur.getD ((off + k) / 8) 0) ((off + k) % 8) c)) rfl
 rw [ha] at ha'
 injection ha' with ha'
 injection ha' with ha'
 subst ha'
 refine ⟨hcan, ?_⟩
 rw [qd (n := (k : Int) + 1) (by omega) (by omega)]
 rw [qfw hm hi hl] at hO'
 exact hit _ (hK.put hb1 _) hO'
theorem own_n {α : Type} {B : Nat} {H : AH} {s : Sl} {z : Nat} {f : α → List Value} {l : List α} (h : Own B H s z f l) : s.n = l.length := by
 rcases h with ⟨rfl, rfl⟩ | ⟨b, rfl, _, _, _⟩ <;> rfl
theorem qhm {it : Sl × Int → AH → Prop} {H0 H1 : AH} {s : Sl} {ws cur : List Int} {k m : Nat} {c : Int} {t : Sl × Int} (ht : t = (s, (k : Int))) (hw : qk7 H1 x0 1 wU ws) (hcl : cur.length = ws.length) (hcw : cur.getD ((off + k) / 8) 0 = ws.getD ((off + k) / 8) 0)
  (hK : qa H0 H1) (hO : Own H0.size H1 s 2 eU (editsOf cur (off / 8) m)) (hm' : m ≤ 900)
  (hi : (off + k) / 8 = off / 8 + m) (hl : (off + k) / 8 < cur.length) (hc : 0 ≤ c ∧ c ≤ 255) (hoff : off + k ≤ 100000000) (hwl : ws.length ≤ 1000000)
  (hit : ∀ s' H', qa H0 H' → Own H0.size H' s' 2 eU (editsOf (putB cur (off + k) c) (off / 8) (m + 1)) → it (s', (k : Int) + 1) H') : qaq.j2 x0 (off : Int) t it H1 c true := by
 subst ht
 unfold qaq.j2
 rw [qj]
 simp only
 rw [qd (n := (off : Int) + (k : Int)) (by omega) (by omega), qlk (by omega), qd (n := ((off : Int) + (k : Int)) / 8) (by omega) (by omega), hw.1]
 refine ⟨by decide, by decide, ⟨by omega, by omega⟩, ?_⟩
 have hidx : (((off : Int) + (k : Int)) / 8).toNat = (off + k) / 8 := by omega
 have hlt : (off + k) / 8 < ws.length := by omega
 obtain ⟨b, o, ha, hb, hcell⟩ := qaZ (g := fun v => qkL .u64 v) hw hlt
 rw [ha, qe, hidx, hcell, qf]
 refine ⟨rfl, ?_⟩
 rw [qx]
 have hx : [qkL .i64 (((off : Int) + (k : Int)) / 8), qkL .u64 ws[(off + k) / 8]] = eU ((((off + k) / 8 : Nat) : Int), cur.getD ((off + k) / 8) 0) := by
  rw [hcw]
  simp only [eU, qkP, qkO hlt, qll]
  congr 1
 rw [hx]
 refine qa7 (H0 := H0) (B := H0.size) (f := eU) (x := ((((off + k) / 8 : Nat) : Int), cur.getD ((off + k) / 8) 0)) (l := editsOf cur (off / 8) m) (fun _ => rfl) rfl hO (qkV _) hK.1 hK (by rw [qa3]; simp only [lim]; omega) ?_
 intro s' H' hO' hK' _ _
 have hl' : editsOf cur (off / 8) m ++ [((((off + k) / 8 : Nat) : Int), cur.getD ((off + k) / 8) 0)] = editsOf cur (off / 8) (m + 1) := by
  simp only [editsOf, qlQ, List.map_append, qlN, List.map_nil, hi]
 rw [hl'] at hO'
 exact qh5 rfl hK' hO' (by omega) (by omega) (by omega) hl hc hoff (fun H'' hK'' hO'' => hit s' H'' hK'' hO'')
theorem qaq.s {ws bs : List Int} {k : Sl → Bool → AH → Prop} {offI : Int} (hw : qk7 H x0 1 wU ws) (h64 : qao ws) (hwl : ws.length ≤ 1000000) (hb : qk7 H x2 1 bU bs) (h8 : qcs bs) (ho : -9223372036854775808 ≤ offI ∧ offI ≤ 9223372036854775807)
  (h1 : inside ws.length offI bs.length → ∀ s H', qa H H' → Own H.size H' s 2 eU (editsOf (putBs ws offI.toNat bs) (offI.toNat / 8) (touched offI.toNat bs.length)) → k s true H')
  (h0 : ¬ inside ws.length offI bs.length → k ⟨none, 0, 0⟩ false H) : qaq x0 offI x2 H k := by
 refine qaq.link ?_
 unfold qaq.b
 rw [hb.1]
 refine qbU.s (by rw [hw.1]; omega) ho ?_
 rw [hw.1]
 by_cases hin : inside ws.length offI bs.length
 ·rw [show decide (inside ws.length offI bs.length) = true from by simpa using hin, Bool.not_true, qc]
  have hin' := hin
  unfold inside at hin
  obtain ⟨off, rfl⟩ := qk9 hin.1
  simp only [qkQ] at h1
  refine qC (t := ((⟨none, 0, 0⟩, (0 : Int)) : Sl × Int)) (H := H) (I := fun (t : Sl × Int) H' => ∃ j : Nat, t.2 = (j : Int) ∧ j ≤ bs.length ∧ qa H H' ∧ Own H.size H' t.1 2 eU (editsOf (putBs ws off (bs.take j)) (off / 8) (touched off j))) (m := fun (t : Sl × Int) _ => qkS ((bs.length : Int) - t.2)) ?_ ?_
  ·intro t H1 hI it hit
   obtain ⟨s, i⟩ := t
   obtain ⟨j, hi, hj, hK, hO⟩ := hI
   simp only at hi hO
   subst hi
   have hR := hw.keep hK
   have hB := hb.keep hK
   unfold qaq.l3
   simp only
   rw [hb.1]
   by_cases hlt : j < bs.length
   ·rw [show decide ((j : Int) < (bs.length : Int)) = true from by simpa using hlt, qj]
    obtain ⟨b, o, ha, hbb, hcell⟩ := qaZ (g := fun v => qkL .u8 v) hB hlt
    refine ⟨⟨by omega, by omega⟩, ?_⟩
    rw [ha, qe, qkQ, hcell, qf]
    have hc := h8 _ (qk1 hlt)
    have hcl : (putBs ws off (bs.take j)).length = ws.length := qcq _ _ _
    have hstep : putB (putBs ws off (bs.take j)) (off + j) bs[j] = putBs ws off (bs.take (j + 1)) := by
     rw [List.take_succ, qkO hlt, qlX, qgb, List.length_take, Nat.min_eq_left (by omega)]
    have hnext : ∀ s' H', qa H H' → Own H.size H' s' 2 eU (editsOf (putB (putBs ws off (bs.take j)) (off + j) bs[j]) (off / 8) (touched off (j + 1))) → it (s', (j : Int) + 1) H' := by
     intro s' H' hK' hO'
     rw [hstep] at hO'
     exact hit _ _ ⟨j + 1, by simp, by omega, hK', hO'⟩ (by simp only; omega)
    rw [own_n hO, qa3]
    have hlw : (off + j) / 8 < (putBs ws off (bs.take j)).length := by rw [hcl]; omega
    by_cases hj0 : j = 0
    ·subst hj0
     rw [show (((touched off 0 : Nat) : Int) == 0) = true from rfl, qj]
     refine qhm (m := 0) (cur := putBs ws off (bs.take 0)) rfl hR hcl rfl hK hO (by omega) (by omega) hlw hc (by omega) hwl ?_
     intro s' H' hK' hO'
     have : touched off (0 + 1) = 0 + 1 := by simp [touched]
     exact hnext s' H' hK' (by rw [this]; exact hO')
    ·have htm : touched off j = (off + j - 1) / 8 - off / 8 + 1 := by simp [touched, hj0]
     have htn : touched off (j + 1) = (off + j) / 8 - off / 8 + 1 := by simp [touched]
     have hle : touched off j ≤ 60 := by omega
     rw [show (((touched off j : Nat) : Int) == 0) = false from by simp; omega, qc, qd (n := ((touched off j : Nat) : Int) - 1) (by omega) (by omega)]
     refine ⟨⟨by omega, by omega⟩, ?_⟩
     have hget := qcU (cur := putBs ws off (bs.take j)) (q := off / 8) (show touched off j - 1 < touched off j from by omega)
     obtain ⟨b', ha', _, _, hcell'⟩ := hO.cell (fun _ => rfl) hget (j := 0) (by omega)
     have hidx : (((touched off j : Nat) : Int) - 1).toNat = touched off j - 1 := by omega
     rw [ha', qe, hidx, qk, qk, qk6, hcell']
     show elI .i64 (some (qkL .i64 ((off / 8 + (touched off j - 1) : Nat) : Int))) _
     rw [qf, qd (n := (off : Int) + (j : Int)) (by omega) (by omega), qlk (by omega), qd (n := ((off : Int) + (j : Int)) / 8) (by omega) (by omega)]
     refine ⟨by decide, ?_⟩
     by_cases hsame : (off + j) / 8 = off / 8 + touched off j - 1
     ·rw [show ((((off / 8 + (touched off j - 1) : Nat) : Int)) != ((off : Int) + (j : Int)) / 8) = false from by simp; omega]
      unfold qaq.j2
      rw [qc]
      refine qh5 (m := touched off j) (cur := putBs ws off (bs.take j)) rfl hK hO (by omega) (by omega) hsame hlw hc (by omega) ?_
      intro H' hK' hO'
      exact hnext s H' hK' (by rw [show touched off (j + 1) = touched off j from by omega]; exact hO')
     ·rw [show ((((off / 8 + (touched off j - 1) : Nat) : Int)) != ((off : Int) + (j : Int)) / 8) = true from by simp; omega]
      refine qhm (m := touched off j) (cur := putBs ws off (bs.take j)) rfl hR hcl ?_ hK hO (by omega) (by omega) hlw hc (by omega) hwl ?_
      ·exact qen _ _ _ _ (.inl (by rw [List.length_take]; omega)) (by rw [List.length_take]; omega)
      ·intro s' H' hK' hO'
       exact hnext s' H' hK' (by rw [show touched off (j + 1) = touched off j + 1 from by omega]; exact hO')
   ·rw [show decide ((j : Int) < (bs.length : Int)) = false from by simpa using hlt, qc]
    have hjn : j = bs.length := by omega
    subst hjn
    rw [qlH] at hO
    exact h1 hin' _ _ hK hO
  ·exact ⟨0, rfl, by omega, qa.refl H, .inl ⟨rfl, rfl⟩⟩
 ·rw [show decide (inside ws.length offI bs.length) = false from by simpa using hin, Bool.not_false, qj]
  exact h0 hin
end
section
variable {H : AH}
theorem own_str {B : Nat} {s : Sl} {l : List Int} {k : List UInt8 → Prop} (h : Own B H s 1 bU l) (h8 : qcs l) (hk : k (l.map fun v => UInt8.ofNat v.toNat)) : strC H s k := by
 have hm : (l.map fun v => UInt8.ofNat v.toNat).map byteV = l.flatMap bU := by
  clear hk h
  induction l with
  | nil => rfl
  | cons a l ih =>
   have ha := h8 a (by simp)
   have := ih (fun v hv => h8 v (by simp [hv]))
   simp only [qlN, qlz, bU, List.singleton_append] at this ⊢
   rw [this]
   congr 1
   simp only [byteV, UInt8.toNat_ofNat']
   congr 1
   omega
 refine ⟨_, ?_, hk⟩
 rw [hm]
 rcases h with ⟨rfl, rfl⟩ | ⟨b, rfl, _, _, hg⟩
 ·rfl
 ·simp only [AH.rowS?]
  by_cases h0 : l.length = 0
  ·rw [if_pos h0]
   have : l = [] := List.length_eq_zero_iff.1 h0
   subst this; rfl
  ·rw [if_neg h0]
   simp only [Nat.mul_one, AH.row?, hg, qk4, qkX, if_false, List.drop_zero, qk6]
   have hall : (l.flatMap bU).all qq = true := by simp [List.all_flatMap, bU, qq]
   have hlen : (l.flatMap bU).length = l.length := by rw [qdB (z := 1) (fun _ => rfl)]; omega
   rw [if_neg (by simp), show l.length = (l.flatMap bU).length from hlen.symm, qlH, if_pos ⟨qkV _, hall⟩]
end
theorem qfn {α : Type} (g : α → Value) (l : List α) : (l.flatMap fun x => [g x]) = l.map g := by
 induction l with
 | nil => rfl
 | cons a l ih => simp [ih]
theorem qfF {α : Type} {H : AH} {s : Sl} {g : α → Value} {l : List α} (hg : ∀ x, qq (g x) = true) (h : qk7 H s 1 (fun x => [g x]) l) : AH.rowS? H s 1 = some (l.map g) := by
 simp only [AH.rowS?]
 by_cases h0 : s.n = 0
 ·rw [if_pos h0]
  have : l = [] := List.length_eq_zero_iff.1 (by rw [← h.1]; exact h0)
  subst this; rfl
 ·rw [if_neg h0]
  have hpos : 0 < l.length := by rw [← h.1]; omega
  obtain ⟨b, o, ha, hb, hr0⟩ := h.at hpos
  rw [ha]
  simp only [Nat.mul_one]
  have hcell : ∀ i (hi : i < l.length), AH.cell? H ⟨b, o + i, none⟩ = some (g l[i]) := by
   intro i hi
   obtain ⟨b', o', ha', _, hr⟩ := qaZ h hi
   rw [ha] at ha'
   injection ha' with ha'
   injection ha' with e1 e2 _
   subst e1 e2
   rw [qk, Nat.mul_one] at hr
   exact hr
  have hm : (H.get b).md ≠ .dead := by
   intro hm
   have := hcell 0 hpos
   simp [AH.cell?, hm] at this
  have hc : ∀ i (hi : i < l.length), (H.get b).cells[o + i]? = some (g l[i]) := by
   intro i hi
   have := hcell i hi
   simpa [AH.cell?, hm] using this
  have hlen : o + s.n ≤ (H.get b).cells.length := by
   have h1 := hc (l.length - 1) (by omega)
   have := (List.getElem?_eq_some_iff.1 h1).1
   have := h.1
   omega
  have htake : ((H.get b).cells.drop o).take s.n = l.map g := by
   apply qlc
   intro i
   by_cases hi : i < s.n
   ·have hi' : i < l.length := by rw [← h.1]; exact hi
    rw [qlD, if_pos hi, qlE, hc i hi', List.getElem?_map, qkO hi', Option.map_some]
   ·rw [qkT (by simp; omega), qkT (by rw [List.length_map, ← h.1]; omega)]
  simp only [AH.row?, qk4, qkX, if_false]
  rw [if_neg hm, htake, if_pos ⟨hlen, by simp [hg]⟩]
theorem qan.s {H : AH} {sl : Sl} {ws : List Int} {k : Sl → AH → Prop} (hw : qk7 H sl 1 wU ws) (hwl : ws.length ≤ 1000000)
  (h : ∀ s H', qa H H' → Own H.size H' s 1 wU ws ∨ (ws = [] ∧ s.n = 0) → k s H') : qan sl H k := by
 refine qan.link ?_
 unfold qan.b
 cases ha : sl.a with
 | none =>
  rw [Option.isNone_none, qj]
  refine h _ _ (qa.refl H) (.inr ⟨?_, rfl⟩)
  cases ws with
  | nil => rfl
  | cons x r =>
   obtain ⟨a, h1, _⟩ := hw.2 0 x rfl
   rw [ha] at h1; cases h1
 | some a =>
  rw [Option.isNone_some, qc, qx]
  refine ⟨le_limS (by have := hw.1; simp only [lim]; omega) _, ?_⟩
  by_cases h0 : sl.n = 0
  ·rw [if_pos h0]
   refine h _ _ ((qa.refl H).push _) (.inr ⟨List.length_eq_zero_iff.1 (by rw [← hw.1]; exact h0), rfl⟩)
  ·rw [if_neg h0]
   have hr := qfF (g := fun v => qkL .u64 v) (fun _ => rfl) (hw.keep ((qa.refl H).push ⟨[], .rw, 1⟩))
   refine ⟨_, hr, ⟨rfl, rfl, rfl, by simp [qr], by simp [qr], by simp [qr]⟩, ?_⟩
   refine h _ _ ((((qa.refl H).push _).kill (b := H.size) (qkV _)).push _) (.inl (.inr ⟨H.size + 1, ?_, by omega, by simp [qm, qbg], ?_⟩))
   ·simp [newAt, qm, hw.1]
   ·simp only [qr, qbg, qm, if_true]
    simp only [List.nil_append, AObj.mk.injEq, and_true]
    exact (qfn (fun v => qkL .u64 v) ws).symm
def putE (ws : List Int) (x : Int × Int) : List Int := if 0 ≤ x.1 ∧ x.1 < ws.length then ws.set x.1.toNat x.2 else ws
def applyE (ws : List Int) (l : List (Int × Int)) : List Int := l.foldl putE ws
theorem qig (ws : List Int) (x : Int × Int) : (putE ws x).length = ws.length := by unfold putE; split <;> simp
theorem qaI (l : List (Int × Int)) : ∀ ws, (applyE ws l).length = ws.length := by
 induction l with
 | nil => intro ws; rfl
 | cons x r ih => intro ws; simp only [applyE, List.foldl_cons]; exact (ih _).trans (qig _ _)
theorem ed_put {H : AH} (x y : Int × Int) : AH.put (H.push ⟨eU x, .rw, 0⟩) ⟨H.size, 0, none⟩ (eU y) = H.push ⟨eU y, .rw, 0⟩ := qc5 _ _ _ _ _
theorem ed_can {H : AH} (x : Int × Int) : AH.canPut (H.push ⟨eU x, .rw, 0⟩) ⟨H.size, 0, none⟩ 2 := qcp.2 (by simp [eU])
theorem ed_0 {H : AH} (x : Int × Int) : AH.cell? (H.push ⟨eU x, .rw, 0⟩) (qkN ⟨H.size, 0, none⟩ 0) = some (.int .i64 x.1) := qdF _ _ _ _
theorem ed_1 {H : AH} (x : Int × Int) : AH.cell? (H.push ⟨eU x, .rw, 0⟩) (qkN ⟨H.size, 0, none⟩ 1) = some (.int .u64 x.2) := qdF _ _ _ _
theorem ed_nil : ([(qkL .i64 (0 : Int)), (qkL .u64 (0 : Int))] : List Value) = eU (0, 0) := rfl
theorem qaY.s {H : AH} {x0 x1 : Sl} {ws : List Int} {l : List (Int × Int)} {k : Sl → AH → Prop} (hw : qk7 H x0 1 wU ws) (hwl : ws.length ≤ 1000000) (hl : qk7 H x1 2 eU l) (hll : l.length ≤ 1000000)
  (h : ∀ s H', qa H H' → Own H.size H' s 1 wU (applyE ws l) ∨ (ws = [] ∧ s.n = 0) → k s H') : qaY x0 x1 H k := by
 refine qaY.link ?_
 unfold qaY.b
 refine qan.s hw hwl ?_
 intro s9 H9 hK9 hO9
 refine qC (t := (0 : Int)) (H := H9) (I := fun (t : Int) H' => ∃ j : Nat, t = (j : Int) ∧ j ≤ l.length ∧ qa H H' ∧ (Own H.size H' s9 1 wU (applyE ws (l.take j)) ∨ (ws = [] ∧ s9.n = 0))) (m := fun (t : Int) _ => qkS ((l.length : Int) - t)) ?_ ⟨0, rfl, by omega, hK9, hO9⟩
 intro t H1 hI it hit
 obtain ⟨j, rfl, hj, hK, hO⟩ := hI
 have hR := hl.keep hK
 unfold qaY.l2
 rw [hl.1]
 by_cases hlt : j < l.length
 ·rw [show decide ((j : Int) < (l.length : Int)) = true from by simpa using hlt, qj]
  obtain ⟨b, o, ha, hb, hrow⟩ := hR.at hlt
  refine ⟨⟨by omega, by omega⟩, ?_⟩
  rw [ha, qe, qkQ, qu hrow]
  generalize hx : l[j] = x at *
  have htk : applyE ws (l.take (j + 1)) = putE (applyE ws (l.take j)) x := by
   rw [List.take_succ, qkO hlt, hx, qlX]
   simp [applyE, List.foldl_append]
  have hn : s9.n = ws.length := by
   rcases hO with hO | ⟨rfl, h0⟩
   ·rw [own_n hO, qaI]
   ·rw [h0]; rfl
  simp only [qx, qbA, ed_nil, ed_put, ed_can, ed_0, ed_1, qf, show (eU x).length = 2 from rfl, show (eU x).all qq = true from rfl, true_and]
  have hnext : ∀ H', qa H H' → (Own H.size H' s9 1 wU (putE (applyE ws (l.take j)) x) ∨ (ws = [] ∧ s9.n = 0)) → it ((j : Int) + 1) H' := by
   intro H' hK' hO'
   rw [← htk] at hO'
   exact hit _ _ ⟨j + 1, by simp, by omega, hK', hO'⟩ (by omega)
  have hO1 : Own H.size (H1.push ⟨eU x, .rw, 0⟩) s9 1 wU (applyE ws (l.take j)) ∨ (ws = [] ∧ s9.n = 0) :=
   hO.imp (fun hO => hO.keep (by simp [qm]) (fun b _ hb => qT (by omega))) id
  unfold qaY.j1
  simp only [ed_0, ed_1, qf]
  rw [qd (n := (j : Int) + 1) (by omega) (by omega), hn]
  by_cases h0 : x.1 ≥ 0
  ·rw [show decide (x.1 ≥ 0) = true from by simpa using h0, qj]
   by_cases h1 : x.1 < (ws.length : Int)
   ·rw [show decide (x.1 < (ws.length : Int)) = true from by simpa using h1, qj]
    refine ⟨⟨h0, h1⟩, ?_⟩
    rcases hO1 with hO1 | ⟨rfl, _⟩
    ·have hlw : x.1.toNat < (applyE ws (l.take j)).length := by rw [qaI]; omega
     obtain ⟨b', ha', hb1, hb2, hcan, hO', _⟩ := hO1.put (y := x.2) (fun _ => rfl) (qkO hlw) (j := 0) (by omega) (v := .int .u64 x.2) rfl
     rw [ha', qe, qk, qk6]
     refine ⟨hcan, ?_⟩
     refine hnext _ ((hK.push _).put hb1 _) (.inl ?_)
     have hp : putE (applyE ws (l.take j)) x = (applyE ws (l.take j)).set x.1.toNat x.2 := by
      unfold putE; rw [if_pos ⟨h0, by rw [qaI]; exact h1⟩]
     rw [hp]; exact hO'
    ·simp at h1; omega
   ·rw [show decide (x.1 < (ws.length : Int)) = false from by simpa using h1, qc]
    refine hnext _ (hK.push _) (hO1.imp (fun hO => ?_) id)
    have hp : putE (applyE ws (l.take j)) x = applyE ws (l.take j) := by unfold putE; rw [if_neg (by rw [qaI]; omega)]
    rw [hp]; exact hO
  ·rw [show decide (x.1 ≥ 0) = false from by simpa using h0, qc, qc]
   refine hnext _ (hK.push _) (hO1.imp (fun hO => ?_) id)
   have hp : putE (applyE ws (l.take j)) x = applyE ws (l.take j) := by unfold putE; rw [if_neg (by omega)]
   rw [hp]; exact hO
 ·rw [show decide ((j : Int) < (l.length : Int)) = false from by simpa using hlt, qc]
  have : j = l.length := by omega
  subst this
  rw [qlH] at hO
  exact h _ _ hK hO
theorem qib {ws : List Int} (h64 : qao ws) {i p : Nat} {c : Int} (hi : i / 8 < ws.length) (hp : p / 8 < ws.length) (hc : 0 ≤ c ∧ c ≤ 255) : byteAt (putB ws i c) p = if p = i then c else byteAt ws p := by
 unfold byteAt
 rw [qfb _ _ _ _ hi]
 by_cases hw : p / 8 = i / 8
 ·rw [if_pos hw]
  by_cases hpi : p = i
  ·subst hpi; rw [if_pos rfl, qgs (by omega) hc]
  ·rw [if_neg hpi, ← hw]
   have hv : 0 ≤ ws.getD (p / 8) 0 ∧ ws.getD (p / 8) 0 ≤ 18446744073709551615 := by
    rw [qkP, qkO hp, qll]
    exact h64 _ (qk1 hp)
   exact qgm hv (by omega) (by omega) (by omega) hc
 ·rw [if_neg hw, if_neg (by intro h; exact hw (by rw [h]))]
theorem qdT : ∀ (bs ws : List Int) (i : Nat), qao ws → qao (putBs ws i bs) := by
 intro bs
 induction bs with
 | nil => intro ws i h; exact h
 | cons c r ih => intro ws i h; exact ih _ _ (qeY h i c)
theorem qhA : ∀ (bs ws : List Int) (i p : Nat), qao ws → qcs bs → i + bs.length ≤ ws.length * 8 → p / 8 < ws.length →
  byteAt (putBs ws i bs) p = if i ≤ p ∧ p < i + bs.length then bs.getD (p - i) 0 else byteAt ws p := by
 intro bs
 induction bs with
 | nil => intro ws i p _ _ _ _; rw [if_neg (by simp)]; rfl
 | cons c r ih =>
  intro ws i p h64 h8 hl hp
  simp only [qk3] at hl
  simp only [putBs]
  rw [ih _ _ _ (qeY h64 i c) (fun v hv => h8 v (by simp [hv])) (by rw [qdG]; omega) (by rw [qdG]; exact hp), qib h64 (by omega) hp (h8 c (by simp))]
  simp only [qk3]
  by_cases h1 : i + 1 ≤ p ∧ p < i + 1 + r.length
  ·rw [if_pos h1, if_pos (by omega)]
   obtain ⟨d, hd⟩ : ∃ d, p - i = d + 1 := ⟨p - i - 1, by omega⟩
   rw [hd, List.getD_cons_succ]
   congr 1; omega
  ·rw [if_neg h1]
   by_cases h2 : p = i
   ·subst h2; rw [if_pos rfl, if_pos (by omega)]; simp
   ·rw [if_neg h2, if_neg (by omega)]
theorem qjy {a b : List Int} (hl : a.length = b.length) (h : ∀ w, w < a.length → a.getD w 0 = b.getD w 0) : a = b := by
 apply qlc
 intro w
 by_cases hw : w < a.length
 ·have := h w hw
  simp only [qkP, qkO hw, qkO (show w < b.length by omega), qll] at this
  rw [qkO hw, qkO (show w < b.length by omega), this]
 ·rw [qkT (by omega), qkT (by omega)]
theorem qh7 (cur : List Int) (q m : Nat) : editsOf cur q (m + 1) = editsOf cur q m ++ [(((q + m : Nat) : Int), cur.getD (q + m) 0)] := by
 simp only [editsOf, qlQ, List.map_append, qlN, List.map_nil]
theorem qij {ws cur : List Int} {q : Nat} : ∀ (m w : Nat), q + m ≤ ws.length → (applyE ws (editsOf cur q m)).getD w 0 = if q ≤ w ∧ w < q + m then cur.getD w 0 else ws.getD w 0 := by
 intro m
 induction m with
 | zero => intro w _; rw [if_neg (by omega)]; rfl
 | succ m ih =>
  intro w hm
  rw [qh7]
  have : applyE ws (editsOf cur q m ++ [(((q + m : Nat) : Int), cur.getD (q + m) 0)]) = putE (applyE ws (editsOf cur q m)) (((q + m : Nat) : Int), cur.getD (q + m) 0) := by simp [applyE, List.foldl_append]
  rw [this]
  unfold putE
  rw [if_pos ⟨by simp only; omega, by simp only [qaI]; omega⟩]
  simp only [qkQ]
  by_cases hw : w = q + m
  ·subst hw
   rw [if_pos (by omega), qkP, qlv (by rw [qaI]; omega), qll]
  ·have h2 : ((applyE ws (editsOf cur q m)).set (q + m) (cur.getD (q + m) 0)).getD w 0 = (applyE ws (editsOf cur q m)).getD w 0 := by
    simp only [qkP]
    rw [qlg (by omega)]
   rw [h2, ih w (by omega)]
   by_cases h3 : q ≤ w ∧ w < q + m
   ·rw [if_pos h3, if_pos (by omega)]
   ·rw [if_neg h3, if_neg (by omega)]
theorem qhQ {ws bs : List Int} {off : Nat} (hl : off + bs.length ≤ ws.length * 8) : applyE ws (editsOf (putBs ws off bs) (off / 8) (touched off bs.length)) = putBs ws off bs := by
 have hm : off / 8 + touched off bs.length ≤ ws.length ∨ bs = [] := by
  cases bs with
  | nil => exact .inr rfl
  | cons c r => left; simp only [qk3, touched] at hl ⊢; rw [if_neg (by omega)]; omega
 rcases hm with hm | rfl
 ·refine qjy (by rw [qaI, qcq]) fun w _ => ?_
  rw [qij _ _ hm]
  split
  ·rfl
  ·rename_i hw
   by_cases h0 : bs.length = 0
   ·have : bs = [] := List.length_eq_zero_iff.1 h0
    subst this; rfl
   ·have : touched off bs.length = (off + bs.length - 1) / 8 - off / 8 + 1 := by simp [touched, h0]
    exact (qen _ _ _ _ (by omega) hl).symm
 ·rfl
end Go.Proofs.YtemeclnpdpkfdaaGreat
