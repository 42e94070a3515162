/- Lemmas for the law: an abstract machine, and what the functions do on it. No condition. -/
import Derived.Test.YtdcbkjgoaknmkaaGreatFT7
import Derived.Test.YtdcbkjgoaknmkaaGreatProg
set_option linter.all false
open Go.Value renaming int → qlI,pointer → qlO,slice → qlV,bool → qmD,agg → qmE
open Go.IntKind renaming wrap → qlJ,bits → qmQ
open List renaming getElem?_eq_getElem → qlK,getD_eq_getElem?_getD → qlM,getElem?_eq_none → qlR,getElem?_eq_some_iff → qlT,length → qlY,length_cons → ql0,ext_getElem? → qmc,toArray → qme,getElem?_set_ne → qmf,length_eq_zero_iff → qmk,flatMap_cons → qmn,getElem?_drop → qmo,all → qmq,getElem?_take → qmr,length_take → qnc
open Go.Addr renaming add → qlL
open Int renaming toNat_natCast → qlP,toNat → qlQ,eq_ofNat_of_zero_le → qma,tdiv_eq_ediv_of_nonneg → qmK,tmod → qmS,tdiv → qm5
open Nat renaming le_refl → qlS,zero_add → ql3,lt_of_lt_of_le → qm2
open Bool renaming false_eq_true → qlU,not_eq_true' → qnd
open Option renaming isSome_none → ql4,isNone → qmb
open Go.Abs renaming Rows → ql5
open BitVec renaming ofInt → qmH
namespace Go.Proofs.YtdcbkjgoaknmkaaGreat
open Go Go.Abs
set_option linter.unusedVariables false
set_option maxRecDepth 100000
def tyL : List (Nat × TyE) := [
 (3,{ k := .int .i64,sub := .none,size := 1,bytes := 8,zero := [(qlI .i64 (0 : Int))],eqs := false }),
 (4,{ k := .bool,sub := .none,size := 1,bytes := 1,zero := [(qmD false)],eqs := false }),
 (5,{ k := .int .u8,sub := .none,size := 1,bytes := 1,zero := [(qlI .u8 (0 : Int))],eqs := false }),
 (9,{ k := .str,sub := .none,size := 1,bytes := 16,zero := [(Value.string ⟨#[]⟩)],eqs := false }),
 (23,{ k := .agg,sub := (.fields [(0,3),(1,3),(2,3),(3,3)]),size := 4,bytes := 32,zero := [(qlI .i64 (0 : Int)),(qlI .i64 (0 : Int)),(qlI .i64 (0 : Int)),(qlI .i64 (0 : Int))],eqs := true }),
 (24,{ k := .sl,sub := (.elem 3),size := 1,bytes := 24,zero := [(qlV none 0 0)],eqs := false }),
 (26,{ k := .int .u64,sub := .none,size := 1,bytes := 8,zero := [(qlI .u64 (0 : Int))],eqs := false }),
 (28,{ k := .ptr,sub := (.elem 78),size := 1,bytes := 8,zero := [(qlO none)],eqs := false }),
 (31,{ k := .int .i64,sub := .none,size := 1,bytes := 8,zero := [(qlI .i64 (0 : Int))],eqs := false }),
 (33,{ k := .ptr,sub := (.elem 96),size := 1,bytes := 8,zero := [(qlO none)],eqs := false }),
 (36,{ k := .sl,sub := (.elem 5),size := 1,bytes := 24,zero := [(qlV none 0 0)],eqs := false }),
 (38,{ k := .agg,sub := (.fields [(0,31),(1,3),(2,36)]),size := 3,bytes := 40,zero := [(qlI .i64 (0 : Int)),(qlI .i64 (0 : Int)),(qlV none 0 0)],eqs := false }),
 (41,{ k := .agg,sub := (.fields [(0,3),(1,3),(2,3),(3,3),(4,36)]),size := 5,bytes := 56,zero := [(qlI .i64 (0 : Int)),(qlI .i64 (0 : Int)),(qlI .i64 (0 : Int)),(qlI .i64 (0 : Int)),(qlV none 0 0)],eqs := false }),
 (44,{ k := .sl,sub := (.elem 38),size := 1,bytes := 24,zero := [(qlV none 0 0)],eqs := false }),
 (47,{ k := .sl,sub := (.elem 41),size := 1,bytes := 24,zero := [(qlV none 0 0)],eqs := false }),
 (51,{ k := .ptr,sub := (.elem 106),size := 1,bytes := 8,zero := [(qlO none)],eqs := false }),
 (64,{ k := .ptr,sub := (.elem 115),size := 1,bytes := 8,zero := [(qlO none)],eqs := false }),
 (67,{ k := .sl,sub := (.elem 26),size := 1,bytes := 24,zero := [(qlV none 0 0)],eqs := false }),
 (70,{ k := .sl,sub := (.elem 121),size := 1,bytes := 24,zero := [(qlV none 0 0)],eqs := false }),
 (75,{ k := .sl,sub := (.elem 82),size := 1,bytes := 24,zero := [(qlV none 0 0)],eqs := false }),
 (76,{ k := .agg,sub := (.arr 35 26),size := 35,bytes := 280,zero := [(qlI .u64 (0 : Int)),(qlI .u64 (0 : Int)),(qlI .u64 (0 : Int)),(qlI .u64 (0 : Int)),(qlI .u64 (0 : Int)),(qlI .u64 (0 : Int)),(qlI .u64 (0 : Int)),(qlI .u64 (0 : Int)),(qlI .u64 (0 : Int)),(qlI .u64 (0 : Int)),(qlI .u64 (0 : Int)),(qlI .u64 (0 : Int)),(qlI .u64 (0 : Int)),(qlI .u64 (0 : Int)),(qlI .u64 (0 : Int)),(qlI .u64 (0 : Int)),(qlI .u64 (0 : Int)),(qlI .u64 (0 : Int)),(qlI .u64 (0 : Int)),(qlI .u64 (0 : Int)),(qlI .u64 (0 : Int)),(qlI .u64 (0 : Int)),(qlI .u64 (0 : Int)),(qlI .u64 (0 : Int)),(qlI .u64 (0 : Int)),(qlI .u64 (0 : Int)),(qlI .u64 (0 : Int)),(qlI .u64 (0 : Int)),(qlI .u64 (0 : Int)),(qlI .u64 (0 : Int)),(qlI .u64 (0 : Int)),(qlI .u64 (0 : Int)),(qlI .u64 (0 : Int)),(qlI .u64 (0 : Int)),(qlI .u64 (0 : Int))],eqs := true }),
 (78,{ k := .agg,sub := (.fields [(0,75),(1,76),(36,3),(37,3),(38,3),(39,4)]),size := 40,bytes := 336,zero := [(qlV none 0 0),(qlI .u64 (0 : Int)),(qlI .u64 (0 : Int)),(qlI .u64 (0 : Int)),(qlI .u64 (0 : Int)),(qlI .u64 (0 : Int)),(qlI .u64 (0 : Int)),(qlI .u64 (0 : Int)),(qlI .u64 (0 : Int)),(qlI .u64 (0 : Int)),(qlI .u64 (0 : Int)),(qlI .u64 (0 : Int)),(qlI .u64 (0 : Int)),(qlI .u64 (0 : Int)),(qlI .u64 (0 : Int)),(qlI .u64 (0 : Int)),(qlI .u64 (0 : Int)),(qlI .u64 (0 : Int)),(qlI .u64 (0 : Int)),(qlI .u64 (0 : Int)),(qlI .u64 (0 : Int)),(qlI .u64 (0 : Int)),(qlI .u64 (0 : Int)),(qlI .u64 (0 : Int)),(qlI .u64 (0 : Int)),(qlI .u64 (0 : Int)),(qlI .u64 (0 : Int)),(qlI .u64 (0 : Int)),(qlI .u64 (0 : Int)),(qlI .u64 (0 : Int)),(qlI .u64 (0 : Int)),(qlI .u64 (0 : Int)),(qlI .u64 (0 : Int)),(qlI .u64 (0 : Int)),(qlI .u64 (0 : Int)),(qlI .u64 (0 : Int)),(qlI .i64 (0 : Int)),(qlI .i64 (0 : Int)),(qlI .i64 (0 : Int)),(qmD false)],eqs := false }),
 (80,{ k := .agg,sub := (.arr 8 26),size := 8,bytes := 64,zero := [(qlI .u64 (0 : Int)),(qlI .u64 (0 : Int)),(qlI .u64 (0 : Int)),(qlI .u64 (0 : Int)),(qlI .u64 (0 : Int)),(qlI .u64 (0 : Int)),(qlI .u64 (0 : Int)),(qlI .u64 (0 : Int))],eqs := true }),
 (82,{ k := .agg,sub := (.fields [(0,80),(8,3),(9,3)]),size := 10,bytes := 80,zero := [(qlI .u64 (0 : Int)),(qlI .u64 (0 : Int)),(qlI .u64 (0 : Int)),(qlI .u64 (0 : Int)),(qlI .u64 (0 : Int)),(qlI .u64 (0 : Int)),(qlI .u64 (0 : Int)),(qlI .u64 (0 : Int)),(qlI .i64 (0 : Int)),(qlI .i64 (0 : Int))],eqs := false }),
 (85,{ k := .ptr,sub := (.elem 128),size := 1,bytes := 8,zero := [(qlO none)],eqs := false }),
 (93,{ k := .ptr,sub := (.elem 131),size := 1,bytes := 8,zero := [(qlO none)],eqs := false }),
 (94,{ k := .ptr,sub := (.elem 140),size := 1,bytes := 8,zero := [(qlO none)],eqs := false }),
 (96,{ k := .agg,sub := (.fields [(0,28),(1,23),(5,85),(6,93),(7,94),(8,4)]),size := 9,bytes := 72,zero := [(qlO none),(qlI .i64 (0 : Int)),(qlI .i64 (0 : Int)),(qlI .i64 (0 : Int)),(qlI .i64 (0 : Int)),(qlO none),(qlO none),(qlO none),(qmD false)],eqs := false }),
 (106,{ k := .agg,sub := (.fields [(0,23),(4,28),(5,33),(6,3)]),size := 7,bytes := 56,zero := [(qlI .i64 (0 : Int)),(qlI .i64 (0 : Int)),(qlI .i64 (0 : Int)),(qlI .i64 (0 : Int)),(qlO none),(qlO none),(qlI .i64 (0 : Int))],eqs := false }),
 (112,{ k := .ptr,sub := (.elem 156),size := 1,bytes := 8,zero := [(qlO none)],eqs := false }),
 (115,{ k := .agg,sub := (.fields [(0,112),(1,4)]),size := 2,bytes := 16,zero := [(qlO none),(qmD false)],eqs := false }),
 (121,{ k := .agg,sub := (.fields [(0,3),(1,3),(2,4)]),size := 3,bytes := 24,zero := [(qlI .i64 (0 : Int)),(qlI .i64 (0 : Int)),(qmD false)],eqs := true }),
 (126,{ k := .ptr,sub := (.elem 173),size := 1,bytes := 8,zero := [(qlO none)],eqs := false }),
 (128,{ k := .agg,sub := (.fields [(0,28),(1,126),(2,3),(3,3),(4,3)]),size := 5,bytes := 40,zero := [(qlO none),(qlO none),(qlI .i64 (0 : Int)),(qlI .i64 (0 : Int)),(qlI .i64 (0 : Int))],eqs := false }),
 (131,{ k := .agg,sub := (.fields [(0,28),(1,85)]),size := 2,bytes := 16,zero := [(qlO none),(qlO none)],eqs := false }),
 (132,{ k := .sl,sub := (.elem 164),size := 1,bytes := 24,zero := [(qlV none 0 0)],eqs := false }),
 (140,{ k := .agg,sub := (.fields [(0,3),(1,24),(2,24)]),size := 3,bytes := 56,zero := [(qlI .i64 (0 : Int)),(qlV none 0 0),(qlV none 0 0)],eqs := false }),
 (142,{ k := .sl,sub := (.elem 190),size := 1,bytes := 24,zero := [(qlV none 0 0)],eqs := false }),
 (154,{ k := .sl,sub := (.elem 168),size := 1,bytes := 24,zero := [(qlV none 0 0)],eqs := false }),
 (156,{ k := .agg,sub := (.fields [(0,3),(1,154),(2,3)]),size := 3,bytes := 40,zero := [(qlI .i64 (0 : Int)),(qlV none 0 0),(qlI .i64 (0 : Int))],eqs := false }),
 (164,{ k := .agg,sub := (.fields [(0,3),(1,80)]),size := 9,bytes := 72,zero := [(qlI .i64 (0 : Int)),(qlI .u64 (0 : Int)),(qlI .u64 (0 : Int)),(qlI .u64 (0 : Int)),(qlI .u64 (0 : Int)),(qlI .u64 (0 : Int)),(qlI .u64 (0 : Int)),(qlI .u64 (0 : Int)),(qlI .u64 (0 : Int))],eqs := false }),
 (168,{ k := .agg,sub := (.fields [(0,3),(1,3),(2,36)]),size := 3,bytes := 40,zero := [(qlI .i64 (0 : Int)),(qlI .i64 (0 : Int)),(qlV none 0 0)],eqs := false }),
 (173,{ k := .agg,sub := (.fields [(0,28),(1,3),(2,3)]),size := 3,bytes := 24,zero := [(qlO none),(qlI .i64 (0 : Int)),(qlI .i64 (0 : Int))],eqs := false }),
 (181,{ k := .any,sub := .none,size := 1,bytes := 8,zero := [Value.nilFunc],eqs := false }),
 (190,{ k := .agg,sub := (.fields [(0,3),(1,26)]),size := 2,bytes := 16,zero := [(qlI .i64 (0 : Int)),(qlI .u64 (0 : Int))],eqs := true }),
 (211,{ k := .sl,sub := (.elem 80),size := 1,bytes := 24,zero := [(qlV none 0 0)],eqs := false }),
 (225,{ k := .any,sub := .none,size := 1,bytes := 8,zero := [Value.nilFunc],eqs := false }),
 (0,{ k := .bad,sub := .tup [],size := 0,bytes := 0,zero := [],eqs := false }),
 (34,{ k := .bad,sub := .tup [33,31],size := 0,bytes := 0,zero := [],eqs := false }),
 (45,{ k := .bad,sub := .tup [44,31],size := 0,bytes := 0,zero := [],eqs := false }),
 (52,{ k := .bad,sub := .tup [51,31],size := 0,bytes := 0,zero := [],eqs := false }),
 (68,{ k := .bad,sub := .tup [67,31],size := 0,bytes := 0,zero := [],eqs := false }),
 (71,{ k := .bad,sub := .tup [70,4],size := 0,bytes := 0,zero := [],eqs := false }),
 (83,{ k := .bad,sub := .tup [26,31],size := 0,bytes := 0,zero := [],eqs := false }),
 (88,{ k := .bad,sub := .tup [80,31],size := 0,bytes := 0,zero := [],eqs := false }),
 (110,{ k := .bad,sub := .tup [41,4],size := 0,bytes := 0,zero := [],eqs := false }),
 (116,{ k := .bad,sub := .tup [36,31],size := 0,bytes := 0,zero := [],eqs := false }),
 (118,{ k := .bad,sub := .tup [3,4,4],size := 0,bytes := 0,zero := [],eqs := false }),
 (133,{ k := .bad,sub := .tup [132,31],size := 0,bytes := 0,zero := [],eqs := false }),
 (137,{ k := .bad,sub := .tup [70,3],size := 0,bytes := 0,zero := [],eqs := false }),
 (143,{ k := .bad,sub := .tup [142,3,31],size := 0,bytes := 0,zero := [],eqs := false }),
 (148,{ k := .bad,sub := .tup [142,31],size := 0,bytes := 0,zero := [],eqs := false }),
 (170,{ k := .bad,sub := .tup [3,67,31],size := 0,bytes := 0,zero := [],eqs := false }),
 (174,{ k := .bad,sub := .tup [3,3],size := 0,bytes := 0,zero := [],eqs := false }),
 (187,{ k := .bad,sub := .tup [3,4],size := 0,bytes := 0,zero := [],eqs := false }),
 (191,{ k := .bad,sub := .tup [190,4],size := 0,bytes := 0,zero := [],eqs := false }),
 (194,{ k := .bad,sub := .tup [36,4],size := 0,bytes := 0,zero := [],eqs := false }),
 (196,{ k := .bad,sub := .tup [142,4],size := 0,bytes := 0,zero := [],eqs := false }),
 (212,{ k := .bad,sub := .tup [3,3,4],size := 0,bytes := 0,zero := [],eqs := false })]
def T : Nat → TyE := tyLook tyL
theorem hT : qW Tryz.prog T := qkG (by kernel_rfl)
theorem hm : Tryz.prog.follows .mixedOrders = true := by kernel_rfl
def pan (f : Nat) : Bool := ([63,64,65,66,67,68,69,108,110,113,114] : List Nat).contains f
def log_May (x0 : Int) (x1 : Sl) (H : AH) (k : Bool → AH → Prop) : Prop :=
 qh Tryz.prog 104 [(qlI .i64 x0),(Sl.val x1)] H fun e H' => in1 .bool e qn (fun r0 => k r0 H')
def qw (x0 : Option Addr) (x1 : List Value) (H : AH) (k : List Value → AH → Prop) : Prop :=
 qh Tryz.prog 18 [(qlO x0),(qmE (qme x1))] H fun e H' => in1 .agg e qn (fun r0 => k r0 H')
def qct (x0 : Sl) (x1 : Int) (x2 : Sl) (H : AH) (k : Sl → AH → Prop) : Prop :=
 qh Tryz.prog 163 [(Sl.val x0),(qlI .i64 x1),(Sl.val x2)] H fun e H' => in1 .sl e qn (fun r0 => k r0 H')
def qcs (x0 : Sl) (x1 : Int) (x2 : Int) (H : AH) (k : Sl → AH → Prop) : Prop :=
 qh Tryz.prog 188 [(Sl.val x0),(qlI .i64 x1),(qlI .i64 x2)] H fun e H' => in1 .sl e qn (fun r0 => k r0 H')
def qcH (x0 : Sl) (H : AH) (k : AH → Prop) : Prop :=
 qh Tryz.prog 176 [(Sl.val x0)] H fun e H' => in0  e qn (k H')
def qck (x0 : Sl) (H : AH) (k : Sl → AH → Prop) : Prop :=
 qh Tryz.prog 177 [(Sl.val x0)] H fun e H' => in1 .sl e qn (fun r0 => k r0 H')
def qt (x0 : Sl) (x1b0 : Option Addr) (x1b1 : Option Addr) (H : AH) (k : Int → AH → Prop) : Prop :=
 qh Tryz.prog 142 [(Sl.val x0),(Value.func (.func 193) #[] #[(qlO x1b0),(qlO x1b1)])] H fun e H' => in1 (.int .i64) e qn (fun r0 => k r0 H')
def qM (x0 : Sl) (x1b0 : Option Addr) (x1b1 : Option Addr) (H : AH) (k : Bool → AH → Prop) : Prop :=
 qh Tryz.prog 192 [(Sl.val x0),(Value.func (.func 193) #[] #[(qlO x1b0),(qlO x1b1)])] H fun e H' => in1 .bool e qn (fun r0 => k r0 H')
def qq (x0 : Sl) (x1b0 : Option Addr) (H : AH) (k : Int → AH → Prop) : Prop :=
 qh Tryz.prog 195 [(Sl.val x0),(Value.func (.func 196) #[] #[(qlO x1b0)])] H fun e H' => in1 (.int .i64) e qn (fun r0 => k r0 H')
def qB (x0 : Sl) (x1b0 : Option Addr) (H : AH) (k : Int → AH → Prop) : Prop :=
 qh Tryz.prog 142 [(Sl.val x0),(Value.func (.func 143) #[] #[(qlO x1b0)])] H fun e H' => in1 (.int .i64) e qn (fun r0 => k r0 H')
def qbe (x0 : Int) (x1 : Int) (x2 : Int) (x3 : Int) (H : AH) (k : List Value → AH → Prop) : Prop :=
 qh Tryz.prog 36 [(qlI .i64 x0),(qlI .i64 x1),(qlI .i64 x2),(qlI .i64 x3)] H fun e H' => in1 .agg e qn (fun r0 => k r0 H')
def qbZ (x0 : List Value) (H : AH) (k : List Value → AH → Prop) : Prop :=
 qh Tryz.prog 12 [(qmE (qme x0))] H fun e H' => in1 .agg e qn (fun r0 => k r0 H')
def qbg (x0 : List Value) (H : AH) (k : Bool → AH → Prop) : Prop :=
 qh Tryz.prog 48 [(qmE (qme x0))] H fun e H' => in1 .bool e qn (fun r0 => k r0 H')
def qbF (x0 : List Value) (H : AH) (k : Int → AH → Prop) : Prop :=
 qh Tryz.prog 49 [(qmE (qme x0))] H fun e H' => in1 (.int .i64) e qn (fun r0 => k r0 H')
def qby (x0 : List Value) (H : AH) (k : Int → AH → Prop) : Prop :=
 qh Tryz.prog 15 [(qmE (qme x0))] H fun e H' => in1 (.int .i64) e qn (fun r0 => k r0 H')
def nvm_New (x0 : Int) (x1 : Sl) (H : AH) (k : Option Addr → AH → Prop) : Prop :=
 qh Tryz.prog 14 [(qlI .i64 x0),(Sl.val x1)] H fun e H' => in1 .ptr e qn (fun r0 => k r0 H')
def qai (x0 : Option Addr) (H : AH) (k : Int → AH → Prop) : Prop :=
 qh Tryz.prog 91 [(qlO x0)] H fun e H' => in1 (.int .i64) e qn (fun r0 => k r0 H')
def qao (x0 : Option Addr) (H : AH) (k : Bool → AH → Prop) : Prop :=
 qh Tryz.prog 38 [(qlO x0)] H fun e H' => in1 .bool e qn (fun r0 => k r0 H')
def qbN (x0 : Option Addr) (x1 : List Value) (H : AH) (k : Int → AH → Prop) : Prop :=
 qh Tryz.prog 50 [(qlO x0),(qmE (qme x1))] H fun e H' => in1 (.int .i64) e qn (fun r0 => k r0 H')
def qaN (x0 : Option Addr) (x1 : Int) (H : AH) (k : Bool → AH → Prop) : Prop :=
 qh Tryz.prog 92 [(qlO x0),(qlI .i64 x1)] H fun e H' => in1 .bool e qn (fun r0 => k r0 H')
def qJ (x0 : Option Addr) (x1 : Int) (H : AH) (k : Int → Int → AH → Prop) : Prop :=
 qh Tryz.prog 51 [(qlO x0),(qlI .i64 x1)] H fun e H' => in2 (.int .u64) (.int .i64) e qn (fun r0 r1 => k r0 r1 H')
def qK (x0 : Option Addr) (H : AH) (k : Sl → Int → AH → Prop) : Prop :=
 qh Tryz.prog 158 [(qlO x0)] H fun e H' => in2 .sl (.int .i64) e qn (fun r0 r1 => k r0 r1 H')
def qcf (x0 : Int) (H : AH) (k : Int → AH → Prop) : Prop :=
 qh Tryz.prog 140 [(qlI .i64 x0)] H fun e H' => in1 (.int .u64) e qn (fun r0 => k r0 H')
def qa2 (x0 : Sl) (x1 : Int) (H : AH) (k : Bool → AH → Prop) : Prop :=
 qh Tryz.prog 169 [(Sl.val x0),(qlI .i64 x1)] H fun e H' => in1 .bool e qn (fun r0 => k r0 H')
def qaY (x0 : Option Addr) (x1 : Int) (x2 : Int) (H : AH) (k : Option Addr → AH → Prop) : Prop :=
 qh Tryz.prog 131 [(qlO x0),(qlI .i64 x1),(qlI .i64 x2)] H fun e H' => in1 .ptr e qn (fun r0 => k r0 H')
def qbh (x0 : Option Addr) (x1 : Int) (x2 : Int) (x3 : Int) (H : AH) (k : Option Addr → AH → Prop) : Prop :=
 qh Tryz.prog 93 [(qlO x0),(qlI .i64 x1),(qlI .i64 x2),(qlI .i64 x3)] H fun e H' => in1 .ptr e qn (fun r0 => k r0 H')
def qbT (x0 : Option Addr) (x1 : List Value) (H : AH) (k : Option Addr → AH → Prop) : Prop :=
 qh Tryz.prog 52 [(qlO x0),(qmE (qme x1))] H fun e H' => in1 .ptr e qn (fun r0 => k r0 H')
def qb6 (x0 : List Value) (H : AH) (k : Int → AH → Prop) : Prop :=
 qh Tryz.prog 42 [(qmE (qme x0))] H fun e H' => in1 (.int .i64) e qn (fun r0 => k r0 H')
def qa4 (x0 : Int) (H : AH) (k : Bool → AH → Prop) : Prop :=
 qh Tryz.prog 94 [(qlI .i64 x0)] H fun e H' => in1 .bool e qn (fun r0 => k r0 H')
def qbq (x0 : Int) (H : AH) (k : Bool → AH → Prop) : Prop :=
 qh Tryz.prog 129 [(qlI .i64 x0)] H fun e H' => in1 .bool e qn (fun r0 => k r0 H')
def qbU (x0 : Int) (x1 : Bool) (H : AH) (k : Int → AH → Prop) : Prop :=
 qh Tryz.prog 95 [(qlI .i64 x0),(qmD x1)] H fun e H' => in1 (.int .u64) e qn (fun r0 => k r0 H')
def qa1 (x0 : Int) (H : AH) (k : Sl → AH → Prop) : Prop :=
 qh Tryz.prog 53 [(qlI .i64 x0)] H fun e H' => in1 .sl e qn (fun r0 => k r0 H')
def qbA (x0 : List Value) (x1 : Int) (H : AH) (k : Int → AH → Prop) : Prop :=
 qh Tryz.prog 55 [(qmE (qme x0)),(qlI .i64 x1)] H fun e H' => in1 (.int .i64) e qn (fun r0 => k r0 H')
def qa6 (x0 : Option Addr) (x1 : Int) (H : AH) (k : Int → AH → Prop) : Prop :=
 qh Tryz.prog 96 [(qlO x0),(qlI .i64 x1)] H fun e H' => in1 (.int .i64) e qn (fun r0 => k r0 H')
def qbw (x0 : Option Addr) (H : AH) (k : Int → AH → Prop) : Prop :=
 qh Tryz.prog 99 [(qlO x0)] H fun e H' => in1 (.int .i64) e qn (fun r0 => k r0 H')
def gap_may (x0 : Int) (x1 : Int) (H : AH) (k : Bool → AH → Prop) : Prop :=
 qh Tryz.prog 134 [(qlI .i64 x0),(qlI .i64 x1)] H fun e H' => in1 .bool e qn (fun r0 => k r0 H')
def qcB (x0 : Int) (x1 : Int) (H : AH) (k : Int → AH → Prop) : Prop :=
 qh Tryz.prog 135 [(qlI .i64 x0),(qlI .i64 x1)] H fun e H' => in1 (.int .i64) e qn (fun r0 => k r0 H')
def gap_Gap (x0 : Int) (x1 : Int) (H : AH) (k : Int → AH → Prop) : Prop :=
 qh Tryz.prog 136 [(qlI .i64 x0),(qlI .i64 x1)] H fun e H' => in1 (.int .i64) e qn (fun r0 => k r0 H')
def qbX (x0 : Int) (x1 : Int) (x2 : Int) (H : AH) (k : Int → AH → Prop) : Prop :=
 qh Tryz.prog 98 [(qlI .i64 x0),(qlI .i64 x1),(qlI .i64 x2)] H fun e H' => in1 (.int .i64) e qn (fun r0 => k r0 H')
def qaH (x0 : Sl) (x1 : Int) (x2 : Int) (H : AH) (k : Int → AH → Prop) : Prop :=
 qh Tryz.prog 170 [(Sl.val x0),(qlI .i64 x1),(qlI .i64 x2)] H fun e H' => in1 (.int .i64) e qn (fun r0 => k r0 H')
def qaw (x0 : Option Addr) (x1 : Int) (H : AH) (k : Int → Sl → Int → AH → Prop) : Prop :=
 qh Tryz.prog 132 [(qlO x0),(qlI .i64 x1)] H fun e H' => in3 (.int .i64) .sl (.int .i64) e qn (fun r0 r1 r2 => k r0 r1 r2 H')
def qbk (x0 : Option Addr) (x1 : Int) (H : AH) (k : Bool → AH → Prop) : Prop :=
 qh Tryz.prog 171 [(qlO x0),(qlI .i64 x1)] H fun e H' => in1 .bool e qn (fun r0 => k r0 H')
def qbI (x0 : Option Addr) (x1 : Int) (H : AH) (k : List Value → Int → AH → Prop) : Prop :=
 qh Tryz.prog 133 [(qlO x0),(qlI .i64 x1)] H fun e H' => in2 .agg (.int .i64) e qn (fun r0 r1 => k r0 r1 H')
def qbR (x0 : Option Addr) (x1 : Int) (H : AH) (k : List Value → Int → AH → Prop) : Prop :=
 qh Tryz.prog 97 [(qlO x0),(qlI .i64 x1)] H fun e H' => in2 .agg (.int .i64) e qn (fun r0 r1 => k r0 r1 H')
def qa5 (x0 : Option Addr) (x1 : Int) (H : AH) (k : List Value → Int → AH → Prop) : Prop :=
 qh Tryz.prog 54 [(qlO x0),(qlI .i64 x1)] H fun e H' => in2 .agg (.int .i64) e qn (fun r0 r1 => k r0 r1 H')
def qbr (x0 : Sl) (x1 : Int) (H : AH) (k : List Value → AH → Prop) : Prop :=
 qh Tryz.prog 56 [(Sl.val x0),(qlI .i64 x1)] H fun e H' => in1 .agg e qn (fun r0 => k r0 H')
def qcY (x0 : Int) (x1 : Int) (H : AH) (k : Int → Int → AH → Prop) : Prop :=
 qh Tryz.prog 137 [(qlI .i64 x0),(qlI .i64 x1)] H fun e H' => in2 (.int .i64) (.int .i64) e qn (fun r0 r1 => k r0 r1 H')
def qaV (x0 : Option Addr) (H : AH) (k : Int → AH → Prop) : Prop :=
 qh Tryz.prog 156 [(qlO x0)] H fun e H' => in1 (.int .i64) e qn (fun r0 => k r0 H')
def qbQ (x0 : List Value) (x1 : List Value) (x2 : Int) (H : AH) (k : List Value → AH → Prop) : Prop :=
 qh Tryz.prog 172 [(qmE (qme x0)),(qmE (qme x1)),(qlI .i64 x2)] H fun e H' => in1 .agg e qn (fun r0 => k r0 H')
def qaK (x0 : Option Addr) (x1 : Bool) (H : AH) (k : Int → AH → Prop) : Prop :=
 qh Tryz.prog 157 [(qlO x0),(qmD x1)] H fun e H' => in1 (.int .i64) e qn (fun r0 => k r0 H')
def qU (x0 : Option Addr) (x1 : Int) (x2 : List Value) (H : AH) (k : Int → AH → Prop) : Prop :=
 qh Tryz.prog 138 [(qlO x0),(qlI .i64 x1),(qmE (qme x2))] H fun e H' => in1 (.int .i64) e qn (fun r0 => k r0 H')
def qbD (x0 : Sl) (H : AH) (k : Int → AH → Prop) : Prop :=
 qh Tryz.prog 139 [(Sl.val x0)] H fun e H' => in1 (.int .i64) e qn (fun r0 => k r0 H')
def qG (x0 : Option Addr) (x1 : Int) (x2 : Int) (H : AH) (k : Int → AH → Prop) : Prop :=
 qh Tryz.prog 118 [(qlO x0),(qlI .i64 x1),(qlI .u64 x2)] H fun e H' => in1 (.int .i64) e qn (fun r0 => k r0 H')
def qaC (x0 : Option Addr) (x1 : Int) (x2 : List Value) (H : AH) (k : Int → AH → Prop) : Prop :=
 qh Tryz.prog 101 [(qlO x0),(qlI .i64 x1),(qmE (qme x2))] H fun e H' => in1 (.int .i64) e qn (fun r0 => k r0 H')
def qbH (x0 : Option Addr) (H : AH) (k : Int → AH → Prop) : Prop :=
 qh Tryz.prog 100 [(qlO x0)] H fun e H' => in1 (.int .i64) e qn (fun r0 => k r0 H')
def qaG (x0 : Option Addr) (x1 : Int) (x2 : List Value) (H : AH) (k : Int → AH → Prop) : Prop :=
 qh Tryz.prog 57 [(qlO x0),(qlI .i64 x1),(qmE (qme x2))] H fun e H' => in1 (.int .i64) e qn (fun r0 => k r0 H')
def qL (x0 : Option Addr) (x1 : List Value) (H : AH) (k : Int → AH → Prop) : Prop :=
 qh Tryz.prog 16 [(qlO x0),(qmE (qme x1))] H fun e H' => in1 (.int .i64) e qn (fun r0 => k r0 H')
def qaR (x0 : Option Addr) (H : AH) (k : Int → AH → Prop) : Prop :=
 qh Tryz.prog 102 [(qlO x0)] H fun e H' => in1 (.int .i64) e qn (fun r0 => k r0 H')
def log_New (x0 : Option Addr) (x1 : Option Addr) (H : AH) (k : Option Addr → AH → Prop) : Prop :=
 qh Tryz.prog 58 [(qlO x0),(qlO x1)] H fun e H' => in1 .ptr e qn (fun r0 => k r0 H')
def qcu (x0 : Int) (H : AH) (k : Int → AH → Prop) : Prop :=
 qh Tryz.prog 141 [(qlI .i64 x0)] H fun e H' => in1 (.int .i64) e qn (fun r0 => k r0 H')
def qat (x0 : Option Addr) (H : AH) (k : Sl → Int → AH → Prop) : Prop :=
 qh Tryz.prog 103 [(qlO x0)] H fun e H' => in2 .sl (.int .i64) e qn (fun r0 r1 => k r0 r1 H')
def qay (x0 : Option Addr) (x1 : Sl) (H : AH) (k : Int → AH → Prop) : Prop :=
 qh Tryz.prog 105 [(qlO x0),(Sl.val x1)] H fun e H' => in1 (.int .i64) e qn (fun r0 => k r0 H')
def qcc (x0 : Option Addr) (H : AH) (k : Int → AH → Prop) : Prop :=
 qh Tryz.prog 59 [(qlO x0)] H fun e H' => in1 (.int .i64) e qn (fun r0 => k r0 H')
def qaq (x0 : Option Addr) (x1 : Int) (H : AH) (k : List Value → Int → AH → Prop) : Prop :=
 qh Tryz.prog 87 [(qlO x0),(qlI .i64 x1)] H fun e H' => in2 .agg (.int .i64) e qn (fun r0 r1 => k r0 r1 H')
def qab (x0 : Option Addr) (H : AH) (k : Sl → Int → AH → Prop) : Prop :=
 qh Tryz.prog 44 [(qlO x0)] H fun e H' => in2 .sl (.int .i64) e qn (fun r0 r1 => k r0 r1 H')
def qbx (x0 : Int) (H : AH) (k : Int → Bool → Bool → AH → Prop) : Prop :=
 qh Tryz.prog 88 [(qlI .u64 x0)] H fun e H' => in3 (.int .i64) .bool .bool e qn (fun r0 r1 r2 => k r0 r1 r2 H')
def qaf (x0 : Sl) (x1 : Int) (H : AH) (k : Bool → AH → Prop) : Prop :=
 qh Tryz.prog 89 [(Sl.val x0),(qlI .i64 x1)] H fun e H' => in1 .bool e qn (fun r0 => k r0 H')
def qO (x0 : Sl) (H : AH) (k : Sl → Bool → AH → Prop) : Prop :=
 qh Tryz.prog 45 [(Sl.val x0)] H fun e H' => in2 .sl .bool e qn (fun r0 r1 => k r0 r1 H')
def qba (x0 : List Value) (H : AH) (k : Int → AH → Prop) : Prop :=
 qh Tryz.prog 144 [(qmE (qme x0))] H fun e H' => in1 (.int .i64) e qn (fun r0 => k r0 H')
def qbG (x0 : List Value) (x1 : Option Addr) (H : AH) (k : Bool → AH → Prop) : Prop :=
 qh Tryz.prog 143 [(qmE (qme x0)),(qlO x1)] H fun e H' => in1 .bool e qn (fun r0 => k r0 H')
def qcg (x0 : Sl) (x1 : Int) (H : AH) (k : Sl → Int → AH → Prop) : Prop :=
 qh Tryz.prog 106 [(Sl.val x0),(qlI .i64 x1)] H fun e H' => in2 .sl (.int .i64) e qn (fun r0 r1 => k r0 r1 H')
def qcv (x0 : Sl) (x1 : Int) (H : AH) (k : Bool → AH → Prop) : Prop :=
 qh Tryz.prog 60 [(Sl.val x0),(qlI .i64 x1)] H fun e H' => in1 .bool e qn (fun r0 => k r0 H')
def qcr (x0 : Int) (H : AH) (k : Int → AH → Prop) : Prop :=
 qh Tryz.prog 107 [(qlI .i64 x0)] H fun e H' => in1 (.int .i64) e qn (fun r0 => k r0 H')
def qcz (x0 : List Value) (H : AH) (k : Int → AH → Prop) : Prop :=
 qh Tryz.prog 61 [(qmE (qme x0))] H fun e H' => in1 (.int .i64) e qn (fun r0 => k r0 H')
def qbc (x0 : Int) (x1 : Sl) (H : AH) (k : Option Addr → AH → Prop) : Prop :=
 qh Tryz.prog 62 [(qlI .i64 x0),(Sl.val x1)] H fun e H' => in1 .ptr e qn (fun r0 => k r0 H')
def qah (x0 : Option Addr) (x1 : List Value) (H : AH) (k : Option Addr → Int → AH → Prop) : Prop :=
 qh Tryz.prog 17 [(qlO x0),(qmE (qme x1))] H fun e H' => in2 .ptr (.int .i64) e qn (fun r0 r1 => k r0 r1 H')
def qa8 (x0 : Option Addr) (H : AH) (k : Int → AH → Prop) : Prop :=
 qh Tryz.prog 72 [(qlO x0)] H fun e H' => in1 (.int .i64) e qn (fun r0 => k r0 H')
def qbY (x0 : List Value) (x1 : Sl) (H : AH) (k : Option Addr → Int → AH → Prop) : Prop :=
 qh Tryz.prog 24 [(qmE (qme x0)),(Sl.val x1)] H fun e H' => in2 .ptr (.int .i64) e qn (fun r0 r1 => k r0 r1 H')
def qaM (x0 : Option Addr) (H : AH) (k : Int → AH → Prop) : Prop :=
 qh Tryz.prog 26 [(qlO x0)] H fun e H' => in1 (.int .i64) e qn (fun r0 => k r0 H')
def qa3 (x0 : Option Addr) (x1 : Int) (x2 : Int) (H : AH) (k : AH → Prop) : Prop :=
 qh Tryz.prog 120 [(qlO x0),(qlI .i64 x1),(qlI .i64 x2)] H fun e H' => in0  e qn (k H')
def qaL (x0 : Option Addr) (H : AH) (k : AH → Prop) : Prop :=
 qh Tryz.prog 121 [(qlO x0)] H fun e H' => in0  e qn (k H')
def qbn (x0 : Option Addr) (x1 : List Value) (H : AH) (k : List Value → AH → Prop) : Prop :=
 qh Tryz.prog 73 [(qlO x0),(qmE (qme x1))] H fun e H' => in1 .agg e qn (fun r0 => k r0 H')
def qap (x0 : Option Addr) (x1 : List Value) (H : AH) (k : List Value → AH → Prop) : Prop :=
 qh Tryz.prog 28 [(qlO x0),(qmE (qme x1))] H fun e H' => in1 .agg e qn (fun r0 => k r0 H')
def qaB  (H : AH) (k : Bool → AH → Prop) : Prop :=
 qh Tryz.prog 13 [] H fun e H' => in1 .bool e qn (fun r0 => k r0 H')
def qbS (x0 : Option Addr) (H : AH) (k : Bool → AH → Prop) : Prop :=
 qh Tryz.prog 71 [(qlO x0)] H fun e H' => in1 .bool e qn (fun r0 => k r0 H')
def qci (x0 : Option Addr) (H : AH) (k : Bool → AH → Prop) : Prop :=
 qh Tryz.prog 20 [(qlO x0)] H fun e H' => in1 .bool e qn (fun r0 => k r0 H')
def qS (x0 : Sl) (H : AH) (k : List Value → Bool → AH → Prop) : Prop :=
 qh Tryz.prog 77 [(Sl.val x0)] H fun e H' => in2 .agg .bool e qn (fun r0 r1 => k r0 r1 H')
def qaJ (x0 : Sl) (H : AH) (k : Sl → AH → Prop) : Prop :=
 qh Tryz.prog 34 [(Sl.val x0)] H fun e H' => in1 .sl e qn (fun r0 => k r0 H')
def qb1 (x0 : Option Addr) (H : AH) (k : Option Addr → AH → Prop) : Prop :=
 qh Tryz.prog 37 [(qlO x0)] H fun e H' => in1 .ptr e qn (fun r0 => k r0 H')
def qcO (x0 : Int) (H : AH) (k : Option Addr → AH → Prop) : Prop :=
 qh Tryz.prog 81 [(qlI .i64 x0)] H fun e H' => in1 .ptr e qn (fun r0 => k r0 H')
def qcF (x0 : Int) (H : AH) (k : Option Addr → AH → Prop) : Prop :=
 qh Tryz.prog 41 [(qlI .i64 x0)] H fun e H' => in1 .ptr e qn (fun r0 => k r0 H')
def qbj (x0 : Int) (H : AH) (k : Int → AH → Prop) : Prop :=
 qh Tryz.prog 109 [(qlI .i64 x0)] H fun e H' => in1 (.int .i64) e qn (fun r0 => k r0 H')
def qcn (x0 : Sl) (x1 : Sl) (H : AH) (k : Bool → AH → Prop) : Prop :=
 qh Tryz.prog 128 [(Sl.val x0),(Sl.val x1)] H fun e H' => in1 .bool e qn (fun r0 => k r0 H')
def qaa (x0 : List Value) (x1 : List Value) (H : AH) (k : Bool → AH → Prop) : Prop :=
 qh Tryz.prog 85 [(qmE (qme x0)),(qmE (qme x1))] H fun e H' => in1 .bool e qn (fun r0 => k r0 H')
def qaT (x0 : Sl) (H : AH) (k : Sl → AH → Prop) : Prop :=
 qh Tryz.prog 130 [(Sl.val x0)] H fun e H' => in1 .sl e qn (fun r0 => k r0 H')
def qx (x0 : Option Addr) (H : AH) (k : Sl → AH → Prop) : Prop :=
 qh Tryz.prog 90 [(qlO x0)] H fun e H' => in1 .sl e qn (fun r0 => k r0 H')
def qY (x0 : Sl) (x1 : Int) (H : AH) (k : Sl → AH → Prop) : Prop :=
 qh Tryz.prog 164 [(Sl.val x0),(qlI .i64 x1)] H fun e H' => in1 .sl e qn (fun r0 => k r0 H')
def qae (x0 : Option Addr) (x1 : Int) (H : AH) (k : Sl → AH → Prop) : Prop :=
 qh Tryz.prog 123 [(qlO x0),(qlI .i64 x1)] H fun e H' => in1 .sl e qn (fun r0 => k r0 H')
def qZ (x0 : Sl) (x1 : Int) (H : AH) (k : Int → AH → Prop) : Prop :=
 qh Tryz.prog 184 [(Sl.val x0),(qlI .i64 x1)] H fun e H' => in1 (.int .i64) e qn (fun r0 => k r0 H')
def qaA (x0 : Sl) (x1 : Int) (H : AH) (k : Bool → AH → Prop) : Prop :=
 qh Tryz.prog 160 [(Sl.val x0),(qlI .i64 x1)] H fun e H' => in1 .bool e qn (fun r0 => k r0 H')
def qch (x0 : Sl) (x1 : Int) (H : AH) (k : Int → AH → Prop) : Prop :=
 qh Tryz.prog 161 [(Sl.val x0),(qlI .i64 x1)] H fun e H' => in1 (.int .i64) e qn (fun r0 => k r0 H')
def qbL (x0 : Int) (x1 : Int) (H : AH) (k : Int → AH → Prop) : Prop :=
 qh Tryz.prog 162 [(qlI .i64 x0),(qlI .i64 x1)] H fun e H' => in1 (.int .i64) e qn (fun r0 => k r0 H')
def qH (x0 : Option Addr) (x1 : Int) (x2 : Int) (H : AH) (k : Bool → AH → Prop) : Prop :=
 qh Tryz.prog 122 [(qlO x0),(qlI .i64 x1),(qlI .i64 x2)] H fun e H' => in1 .bool e qn (fun r0 => k r0 H')
def qQ (x0 : Option Addr) (x1 : List Value) (x2 : List Value) (H : AH) (k : Bool → AH → Prop) : Prop :=
 qh Tryz.prog 82 [(qlO x0),(qmE (qme x1)),(qmE (qme x2))] H fun e H' => in1 .bool e qn (fun r0 => k r0 H')
def qad (x0 : Sl) (H : AH) (k : Sl → AH → Prop) : Prop :=
 qh Tryz.prog 127 [(Sl.val x0)] H fun e H' => in1 .sl e qn (fun r0 => k r0 H')
def qau (x0 : Option Addr) (H : AH) (k : Option Addr → AH → Prop) : Prop :=
 qh Tryz.prog 124 [(qlO x0)] H fun e H' => in1 .ptr e qn (fun r0 => k r0 H')
def qal (x0 : List Value) (H : AH) (k : Int → AH → Prop) : Prop :=
 qh Tryz.prog 168 [(qmE (qme x0))] H fun e H' => in1 (.int .i64) e qn (fun r0 => k r0 H')
def qaF (x0 : List Value) (x1 : Option Addr) (H : AH) (k : Bool → AH → Prop) : Prop :=
 qh Tryz.prog 196 [(qmE (qme x0)),(qlO x1)] H fun e H' => in1 .bool e qn (fun r0 => k r0 H')
def qaX (x0 : Option Addr) (x1 : Int) (H : AH) (k : Int → AH → Prop) : Prop :=
 qh Tryz.prog 187 [(qlO x0),(qlI .i64 x1)] H fun e H' => in1 (.int .i64) e qn (fun r0 => k r0 H')
def qbo (x0 : Option Addr) (x1 : Int) (H : AH) (k : Int → AH → Prop) : Prop :=
 qh Tryz.prog 165 [(qlO x0),(qlI .i64 x1)] H fun e H' => in1 (.int .i64) e qn (fun r0 => k r0 H')
def qA (x0 : Option Addr) (x1 : Int) (x2 : Int) (H : AH) (k : Sl → Int → AH → Prop) : Prop :=
 qh Tryz.prog 126 [(qlO x0),(qlI .i64 x1),(qlI .i64 x2)] H fun e H' => in2 .sl (.int .i64) e qn (fun r0 r1 => k r0 r1 H')
def qbd (x0 : Option Addr) (x1 : Int) (x2 : Sl) (H : AH) (k : Int → AH → Prop) : Prop :=
 qh Tryz.prog 166 [(qlO x0),(qlI .i64 x1),(Sl.val x2)] H fun e H' => in1 (.int .i64) e qn (fun r0 => k r0 H')
def qN (x0 : Option Addr) (x1 : Int) (H : AH) (k : Int → AH → Prop) : Prop :=
 qh Tryz.prog 167 [(qlO x0),(qlI .i64 x1)] H fun e H' => in1 (.int .i64) e qn (fun r0 => k r0 H')
def qcD (x0 : Option Addr) (x1 : List Value) (H : AH) (k : Int → AH → Prop) : Prop :=
 qh Tryz.prog 125 [(qlO x0),(qmE (qme x1))] H fun e H' => in1 (.int .i64) e qn (fun r0 => k r0 H')
def qz (x0 : Option Addr) (x1 : List Value) (x2 : List Value) (H : AH) (k : Bool → AH → Prop) : Prop :=
 qh Tryz.prog 83 [(qlO x0),(qmE (qme x1)),(qmE (qme x2))] H fun e H' => in1 .bool e qn (fun r0 => k r0 H')
def qbm (x0 : Option Addr) (x1 : Int) (x2 : Int) (H : AH) (k : Sl → Int → AH → Prop) : Prop :=
 qh Tryz.prog 84 [(qlO x0),(qlI .i64 x1),(qlI .i64 x2)] H fun e H' => in2 .sl (.int .i64) e qn (fun r0 r1 => k r0 r1 H')
def qbp (x0 : Option Addr) (H : AH) (k : Int → AH → Prop) : Prop :=
 qh Tryz.prog 86 [(qlO x0)] H fun e H' => in1 (.int .i64) e qn (fun r0 => k r0 H')
def qX (x0 : Option Addr) (x1 : List Value) (x2 : List Value) (H : AH) (k : Bool → AH → Prop) : Prop :=
 qh Tryz.prog 43 [(qlO x0),(qmE (qme x1)),(qmE (qme x2))] H fun e H' => in1 .bool e qn (fun r0 => k r0 H')
def qa0 (x0 : Option Addr) (H : AH) (k : Sl → AH → Prop) : Prop :=
 qh Tryz.prog 47 [(qlO x0)] H fun e H' => in1 .sl e qn (fun r0 => k r0 H')
def qeJ (x0 : List Value) (x1 : Sl) (x2 : Sl) (H : AH) (k : Bool → AH → Prop) : Prop :=
 qh Tryz.prog 10 [(qmE (qme x0)),(Sl.val x1),(Sl.val x2)] H fun e H' => in1 .bool e qn (fun r0 => k r0 H')
def qR (x0 : Sl) (x1 : Sl) (H : AH) (k : Bool → AH → Prop) : Prop :=
 qh Tryz.prog 46 [(Sl.val x0),(Sl.val x1)] H fun e H' => in1 .bool e qn (fun r0 => k r0 H')
def qs (x0 : List Value) (x1 : Sl) (x2 : Sl) (H : AH) (k : Bool → AH → Prop) : Prop :=
 qh Tryz.prog 11 [(qmE (qme x0)),(Sl.val x1),(Sl.val x2)] H fun e H' => in1 .bool e qn (fun r0 => k r0 H')
def qar (x0 : Int) (H : AH) (pk : Value → AH → Prop) (k : AH → Prop) : Prop :=
 qh Tryz.prog 113 [(qlI .i64 x0)] H fun e H' => in0  e (fun v => pk v H') (k H')
def qa7 (x0 : Option Addr) (H : AH) (pk : Value → AH → Prop) (k : Sl → AH → Prop) : Prop :=
 qh Tryz.prog 108 [(qlO x0)] H fun e H' => in1 .sl e (fun v => pk v H') (fun r0 => k r0 H')
def qaz (x0 : Option Addr) (H : AH) (pk : Value → AH → Prop) (k : AH → Prop) : Prop :=
 qh Tryz.prog 110 [(qlO x0)] H fun e H' => in0  e (fun v => pk v H') (k H')
def qaU (x0 : Sl) (H : AH) (k : Sl → AH → Prop) : Prop :=
 qh Tryz.prog 147 [(Sl.val x0)] H fun e H' => in1 .sl e qn (fun r0 => k r0 H')
def qca (x0 : Option Addr) (H : AH) (k : Sl → AH → Prop) : Prop :=
 qh Tryz.prog 112 [(qlO x0)] H fun e H' => in1 .sl e qn (fun r0 => k r0 H')
def qbK (x0 : List Value) (x1 : Sl) (H : AH) (k : Int → AH → Prop) : Prop :=
 qh Tryz.prog 173 [(qmE (qme x0)),(Sl.val x1)] H fun e H' => in1 (.int .i64) e qn (fun r0 => k r0 H')
def qaP (x0 : Sl) (x1 : Int) (x2 : Sl) (H : AH) (k : Int → AH → Prop) : Prop :=
 qh Tryz.prog 145 [(Sl.val x0),(qlI .i64 x1),(Sl.val x2)] H fun e H' => in1 (.int .i64) e qn (fun r0 => k r0 H')
def qaO (x0 : Sl) (H : AH) (k : Int → AH → Prop) : Prop :=
 qh Tryz.prog 189 [(Sl.val x0)] H fun e H' => in1 (.int .i64) e qn (fun r0 => k r0 H')
def qbf (x0 : Sl) (x1 : Int) (x2 : Int) (H : AH) (k : Sl → AH → Prop) : Prop :=
 qh Tryz.prog 174 [(Sl.val x0),(qlI .i64 x1),(qlI .i64 x2)] H fun e H' => in1 .sl e qn (fun r0 => k r0 H')
def qaj (x0 : Sl) (x1 : Int) (x2 : Int) (H : AH) (k : Sl → AH → Prop) : Prop :=
 qh Tryz.prog 146 [(Sl.val x0),(qlI .i64 x1),(qlI .i64 x2)] H fun e H' => in1 .sl e qn (fun r0 => k r0 H')
def qb4 (x0 : Sl) (x1 : Int) (x2 : Sl) (H : AH) (k : Sl → Int → Int → AH → Prop) : Prop :=
 qh Tryz.prog 111 [(Sl.val x0),(qlI .i64 x1),(Sl.val x2)] H fun e H' => in3 .sl (.int .i64) (.int .i64) e qn (fun r0 r1 r2 => k r0 r1 r2 H')
def qak (x0 : Sl) (H : AH) (k : Sl → AH → Prop) : Prop :=
 qh Tryz.prog 175 [(Sl.val x0)] H fun e H' => in1 .sl e qn (fun r0 => k r0 H')
def qaZ (x0 : Sl) (x1 : Sl) (H : AH) (k : Sl → AH → Prop) : Prop :=
 qh Tryz.prog 148 [(Sl.val x0),(Sl.val x1)] H fun e H' => in1 .sl e qn (fun r0 => k r0 H')
def qaS (x0 : Sl) (H : AH) (k : Sl → AH → Prop) : Prop :=
 qh Tryz.prog 149 [(Sl.val x0)] H fun e H' => in1 .sl e qn (fun r0 => k r0 H')
def qT (x0 : Option Addr) (x1 : Sl) (H : AH) (k : Int → AH → Prop) : Prop :=
 qh Tryz.prog 150 [(qlO x0),(Sl.val x1)] H fun e H' => in1 (.int .i64) e qn (fun r0 => k r0 H')
def qbV (x0 : Option Addr) (x1 : Int) (H : AH) (k : Bool → AH → Prop) : Prop :=
 qh Tryz.prog 178 [(qlO x0),(qlI .i64 x1)] H fun e H' => in1 .bool e qn (fun r0 => k r0 H')
def qbv (x0 : Option Addr) (x1 : Int) (H : AH) (k : Int → AH → Prop) : Prop :=
 qh Tryz.prog 179 [(qlO x0),(qlI .i64 x1)] H fun e H' => in1 (.int .i64) e qn (fun r0 => k r0 H')
def qav (x0 : Option Addr) (x1 : Int) (H : AH) (k : Int → Bool → AH → Prop) : Prop :=
 qh Tryz.prog 151 [(qlO x0),(qlI .i64 x1)] H fun e H' => in2 (.int .i64) .bool e qn (fun r0 r1 => k r0 r1 H')
def qF (x0 : Option Addr) (x1 : Sl) (x2 : Sl) (H : AH) (pk : Value → AH → Prop) (k : AH → Prop) : Prop :=
 qh Tryz.prog 114 [(qlO x0),(Sl.val x1),(Sl.val x2)] H fun e H' => in0  e (fun v => pk v H') (k H')
def qb9 (x0 : Option Addr) (x1 : Int) (H : AH) (pk : Value → AH → Prop) (k : Int → AH → Prop) : Prop :=
 qh Tryz.prog 64 [(qlO x0),(qlI .i64 x1)] H fun e H' => in1 (.int .i64) e (fun v => pk v H') (fun r0 => k r0 H')
def qax (x0 : Sl) (H : AH) (k : Int → AH → Prop) : Prop :=
 qh Tryz.prog 181 [(Sl.val x0)] H fun e H' => in1 (.int .i64) e qn (fun r0 => k r0 H')
def qD (x0 : Sl) (x1 : Int) (H : AH) (k : Int → Int → Bool → AH → Prop) : Prop :=
 qh Tryz.prog 180 [(Sl.val x0),(qlI .i64 x1)] H fun e H' => in3 (.int .i64) (.int .i64) .bool e qn (fun r0 r1 r2 => k r0 r1 r2 H')
def qbl (x0 : Sl) (x1 : Int) (H : AH) (k : List Value → Bool → AH → Prop) : Prop :=
 qh Tryz.prog 152 [(Sl.val x0),(qlI .i64 x1)] H fun e H' => in2 .agg .bool e qn (fun r0 r1 => k r0 r1 H')
def qcE (x0 : Sl) (x1 : Int) (H : AH) (k : Sl → Int → AH → Prop) : Prop :=
 qh Tryz.prog 115 [(Sl.val x0),(qlI .i64 x1)] H fun e H' => in2 .sl (.int .i64) e qn (fun r0 r1 => k r0 r1 H')
def qbJ (x0 : Option Addr) (H : AH) (pk : Value → AH → Prop) (k : Int → AH → Prop) : Prop :=
 qh Tryz.prog 69 [(qlO x0)] H fun e H' => in1 (.int .i64) e (fun v => pk v H') (fun r0 => k r0 H')
def qcl (x0 : Option Addr) (x1 : Int) (H : AH) (pk : Value → AH → Prop) (k : AH → Prop) : Prop :=
 qh Tryz.prog 65 [(qlO x0),(qlI .i64 x1)] H fun e H' => in0  e (fun v => pk v H') (k H')
def qbt (x0 : List Value) (x1 : Option Addr) (x2 : Option Addr) (H : AH) (k : Bool → AH → Prop) : Prop :=
 qh Tryz.prog 193 [(qmE (qme x0)),(qlO x1),(qlO x2)] H fun e H' => in1 .bool e qn (fun r0 => k r0 H')
def qbz (x0 : Sl) (x1 : Int) (x2 : Int) (H : AH) (k : Bool → AH → Prop) : Prop :=
 qh Tryz.prog 182 [(Sl.val x0),(qlI .i64 x1),(qlI .i64 x2)] H fun e H' => in1 .bool e qn (fun r0 => k r0 H')
def qb2 (x0 : Sl) (x1 : Int) (x2 : Int) (H : AH) (k : Int → AH → Prop) : Prop :=
 qh Tryz.prog 153 [(Sl.val x0),(qlI .i64 x1),(qlI .i64 x2)] H fun e H' => in1 (.int .i64) e qn (fun r0 => k r0 H')
def qb3 (x0 : Sl) (x1 : Int) (x2 : Int) (H : AH) (k : Bool → AH → Prop) : Prop :=
 qh Tryz.prog 183 [(Sl.val x0),(qlI .i64 x1),(qlI .i64 x2)] H fun e H' => in1 .bool e qn (fun r0 => k r0 H')
def qb0 (x0 : Sl) (x1 : Int) (x2 : Int) (H : AH) (k : Sl → Bool → AH → Prop) : Prop :=
 qh Tryz.prog 154 [(Sl.val x0),(qlI .i64 x1),(qlI .i64 x2)] H fun e H' => in2 .sl .bool e qn (fun r0 r1 => k r0 r1 H')
def qcA (x0 : Sl) (x1 : Int) (x2 : Int) (H : AH) (k : Sl → Int → AH → Prop) : Prop :=
 qh Tryz.prog 116 [(Sl.val x0),(qlI .i64 x1),(qlI .i64 x2)] H fun e H' => in2 .sl (.int .i64) e qn (fun r0 r1 => k r0 r1 H')
def qcj (x0 : Option Addr) (x1 : Int) (x2 : Int) (H : AH) (pk : Value → AH → Prop) (k : Sl → AH → Prop) : Prop :=
 qh Tryz.prog 66 [(qlO x0),(qlI .i64 x1),(qlI .i64 x2)] H fun e H' => in1 .sl e (fun v => pk v H') (fun r0 => k r0 H')
def qan (x0 : Sl) (x1 : Int) (x2 : Sl) (H : AH) (k : Sl → Bool → AH → Prop) : Prop :=
 qh Tryz.prog 155 [(Sl.val x0),(qlI .i64 x1),(Sl.val x2)] H fun e H' => in2 .sl .bool e qn (fun r0 r1 => k r0 r1 H')
def qco (x0 : Sl) (x1 : Int) (x2 : Sl) (H : AH) (k : Sl → Int → AH → Prop) : Prop :=
 qh Tryz.prog 117 [(Sl.val x0),(qlI .i64 x1),(Sl.val x2)] H fun e H' => in2 .sl (.int .i64) e qn (fun r0 r1 => k r0 r1 H')
def qcb (x0 : Option Addr) (x1 : Int) (x2 : Sl) (H : AH) (pk : Value → AH → Prop) (k : AH → Prop) : Prop :=
 qh Tryz.prog 67 [(qlO x0),(qlI .i64 x1),(Sl.val x2)] H fun e H' => in0  e (fun v => pk v H') (k H')
def qaE (x0 : Option Addr) (x1 : Int) (H : AH) (pk : Value → AH → Prop) (k : AH → Prop) : Prop :=
 qh Tryz.prog 68 [(qlO x0),(qlI .i64 x1)] H fun e H' => in0  e (fun v => pk v H') (k H')
def qt.l1 (x0 : Sl) (x1b0 : Option Addr) (x1b1 : Option Addr) (k : Int → AH → Prop) (t2 : Int × Int) (HL2 : AH) (it2 : (Int × Int) → AH → Prop) : Prop :=
 bcase (decide ((t2.2 : Int) < ((x0.n : Nat) : Int))) ((0 ≤ t2.2 ∧ t2.2 < ((x0.n : Nat) : Int)) ∧ onPtr x0.a fun a14 => ldA HL2 (qlL a14 (qlQ t2.2 * 3)) 3 fun c15 => qbt c15 x1b0 x1b1 HL2 fun b16 H16 => bcase b16 (k t2.2 H16) (it2 (t2.1,(qlJ .i64 (t2.2 + (1 : Int)))) H16)) (k (-1 : Int) HL2)
def qt.b (x0 : Sl) (x1b0 : Option Addr) (x1b1 : Option Addr) (H : AH) (k : Int → AH → Prop) : Prop :=
 loopT (qt.l1 x0 x1b0 x1b1 k) (((0 : Int),(0 : Int)) : Int × Int) H
def qt.ann : Ann := { keep := fun r => match r with | 2 => [(4,.int .i64),(8,.int .i64)] | _ => [],ord := fun r => match r with  | _ => [] }
theorem qt.link {x0 : Sl} {x1b0 : Option Addr} {x1b1 : Option Addr} {H : AH} {k : Int → AH → Prop} (h : qt.b x0 x1b0 x1b1 H k) : qt x0 x1b0 x1b1 H k := lk1 pan hT hm Tryz.func142 (by kernel_rfl) (A := qt.ann) (by kernel_rfl) (by simp) (by kernel_rfl) h
def qM.b (x0 : Sl) (x1b0 : Option Addr) (x1b1 : Option Addr) (H : AH) (k : Bool → AH → Prop) : Prop :=
 qt x0 x1b0 x1b1 H fun n7 H7 => k (decide ((n7 : Int) ≥ (0 : Int))) H7
theorem qM.link {x0 : Sl} {x1b0 : Option Addr} {x1b1 : Option Addr} {H : AH} {k : Bool → AH → Prop} (h : qM.b x0 x1b0 x1b1 H k) : qM x0 x1b0 x1b1 H k := lk1 pan hT hm Tryz.func192 (by kernel_rfl) (A := ann0) (by kernel_rfl) (by simp) (by kernel_rfl) h
def qq.l1 (x0 : Sl) (x1b0 : Option Addr) (k : Int → AH → Prop) (t2 : Int × Int) (HL2 : AH) (it2 : (Int × Int) → AH → Prop) : Prop :=
 bcase (decide ((t2.2 : Int) < ((x0.n : Nat) : Int))) ((0 ≤ t2.2 ∧ t2.2 < ((x0.n : Nat) : Int)) ∧ onPtr x0.a fun a14 => ldA HL2 (qlL a14 (qlQ t2.2 * 3)) 3 fun c15 => qaF c15 x1b0 HL2 fun b16 H16 => bcase b16 (k t2.2 H16) (it2 (t2.1,(qlJ .i64 (t2.2 + (1 : Int)))) H16)) (k (-1 : Int) HL2)
def qq.b (x0 : Sl) (x1b0 : Option Addr) (H : AH) (k : Int → AH → Prop) : Prop :=
 loopT (qq.l1 x0 x1b0 k) (((0 : Int),(0 : Int)) : Int × Int) H
def qq.ann : Ann := { keep := fun r => match r with | 2 => [(4,.int .i64),(8,.int .i64)] | _ => [],ord := fun r => match r with  | _ => [] }
theorem qq.link {x0 : Sl} {x1b0 : Option Addr} {H : AH} {k : Int → AH → Prop} (h : qq.b x0 x1b0 H k) : qq x0 x1b0 H k := lk1 pan hT hm Tryz.func195 (by kernel_rfl) (A := qq.ann) (by kernel_rfl) (by simp) (by kernel_rfl) h
def qB.l1 (x0 : Sl) (x1b0 : Option Addr) (k : Int → AH → Prop) (t2 : Int × Int) (HL2 : AH) (it2 : (Int × Int) → AH → Prop) : Prop :=
 bcase (decide ((t2.2 : Int) < ((x0.n : Nat) : Int))) ((0 ≤ t2.2 ∧ t2.2 < ((x0.n : Nat) : Int)) ∧ onPtr x0.a fun a14 => ldA HL2 (qlL a14 (qlQ t2.2 * 3)) 3 fun c15 => qbG c15 x1b0 HL2 fun b16 H16 => bcase b16 (k t2.2 H16) (it2 (t2.1,(qlJ .i64 (t2.2 + (1 : Int)))) H16)) (k (-1 : Int) HL2)
def qB.b (x0 : Sl) (x1b0 : Option Addr) (H : AH) (k : Int → AH → Prop) : Prop :=
 loopT (qB.l1 x0 x1b0 k) (((0 : Int),(0 : Int)) : Int × Int) H
def qB.ann : Ann := { keep := fun r => match r with | 2 => [(4,.int .i64),(8,.int .i64)] | _ => [],ord := fun r => match r with  | _ => [] }
theorem qB.link {x0 : Sl} {x1b0 : Option Addr} {H : AH} {k : Int → AH → Prop} (h : qB.b x0 x1b0 H k) : qB x0 x1b0 H k := lk1 pan hT hm Tryz.func142 (by kernel_rfl) (A := qB.ann) (by kernel_rfl) (by simp) (by kernel_rfl) h
def qbe.b (x0 : Int) (x1 : Int) (x2 : Int) (x3 : Int) (H : AH) (k : List Value → AH → Prop) : Prop :=
 newC H ⟨[(qlI .i64 (0 : Int)),(qlI .i64 (0 : Int)),(qlI .i64 (0 : Int)),(qlI .i64 (0 : Int))],.rw,0⟩ fun o8 H8 => ((24 : Int) : Int) ≠ 0 ∧ ((17 : Int) : Int) ≠ 0 ∧ ((30 : Int) : Int) ≠ 0 ∧ ((10 : Int) : Int) ≠ 0 ∧ (qlY [(qlI .i64 (qlJ .i64 ((1 : Int) + (qlJ .i64 (qmS (qlJ .u64 x0) (24 : Int)))))),(qlI .i64 (qlJ .i64 (qmS (qlJ .u64 x1) (17 : Int)))),(qlI .i64 (qlJ .i64 ((1 : Int) + (qlJ .i64 (qmS (qlJ .u64 x2) (30 : Int)))))),(qlI .i64 (qlJ .i64 ((1 : Int) + (qlJ .i64 (qmS (qlJ .u64 x3) (10 : Int))))))] = 4 ∧ qmq [(qlI .i64 (qlJ .i64 ((1 : Int) + (qlJ .i64 (qmS (qlJ .u64 x0) (24 : Int)))))),(qlI .i64 (qlJ .i64 (qmS (qlJ .u64 x1) (17 : Int)))),(qlI .i64 (qlJ .i64 ((1 : Int) + (qlJ .i64 (qmS (qlJ .u64 x2) (30 : Int)))))),(qlI .i64 (qlJ .i64 ((1 : Int) + (qlJ .i64 (qmS (qlJ .u64 x3) (10 : Int))))))] qo = true) ∧ stC H8 ⟨o8,0,none⟩ [(qlI .i64 (qlJ .i64 ((1 : Int) + (qlJ .i64 (qmS (qlJ .u64 x0) (24 : Int)))))),(qlI .i64 (qlJ .i64 (qmS (qlJ .u64 x1) (17 : Int)))),(qlI .i64 (qlJ .i64 ((1 : Int) + (qlJ .i64 (qmS (qlJ .u64 x2) (30 : Int)))))),(qlI .i64 (qlJ .i64 ((1 : Int) + (qlJ .i64 (qmS (qlJ .u64 x3) (10 : Int))))))] fun Hs2 => ldA Hs2 ⟨o8,0,none⟩ 4 fun r0 => k r0 Hs2
theorem qbe.link {x0 : Int} {x1 : Int} {x2 : Int} {x3 : Int} {H : AH} {k : List Value → AH → Prop} (h : qbe.b x0 x1 x2 x3 H k) : qbe x0 x1 x2 x3 H k := lk1 pan hT hm Tryz.func36 (by kernel_rfl) (A := ann0) (by kernel_rfl) (by simp) (by kernel_rfl) h
def qbZ.b (x0 : List Value) (H : AH) (k : List Value → AH → Prop) : Prop :=
 newC H ⟨x0,.rw,0⟩ fun o1 H1 => newC H1 ⟨[(qlI .i64 (0 : Int)),(qlI .i64 (0 : Int)),(qlI .i64 (0 : Int)),(qlI .i64 (0 : Int))],.rw,0⟩ fun o2 H2 => elI .i64 (AH.cell? H2 (qlL ⟨o1,0,none⟩ 0)) fun n4 => elI .i64 (AH.cell? H2 (qlL ⟨o1,0,none⟩ 1)) fun n6 => elI .i64 (AH.cell? H2 (qlL ⟨o1,0,none⟩ 2)) fun n8 => elI .i64 (AH.cell? H2 (qlL ⟨o1,0,none⟩ 3)) fun n10 => qbe n4 n6 n8 n10 H2 fun c11 H11 => (qlY c11 = 4 ∧ qmq c11 qo = true) ∧ stC H11 ⟨o2,0,none⟩ c11 fun Hs2 => ldA Hs2 ⟨o2,0,none⟩ 4 fun r0 => k r0 Hs2
theorem qbZ.link {x0 : List Value} {H : AH} {k : List Value → AH → Prop} (h : qbZ.b x0 H k) : qbZ x0 H k := lk1 pan hT hm Tryz.func12 (by kernel_rfl) (A := ann0) (by kernel_rfl) (by simp) (by kernel_rfl) h
def qbg.b (x0 : List Value) (H : AH) (k : Bool → AH → Prop) : Prop :=
 newC H ⟨x0,.rw,0⟩ fun o1 H1 => elI .i64 (AH.cell? H1 (qlL ⟨o1,0,none⟩ 0)) fun n4 => bcase (decide ((n4 : Int) ≥ (1 : Int))) (elI .i64 (AH.cell? H1 (qlL ⟨o1,0,none⟩ 0)) fun n8 => bcase (decide ((n8 : Int) ≤ (64 : Int))) (elI .i64 (AH.cell? H1 (qlL ⟨o1,0,none⟩ 1)) fun n13 => bcase (decide ((n13 : Int) ≥ (0 : Int))) (elI .i64 (AH.cell? H1 (qlL ⟨o1,0,none⟩ 1)) fun n18 => bcase (decide ((n18 : Int) ≤ (16 : Int))) (elI .i64 (AH.cell? H1 (qlL ⟨o1,0,none⟩ 2)) fun n23 => bcase (decide ((n23 : Int) ≥ (1 : Int))) (elI .i64 (AH.cell? H1 (qlL ⟨o1,0,none⟩ 2)) fun n28 => bcase (decide ((n28 : Int) ≤ (1000 : Int))) (elI .i64 (AH.cell? H1 (qlL ⟨o1,0,none⟩ 3)) fun n33 => bcase (decide ((n33 : Int) ≥ (1 : Int))) (elI .i64 (AH.cell? H1 (qlL ⟨o1,0,none⟩ 3)) fun n38 => k (decide ((n38 : Int) ≤ (100 : Int))) H1) (k false H1)) (k false H1)) (k false H1)) (k false H1)) (k false H1)) (k false H1)) (k false H1)
theorem qbg.link {x0 : List Value} {H : AH} {k : Bool → AH → Prop} (h : qbg.b x0 H k) : qbg x0 H k := lk1 pan hT hm Tryz.func48 (by kernel_rfl) (A := ann0) (by kernel_rfl) (by simp) (by kernel_rfl) h
def qbF.b (x0 : List Value) (H : AH) (k : Int → AH → Prop) : Prop :=
 newC H ⟨x0,.rw,0⟩ fun o1 H1 => ldA H1 ⟨o1,0,none⟩ 4 fun c3 => qbg c3 H1 fun b4 H4 => bcase (!b4) (k (0 : Int) H4) (elI .i64 (AH.cell? H4 (qlL ⟨o1,0,none⟩ 0)) fun n7 => k (qlJ .i64 ((16 : Int) + n7)) H4)
theorem qbF.link {x0 : List Value} {H : AH} {k : Int → AH → Prop} (h : qbF.b x0 H k) : qbF x0 H k := lk1 pan hT hm Tryz.func49 (by kernel_rfl) (A := ann0) (by kernel_rfl) (by simp) (by kernel_rfl) h
def qby.b (x0 : List Value) (H : AH) (k : Int → AH → Prop) : Prop :=
 newC H ⟨x0,.rw,0⟩ fun o1 H1 => ldA H1 ⟨o1,0,none⟩ 4 fun c3 => qbg c3 H1 fun b4 H4 => bcase (!b4) (k (0 : Int) H4) (ldA H4 ⟨o1,0,none⟩ 4 fun c6 => elI .i64 (AH.cell? H4 (qlL ⟨o1,0,none⟩ 1)) fun n10 => qbF c6 H4 fun n7 H7 => AH.cell? H7 (qlL ⟨o1,0,none⟩ 1) = some (qlI .i64 n10) ∧ k (qlJ .i64 ((qlJ .i64 (n7 + (1 : Int))) + n10)) H7)
def qby.ann : Ann := { keep := fun r => match r with  | _ => [],ord := fun r => match r with | 3 => [0,3,4,1,2,5,6] | _ => [] }
theorem qby.link {x0 : List Value} {H : AH} {k : Int → AH → Prop} (h : qby.b x0 H k) : qby x0 H k := lk1 pan hT hm Tryz.func15 (by kernel_rfl) (A := qby.ann) (by kernel_rfl) (by simp) (by kernel_rfl) h
def nvm_New.l1 (x1 : Sl) (k : Option Addr → AH → Prop) (o16 : Nat) (s20 : Sl) (t5 : Int) (HL5 : AH) (it5 : (Int) → AH → Prop) : Prop :=
 bcase (decide ((t5 : Int) < ((s20.n : Nat) : Int))) (elL (AH.cell? HL5 (qlL ⟨o16,0,none⟩ 0)) fun s28 => (0 ≤ t5 ∧ t5 < ((s28.n : Nat) : Int)) ∧ onPtr s28.a fun a30 => stC HL5 (qlL (qlL a30 (qlQ t5 * 10)) 9) [(qlI .i64 (-1 : Int))] fun Hs2 => bcase (decide ((t5 : Int) < ((x1.n : Nat) : Int))) (elL (AH.cell? Hs2 (qlL ⟨o16,0,none⟩ 0)) fun s39 => (0 ≤ t5 ∧ t5 < ((x1.n : Nat) : Int)) ∧ onPtr x1.a fun a43 => elI .i64 (AH.cell? Hs2 (qlL a43 (qlQ t5 * 1))) fun n44 => (0 ≤ t5 ∧ t5 < ((s39.n : Nat) : Int)) ∧ onPtr s39.a fun a45 => stC Hs2 (qlL (qlL a45 (qlQ t5 * 10)) 9) [(qlI .i64 n44)] fun Hs4 => it5 (qlJ .i64 (t5 + (1 : Int))) Hs4) (it5 (qlJ .i64 (t5 + (1 : Int))) Hs2)) (k (some ⟨o16,0,none⟩) HL5)
def nvm_New.j2 (x0 : Int) (x1 : Sl) (H : AH) (k : Option Addr → AH → Prop) (x12 : Bool) : Prop :=
 bcase x12 (k none H) ((0 ≤ x0 ∧ x0 ≤ x0 ∧ x0 ≤ (lim : Int)) ∧ newC H ⟨zerosOf (qlQ x0) [(qlI .u64 (0 : Int)),(qlI .u64 (0 : Int)),(qlI .u64 (0 : Int)),(qlI .u64 (0 : Int)),(qlI .u64 (0 : Int)),(qlI .u64 (0 : Int)),(qlI .u64 (0 : Int)),(qlI .u64 (0 : Int)),(qlI .i64 (0 : Int)),(qlI .i64 (0 : Int))],.rw,10⟩ fun o14 H14 => newC H14 ⟨[(qlV (some ⟨o14,0,none⟩) (qlQ x0) 1),(qlI .u64 (0 : Int)),(qlI .u64 (0 : Int)),(qlI .u64 (0 : Int)),(qlI .u64 (0 : Int)),(qlI .u64 (0 : Int)),(qlI .u64 (0 : Int)),(qlI .u64 (0 : Int)),(qlI .u64 (0 : Int)),(qlI .u64 (0 : Int)),(qlI .u64 (0 : Int)),(qlI .u64 (0 : Int)),(qlI .u64 (0 : Int)),(qlI .u64 (0 : Int)),(qlI .u64 (0 : Int)),(qlI .u64 (0 : Int)),(qlI .u64 (0 : Int)),(qlI .u64 (0 : Int)),(qlI .u64 (0 : Int)),(qlI .u64 (0 : Int)),(qlI .u64 (0 : Int)),(qlI .u64 (0 : Int)),(qlI .u64 (0 : Int)),(qlI .u64 (0 : Int)),(qlI .u64 (0 : Int)),(qlI .u64 (0 : Int)),(qlI .u64 (0 : Int)),(qlI .u64 (0 : Int)),(qlI .u64 (0 : Int)),(qlI .u64 (0 : Int)),(qlI .u64 (0 : Int)),(qlI .u64 (0 : Int)),(qlI .u64 (0 : Int)),(qlI .u64 (0 : Int)),(qlI .u64 (0 : Int)),(qlI .u64 (0 : Int)),(qlI .i64 (0 : Int)),(qlI .i64 (-1 : Int)),(qlI .i64 (0 : Int)),(qmD false)],.rw,0⟩ fun o16 H16 => elL (AH.cell? H16 (qlL ⟨o16,0,none⟩ 0)) fun s20 => loopT (nvm_New.l1 x1 k o16 s20) (((0 : Int)) : Int) H16)
def nvm_New.b (x0 : Int) (x1 : Sl) (H : AH) (k : Option Addr → AH → Prop) : Prop :=
 bcase (decide ((x0 : Int) < (1 : Int))) (nvm_New.j2 x0 x1 H k true) (nvm_New.j2 x0 x1 H k (decide ((x0 : Int) > (200 : Int))))
def nvm_New.ann : Ann := { keep := fun r => match r with | 5 => [(22,.int .i64)] | _ => [],ord := fun r => match r with | 9 => [0,1,2,3,4,5,6,7,8,9,10,11] | _ => [] }
theorem nvm_New.link {x0 : Int} {x1 : Sl} {H : AH} {k : Option Addr → AH → Prop} (h : nvm_New.b x0 x1 H k) : nvm_New x0 x1 H k := lk1 pan hT hm Tryz.func14 (by kernel_rfl) (A := nvm_New.ann) (by kernel_rfl) (by simp) (by kernel_rfl) h
def qai.b (x0 : Option Addr) (H : AH) (k : Int → AH → Prop) : Prop :=
 bcase (qmb x0) (k (0 : Int) H) (onPtr x0 fun a6 => elL (AH.cell? H (qlL a6 0)) fun s8 => k ((s8.n : Nat) : Int) H)
theorem qai.link {x0 : Option Addr} {H : AH} {k : Int → AH → Prop} (h : qai.b x0 H k) : qai x0 H k := lk1 pan hT hm Tryz.func91 (by kernel_rfl) (A := ann0) (by kernel_rfl) (by simp) (by kernel_rfl) h
def qao.b (x0 : Option Addr) (H : AH) (k : Bool → AH → Prop) : Prop :=
 bcase (!(qmb x0)) (onPtr x0 fun a7 => elB (AH.cell? H (qlL a7 39)) fun b9 => k b9 H) (k false H)
theorem qao.link {x0 : Option Addr} {H : AH} {k : Bool → AH → Prop} (h : qao.b x0 H k) : qao x0 H k := lk1 pan hT hm Tryz.func38 (by kernel_rfl) (A := ann0) (by kernel_rfl) (by simp) (by kernel_rfl) h
def qbN.j1 (x0 : Option Addr) (k : Int → AH → Prop) (x5 : Bool) (Hj : AH) : Prop :=
 bcase x5 (k (1 : Int) Hj) (qao x0 Hj fun b18 H18 => bcase b18 (k (2 : Int) H18) (k (0 : Int) H18))
def qbN.b (x0 : Option Addr) (x1 : List Value) (H : AH) (k : Int → AH → Prop) : Prop :=
 newC H ⟨x1,.rw,0⟩ fun o3 H3 => ldA H3 ⟨o3,0,none⟩ 4 fun c6 => qbg c6 H3 fun b7 H7 => bcase (!b7) (qbN.j1 x0 k true H7) (ldA H7 ⟨o3,0,none⟩ 4 fun c12 => qai x0 H7 fun n11 H11 => AH.row? H11 ⟨o3,0,none⟩ 4 = some c12 ∧ qby c12 H11 fun n13 H13 => qbN.j1 x0 k ((n11 : Int) != n13) H13)
def qbN.ann : Ann := { keep := fun r => match r with  | _ => [],ord := fun r => match r with | 1 => [0,1,2,3,4,6,5,7,8,9,10] | _ => [] }
theorem qbN.link {x0 : Option Addr} {x1 : List Value} {H : AH} {k : Int → AH → Prop} (h : qbN.b x0 x1 H k) : qbN x0 x1 H k := lk1 pan hT hm Tryz.func50 (by kernel_rfl) (A := qbN.ann) (by kernel_rfl) (by simp) (by kernel_rfl) h
def qaN.b (x0 : Option Addr) (x1 : Int) (H : AH) (k : Bool → AH → Prop) : Prop :=
 bcase (!(qmb x0)) (bcase (decide ((x1 : Int) ≥ (0 : Int))) (k (decide ((x1 : Int) < (35 : Int))) H) (k false H)) (k false H)
theorem qaN.link {x0 : Option Addr} {x1 : Int} {H : AH} {k : Bool → AH → Prop} (h : qaN.b x0 x1 H k) : qaN x0 x1 H k := lk1 pan hT hm Tryz.func92 (by kernel_rfl) (A := ann0) (by kernel_rfl) (by simp) (by kernel_rfl) h
def qJ.b (x0 : Option Addr) (x1 : Int) (H : AH) (k : Int → Int → AH → Prop) : Prop :=
 qaN x0 x1 H fun b9 H9 => bcase (!b9) (k (0 : Int) (1 : Int) H9) (onPtr x0 fun a13 => elB (AH.cell? H9 (qlL a13 39)) fun b15 => bcase b15 (k (0 : Int) (2 : Int) H9) (onPtr x0 fun a18 => (0 ≤ x1 ∧ x1 < ((35 : Nat) : Int)) ∧ elI .u64 (AH.cell? H9 (qlL (qlL a18 1) (qlQ x1 * 1))) fun n21 => k n21 (0 : Int) H9))
theorem qJ.link {x0 : Option Addr} {x1 : Int} {H : AH} {k : Int → Int → AH → Prop} (h : qJ.b x0 x1 H k) : qJ x0 x1 H k := lk2 pan hT hm Tryz.func51 (by kernel_rfl) (A := ann0) (by kernel_rfl) (by simp) (by simp) (by kernel_rfl) h
def qK.j1 (x0 : Option Addr) (k : Sl → Int → AH → Prop) (t3 : Sl × Int × Sl × Int) (HL3 : AH) : Prop :=
 onPtr x0 fun a34 => elP (AH.cell? HL3 (qlL a34 0)) fun p36 => qao p36 HL3 fun b37 H37 => bcase b37 (k ⟨none,0,0⟩ (2 : Int) H37) (k t3.2.2.1 (0 : Int) H37)
def qK.l2 (x0 : Option Addr) (k : Sl → Int → AH → Prop) (n11 : Int) (t3 : Sl × Int × Sl × Int) (HL3 : AH) (it3 : (Sl × Int × Sl × Int) → AH → Prop) : Prop :=
 bcase (decide ((t3.2.2.2 : Int) < n11)) (onPtr x0 fun a17 => elP (AH.cell? HL3 (qlL a17 0)) fun p19 => qJ p19 (qlJ .i64 ((3 : Int) + t3.2.2.2)) HL3 fun n22a n22b H22 => bcase ((n22b : Int) != (0 : Int)) (k ⟨none,0,0⟩ n22b H22) (newC H22 ⟨[(qlI .u64 n22a)],.rw,1⟩ fun o30 H30 => appendC 1 H30 t3.2.2.1 ⟨(some ⟨o30,0,none⟩),1,1⟩ fun s31 H31 => it3 (t3.1,t3.2.1,s31,(qlJ .i64 (t3.2.2.2 + (1 : Int)))) H31)) (qK.j1 x0 k t3 HL3)
def qK.b (x0 : Option Addr) (H : AH) (k : Sl → Int → AH → Prop) : Prop :=
 onPtr x0 fun a9 => elI .i64 (AH.cell? H (qlL a9 2)) fun n11 => loopT (qK.l2 x0 k n11) ((⟨none,0,0⟩,(0 : Int),⟨none,0,0⟩,(0 : Int)) : Sl × Int × Sl × Int) H
def qK.ann : Ann := { keep := fun r => match r with | 3 => [(2,.sl),(3,.int .i64),(4,.sl),(12,.int .i64)] | _ => [],ord := fun r => match r with  | _ => [] }
theorem qK.link {x0 : Option Addr} {H : AH} {k : Sl → Int → AH → Prop} (h : qK.b x0 H k) : qK x0 H k := lk2 pan hT hm Tryz.func158 (by kernel_rfl) (A := qK.ann) (by kernel_rfl) (by simp) (by simp) (by kernel_rfl) h
def qcf.b (x0 : Int) (H : AH) (k : Int → AH → Prop) : Prop :=
 bcase (decide ((x0 : Int) < (1 : Int))) (k (0 : Int) H) (k (qlJ .u64 ((qlJ .u64 x0) + (1 : Int))) H)
theorem qcf.link {x0 : Int} {H : AH} {k : Int → AH → Prop} (h : qcf.b x0 H k) : qcf x0 H k := lk1 pan hT hm Tryz.func140 (by kernel_rfl) (A := ann0) (by kernel_rfl) (by simp) (by kernel_rfl) h
def qa2.j1 (k : Bool → AH → Prop) (t2 : Bool × Int) (it2 : (Bool × Int) → AH → Prop) (H16 : AH) (x33 : Bool) : Prop :=
 bcase x33 (k false H16) (it2 (t2.1,(qlJ .i64 (t2.2 + (1 : Int)))) H16)
def qa2.l2 (x0 : Sl) (x1 : Int) (k : Bool → AH → Prop) (t2 : Bool × Int) (HL2 : AH) (it2 : (Bool × Int) → AH → Prop) : Prop :=
 bcase (decide ((t2.2 : Int) < ((x0.n : Nat) : Int))) ((0 ≤ t2.2 ∧ t2.2 < ((x0.n : Nat) : Int)) ∧ onPtr x0.a fun a12 => elI .u64 (AH.cell? HL2 (qlL a12 (qlQ t2.2 * 1))) fun n13 => qcf x1 HL2 fun n16 H16 => bcase (decide ((n13 : Int) > n16)) (qa2.j1 k t2 it2 H16 true) (bcase (decide ((t2.2 : Int) > (0 : Int))) (bcase ((n13 : Int) != (0 : Int)) ((0 ≤ (qlJ .i64 (t2.2 - (1 : Int))) ∧ (qlJ .i64 (t2.2 - (1 : Int))) < ((x0.n : Nat) : Int)) ∧ onPtr x0.a fun a29 => elI .u64 (AH.cell? H16 (qlL a29 (qlQ (qlJ .i64 (t2.2 - (1 : Int))) * 1))) fun n30 => qa2.j1 k t2 it2 H16 ((n30 : Int) == (0 : Int))) (qa2.j1 k t2 it2 H16 false)) (qa2.j1 k t2 it2 H16 false))) (k (decide ((x1 : Int) ≥ (1 : Int))) HL2)
def qa2.b (x0 : Sl) (x1 : Int) (H : AH) (k : Bool → AH → Prop) : Prop :=
 loopT (qa2.l2 x0 x1 k) ((false,(0 : Int)) : Bool × Int) H
def qa2.ann : Ann := { keep := fun r => match r with | 2 => [(4,.bool),(9,.int .i64)] | _ => [],ord := fun r => match r with  | _ => [] }
theorem qa2.link {x0 : Sl} {x1 : Int} {H : AH} {k : Bool → AH → Prop} (h : qa2.b x0 x1 H k) : qa2 x0 x1 H k := lk1 pan hT hm Tryz.func169 (by kernel_rfl) (A := qa2.ann) (by kernel_rfl) (by simp) (by kernel_rfl) h
def qaY.j1 (x0 : Option Addr) (x1 : Int) (x2 : Int) (k : Option Addr → AH → Prop) (x31 : Bool) (Hj : AH) : Prop :=
 bcase x31 (k none Hj) (newC Hj ⟨[(qlO x0),(qlI .i64 x1),(qlI .i64 x2)],.rw,0⟩ fun o36 H36 => qK (some ⟨o36,0,none⟩) H36 fun s39a n39b H39 => bcase ((n39b : Int) != (0 : Int)) (k none H39) (qa2 s39a x1 H39 fun b47 H47 => bcase (!b47) (k none H47) (k (some ⟨o36,0,none⟩) H47)))
def qaY.b (x0 : Option Addr) (x1 : Int) (x2 : Int) (H : AH) (k : Option Addr → AH → Prop) : Prop :=
 bcase (qmb x0) (qaY.j1 x0 x1 x2 k true H) (bcase (decide ((x1 : Int) < (1 : Int))) (qaY.j1 x0 x1 x2 k true H) (bcase (decide ((x2 : Int) < (0 : Int))) (qaY.j1 x0 x1 x2 k true H) (bcase (decide ((x2 : Int) > (16 : Int))) (qaY.j1 x0 x1 x2 k true H) (qai x0 H fun n26 H26 => qaY.j1 x0 x1 x2 k (((qlJ .i64 (n26 - x2)) : Int) != x1) H26))))
theorem qaY.link {x0 : Option Addr} {x1 : Int} {x2 : Int} {H : AH} {k : Option Addr → AH → Prop} (h : qaY.b x0 x1 x2 H k) : qaY x0 x1 x2 H k := lk1 pan hT hm Tryz.func131 (by kernel_rfl) (A := ann0) (by kernel_rfl) (by simp) (by kernel_rfl) h
def qbh.j1 (x0 : Option Addr) (x1 : Int) (x3 : Int) (k : Option Addr → AH → Prop) (p32 : Option Addr) (H37 : AH) (x45 : Bool) : Prop :=
 bcase x45 (k none H37) (newC H37 ⟨[(qlO x0),(qlO p32),(qlI .i64 x1),(qlI .i64 x3),(qlI .i64 (0 : Int))],.rw,0⟩ fun o51 H51 => k (some ⟨o51,0,none⟩) H51)
def qbh.j2 (x0 : Option Addr) (x1 : Int) (x2 : Int) (x3 : Int) (k : Option Addr → AH → Prop) (x27 : Bool) (Hj : AH) : Prop :=
 bcase x27 (k none Hj) (qaY x0 (qlJ .i64 (x1 + (1 : Int))) x2 Hj fun p32 H32 => bcase (qmb p32) (k none H32) (qJ x0 (0 : Int) H32 fun n37a n37b H37 => bcase ((n37b : Int) != (0 : Int)) (qbh.j1 x0 x1 x3 k p32 H37 true) (qbh.j1 x0 x1 x3 k p32 H37 (decide ((n37a : Int) > (1099511627776 : Int))))))
def qbh.b (x0 : Option Addr) (x1 : Int) (x2 : Int) (x3 : Int) (H : AH) (k : Option Addr → AH → Prop) : Prop :=
 bcase (decide ((x1 : Int) < (1 : Int))) (qbh.j2 x0 x1 x2 x3 k true H) (qai x0 H fun n17 H17 => bcase (decide ((x1 : Int) > n17)) (qbh.j2 x0 x1 x2 x3 k true H17) (bcase (decide ((x3 : Int) < (1 : Int))) (qbh.j2 x0 x1 x2 x3 k true H17) (qbh.j2 x0 x1 x2 x3 k (decide ((x3 : Int) > (1000 : Int))) H17)))
theorem qbh.link {x0 : Option Addr} {x1 : Int} {x2 : Int} {x3 : Int} {H : AH} {k : Option Addr → AH → Prop} (h : qbh.b x0 x1 x2 x3 H k) : qbh x0 x1 x2 x3 H k := lk1 pan hT hm Tryz.func93 (by kernel_rfl) (A := ann0) (by kernel_rfl) (by simp) (by kernel_rfl) h
def qbT.b (x0 : Option Addr) (x1 : List Value) (H : AH) (k : Option Addr → AH → Prop) : Prop :=
 newC H ⟨x1,.rw,0⟩ fun o3 H3 => ldA H3 ⟨o3,0,none⟩ 4 fun c6 => elI .i64 (AH.cell? H3 (qlL ⟨o3,0,none⟩ 1)) fun n9 => elI .i64 (AH.cell? H3 (qlL ⟨o3,0,none⟩ 2)) fun n11 => qbF c6 H3 fun n7 H7 => AH.cell? H7 (qlL ⟨o3,0,none⟩ 2) = some (qlI .i64 n11) ∧ AH.cell? H7 (qlL ⟨o3,0,none⟩ 1) = some (qlI .i64 n9) ∧ qbh x0 n7 n9 n11 H7 fun p12 H12 => k p12 H12
def qbT.ann : Ann := { keep := fun r => match r with  | _ => [],ord := fun r => match r with | 1 => [0,1,3,4,5,6,2,7,8] | _ => [] }
theorem qbT.link {x0 : Option Addr} {x1 : List Value} {H : AH} {k : Option Addr → AH → Prop} (h : qbT.b x0 x1 H k) : qbT x0 x1 H k := lk1 pan hT hm Tryz.func52 (by kernel_rfl) (A := qbT.ann) (by kernel_rfl) (by simp) (by kernel_rfl) h
def qb6.b (x0 : List Value) (H : AH) (k : Int → AH → Prop) : Prop :=
 newC H ⟨x0,.rw,0⟩ fun o1 H1 => ldA H1 ⟨o1,0,none⟩ 4 fun c3 => qbg c3 H1 fun b4 H4 => bcase (!b4) (k (0 : Int) H4) (elI .i64 (AH.cell? H4 (qlL ⟨o1,0,none⟩ 0)) fun n7 => k (qlJ .i64 (n7 * (8 : Int))) H4)
theorem qb6.link {x0 : List Value} {H : AH} {k : Int → AH → Prop} (h : qb6.b x0 H k) : qb6 x0 H k := lk1 pan hT hm Tryz.func42 (by kernel_rfl) (A := ann0) (by kernel_rfl) (by simp) (by kernel_rfl) h
def qa4.b (x0 : Int) (H : AH) (k : Bool → AH → Prop) : Prop :=
 bcase (decide ((x0 : Int) ≥ (8 : Int))) (bcase (decide ((x0 : Int) ≤ (512 : Int))) (((8 : Int) : Int) ≠ 0 ∧ k (((qmS x0 (8 : Int)) : Int) == (0 : Int)) H) (k false H)) (k false H)
theorem qa4.link {x0 : Int} {H : AH} {k : Bool → AH → Prop} (h : qa4.b x0 H k) : qa4 x0 H k := lk1 pan hT hm Tryz.func94 (by kernel_rfl) (A := ann0) (by kernel_rfl) (by simp) (by kernel_rfl) h
def qbq.b (x0 : Int) (H : AH) (k : Bool → AH → Prop) : Prop :=
 bcase (decide ((x0 : Int) ≥ (2 : Int))) (k (decide ((x0 : Int) ≤ (512 : Int))) H) (k false H)
theorem qbq.link {x0 : Int} {H : AH} {k : Bool → AH → Prop} (h : qbq.b x0 H k) : qbq x0 H k := lk1 pan hT hm Tryz.func129 (by kernel_rfl) (A := ann0) (by kernel_rfl) (by simp) (by kernel_rfl) h
def qbU.b (x0 : Int) (x1 : Bool) (H : AH) (k : Int → AH → Prop) : Prop :=
 qbq x0 H fun b7 H7 => bcase (!b7) (k (0 : Int) H7) ((0 : Int) ≤ (1 : Int) ∧ bcase x1 (k (orI .u64 (shlI .u64 (qlJ .u64 x0) (1 : Int)) (1 : Int)) H7) (k (shlI .u64 (qlJ .u64 x0) (1 : Int)) H7))
theorem qbU.link {x0 : Int} {x1 : Bool} {H : AH} {k : Int → AH → Prop} (h : qbU.b x0 x1 H k) : qbU x0 x1 H k := lk1 pan hT hm Tryz.func95 (by kernel_rfl) (A := ann0) (by kernel_rfl) (by simp) (by kernel_rfl) h
def qa1.b (x0 : Int) (H : AH) (k : Sl → AH → Prop) : Prop :=
 qa4 x0 H fun b5 H5 => bcase (!b5) (k ⟨none,0,0⟩ H5) ((0 ≤ x0 ∧ x0 ≤ x0 ∧ x0 ≤ (lim : Int)) ∧ newC H5 ⟨zerosOf (qlQ x0) [(qlI .u64 (0 : Int))],.rw,1⟩ fun o8 H8 => qbU x0 false H8 fun n11 H11 => (0 ≤ (0 : Int) ∧ (0 : Int) < (((qlQ x0) : Nat) : Int)) ∧ stC H11 (qlL ⟨o8,0,none⟩ (qlQ (0 : Int) * 1)) [(qlI .u64 n11)] fun Hs2 => k ⟨(some ⟨o8,0,none⟩),(qlQ x0),1⟩ Hs2)
theorem qa1.link {x0 : Int} {H : AH} {k : Sl → AH → Prop} (h : qa1.b x0 H k) : qa1 x0 H k := lk1 pan hT hm Tryz.func53 (by kernel_rfl) (A := ann0) (by kernel_rfl) (by simp) (by kernel_rfl) h
def qbA.b (x0 : List Value) (x1 : Int) (H : AH) (k : Int → AH → Prop) : Prop :=
 newC H ⟨x0,.rw,0⟩ fun o2 H2 => ldA H2 ⟨o2,0,none⟩ 4 fun c5 => qbg c5 H2 fun b6 H6 => bcase (!b6) (k (-1 : Int) H6) (bcase (decide ((x1 : Int) < (0 : Int))) (k (-1 : Int) H6) (elI .i64 (AH.cell? H6 (qlL ⟨o2,0,none⟩ 0)) fun n15 => bcase (decide ((x1 : Int) ≥ n15)) (k (-1 : Int) H6) (k (qlJ .i64 ((16 : Int) + x1)) H6)))
theorem qbA.link {x0 : List Value} {x1 : Int} {H : AH} {k : Int → AH → Prop} (h : qbA.b x0 x1 H k) : qbA x0 x1 H k := lk1 pan hT hm Tryz.func55 (by kernel_rfl) (A := ann0) (by kernel_rfl) (by simp) (by kernel_rfl) h
def qa6.j1 (x0 : Option Addr) (H : AH) (k : Int → AH → Prop) (x5 : Bool) : Prop :=
 bcase x5 (k (1 : Int) H) (onPtr x0 fun a22 => elP (AH.cell? H (qlL a22 0)) fun p24 => qao p24 H fun b25 H25 => bcase b25 (k (2 : Int) H25) (k (0 : Int) H25))
def qa6.b (x0 : Option Addr) (x1 : Int) (H : AH) (k : Int → AH → Prop) : Prop :=
 bcase (qmb x0) (qa6.j1 x0 H k true) (bcase (decide ((x1 : Int) < (0 : Int))) (qa6.j1 x0 H k true) (onPtr x0 fun a15 => elI .i64 (AH.cell? H (qlL a15 2)) fun n17 => qa6.j1 x0 H k (decide ((x1 : Int) ≥ n17))))
theorem qa6.link {x0 : Option Addr} {x1 : Int} {H : AH} {k : Int → AH → Prop} (h : qa6.b x0 x1 H k) : qa6 x0 x1 H k := lk1 pan hT hm Tryz.func96 (by kernel_rfl) (A := ann0) (by kernel_rfl) (by simp) (by kernel_rfl) h
def qbw.b (x0 : Option Addr) (H : AH) (k : Int → AH → Prop) : Prop :=
 bcase (qmb x0) (k (0 : Int) H) (onPtr x0 fun a9 => elP (AH.cell? H (qlL a9 0)) fun p11 => qJ p11 (0 : Int) H fun n12a n12b H12 => k (qlJ .i64 n12a) H12)
theorem qbw.link {x0 : Option Addr} {H : AH} {k : Int → AH → Prop} (h : qbw.b x0 H k) : qbw x0 H k := lk1 pan hT hm Tryz.func99 (by kernel_rfl) (A := ann0) (by kernel_rfl) (by simp) (by kernel_rfl) h
def gap_may.b (x0 : Int) (x1 : Int) (H : AH) (k : Bool → AH → Prop) : Prop :=
 bcase (decide ((x0 : Int) ≥ (1 : Int))) (bcase (decide ((x0 : Int) ≤ (100000 : Int))) (k (decide ((x1 : Int) ≥ (0 : Int))) H) (k false H)) (k false H)
theorem gap_may.link {x0 : Int} {x1 : Int} {H : AH} {k : Bool → AH → Prop} (h : gap_may.b x0 x1 H k) : gap_may x0 x1 H k := lk1 pan hT hm Tryz.func134 (by kernel_rfl) (A := ann0) (by kernel_rfl) (by simp) (by kernel_rfl) h
def qcB.b (x0 : Int) (x1 : Int) (H : AH) (k : Int → AH → Prop) : Prop :=
 ((qlJ .i64 (x0 + (1 : Int))) : Int) ≠ 0 ∧ (x0 : Int) ≠ 0 ∧ k (qmS (qlJ .i64 (qm5 x1 (qlJ .i64 (x0 + (1 : Int))))) x0) H
theorem qcB.link {x0 : Int} {x1 : Int} {H : AH} {k : Int → AH → Prop} (h : qcB.b x0 x1 H k) : qcB x0 x1 H k := lk1 pan hT hm Tryz.func135 (by kernel_rfl) (A := ann0) (by kernel_rfl) (by simp) (by kernel_rfl) h
def gap_Gap.b (x0 : Int) (x1 : Int) (H : AH) (k : Int → AH → Prop) : Prop :=
 gap_may x0 x1 H fun b7 H7 => bcase (!b7) (k (-1 : Int) H7) (((qlJ .i64 (x0 + (1 : Int))) : Int) ≠ 0 ∧ k (qlJ .i64 (x0 - (qmS x1 (qlJ .i64 (x0 + (1 : Int)))))) H7)
theorem gap_Gap.link {x0 : Int} {x1 : Int} {H : AH} {k : Int → AH → Prop} (h : gap_Gap.b x0 x1 H k) : gap_Gap x0 x1 H k := lk1 pan hT hm Tryz.func136 (by kernel_rfl) (A := ann0) (by kernel_rfl) (by simp) (by kernel_rfl) h
def qbX.j1 (x0 : Int) (x1 : Int) (x2 : Int) (k : Int → AH → Prop) (H10 : AH) (x20 : Bool) : Prop :=
 bcase x20 (k (-1 : Int) H10) (qcB x0 x1 H10 fun n24 H24 => (x0 : Int) ≠ 0 ∧ gap_Gap x0 x1 H24 fun n31 H31 => bcase (decide (((qmS (qlJ .i64 (x2 + n24)) x0) : Int) ≥ n31)) (k (qlJ .i64 ((qmS (qlJ .i64 (x2 + n24)) x0) + (1 : Int))) H31) (k (qmS (qlJ .i64 (x2 + n24)) x0) H31))
def qbX.b (x0 : Int) (x1 : Int) (x2 : Int) (H : AH) (k : Int → AH → Prop) : Prop :=
 gap_may x0 x1 H fun b10 H10 => bcase (!b10) (qbX.j1 x0 x1 x2 k H10 true) (bcase (decide ((x2 : Int) < (0 : Int))) (qbX.j1 x0 x1 x2 k H10 true) (qbX.j1 x0 x1 x2 k H10 (decide ((x2 : Int) ≥ x0))))
theorem qbX.link {x0 : Int} {x1 : Int} {x2 : Int} {H : AH} {k : Int → AH → Prop} (h : qbX.b x0 x1 x2 H k) : qbX x0 x1 x2 H k := lk1 pan hT hm Tryz.func98 (by kernel_rfl) (A := ann0) (by kernel_rfl) (by simp) (by kernel_rfl) h
def qaH.l1 (x0 : Sl) (x1 : Int) (x2 : Int) (k : Int → AH → Prop) (t4 : Int × Int) (HL4 : AH) (it4 : (Int × Int) → AH → Prop) : Prop :=
 bcase (decide ((t4.2 : Int) ≥ (0 : Int))) ((0 ≤ t4.2 ∧ t4.2 < ((x0.n : Nat) : Int)) ∧ onPtr x0.a fun a24 => elI .u64 (AH.cell? HL4 (qlL a24 (qlQ t4.2 * 1))) fun n25 => bcase ((n25 : Int) == (qlJ .u64 ((qlJ .u64 x2) + (1 : Int)))) (k (qlJ .i64 (x1 + t4.2)) HL4) (it4 (t4.1,(qlJ .i64 (t4.2 - (1 : Int)))) HL4)) (k x2 HL4)
def qaH.j2 (x0 : Sl) (x1 : Int) (x2 : Int) (H : AH) (k : Int → AH → Prop) (x14 : Bool) : Prop :=
 bcase x14 (k (-1 : Int) H) (loopT (qaH.l1 x0 x1 x2 k) (((0 : Int),(qlJ .i64 (((x0.n : Nat) : Int) - (1 : Int)))) : Int × Int) H)
def qaH.b (x0 : Sl) (x1 : Int) (x2 : Int) (H : AH) (k : Int → AH → Prop) : Prop :=
 bcase (decide ((x2 : Int) < (0 : Int))) (qaH.j2 x0 x1 x2 H k true) (qaH.j2 x0 x1 x2 H k (decide ((x2 : Int) ≥ x1)))
def qaH.ann : Ann := { keep := fun r => match r with | 4 => [(6,.int .i64),(7,.int .i64)] | _ => [],ord := fun r => match r with  | _ => [] }
theorem qaH.link {x0 : Sl} {x1 : Int} {x2 : Int} {H : AH} {k : Int → AH → Prop} (h : qaH.b x0 x1 x2 H k) : qaH x0 x1 x2 H k := lk1 pan hT hm Tryz.func170 (by kernel_rfl) (A := qaH.ann) (by kernel_rfl) (by simp) (by kernel_rfl) h
def qaw.j1 (x0 : Option Addr) (x1 : Int) (H : AH) (k : Int → Sl → Int → AH → Prop) (x22 : Bool) : Prop :=
 bcase x22 (k (0 : Int) ⟨none,0,0⟩ (1 : Int) H) (qK x0 H fun s25a n25b H25 => onPtr x0 fun a30 => elI .i64 (AH.cell? H25 (qlL a30 1)) fun n32 => qaH s25a n32 x1 H25 fun n34 H34 => k n34 s25a n25b H34)
def qaw.b (x0 : Option Addr) (x1 : Int) (H : AH) (k : Int → Sl → Int → AH → Prop) : Prop :=
 bcase (qmb x0) (qaw.j1 x0 x1 H k true) (bcase (decide ((x1 : Int) < (0 : Int))) (qaw.j1 x0 x1 H k true) (onPtr x0 fun a18 => elI .i64 (AH.cell? H (qlL a18 1)) fun n20 => qaw.j1 x0 x1 H k (decide ((x1 : Int) ≥ n20))))
theorem qaw.link {x0 : Option Addr} {x1 : Int} {H : AH} {k : Int → Sl → Int → AH → Prop} (h : qaw.b x0 x1 H k) : qaw x0 x1 H k := lk3 pan hT hm Tryz.func132 (by kernel_rfl) (A := ann0) (by kernel_rfl) (by simp) (by simp) (by simp) (by kernel_rfl) h
def qbk.b (x0 : Option Addr) (x1 : Int) (H : AH) (k : Bool → AH → Prop) : Prop :=
 bcase (decide ((x1 : Int) ≥ (0 : Int))) (qai x0 H fun n10 H10 => k (decide ((x1 : Int) < n10)) H10) (k false H)
theorem qbk.link {x0 : Option Addr} {x1 : Int} {H : AH} {k : Bool → AH → Prop} (h : qbk.b x0 x1 H k) : qbk x0 x1 H k := lk1 pan hT hm Tryz.func171 (by kernel_rfl) (A := ann0) (by kernel_rfl) (by simp) (by kernel_rfl) h
def qbI.b (x0 : Option Addr) (x1 : Int) (H : AH) (k : List Value → Int → AH → Prop) : Prop :=
 newC H ⟨[(qlI .u64 (0 : Int)),(qlI .u64 (0 : Int)),(qlI .u64 (0 : Int)),(qlI .u64 (0 : Int)),(qlI .u64 (0 : Int)),(qlI .u64 (0 : Int)),(qlI .u64 (0 : Int)),(qlI .u64 (0 : Int))],.rw,0⟩ fun o4 H4 => qbk x0 x1 H4 fun b9 H9 => bcase (!b9) ((qlY [(qlI .u64 (0 : Int)),(qlI .u64 (0 : Int)),(qlI .u64 (0 : Int)),(qlI .u64 (0 : Int)),(qlI .u64 (0 : Int)),(qlI .u64 (0 : Int)),(qlI .u64 (0 : Int)),(qlI .u64 (0 : Int))] = 8 ∧ qmq [(qlI .u64 (0 : Int)),(qlI .u64 (0 : Int)),(qlI .u64 (0 : Int)),(qlI .u64 (0 : Int)),(qlI .u64 (0 : Int)),(qlI .u64 (0 : Int)),(qlI .u64 (0 : Int)),(qlI .u64 (0 : Int))] qo = true) ∧ stC H9 ⟨o4,0,none⟩ [(qlI .u64 (0 : Int)),(qlI .u64 (0 : Int)),(qlI .u64 (0 : Int)),(qlI .u64 (0 : Int)),(qlI .u64 (0 : Int)),(qlI .u64 (0 : Int)),(qlI .u64 (0 : Int)),(qlI .u64 (0 : Int))] fun Hs2 => ldA Hs2 ⟨o4,0,none⟩ 8 fun r0 => k r0 (1 : Int) Hs2) (onPtr x0 fun a14 => elB (AH.cell? H9 (qlL a14 39)) fun b16 => bcase b16 ((qlY [(qlI .u64 (0 : Int)),(qlI .u64 (0 : Int)),(qlI .u64 (0 : Int)),(qlI .u64 (0 : Int)),(qlI .u64 (0 : Int)),(qlI .u64 (0 : Int)),(qlI .u64 (0 : Int)),(qlI .u64 (0 : Int))] = 8 ∧ qmq [(qlI .u64 (0 : Int)),(qlI .u64 (0 : Int)),(qlI .u64 (0 : Int)),(qlI .u64 (0 : Int)),(qlI .u64 (0 : Int)),(qlI .u64 (0 : Int)),(qlI .u64 (0 : Int)),(qlI .u64 (0 : Int))] qo = true) ∧ stC H9 ⟨o4,0,none⟩ [(qlI .u64 (0 : Int)),(qlI .u64 (0 : Int)),(qlI .u64 (0 : Int)),(qlI .u64 (0 : Int)),(qlI .u64 (0 : Int)),(qlI .u64 (0 : Int)),(qlI .u64 (0 : Int)),(qlI .u64 (0 : Int))] fun Hs4 => ldA Hs4 ⟨o4,0,none⟩ 8 fun r0 => k r0 (2 : Int) Hs4) (onPtr x0 fun a19 => elL (AH.cell? H9 (qlL a19 0)) fun s21 => (0 ≤ x1 ∧ x1 < ((s21.n : Nat) : Int)) ∧ onPtr s21.a fun a23 => ldA H9 (qlL (qlL a23 (qlQ x1 * 10)) 0) 8 fun c25 => (qlY c25 = 8 ∧ qmq c25 qo = true) ∧ stC H9 ⟨o4,0,none⟩ c25 fun Hs6 => ldA Hs6 ⟨o4,0,none⟩ 8 fun r0 => k r0 (0 : Int) Hs6))
theorem qbI.link {x0 : Option Addr} {x1 : Int} {H : AH} {k : List Value → Int → AH → Prop} (h : qbI.b x0 x1 H k) : qbI x0 x1 H k := lk2 pan hT hm Tryz.func133 (by kernel_rfl) (A := ann0) (by kernel_rfl) (by simp) (by simp) (by kernel_rfl) h
def qbR.b (x0 : Option Addr) (x1 : Int) (H : AH) (k : List Value → Int → AH → Prop) : Prop :=
 newC H ⟨[(qlI .u64 (0 : Int)),(qlI .u64 (0 : Int)),(qlI .u64 (0 : Int)),(qlI .u64 (0 : Int)),(qlI .u64 (0 : Int)),(qlI .u64 (0 : Int)),(qlI .u64 (0 : Int)),(qlI .u64 (0 : Int))],.rw,0⟩ fun o4 H4 => qaw x0 x1 H4 fun n12a s12b n12c H12 => bcase ((n12c : Int) != (0 : Int)) ((qlY [(qlI .u64 (0 : Int)),(qlI .u64 (0 : Int)),(qlI .u64 (0 : Int)),(qlI .u64 (0 : Int)),(qlI .u64 (0 : Int)),(qlI .u64 (0 : Int)),(qlI .u64 (0 : Int)),(qlI .u64 (0 : Int))] = 8 ∧ qmq [(qlI .u64 (0 : Int)),(qlI .u64 (0 : Int)),(qlI .u64 (0 : Int)),(qlI .u64 (0 : Int)),(qlI .u64 (0 : Int)),(qlI .u64 (0 : Int)),(qlI .u64 (0 : Int)),(qlI .u64 (0 : Int))] qo = true) ∧ stC H12 ⟨o4,0,none⟩ [(qlI .u64 (0 : Int)),(qlI .u64 (0 : Int)),(qlI .u64 (0 : Int)),(qlI .u64 (0 : Int)),(qlI .u64 (0 : Int)),(qlI .u64 (0 : Int)),(qlI .u64 (0 : Int)),(qlI .u64 (0 : Int))] fun Hs2 => ldA Hs2 ⟨o4,0,none⟩ 8 fun r0 => k r0 n12c Hs2) (onPtr x0 fun a21 => elP (AH.cell? H12 (qlL a21 0)) fun p23 => qbI p23 n12a H12 fun c25a n25b H25 => (qlY c25a = 8 ∧ qmq c25a qo = true) ∧ stC H25 ⟨o4,0,none⟩ c25a fun Hs4 => ldA Hs4 ⟨o4,0,none⟩ 8 fun r0 => k r0 n25b Hs4)
theorem qbR.link {x0 : Option Addr} {x1 : Int} {H : AH} {k : List Value → Int → AH → Prop} (h : qbR.b x0 x1 H k) : qbR x0 x1 H k := lk2 pan hT hm Tryz.func97 (by kernel_rfl) (A := ann0) (by kernel_rfl) (by simp) (by simp) (by kernel_rfl) h
def qa5.b (x0 : Option Addr) (x1 : Int) (H : AH) (k : List Value → Int → AH → Prop) : Prop :=
 newC H ⟨[(qlI .u64 (0 : Int)),(qlI .u64 (0 : Int)),(qlI .u64 (0 : Int)),(qlI .u64 (0 : Int)),(qlI .u64 (0 : Int)),(qlI .u64 (0 : Int)),(qlI .u64 (0 : Int)),(qlI .u64 (0 : Int))],.rw,0⟩ fun o4 H4 => qa6 x0 x1 H4 fun n9 H9 => bcase ((n9 : Int) != (0 : Int)) ((qlY [(qlI .u64 (0 : Int)),(qlI .u64 (0 : Int)),(qlI .u64 (0 : Int)),(qlI .u64 (0 : Int)),(qlI .u64 (0 : Int)),(qlI .u64 (0 : Int)),(qlI .u64 (0 : Int)),(qlI .u64 (0 : Int))] = 8 ∧ qmq [(qlI .u64 (0 : Int)),(qlI .u64 (0 : Int)),(qlI .u64 (0 : Int)),(qlI .u64 (0 : Int)),(qlI .u64 (0 : Int)),(qlI .u64 (0 : Int)),(qlI .u64 (0 : Int)),(qlI .u64 (0 : Int))] qo = true) ∧ stC H9 ⟨o4,0,none⟩ [(qlI .u64 (0 : Int)),(qlI .u64 (0 : Int)),(qlI .u64 (0 : Int)),(qlI .u64 (0 : Int)),(qlI .u64 (0 : Int)),(qlI .u64 (0 : Int)),(qlI .u64 (0 : Int)),(qlI .u64 (0 : Int))] fun Hs2 => ldA Hs2 ⟨o4,0,none⟩ 8 fun r0 => k r0 n9 Hs2) (onPtr x0 fun a15 => elP (AH.cell? H9 (qlL a15 1)) fun p17 => onPtr x0 fun a19 => elI .i64 (AH.cell? H9 (qlL a19 2)) fun n21 => qbw x0 H9 fun n23 H23 => AH.cell? H23 (qlL a19 2) = some (qlI .i64 n21) ∧ AH.cell? H23 (qlL a15 1) = some (qlO p17) ∧ qbX n21 n23 x1 H23 fun n25 H25 => AH.cell? H25 (qlL a15 1) = some (qlO p17) ∧ qbR p17 n25 H25 fun c26a n26b H26 => (qlY c26a = 8 ∧ qmq c26a qo = true) ∧ stC H26 ⟨o4,0,none⟩ c26a fun Hs4 => ldA Hs4 ⟨o4,0,none⟩ 8 fun r0 => k r0 n26b Hs4)
def qa5.ann : Ann := { keep := fun r => match r with  | _ => [],ord := fun r => match r with | 4 => [0,1,2,3,4,5,6,7,8,10,9,11,12,13,14,15,16] | _ => [] }
theorem qa5.link {x0 : Option Addr} {x1 : Int} {H : AH} {k : List Value → Int → AH → Prop} (h : qa5.b x0 x1 H k) : qa5 x0 x1 H k := lk2 pan hT hm Tryz.func54 (by kernel_rfl) (A := qa5.ann) (by kernel_rfl) (by simp) (by simp) (by kernel_rfl) h
def qbr.b (x0 : Sl) (x1 : Int) (H : AH) (k : List Value → AH → Prop) : Prop :=
 newC H ⟨[(qlI .u64 (0 : Int)),(qlI .u64 (0 : Int)),(qlI .u64 (0 : Int)),(qlI .u64 (0 : Int)),(qlI .u64 (0 : Int)),(qlI .u64 (0 : Int)),(qlI .u64 (0 : Int)),(qlI .u64 (0 : Int))],.rw,0⟩ fun o4 H4 => newC H4 ⟨[(qlI .u64 (0 : Int)),(qlI .u64 (0 : Int)),(qlI .u64 (0 : Int)),(qlI .u64 (0 : Int)),(qlI .u64 (0 : Int)),(qlI .u64 (0 : Int)),(qlI .u64 (0 : Int)),(qlI .u64 (0 : Int))],.rw,0⟩ fun o5 H5 => (0 ≤ (qlJ .i64 (x1 * (8 : Int))) ∧ (qlJ .i64 (x1 * (8 : Int))) ≤ ((x0.n : Nat) : Int)) ∧ copyC 1 H5 ⟨(some ⟨o5,0,none⟩),8,0⟩ ⟨(Option.map (fun x => qlL x (qlQ (qlJ .i64 (x1 * (8 : Int))) * 1)) x0.a),(x0.n - qlQ (qlJ .i64 (x1 * (8 : Int)))),0⟩ fun n11 H11 => ldA H11 ⟨o5,0,none⟩ 8 fun c12 => (qlY c12 = 8 ∧ qmq c12 qo = true) ∧ stC H11 ⟨o4,0,none⟩ c12 fun Hs2 => ldA Hs2 ⟨o4,0,none⟩ 8 fun r0 => k r0 Hs2
def qbr.ann : Ann := { keep := fun r => match r with  | _ => [],ord := fun r => match r with | 2 => [0,1,2,3,4,5] | _ => [] }
theorem qbr.link {x0 : Sl} {x1 : Int} {H : AH} {k : List Value → AH → Prop} (h : qbr.b x0 x1 H k) : qbr x0 x1 H k := lk1 pan hT hm Tryz.func56 (by kernel_rfl) (A := qbr.ann) (by kernel_rfl) (by simp) (by kernel_rfl) h
def qcY.b (x0 : Int) (x1 : Int) (H : AH) (k : Int → Int → AH → Prop) : Prop :=
 gap_Gap x0 x1 H fun n8 H8 => bcase ((n8 : Int) == (-1 : Int)) (k (-1 : Int) (-1 : Int) H8) (bcase ((n8 : Int) == (0 : Int)) (k x0 (0 : Int) H8) (k (qlJ .i64 (n8 - (1 : Int))) n8 H8))
theorem qcY.link {x0 : Int} {x1 : Int} {H : AH} {k : Int → Int → AH → Prop} (h : qcY.b x0 x1 H k) : qcY x0 x1 H k := lk2 pan hT hm Tryz.func137 (by kernel_rfl) (A := ann0) (by kernel_rfl) (by simp) (by simp) (by kernel_rfl) h
def qaV.b (x0 : Option Addr) (H : AH) (k : Int → AH → Prop) : Prop :=
 onPtr x0 fun a4 => elI .i64 (AH.cell? H (qlL a4 36)) fun n6 => onPtr x0 fun a8 => stC H (qlL a8 36) [(qlI .i64 (qlJ .i64 (n6 + (1 : Int))))] fun Hs2 => onPtr x0 fun a12 => elI .i64 (AH.cell? Hs2 (qlL a12 37)) fun n14 => bcase ((n14 : Int) == (0 : Int)) (onPtr x0 fun a17 => stC Hs2 (qlL a17 39) [(qmD true)] fun Hs4 => onPtr x0 fun a20 => elI .i64 (AH.cell? Hs4 (qlL a20 38)) fun n22 => k n22 Hs4) (onPtr x0 fun a25 => elI .i64 (AH.cell? Hs2 (qlL a25 37)) fun n27 => bcase (decide ((n27 : Int) > (0 : Int))) (onPtr x0 fun a30 => elI .i64 (AH.cell? Hs2 (qlL a30 37)) fun n32 => onPtr x0 fun a34 => stC Hs2 (qlL a34 37) [(qlI .i64 (qlJ .i64 (n32 - (1 : Int))))] fun Hs6 => k (-1 : Int) Hs6) (k (-1 : Int) Hs2))
theorem qaV.link {x0 : Option Addr} {H : AH} {k : Int → AH → Prop} (h : qaV.b x0 H k) : qaV x0 H k := lk1 pan hT hm Tryz.func156 (by kernel_rfl) (A := ann0) (by kernel_rfl) (by simp) (by kernel_rfl) h
def qbQ.j1 (k : List Value → AH → Prop) (o3 : Nat) (o6 : Nat) (HL2 : AH) : Prop :=
 ldA HL2 ⟨o3,0,none⟩ 8 fun c23 => (qlY c23 = 8 ∧ qmq c23 qo = true) ∧ stC HL2 ⟨o6,0,none⟩ c23 fun Hs2 => ldA Hs2 ⟨o6,0,none⟩ 8 fun r0 => k r0 Hs2
def qbQ.l2 (x2 : Int) (k : List Value → AH → Prop) (o3 : Nat) (o6 : Nat) (c9 : List Value) (t2 : Int) (HL2 : AH) (it2 : (Int) → AH → Prop) : Prop :=
 bcase (decide ((t2 : Int) < (8 : Int))) ((0 ≤ t2 ∧ t2 < ((8 : Nat) : Int)) ∧ elI .u64 ((c9)[(qlQ t2 * 1)]?) fun n13 => (0 : Int) ≤ t2 ∧ bcase (((andI .i64 (shrI .i64 x2 t2) (1 : Int)) : Int) == (1 : Int)) ((0 ≤ t2 ∧ t2 < ((8 : Nat) : Int)) ∧ stC HL2 (qlL ⟨o3,0,none⟩ (qlQ t2 * 1)) [(qlI .u64 n13)] fun Hs4 => it2 (qlJ .i64 (t2 + (1 : Int))) Hs4) (it2 (qlJ .i64 (t2 + (1 : Int))) HL2)) (qbQ.j1 k o3 o6 HL2)
def qbQ.b (x0 : List Value) (x1 : List Value) (x2 : Int) (H : AH) (k : List Value → AH → Prop) : Prop :=
 newC H ⟨x0,.rw,0⟩ fun o3 H3 => newC H3 ⟨x1,.rw,0⟩ fun o4 H4 => newC H4 ⟨[(qlI .u64 (0 : Int)),(qlI .u64 (0 : Int)),(qlI .u64 (0 : Int)),(qlI .u64 (0 : Int)),(qlI .u64 (0 : Int)),(qlI .u64 (0 : Int)),(qlI .u64 (0 : Int)),(qlI .u64 (0 : Int))],.rw,0⟩ fun o6 H6 => ldA H6 ⟨o4,0,none⟩ 8 fun c9 => loopT (qbQ.l2 x2 k o3 o6 c9) (((0 : Int)) : Int) H6
def qbQ.ann : Ann := { keep := fun r => match r with | 2 => [(10,.int .i64)] | _ => [],ord := fun r => match r with  | _ => [] }
theorem qbQ.link {x0 : List Value} {x1 : List Value} {x2 : Int} {H : AH} {k : List Value → AH → Prop} (h : qbQ.b x0 x1 x2 H k) : qbQ x0 x1 x2 H k := lk1 pan hT hm Tryz.func172 (by kernel_rfl) (A := qbQ.ann) (by kernel_rfl) (by simp) (by kernel_rfl) h
def qaK.b (x0 : Option Addr) (x1 : Bool) (H : AH) (k : Int → AH → Prop) : Prop :=
 onPtr x0 fun a7 => elB (AH.cell? H (qlL a7 39)) fun b9 => bcase b9 (k (2 : Int) H) (bcase x1 (k (3 : Int) H) (k (0 : Int) H))
theorem qaK.link {x0 : Option Addr} {x1 : Bool} {H : AH} {k : Int → AH → Prop} (h : qaK.b x0 x1 H k) : qaK x0 x1 H k := lk1 pan hT hm Tryz.func157 (by kernel_rfl) (A := ann0) (by kernel_rfl) (by simp) (by kernel_rfl) h
def qU.j1 (x0 : Option Addr) (k : Int → AH → Prop) (x9 : Bool) (Hj : AH) : Prop :=
 qaK x0 x9 Hj fun n65 H65 => k n65 H65
def qU.j2 (x0 : Option Addr) (x1 : Int) (k : Int → AH → Prop) (o5 : Nat) (H21 : AH) (n21 : Int) (a27 : Addr) (x9 : Bool) : Prop :=
 bcase (!x9) (ldA H21 (qlL (qlL a27 (qlQ x1 * 10)) 0) 8 fun c50 => ldA H21 ⟨o5,0,none⟩ 8 fun c51 => qbQ c50 c51 n21 H21 fun c53 H53 => (qlY c53 = 8 ∧ qmq c53 qo = true) ∧ stC H53 (qlL (qlL a27 (qlQ x1 * 10)) 0) c53 fun Hs2 => elI .i64 (AH.cell? Hs2 (qlL (qlL a27 (qlQ x1 * 10)) 8)) fun n59 => stC Hs2 (qlL (qlL a27 (qlQ x1 * 10)) 8) [(qlI .i64 (qlJ .i64 (n59 + (1 : Int))))] fun Hs4 => qU.j1 x0 k x9 Hs4) (qU.j1 x0 k x9 H21)
def qU.b (x0 : Option Addr) (x1 : Int) (x2 : List Value) (H : AH) (k : Int → AH → Prop) : Prop :=
 newC H ⟨x2,.rw,0⟩ fun o5 H5 => qbk x0 x1 H5 fun b13 H13 => bcase (!b13) (k (1 : Int) H13) (onPtr x0 fun a17 => elB (AH.cell? H13 (qlL a17 39)) fun b19 => bcase b19 (k (2 : Int) H13) (qaV x0 H13 fun n21 H21 => onPtr x0 fun a23 => elL (AH.cell? H21 (qlL a23 0)) fun s25 => (0 ≤ x1 ∧ x1 < ((s25.n : Nat) : Int)) ∧ onPtr s25.a fun a27 => elI .i64 (AH.cell? H21 (qlL (qlL a27 (qlQ x1 * 10)) 9)) fun n31 => bcase (decide ((n31 : Int) ≥ (0 : Int))) (elI .i64 (AH.cell? H21 (qlL (qlL a27 (qlQ x1 * 10)) 8)) fun n37 => elI .i64 (AH.cell? H21 (qlL (qlL a27 (qlQ x1 * 10)) 9)) fun n41 => qU.j2 x0 x1 k o5 H21 n21 a27 (decide ((n37 : Int) ≥ n41))) (qU.j2 x0 x1 k o5 H21 n21 a27 false)))
def qU.ann : Ann := { keep := fun r => match r with  | _ => [],ord := fun r => match r with | 7 => [0,1,2,3,4,5,6,7,8,9,10,11,12,13,14,15,16] | 9 => [0,1,2,3,4,5,6,7,8,9,10] | _ => [] }
theorem qU.link {x0 : Option Addr} {x1 : Int} {x2 : List Value} {H : AH} {k : Int → AH → Prop} (h : qU.b x0 x1 x2 H k) : qU x0 x1 x2 H k := lk1 pan hT hm Tryz.func138 (by kernel_rfl) (A := qU.ann) (by kernel_rfl) (by simp) (by kernel_rfl) h
def qbD.l1 (x0 : Sl) (k : Int → AH → Prop) (t2 : Int × Int) (HL2 : AH) (it2 : (Int × Int) → AH → Prop) : Prop :=
 bcase (decide ((t2.2 : Int) < ((x0.n : Nat) : Int))) ((0 ≤ t2.2 ∧ t2.2 < ((x0.n : Nat) : Int)) ∧ onPtr x0.a fun a10 => elI .u64 (AH.cell? HL2 (qlL a10 (qlQ t2.2 * 1))) fun n11 => bcase ((n11 : Int) == (0 : Int)) (k t2.2 HL2) (it2 (t2.1,(qlJ .i64 (t2.2 + (1 : Int)))) HL2)) (k (-1 : Int) HL2)
def qbD.b (x0 : Sl) (H : AH) (k : Int → AH → Prop) : Prop :=
 loopT (qbD.l1 x0 k) (((0 : Int),(0 : Int)) : Int × Int) H
def qbD.ann : Ann := { keep := fun r => match r with | 2 => [(2,.int .i64),(7,.int .i64)] | _ => [],ord := fun r => match r with  | _ => [] }
theorem qbD.link {x0 : Sl} {H : AH} {k : Int → AH → Prop} (h : qbD.b x0 H k) : qbD x0 H k := lk1 pan hT hm Tryz.func139 (by kernel_rfl) (A := qbD.ann) (by kernel_rfl) (by simp) (by kernel_rfl) h
def qG.j1 (x0 : Option Addr) (k : Int → AH → Prop) (Hj : AH) : Prop :=
 qaK x0 false Hj fun n28 H28 => k n28 H28
def qG.b (x0 : Option Addr) (x1 : Int) (x2 : Int) (H : AH) (k : Int → AH → Prop) : Prop :=
 qaN x0 x1 H fun b10 H10 => bcase (!b10) (k (1 : Int) H10) (onPtr x0 fun a14 => elB (AH.cell? H10 (qlL a14 39)) fun b16 => bcase b16 (k (2 : Int) H10) (qaV x0 H10 fun n18 H18 => bcase (((andI .i64 n18 (1 : Int)) : Int) == (1 : Int)) (onPtr x0 fun a24 => (0 ≤ x1 ∧ x1 < ((35 : Nat) : Int)) ∧ stC H18 (qlL (qlL a24 1) (qlQ x1 * 1)) [(qlI .u64 x2)] fun Hs2 => qG.j1 x0 k Hs2) (qG.j1 x0 k H18)))
theorem qG.link {x0 : Option Addr} {x1 : Int} {x2 : Int} {H : AH} {k : Int → AH → Prop} (h : qG.b x0 x1 x2 H k) : qG x0 x1 x2 H k := lk1 pan hT hm Tryz.func118 (by kernel_rfl) (A := ann0) (by kernel_rfl) (by simp) (by kernel_rfl) h
def qaC.l1 (x0 : Option Addr) (x1 : Int) (k : Int → AH → Prop) (o5 : Nat) (t11 : Int × Int) (HL11 : AH) (it11 : (Int × Int) → AH → Prop) : Prop :=
 onPtr x0 fun a43 => elI .i64 (AH.cell? HL11 (qlL a43 2)) fun n45 => bcase (decide ((t11.2 : Int) < n45)) (onPtr x0 fun a53 => elP (AH.cell? HL11 (qlL a53 0)) fun p55 => onPtr x0 fun a57 => elI .i64 (AH.cell? HL11 (qlL a57 1)) fun n59 => ldA HL11 ⟨o5,0,none⟩ 8 fun c62 => qU p55 (qlJ .i64 (n59 + t11.2)) c62 HL11 fun n63 H63 => bcase ((n63 : Int) == (0 : Int)) (onPtr x0 fun a69 => elP (AH.cell? H63 (qlL a69 0)) fun p71 => qG p71 (qlJ .i64 ((3 : Int) + t11.2)) (qlJ .u64 ((qlJ .u64 x1) + (1 : Int))) H63 fun n75 H75 => k n75 H75) (bcase ((n63 : Int) == (3 : Int)) (onPtr x0 fun a79 => elI .i64 (AH.cell? H63 (qlL a79 1)) fun n81 => qcf n81 H63 fun n82 H82 => onPtr x0 fun a84 => elP (AH.cell? H82 (qlL a84 0)) fun p86 => qG p86 (qlJ .i64 ((3 : Int) + t11.2)) n82 H82 fun n90 H90 => bcase ((n90 : Int) != (0 : Int)) (k n90 H90) (it11 (t11.1,(qlJ .i64 (t11.2 + (1 : Int)))) H90)) (k n63 H63))) (k (3 : Int) HL11)
def qaC.b (x0 : Option Addr) (x1 : Int) (x2 : List Value) (H : AH) (k : Int → AH → Prop) : Prop :=
 newC H ⟨x2,.rw,0⟩ fun o5 H5 => qaw x0 x1 H5 fun n19a s19b n19c H19 => bcase ((n19c : Int) != (0 : Int)) (k n19c H19) (onPtr x0 fun a27 => elP (AH.cell? H19 (qlL a27 0)) fun p29 => ldA H19 ⟨o5,0,none⟩ 8 fun c31 => qU p29 n19a c31 H19 fun n32 H32 => bcase ((n32 : Int) != (3 : Int)) (k n32 H32) (qbD s19b H32 fun n37 H37 => bcase (decide ((n37 : Int) < (0 : Int))) (k (3 : Int) H37) (loopT (qaC.l1 x0 x1 k o5) (((0 : Int),n37) : Int × Int) H37)))
def qaC.ann : Ann := { keep := fun r => match r with | 11 => [(6,.int .i64),(12,.int .i64)] | _ => [],ord := fun r => match r with | 4 => [0,1,2,3,4,5,6,7] | 14 => [0,1,2,3,4,5,6,7,8,9,10,11,12] | _ => [] }
theorem qaC.link {x0 : Option Addr} {x1 : Int} {x2 : List Value} {H : AH} {k : Int → AH → Prop} (h : qaC.b x0 x1 x2 H k) : qaC x0 x1 x2 H k := lk1 pan hT hm Tryz.func101 (by kernel_rfl) (A := qaC.ann) (by kernel_rfl) (by simp) (by kernel_rfl) h
def qbH.b (x0 : Option Addr) (H : AH) (k : Int → AH → Prop) : Prop :=
 qbw x0 H fun n10 H10 => onPtr x0 fun a13 => elI .i64 (AH.cell? H10 (qlL a13 2)) fun n15 => qcY n15 n10 H10 fun n17a n17b H17 => onPtr x0 fun a22 => elP (AH.cell? H17 (qlL a22 1)) fun p24 => qbR p24 n17a H17 fun c26a n26b H26 => newC H26 ⟨[(qlI .u64 (0 : Int)),(qlI .u64 (0 : Int)),(qlI .u64 (0 : Int)),(qlI .u64 (0 : Int)),(qlI .u64 (0 : Int)),(qlI .u64 (0 : Int)),(qlI .u64 (0 : Int)),(qlI .u64 (0 : Int))],.rw,0⟩ fun o6 H6 => (qlY c26a = 8 ∧ qmq c26a qo = true) ∧ stC H6 ⟨o6,0,none⟩ c26a fun Hs2 => bcase ((n26b : Int) != (0 : Int)) (k n26b Hs2) (onPtr x0 fun a33 => elP (AH.cell? Hs2 (qlL a33 1)) fun p35 => ldA Hs2 ⟨o6,0,none⟩ 8 fun c37 => qaC p35 n17b c37 Hs2 fun n38 H38 => bcase ((n38 : Int) != (0 : Int)) (k n38 H38) (onPtr x0 fun a43 => elP (AH.cell? H38 (qlL a43 0)) fun p45 => qG p45 (0 : Int) (qlJ .u64 ((qlJ .u64 n10) + (1 : Int))) H38 fun n49 H49 => k n49 H49))
def qbH.ann : Ann := { keep := fun r => match r with  | _ => [],ord := fun r => match r with | 6 => [0,1,2,3,4,5,6,7] | _ => [] }
theorem qbH.link {x0 : Option Addr} {H : AH} {k : Int → AH → Prop} (h : qbH.b x0 H k) : qbH x0 H k := lk1 pan hT hm Tryz.func100 (by kernel_rfl) (A := qbH.ann) (by kernel_rfl) (by simp) (by kernel_rfl) h
def qaG.j1 (x0 : Option Addr) (x1 : Int) (k : Int → AH → Prop) (o5 : Nat) (Hj : AH) : Prop :=
 onPtr x0 fun a40 => elP (AH.cell? Hj (qlL a40 1)) fun p42 => onPtr x0 fun a44 => elI .i64 (AH.cell? Hj (qlL a44 2)) fun n46 => ldA Hj ⟨o5,0,none⟩ 8 fun c51 => qbw x0 Hj fun n48 H48 => AH.row? H48 ⟨o5,0,none⟩ 8 = some c51 ∧ AH.cell? H48 (qlL a44 2) = some (qlI .i64 n46) ∧ AH.cell? H48 (qlL a40 1) = some (qlO p42) ∧ qbX n46 n48 x1 H48 fun n50 H50 => AH.row? H50 ⟨o5,0,none⟩ 8 = some c51 ∧ AH.cell? H50 (qlL a40 1) = some (qlO p42) ∧ qaC p42 n50 c51 H50 fun n52 H52 => k n52 H52
def qaG.b (x0 : Option Addr) (x1 : Int) (x2 : List Value) (H : AH) (k : Int → AH → Prop) : Prop :=
 newC H ⟨x2,.rw,0⟩ fun o5 H5 => qa6 x0 x1 H5 fun n11 H11 => bcase ((n11 : Int) != (0 : Int)) (k n11 H11) (onPtr x0 fun a16 => elI .i64 (AH.cell? H11 (qlL a16 4)) fun n18 => onPtr x0 fun a20 => stC H11 (qlL a20 4) [(qlI .i64 (qlJ .i64 (n18 + (1 : Int))))] fun Hs2 => onPtr x0 fun a23 => elI .i64 (AH.cell? Hs2 (qlL a23 4)) fun n25 => onPtr x0 fun a27 => elI .i64 (AH.cell? Hs2 (qlL a27 3)) fun n29 => bcase ((n25 : Int) == n29) (onPtr x0 fun a32 => stC Hs2 (qlL a32 4) [(qlI .i64 (0 : Int))] fun Hs4 => qbH x0 Hs4 fun n35 H35 => bcase ((n35 : Int) != (0 : Int)) (k n35 H35) (qaG.j1 x0 x1 k o5 H35)) (qaG.j1 x0 x1 k o5 Hs2))
def qaG.ann : Ann := { keep := fun r => match r with  | _ => [],ord := fun r => match r with | 5 => [0,1,2,3,4,5,6,7,8] | 10 => [0,1,2,3,4,5,6,7,8,10,12,9,11,13,14] | _ => [] }
theorem qaG.link {x0 : Option Addr} {x1 : Int} {x2 : List Value} {H : AH} {k : Int → AH → Prop} (h : qaG.b x0 x1 x2 H k) : qaG x0 x1 x2 H k := lk1 pan hT hm Tryz.func57 (by kernel_rfl) (A := qaG.ann) (by kernel_rfl) (by simp) (by kernel_rfl) h
def qL.j1 (k : Int → AH → Prop) (t14 : Int × Int) (it14 : (Int × Int) → AH → Prop) (x13 : Int) (Hj : AH) : Prop :=
 bcase ((x13 : Int) != (0 : Int)) (k x13 Hj) (it14 (t14.1,(qlJ .i64 (t14.2 + (1 : Int)))) Hj)
def qL.j2 (k : Int → AH → Prop) (o3 : Nat) (p34 : Option Addr) (s37 : Sl) (t14 : Int × Int) (it14 : (Int × Int) → AH → Prop) (n48b : Int) (x59 : Bool) (Hj : AH) : Prop :=
 bcase x59 (ldA Hj ⟨o3,0,none⟩ 4 fun c61 => qbA c61 t14.2 Hj fun n63 H63 => qbr s37 t14.2 H63 fun c66 H66 => qaG p34 n63 c66 H66 fun n67 H67 => qL.j1 k t14 it14 n67 H67) (qL.j1 k t14 it14 n48b Hj)
def qL.l3 (k : Int → AH → Prop) (o3 : Nat) (p34 : Option Addr) (s37 : Sl) (n39 : Int) (t14 : Int × Int) (HL14 : AH) (it14 : (Int × Int) → AH → Prop) : Prop :=
 bcase (decide ((t14.2 : Int) < n39)) (ldA HL14 ⟨o3,0,none⟩ 4 fun c45 => qbA c45 t14.2 HL14 fun n47 H47 => qa5 p34 n47 H47 fun c48a n48b H48 => newC H48 ⟨[(qlI .u64 (0 : Int)),(qlI .u64 (0 : Int)),(qlI .u64 (0 : Int)),(qlI .u64 (0 : Int)),(qlI .u64 (0 : Int)),(qlI .u64 (0 : Int)),(qlI .u64 (0 : Int)),(qlI .u64 (0 : Int))],.rw,0⟩ fun o12 H12 => (qlY c48a = 8 ∧ qmq c48a qo = true) ∧ stC H12 ⟨o12,0,none⟩ c48a fun Hs2 => bcase ((n48b : Int) == (0 : Int)) (ldA Hs2 ⟨o12,0,none⟩ 8 fun c54 => qbr s37 t14.2 Hs2 fun c57 H57 => AH.row? H57 ⟨o12,0,none⟩ 8 = some c54 ∧ elO (eqCells (List.replicate 8 (K.int .u64)) c54 c57) fun e58 => qL.j2 k o3 p34 s37 t14 it14 n48b (!e58) H57) (qL.j2 k o3 p34 s37 t14 it14 n48b false Hs2)) (k (0 : Int) HL14)
def qL.j4 (x0 : Option Addr) (k : Int → AH → Prop) (o3 : Nat) (t5 : Int × Int) (HL5 : AH) : Prop :=
 ldA HL5 ⟨o3,0,none⟩ 4 fun c33 => qbT x0 c33 HL5 fun p34 H34 => ldA H34 ⟨o3,0,none⟩ 4 fun c35 => qb6 c35 H34 fun n36 H36 => qa1 n36 H36 fun s37 H37 => elI .i64 (AH.cell? H37 (qlL ⟨o3,0,none⟩ 0)) fun n39 => loopT (qL.l3 k o3 p34 s37 n39) ((t5.1,(0 : Int)) : Int × Int) H37
def qL.l5 (x0 : Option Addr) (k : Int → AH → Prop) (o3 : Nat) (t5 : Int × Int) (HL5 : AH) (it5 : (Int × Int) → AH → Prop) : Prop :=
 bcase (decide ((t5.2 : Int) < (35 : Int))) (qJ x0 t5.2 HL5 fun n26a n26b H26 => bcase ((n26a : Int) != (0 : Int)) (k (5 : Int) H26) (it5 (t5.1,(qlJ .i64 (t5.2 + (1 : Int)))) H26)) (qL.j4 x0 k o3 t5 HL5)
def qL.b (x0 : Option Addr) (x1 : List Value) (H : AH) (k : Int → AH → Prop) : Prop :=
 newC H ⟨x1,.rw,0⟩ fun o3 H3 => ldA H3 ⟨o3,0,none⟩ 4 fun c15 => qbN x0 c15 H3 fun n16 H16 => bcase ((n16 : Int) != (0 : Int)) (k n16 H16) (loopT (qL.l5 x0 k o3) (((0 : Int),(0 : Int)) : Int × Int) H16)
def qL.ann : Ann := { keep := fun r => match r with | 5 => [(4,.int .i64),(20,.int .i64)] | 14 => [(4,.int .i64),(40,.int .i64)] | _ => [],ord := fun r => match r with | 17 => [0,1,2,3,4,5,6,7,8] | _ => [] }
theorem qL.link {x0 : Option Addr} {x1 : List Value} {H : AH} {k : Int → AH → Prop} (h : qL.b x0 x1 H k) : qL x0 x1 H k := lk1 pan hT hm Tryz.func16 (by kernel_rfl) (A := qL.ann) (by kernel_rfl) (by simp) (by kernel_rfl) h
def qaR.b (x0 : Option Addr) (H : AH) (k : Int → AH → Prop) : Prop :=
 bcase (qmb x0) (k (0 : Int) H) (onPtr x0 fun a6 => elI .i64 (AH.cell? H (qlL a6 2)) fun n8 => k n8 H)
theorem qaR.link {x0 : Option Addr} {H : AH} {k : Int → AH → Prop} (h : qaR.b x0 H k) : qaR x0 H k := lk1 pan hT hm Tryz.func102 (by kernel_rfl) (A := ann0) (by kernel_rfl) (by simp) (by kernel_rfl) h
def log_New.j1 (x0 : Option Addr) (x1 : Option Addr) (k : Option Addr → AH → Prop) (x15 : Bool) (Hj : AH) : Prop :=
 bcase x15 (k none Hj) (newC Hj ⟨[(qlO x0),(qlO x1)],.rw,0⟩ fun o19 H19 => k (some ⟨o19,0,none⟩) H19)
def log_New.b (x0 : Option Addr) (x1 : Option Addr) (H : AH) (k : Option Addr → AH → Prop) : Prop :=
 bcase (qmb x0) (log_New.j1 x0 x1 k true H) (bcase (qmb x1) (log_New.j1 x0 x1 k true H) (qaR x1 H fun n13 H13 => log_New.j1 x0 x1 k (decide ((n13 : Int) ≤ (16 : Int))) H13))
theorem log_New.link {x0 : Option Addr} {x1 : Option Addr} {H : AH} {k : Option Addr → AH → Prop} (h : log_New.b x0 x1 H k) : log_New x0 x1 H k := lk1 pan hT hm Tryz.func58 (by kernel_rfl) (A := ann0) (by kernel_rfl) (by simp) (by kernel_rfl) h
def qcu.b (x0 : Int) (H : AH) (k : Int → AH → Prop) : Prop :=
 ((8 : Int) : Int) ≠ 0 ∧ k (qlJ .i64 (qm5 (qlJ .i64 ((qlJ .i64 (x0 + (8 : Int))) - (1 : Int))) (8 : Int))) H
theorem qcu.link {x0 : Int} {H : AH} {k : Int → AH → Prop} (h : qcu.b x0 H k) : qcu x0 H k := lk1 pan hT hm Tryz.func141 (by kernel_rfl) (A := ann0) (by kernel_rfl) (by simp) (by kernel_rfl) h
def qat.j1 (t8 : Sl × Int × Sl × Int) (it8 : (Sl × Int × Sl × Int) → AH → Prop) (o10 : Nat) (H71 : AH) (x11 : Int) : Prop :=
 ldA H71 ⟨o10,0,none⟩ 8 fun c78 => (qlY c78 = 8) ∧ (qlY (setMany [(qlI .i64 x11),(qlI .u64 (0 : Int)),(qlI .u64 (0 : Int)),(qlI .u64 (0 : Int)),(qlI .u64 (0 : Int)),(qlI .u64 (0 : Int)),(qlI .u64 (0 : Int)),(qlI .u64 (0 : Int)),(qlI .u64 (0 : Int))] 1 c78) = 9) ∧ newC H71 ⟨(setMany [(qlI .i64 (0 : Int)),(qlI .u64 (0 : Int)),(qlI .u64 (0 : Int)),(qlI .u64 (0 : Int)),(qlI .u64 (0 : Int)),(qlI .u64 (0 : Int)),(qlI .u64 (0 : Int)),(qlI .u64 (0 : Int)),(qlI .u64 (0 : Int))] 0 (setMany [(qlI .i64 x11),(qlI .u64 (0 : Int)),(qlI .u64 (0 : Int)),(qlI .u64 (0 : Int)),(qlI .u64 (0 : Int)),(qlI .u64 (0 : Int)),(qlI .u64 (0 : Int)),(qlI .u64 (0 : Int)),(qlI .u64 (0 : Int))] 1 c78)),.rw,9⟩ fun o80 H80 => appendC 9 H80 t8.2.2.1 ⟨(some ⟨o80,0,none⟩),1,1⟩ fun s81 H81 => it8 (t8.1,t8.2.1,s81,(qlJ .i64 (t8.2.2.2 + (1 : Int)))) H81
def qat.l2 (x0 : Option Addr) (k : Sl → Int → AH → Prop) (n18a : Int) (t8 : Sl × Int × Sl × Int) (HL8 : AH) (it8 : (Sl × Int × Sl × Int) → AH → Prop) : Prop :=
 bcase (decide ((t8.2.2.2 : Int) < (qlJ .i64 n18a))) (onPtr x0 fun a35 => elP (AH.cell? HL8 (qlL a35 1)) fun p37 => ((8 : Int) : Int) ≠ 0 ∧ qa5 p37 (qlJ .i64 (qm5 t8.2.2.2 (8 : Int))) HL8 fun c40a n40b H40 => newC H40 ⟨[(qlI .u64 (0 : Int)),(qlI .u64 (0 : Int)),(qlI .u64 (0 : Int)),(qlI .u64 (0 : Int)),(qlI .u64 (0 : Int)),(qlI .u64 (0 : Int)),(qlI .u64 (0 : Int)),(qlI .u64 (0 : Int))],.rw,0⟩ fun o8 H8 => (qlY c40a = 8 ∧ qmq c40a qo = true) ∧ stC H8 ⟨o8,0,none⟩ c40a fun Hs2 => bcase ((n40b : Int) != (0 : Int)) (k ⟨none,0,0⟩ n40b Hs2) (onPtr x0 fun a48 => elP (AH.cell? Hs2 (qlL a48 1)) fun p50 => newC Hs2 ⟨[(qlI .u64 (0 : Int)),(qlI .u64 (0 : Int)),(qlI .u64 (0 : Int)),(qlI .u64 (0 : Int)),(qlI .u64 (0 : Int)),(qlI .u64 (0 : Int)),(qlI .u64 (0 : Int)),(qlI .u64 (0 : Int))],.rw,0⟩ fun o10 H10 => qcu (qlJ .i64 n18a) H10 fun n53 H53 => AH.cell? H53 (qlL a48 1) = some (qlO p50) ∧ qa5 p50 (qlJ .i64 (n53 + t8.2.2.2)) H53 fun c56a n56b H56 => (qlY c56a = 8 ∧ qmq c56a qo = true) ∧ stC H56 ⟨o10,0,none⟩ c56a fun Hs4 => bcase ((n56b : Int) != (0 : Int)) (k ⟨none,0,0⟩ n56b Hs4) (((8 : Int) : Int) ≠ 0 ∧ (0 ≤ (qmS t8.2.2.2 (8 : Int)) ∧ (qmS t8.2.2.2 (8 : Int)) < ((8 : Nat) : Int)) ∧ elI .u64 (AH.cell? Hs4 (qlL ⟨o8,0,none⟩ (qlQ (qmS t8.2.2.2 (8 : Int)) * 1))) fun n65 => onPtr x0 fun a68 => elP (AH.cell? Hs4 (qlL a68 1)) fun p70 => qaR p70 Hs4 fun n71 H71 => bcase (decide ((n65 : Int) < (qlJ .u64 n71))) (qat.j1 t8 it8 o10 H71 (qlJ .i64 n65)) (qat.j1 t8 it8 o10 H71 (-1 : Int))))) (k t8.2.2.1 (0 : Int) HL8)
def qat.b (x0 : Option Addr) (H : AH) (k : Sl → Int → AH → Prop) : Prop :=
 onPtr x0 fun a15 => elP (AH.cell? H (qlL a15 0)) fun p17 => qJ p17 (1 : Int) H fun n18a n18b H18 => bcase ((n18b : Int) != (0 : Int)) (k ⟨none,0,0⟩ n18b H18) (bcase (decide ((n18a : Int) > (14 : Int))) (k ⟨none,0,0⟩ (6 : Int) H18) (loopT (qat.l2 x0 k n18a) ((⟨none,0,0⟩,(0 : Int),⟨none,0,0⟩,(0 : Int)) : Sl × Int × Sl × Int) H18))
def qat.ann : Ann := { keep := fun r => match r with | 8 => [(2,.sl),(3,.int .i64),(6,.sl),(30,.int .i64)] | _ => [],ord := fun r => match r with | 13 => [0,1,2,3,4,5,7,13,6,8,9,10,11,12,14,15] | _ => [] }
theorem qat.link {x0 : Option Addr} {H : AH} {k : Sl → Int → AH → Prop} (h : qat.b x0 H k) : qat x0 H k := lk2 pan hT hm Tryz.func103 (by kernel_rfl) (A := qat.ann) (by kernel_rfl) (by simp) (by simp) (by kernel_rfl) h
def qay.j1 (x0 : Option Addr) (k : Int → AH → Prop) (HL2 : AH) : Prop :=
 onPtr x0 fun a31 => elP (AH.cell? HL2 (qlL a31 0)) fun p33 => qG p33 (1 : Int) (0 : Int) HL2 fun n34 H34 => k n34 H34
def qay.l2 (x0 : Option Addr) (x1 : Sl) (k : Int → AH → Prop) (t2 : Int × Int) (HL2 : AH) (it2 : (Int × Int) → AH → Prop) : Prop :=
 bcase (decide ((t2.2 : Int) < ((x1.n : Nat) : Int))) ((0 ≤ t2.2 ∧ t2.2 < ((x1.n : Nat) : Int)) ∧ onPtr x1.a fun a12 => ldA HL2 (qlL a12 (qlQ t2.2 * 9)) 9 fun c13 => newC HL2 ⟨[(qlI .i64 (0 : Int)),(qlI .u64 (0 : Int)),(qlI .u64 (0 : Int)),(qlI .u64 (0 : Int)),(qlI .u64 (0 : Int)),(qlI .u64 (0 : Int)),(qlI .u64 (0 : Int)),(qlI .u64 (0 : Int)),(qlI .u64 (0 : Int))],.rw,0⟩ fun o6 H6 => (qlY c13 = 9 ∧ qmq c13 qo = true) ∧ stC H6 ⟨o6,0,none⟩ c13 fun Hs2 => onPtr x0 fun a15 => elP (AH.cell? Hs2 (qlL a15 1)) fun p17 => elI .i64 (AH.cell? Hs2 (qlL ⟨o6,0,none⟩ 0)) fun n19 => ldA Hs2 (qlL ⟨o6,0,none⟩ 1) 8 fun c21 => qaG p17 n19 c21 Hs2 fun n22 H22 => bcase ((n22 : Int) == (0 : Int)) (it2 (t2.1,(qlJ .i64 (t2.2 + (1 : Int)))) H22) (bcase ((n22 : Int) == (3 : Int)) (k (0 : Int) H22) (k n22 H22))) (qay.j1 x0 k HL2)
def qay.b (x0 : Option Addr) (x1 : Sl) (H : AH) (k : Int → AH → Prop) : Prop :=
 loopT (qay.l2 x0 x1 k) (((0 : Int),(0 : Int)) : Int × Int) H
def qay.ann : Ann := { keep := fun r => match r with | 2 => [(4,.int .i64),(10,.int .i64)] | _ => [],ord := fun r => match r with | 4 => [0,1,2,3,4,5,6,7,8,9] | _ => [] }
theorem qay.link {x0 : Option Addr} {x1 : Sl} {H : AH} {k : Int → AH → Prop} (h : qay.b x0 x1 H k) : qay x0 x1 H k := lk1 pan hT hm Tryz.func105 (by kernel_rfl) (A := qay.ann) (by kernel_rfl) (by simp) (by kernel_rfl) h
def qcc.b (x0 : Option Addr) (H : AH) (k : Int → AH → Prop) : Prop :=
 bcase (qmb x0) (k (1 : Int) H) (qat x0 H fun s9a n9b H9 => bcase ((n9b : Int) != (0 : Int)) (k n9b H9) (bcase ((((s9a.n : Nat) : Int) : Int) == (0 : Int)) (k (0 : Int) H9) (onPtr x0 fun a22 => elP (AH.cell? H9 (qlL a22 1)) fun p24 => qaR p24 H9 fun n25 H25 => log_May n25 s9a H25 fun b27 H27 => bcase (!b27) (k (6 : Int) H27) (qay x0 s9a H27 fun n31 H31 => k n31 H31))))
theorem qcc.link {x0 : Option Addr} {H : AH} {k : Int → AH → Prop} (h : qcc.b x0 H k) : qcc x0 H k := lk1 pan hT hm Tryz.func59 (by kernel_rfl) (A := ann0) (by kernel_rfl) (by simp) (by kernel_rfl) h
def qaq.j1 (x0 : Option Addr) (x1 : Int) (k : List Value → Int → AH → Prop) (o4 : Nat) (x5 : Int) (Hj : AH) : Prop :=
 onPtr x0 fun a56 => elP (AH.cell? Hj (qlL a56 1)) fun p58 => qa5 p58 x1 Hj fun c60a n60b H60 => (qlY c60a = 8 ∧ qmq c60a qo = true) ∧ stC H60 ⟨o4,0,none⟩ c60a fun Hs6 => ldA Hs6 ⟨o4,0,none⟩ 8 fun r0 => k r0 n60b Hs6
def qaq.l2 (x0 : Option Addr) (x1 : Int) (k : List Value → Int → AH → Prop) (o4 : Nat) (s28a : Sl) (t8 : Int × Int) (HL8 : AH) (it8 : (Int × Int) → AH → Prop) : Prop :=
 bcase (decide ((t8.2 : Int) < ((s28a.n : Nat) : Int))) ((0 ≤ t8.2 ∧ t8.2 < ((s28a.n : Nat) : Int)) ∧ onPtr s28a.a fun a46 => ldA HL8 (qlL a46 (qlQ t8.2 * 9)) 9 fun c47 => newC HL8 ⟨[(qlI .i64 (0 : Int)),(qlI .u64 (0 : Int)),(qlI .u64 (0 : Int)),(qlI .u64 (0 : Int)),(qlI .u64 (0 : Int)),(qlI .u64 (0 : Int)),(qlI .u64 (0 : Int)),(qlI .u64 (0 : Int)),(qlI .u64 (0 : Int))],.rw,0⟩ fun o9 H9 => (qlY c47 = 9 ∧ qmq c47 qo = true) ∧ stC H9 ⟨o9,0,none⟩ c47 fun Hs8 => elI .i64 (AH.cell? Hs8 (qlL ⟨o9,0,none⟩ 0)) fun n49 => bcase ((n49 : Int) == x1) (ldA Hs8 (qlL ⟨o9,0,none⟩ 1) 8 fun c53 => (qlY c53 = 8 ∧ qmq c53 qo = true) ∧ stC Hs8 ⟨o4,0,none⟩ c53 fun Hs10 => ldA Hs10 ⟨o4,0,none⟩ 8 fun r0 => k r0 (0 : Int) Hs10) (it8 (t8.1,(qlJ .i64 (t8.2 + (1 : Int)))) Hs8)) (qaq.j1 x0 x1 k o4 t8.1 HL8)
def qaq.j3 (x0 : Option Addr) (x1 : Int) (k : List Value → Int → AH → Prop) (o4 : Nat) (x24 : Bool) (Hj : AH) : Prop :=
 bcase x24 ((qlY [(qlI .u64 (0 : Int)),(qlI .u64 (0 : Int)),(qlI .u64 (0 : Int)),(qlI .u64 (0 : Int)),(qlI .u64 (0 : Int)),(qlI .u64 (0 : Int)),(qlI .u64 (0 : Int)),(qlI .u64 (0 : Int))] = 8 ∧ qmq [(qlI .u64 (0 : Int)),(qlI .u64 (0 : Int)),(qlI .u64 (0 : Int)),(qlI .u64 (0 : Int)),(qlI .u64 (0 : Int)),(qlI .u64 (0 : Int)),(qlI .u64 (0 : Int)),(qlI .u64 (0 : Int))] qo = true) ∧ stC Hj ⟨o4,0,none⟩ [(qlI .u64 (0 : Int)),(qlI .u64 (0 : Int)),(qlI .u64 (0 : Int)),(qlI .u64 (0 : Int)),(qlI .u64 (0 : Int)),(qlI .u64 (0 : Int)),(qlI .u64 (0 : Int)),(qlI .u64 (0 : Int))] fun Hs2 => ldA Hs2 ⟨o4,0,none⟩ 8 fun r0 => k r0 (1 : Int) Hs2) (qat x0 Hj fun s28a n28b H28 => bcase ((n28b : Int) == (2 : Int)) ((qlY [(qlI .u64 (0 : Int)),(qlI .u64 (0 : Int)),(qlI .u64 (0 : Int)),(qlI .u64 (0 : Int)),(qlI .u64 (0 : Int)),(qlI .u64 (0 : Int)),(qlI .u64 (0 : Int)),(qlI .u64 (0 : Int))] = 8 ∧ qmq [(qlI .u64 (0 : Int)),(qlI .u64 (0 : Int)),(qlI .u64 (0 : Int)),(qlI .u64 (0 : Int)),(qlI .u64 (0 : Int)),(qlI .u64 (0 : Int)),(qlI .u64 (0 : Int)),(qlI .u64 (0 : Int))] qo = true) ∧ stC H28 ⟨o4,0,none⟩ [(qlI .u64 (0 : Int)),(qlI .u64 (0 : Int)),(qlI .u64 (0 : Int)),(qlI .u64 (0 : Int)),(qlI .u64 (0 : Int)),(qlI .u64 (0 : Int)),(qlI .u64 (0 : Int)),(qlI .u64 (0 : Int))] fun Hs4 => ldA Hs4 ⟨o4,0,none⟩ 8 fun r0 => k r0 n28b Hs4) (onPtr x0 fun a36 => elP (AH.cell? H28 (qlL a36 1)) fun p38 => qaR p38 H28 fun n39 H39 => log_May n39 s28a H39 fun b41 H41 => bcase b41 (loopT (qaq.l2 x0 x1 k o4 s28a) (((0 : Int),(0 : Int)) : Int × Int) H41) (qaq.j1 x0 x1 k o4 (0 : Int) H41)))
def qaq.b (x0 : Option Addr) (x1 : Int) (H : AH) (k : List Value → Int → AH → Prop) : Prop :=
 newC H ⟨[(qlI .u64 (0 : Int)),(qlI .u64 (0 : Int)),(qlI .u64 (0 : Int)),(qlI .u64 (0 : Int)),(qlI .u64 (0 : Int)),(qlI .u64 (0 : Int)),(qlI .u64 (0 : Int)),(qlI .u64 (0 : Int))],.rw,0⟩ fun o4 H4 => bcase (qmb x0) (qaq.j3 x0 x1 k o4 true H4) (bcase (decide ((x1 : Int) < (16 : Int))) (qaq.j3 x0 x1 k o4 true H4) (onPtr x0 fun a19 => elP (AH.cell? H4 (qlL a19 1)) fun p21 => qaR p21 H4 fun n22 H22 => qaq.j3 x0 x1 k o4 (decide ((x1 : Int) ≥ n22)) H22))
def qaq.ann : Ann := { keep := fun r => match r with | 8 => [(5,.int .i64),(44,.int .i64)] | _ => [],ord := fun r => match r with  | _ => [] }
theorem qaq.link {x0 : Option Addr} {x1 : Int} {H : AH} {k : List Value → Int → AH → Prop} (h : qaq.b x0 x1 H k) : qaq x0 x1 H k := lk2 pan hT hm Tryz.func87 (by kernel_rfl) (A := qaq.ann) (by kernel_rfl) (by simp) (by simp) (by kernel_rfl) h
def qab.l1 (x0 : Option Addr) (k : Sl → Int → AH → Prop) (n14 : Int) (t5 : Sl × Int × Sl × Int) (HL5 : AH) (it5 : (Sl × Int × Sl × Int) → AH → Prop) : Prop :=
 bcase (decide ((t5.2.2.2 : Int) < n14)) (onPtr x0 fun a20 => elP (AH.cell? HL5 (qlL a20 6)) fun p22 => onPtr x0 fun a24 => ldA HL5 (qlL a24 1) 4 fun c26 => newC HL5 ⟨[(qlI .u64 (0 : Int)),(qlI .u64 (0 : Int)),(qlI .u64 (0 : Int)),(qlI .u64 (0 : Int)),(qlI .u64 (0 : Int)),(qlI .u64 (0 : Int)),(qlI .u64 (0 : Int)),(qlI .u64 (0 : Int))],.rw,0⟩ fun o6 H6 => qbA c26 t5.2.2.2 H6 fun n28 H28 => AH.cell? H28 (qlL a20 6) = some (qlO p22) ∧ qaq p22 n28 H28 fun c29a n29b H29 => (qlY c29a = 8 ∧ qmq c29a qo = true) ∧ stC H29 ⟨o6,0,none⟩ c29a fun Hs2 => bcase ((n29b : Int) != (0 : Int)) (k ⟨none,0,0⟩ n29b Hs2) (appendC 1 Hs2 t5.2.2.1 ⟨(some ⟨o6,0,none⟩),8,0⟩ fun s37 H37 => it5 (t5.1,t5.2.1,s37,(qlJ .i64 (t5.2.2.2 + (1 : Int)))) H37)) (k t5.2.2.1 (0 : Int) HL5)
def qab.b (x0 : Option Addr) (H : AH) (k : Sl → Int → AH → Prop) : Prop :=
 bcase (qmb x0) (k ⟨none,0,0⟩ (1 : Int) H) (onPtr x0 fun a11 => elI .i64 (AH.cell? H (qlL (qlL a11 1) 0)) fun n14 => loopT (qab.l1 x0 k n14) ((⟨none,0,0⟩,(0 : Int),⟨none,0,0⟩,(0 : Int)) : Sl × Int × Sl × Int) H)
def qab.ann : Ann := { keep := fun r => match r with | 5 => [(2,.sl),(3,.int .i64),(4,.sl),(15,.int .i64)] | _ => [],ord := fun r => match r with | 7 => [0,1,2,3,4,5,6,7,8,14,9,10,11,12,13,15,16] | _ => [] }
theorem qab.link {x0 : Option Addr} {H : AH} {k : Sl → Int → AH → Prop} (h : qab.b x0 H k) : qab x0 H k := lk2 pan hT hm Tryz.func44 (by kernel_rfl) (A := qab.ann) (by kernel_rfl) (by simp) (by simp) (by kernel_rfl) h
def qbx.j1 (x0 : Int) (k : Int → Bool → Bool → AH → Prop) (x14 : Bool) (Hj : AH) : Prop :=
 bcase x14 (k (0 : Int) false false Hj) ((0 : Int) ≤ (1 : Int) ∧ k (qlJ .i64 (shrI .u64 x0 (1 : Int))) (((andI .u64 x0 (1 : Int)) : Int) == (1 : Int)) true Hj)
def qbx.b (x0 : Int) (H : AH) (k : Int → Bool → Bool → AH → Prop) : Prop :=
 (0 : Int) ≤ (1 : Int) ∧ bcase (decide (((shrI .u64 x0 (1 : Int)) : Int) > (512 : Int))) (qbx.j1 x0 k true H) ((0 : Int) ≤ (1 : Int) ∧ qbq (qlJ .i64 (shrI .u64 x0 (1 : Int))) H fun b12 H12 => qbx.j1 x0 k (!b12) H12)
theorem qbx.link {x0 : Int} {H : AH} {k : Int → Bool → Bool → AH → Prop} (h : qbx.b x0 H k) : qbx x0 H k := lk3 pan hT hm Tryz.func88 (by kernel_rfl) (A := ann0) (by kernel_rfl) (by simp) (by simp) (by simp) (by kernel_rfl) h
def qaf.j1 (k : Bool → AH → Prop) (t5 : Bool × Int × Bool × Int) (it5 : (Bool × Int × Bool × Int) → AH → Prop) (o8 : Nat) (x43 : Bool) (Hj : AH) : Prop :=
 bcase x43 (k false Hj) (elI .i64 (AH.cell? Hj (qlL ⟨o8,0,none⟩ 1)) fun n46 => elB (AH.cell? Hj (qlL ⟨o8,0,none⟩ 2)) fun b49 => it5 (t5.1,(qlJ .i64 (t5.2.1 + n46)),(!b49),(qlJ .i64 (t5.2.2.2 + (1 : Int)))) Hj)
def qaf.l2 (x0 : Sl) (x1 : Int) (k : Bool → AH → Prop) (t5 : Bool × Int × Bool × Int) (HL5 : AH) (it5 : (Bool × Int × Bool × Int) → AH → Prop) : Prop :=
 bcase (decide ((t5.2.2.2 : Int) < ((x0.n : Nat) : Int))) ((0 ≤ t5.2.2.2 ∧ t5.2.2.2 < ((x0.n : Nat) : Int)) ∧ onPtr x0.a fun a16 => ldA HL5 (qlL a16 (qlQ t5.2.2.2 * 3)) 3 fun c17 => newC HL5 ⟨[(qlI .i64 (0 : Int)),(qlI .i64 (0 : Int)),(qmD false)],.rw,0⟩ fun o8 H8 => (qlY c17 = 3 ∧ qmq c17 qo = true) ∧ stC H8 ⟨o8,0,none⟩ c17 fun Hs2 => elI .i64 (AH.cell? Hs2 (qlL ⟨o8,0,none⟩ 0)) fun n19 => bcase ((n19 : Int) != t5.2.1) (qaf.j1 k t5 it5 o8 true Hs2) (elI .i64 (AH.cell? Hs2 (qlL ⟨o8,0,none⟩ 1)) fun n24 => qbq n24 Hs2 fun b25 H25 => bcase (!b25) (qaf.j1 k t5 it5 o8 true H25) (bcase t5.2.2.1 (elB (AH.cell? H25 (qlL ⟨o8,0,none⟩ 2)) fun b32 => bcase (!b32) (qaf.j1 k t5 it5 o8 true H25) (elI .i64 (AH.cell? H25 (qlL ⟨o8,0,none⟩ 1)) fun n38 => qaf.j1 k t5 it5 o8 (decide ((n38 : Int) > (qlJ .i64 (x1 - t5.2.1)))) H25)) (elI .i64 (AH.cell? H25 (qlL ⟨o8,0,none⟩ 1)) fun n38 => qaf.j1 k t5 it5 o8 (decide ((n38 : Int) > (qlJ .i64 (x1 - t5.2.1)))) H25)))) (k ((t5.2.1 : Int) == x1) HL5)
def qaf.b (x0 : Sl) (x1 : Int) (H : AH) (k : Bool → AH → Prop) : Prop :=
 qa4 x1 H fun b10 H10 => bcase (!b10) (k false H10) (loopT (qaf.l2 x0 x1 k) ((false,(0 : Int),false,(0 : Int)) : Bool × Int × Bool × Int) H10)
def qaf.ann : Ann := { keep := fun r => match r with | 5 => [(4,.bool),(5,.int .i64),(6,.bool),(14,.int .i64)] | _ => [],ord := fun r => match r with  | _ => [] }
theorem qaf.link {x0 : Sl} {x1 : Int} {H : AH} {k : Bool → AH → Prop} (h : qaf.b x0 x1 H k) : qaf x0 x1 H k := lk1 pan hT hm Tryz.func89 (by kernel_rfl) (A := qaf.ann) (by kernel_rfl) (by simp) (by kernel_rfl) h
def qO.j1 (x0 : Sl) (k : Sl → Bool → AH → Prop) (t3 : Sl × Bool × Sl × Int) (HL3 : AH) : Prop :=
 qaf t3.2.2.1 ((x0.n : Nat) : Int) HL3 fun b37 H37 => bcase (!b37) (k ⟨none,0,0⟩ false H37) (k t3.2.2.1 true H37)
def qO.l2 (x0 : Sl) (k : Sl → Bool → AH → Prop) (t3 : Sl × Bool × Sl × Int) (HL3 : AH) (it3 : (Sl × Bool × Sl × Int) → AH → Prop) : Prop :=
 bcase (decide ((t3.2.2.2 : Int) < ((x0.n : Nat) : Int))) ((0 ≤ t3.2.2.2 ∧ t3.2.2.2 < ((x0.n : Nat) : Int)) ∧ onPtr x0.a fun a16 => elI .u64 (AH.cell? HL3 (qlL a16 (qlQ t3.2.2.2 * 1))) fun n17 => qbx n17 HL3 fun n18a b18b b18c H18 => bcase (!b18c) (k ⟨none,0,0⟩ false H18) ((qlY [(qlI .i64 t3.2.2.2),(qlI .i64 n18a),(qmD b18b)] = 3) ∧ newC H18 ⟨[(qlI .i64 t3.2.2.2),(qlI .i64 n18a),(qmD b18b)],.rw,3⟩ fun o29 H29 => appendC 3 H29 t3.2.2.1 ⟨(some ⟨o29,0,none⟩),1,1⟩ fun s30 H30 => it3 (t3.1,t3.2.1,s30,(qlJ .i64 (t3.2.2.2 + n18a))) H30)) (qO.j1 x0 k t3 HL3)
def qO.b (x0 : Sl) (H : AH) (k : Sl → Bool → AH → Prop) : Prop :=
 loopT (qO.l2 x0 k) ((⟨none,0,0⟩,false,⟨none,0,0⟩,(0 : Int)) : Sl × Bool × Sl × Int) H
def qO.ann : Ann := { keep := fun r => match r with | 3 => [(2,.sl),(3,.bool),(4,.sl),(5,.int .i64)] | _ => [],ord := fun r => match r with  | _ => [] }
theorem qO.link {x0 : Sl} {H : AH} {k : Sl → Bool → AH → Prop} (h : qO.b x0 H k) : qO x0 H k := lk2 pan hT hm Tryz.func45 (by kernel_rfl) (A := qO.ann) (by kernel_rfl) (by simp) (by simp) (by kernel_rfl) h
def qba.j1 (k : Int → AH → Prop) (o1 : Nat) (H1 : AH) (x10 : Bool) : Prop :=
 bcase x10 (k (0 : Int) H1) (elI .i64 (AH.cell? H1 (qlL ⟨o1,0,none⟩ 0)) fun n12 => k (qlJ .i64 ((qlJ .i64 (n12 + (1 : Int))) * (8 : Int))) H1)
def qba.b (x0 : List Value) (H : AH) (k : Int → AH → Prop) : Prop :=
 newC H ⟨x0,.rw,0⟩ fun o1 H1 => elI .i64 (AH.cell? H1 (qlL ⟨o1,0,none⟩ 0)) fun n4 => bcase (decide ((n4 : Int) < (0 : Int))) (qba.j1 k o1 H1 true) (elI .i64 (AH.cell? H1 (qlL ⟨o1,0,none⟩ 0)) fun n8 => qba.j1 k o1 H1 (decide ((n8 : Int) > (512 : Int))))
theorem qba.link {x0 : List Value} {H : AH} {k : Int → AH → Prop} (h : qba.b x0 H k) : qba x0 H k := lk1 pan hT hm Tryz.func144 (by kernel_rfl) (A := ann0) (by kernel_rfl) (by simp) (by kernel_rfl) h
def qbG.b (x0 : List Value) (x1 : Option Addr) (H : AH) (k : Bool → AH → Prop) : Prop :=
 newC H ⟨x0,.rw,0⟩ fun o2 H2 => elB (AH.cell? H2 (qlL ⟨o2,0,none⟩ 2)) fun b5 => bcase b5 (ldA H2 ⟨o2,0,none⟩ 3 fun c7 => onPtr x1 fun a9 => elI .i64 (AH.cell? H2 a9) fun n9 => qba c7 H2 fun n8 H8 => AH.cell? H8 a9 = some (qlI .i64 n9) ∧ k ((n8 : Int) == n9) H8) (k false H2)
def qbG.ann : Ann := { keep := fun r => match r with  | _ => [],ord := fun r => match r with | 1 => [0,1,2,3,5,4,6,7,8] | _ => [] }
theorem qbG.link {x0 : List Value} {x1 : Option Addr} {H : AH} {k : Bool → AH → Prop} (h : qbG.b x0 x1 H k) : qbG x0 x1 H k := lk1 pan hT hm Tryz.func143 (by kernel_rfl) (A := qbG.ann) (by kernel_rfl) (by simp) (by kernel_rfl) h
def qcg.b (x0 : Sl) (x1 : Int) (H : AH) (k : Sl → Int → AH → Prop) : Prop :=
 newC H ⟨[(qlI .i64 x1)],.rw,0⟩ fun o3 H3 => qO x0 H3 fun s10a b10b H10 => qB s10a (some ⟨o3,0,none⟩) H10 fun n16 H16 => k s10a n16 H16
theorem qcg.link {x0 : Sl} {x1 : Int} {H : AH} {k : Sl → Int → AH → Prop} (h : qcg.b x0 x1 H k) : qcg x0 x1 H k := lk2 pan hT hm Tryz.func106 (by kernel_rfl) (A := ann0) (by kernel_rfl) (by simp) (by simp) (by kernel_rfl) h
def qcv.b (x0 : Sl) (x1 : Int) (H : AH) (k : Bool → AH → Prop) : Prop :=
 qcg x0 x1 H fun s10a n10b H10 => k (decide ((n10b : Int) ≥ (0 : Int))) H10
theorem qcv.link {x0 : Sl} {x1 : Int} {H : AH} {k : Bool → AH → Prop} (h : qcv.b x0 x1 H k) : qcv x0 x1 H k := lk1 pan hT hm Tryz.func60 (by kernel_rfl) (A := ann0) (by kernel_rfl) (by simp) (by kernel_rfl) h
def qcr.b (x0 : Int) (H : AH) (k : Int → AH → Prop) : Prop :=
 ((4 : Int) : Int) ≠ 0 ∧ k (qlJ .i64 (qm5 (if (0 : Int) > x0 then (0 : Int) else x0) (4 : Int))) H
theorem qcr.link {x0 : Int} {H : AH} {k : Int → AH → Prop} (h : qcr.b x0 H k) : qcr x0 H k := lk1 pan hT hm Tryz.func107 (by kernel_rfl) (A := ann0) (by kernel_rfl) (by simp) (by kernel_rfl) h
def qcz.b (x0 : List Value) (H : AH) (k : Int → AH → Prop) : Prop :=
 newC H ⟨x0,.rw,0⟩ fun o1 H1 => ldA H1 ⟨o1,0,none⟩ 4 fun c3 => qbg c3 H1 fun b4 H4 => bcase (!b4) (k (0 : Int) H4) (elI .i64 (AH.cell? H4 (qlL ⟨o1,0,none⟩ 0)) fun n7 => qcr (qlJ .i64 (n7 - (1 : Int))) H4 fun n9 H9 => k (qlJ .i64 (n9 + (1 : Int))) H9)
theorem qcz.link {x0 : List Value} {H : AH} {k : Int → AH → Prop} (h : qcz.b x0 H k) : qcz x0 H k := lk1 pan hT hm Tryz.func61 (by kernel_rfl) (A := ann0) (by kernel_rfl) (by simp) (by kernel_rfl) h
def qbc.l1 (x1 : Sl) (k : Option Addr → AH → Prop) (o21 : Nat) (t5 : Int) (HL5 : AH) (it5 : (Int) → AH → Prop) : Prop :=
 bcase (decide ((t5 : Int) < ((x1.n : Nat) : Int))) ((0 ≤ t5 ∧ t5 < ((x1.n : Nat) : Int)) ∧ onPtr x1.a fun a26 => elI .i64 (AH.cell? HL5 (qlL a26 (qlQ t5 * 1))) fun n27 => elL (AH.cell? HL5 (qlL ⟨o21,0,none⟩ 1)) fun s36 => newC HL5 ⟨[(qlI .i64 (if (1099511627776 : Int) < (if (0 : Int) > n27 then (0 : Int) else n27) then (1099511627776 : Int) else (if (0 : Int) > n27 then (0 : Int) else n27)))],.rw,1⟩ fun o38 H38 => elL (AH.cell? H38 (qlL ⟨o21,0,none⟩ 2)) fun s43 => newC H38 ⟨[(qlI .i64 (if (1099511627776 : Int) < (if (0 : Int) > n27 then (0 : Int) else n27) then (1099511627776 : Int) else (if (0 : Int) > n27 then (0 : Int) else n27)))],.rw,1⟩ fun o45 H45 => appendC 1 H45 s36 ⟨(some ⟨o38,0,none⟩),1,1⟩ fun s39 H39 => AH.cell? H39 (qlL ⟨o21,0,none⟩ 2) = some (Sl.val s43) ∧ appendC 1 H39 s43 ⟨(some ⟨o45,0,none⟩),1,1⟩ fun s46 H46 => stC H46 (qlL ⟨o21,0,none⟩ 1) [(Sl.val s39)] fun Hs2 => stC Hs2 (qlL ⟨o21,0,none⟩ 2) [(Sl.val s46)] fun Hs4 => it5 (qlJ .i64 (t5 + (1 : Int))) Hs4) (k (some ⟨o21,0,none⟩) HL5)
def qbc.j2 (x0 : Int) (x1 : Sl) (H : AH) (k : Option Addr → AH → Prop) (x18 : Bool) : Prop :=
 bcase x18 (k none H) (newC H ⟨[(qlI .i64 x0),(qlV none 0 0),(qlV none 0 0)],.rw,0⟩ fun o21 H21 => loopT (qbc.l1 x1 k o21) (((0 : Int)) : Int) H21)
def qbc.b (x0 : Int) (x1 : Sl) (H : AH) (k : Option Addr → AH → Prop) : Prop :=
 bcase (decide ((x0 : Int) < (1 : Int))) (qbc.j2 x0 x1 H k true) (bcase (decide ((x0 : Int) > (100 : Int))) (qbc.j2 x0 x1 H k true) (qbc.j2 x0 x1 H k (decide ((((x1.n : Nat) : Int) : Int) > (16 : Int)))))
def qbc.ann : Ann := { keep := fun r => match r with | 5 => [(24,.int .i64)] | _ => [],ord := fun r => match r with | 8 => [0,1,2,3,4,5,6,7,9,10,11,12,13,14,8,15,16,17,18,19,20,21] | _ => [] }
theorem qbc.link {x0 : Int} {x1 : Sl} {H : AH} {k : Option Addr → AH → Prop} (h : qbc.b x0 x1 H k) : qbc x0 x1 H k := lk1 pan hT hm Tryz.func62 (by kernel_rfl) (A := qbc.ann) (by kernel_rfl) (by simp) (by kernel_rfl) h
def qah.j1 (k : Option Addr → Int → AH → Prop) (o3 : Nat) (o30 : Nat) (t22 : Option Addr × Int × Sl × Int) (HL22 : AH) : Prop :=
 elI .i64 (AH.cell? HL22 (qlL ⟨o3,0,none⟩ 3)) fun n115 => qbc n115 t22.2.2.1 HL22 fun p117 H117 => stC H117 (qlL ⟨o30,0,none⟩ 7) [(qlO p117)] fun Hs4 => k (some ⟨o30,0,none⟩) (0 : Int) Hs4
def qah.l2 (x0 : Option Addr) (k : Option Addr → Int → AH → Prop) (o3 : Nat) (o30 : Nat) (n92 : Int) (t22 : Option Addr × Int × Sl × Int) (HL22 : AH) (it22 : (Option Addr × Int × Sl × Int) → AH → Prop) : Prop :=
 bcase (decide ((t22.2.2.2 : Int) < n92)) (qJ x0 (qlJ .i64 ((19 : Int) + t22.2.2.2)) HL22 fun n100a n100b H100 => bcase ((n100b : Int) != (0 : Int)) (k none n100b H100) (newC H100 ⟨[(qlI .i64 (qlJ .i64 (if (1099511627776 : Int) < n100a then (1099511627776 : Int) else n100a)))],.rw,1⟩ fun o110 H110 => appendC 1 H110 t22.2.2.1 ⟨(some ⟨o110,0,none⟩),1,1⟩ fun s111 H111 => it22 (t22.1,t22.2.1,s111,(qlJ .i64 (t22.2.2.2 + (1 : Int)))) H111)) (qah.j1 k o3 o30 t22 HL22)
def qah.j3 (x0 : Option Addr) (k : Option Addr → Int → AH → Prop) (o3 : Nat) (o30 : Nat) (x90 : Bool) (Hj : AH) : Prop :=
 bcase x90 (k none (6 : Int) Hj) (ldA Hj ⟨o3,0,none⟩ 4 fun c91 => qcz c91 Hj fun n92 H92 => loopT (qah.l2 x0 k o3 o30 n92) ((none,(0 : Int),⟨none,0,0⟩,(0 : Int)) : Option Addr × Int × Sl × Int) H92)
def qah.b (x0 : Option Addr) (x1 : List Value) (H : AH) (k : Option Addr → Int → AH → Prop) : Prop :=
 newC H ⟨x1,.rw,0⟩ fun o3 H3 => ldA H3 ⟨o3,0,none⟩ 4 fun c19 => qbN x0 c19 H3 fun n20 H20 => bcase ((n20 : Int) != (0 : Int)) (k none n20 H20) (ldA H20 ⟨o3,0,none⟩ 4 fun c25 => ldA H20 ⟨o3,0,none⟩ 4 fun c27 => qbT x0 c27 H20 fun p28 H28 => AH.row? H28 ⟨o3,0,none⟩ 4 = some c25 ∧ (qlY c25 = 4) ∧ newC H28 ⟨(List.set (setMany [(qlO x0),(qlI .i64 (0 : Int)),(qlI .i64 (0 : Int)),(qlI .i64 (0 : Int)),(qlI .i64 (0 : Int)),(qlO none),(qlO none),(qlO none),(qmD false)] 1 c25) 5 (qlO p28)),.rw,0⟩ fun o30 H30 => elP (AH.cell? H30 (qlL ⟨o30,0,none⟩ 5)) fun p36 => log_New x0 p36 H30 fun p37 H37 => stC H37 (qlL ⟨o30,0,none⟩ 6) [(qlO p37)] fun Hs2 => elP (AH.cell? Hs2 (qlL ⟨o30,0,none⟩ 6)) fun p43 => bcase (qmb p43) (k none (6 : Int) Hs2) (elP (AH.cell? Hs2 (qlL ⟨o30,0,none⟩ 6)) fun p48 => qcc p48 Hs2 fun n49 H49 => bcase ((n49 : Int) != (0 : Int)) (k none n49 H49) (qab (some ⟨o30,0,none⟩) H49 fun s55a n55b H55 => bcase ((n55b : Int) != (0 : Int)) (k none n55b H55) (qJ x0 (2 : Int) H55 fun n63a n63b H63 => bcase ((n63b : Int) != (0 : Int)) (k none n63b H63) (qO s55a H63 fun s71a b71b H71 => bcase (!b71b) (qah.j3 x0 k o3 o30 true H71) (bcase ((n63a : Int) != (0 : Int)) (bcase (decide ((n63a : Int) > (1048576 : Int))) (qah.j3 x0 k o3 o30 true H71) (qcv s55a (qlJ .i64 n63a) H71 fun b86 H86 => qah.j3 x0 k o3 o30 (!b86) H86)) (qah.j3 x0 k o3 o30 false H71)))))))
def qah.ann : Ann := { keep := fun r => match r with | 22 => [(4,.ptr),(5,.int .i64),(14,.sl),(93,.int .i64)] | _ => [],ord := fun r => match r with | 4 => [0,1,2,3,4,5,6,7] | _ => [] }
theorem qah.link {x0 : Option Addr} {x1 : List Value} {H : AH} {k : Option Addr → Int → AH → Prop} (h : qah.b x0 x1 H k) : qah x0 x1 H k := lk2 pan hT hm Tryz.func17 (by kernel_rfl) (A := qah.ann) (by kernel_rfl) (by simp) (by simp) (by kernel_rfl) h
def qa8.b (x0 : Option Addr) (H : AH) (k : Int → AH → Prop) : Prop :=
 onPtr x0 fun a7 => elP (AH.cell? H (qlL a7 4)) fun p9 => onPtr x0 fun a11 => ldA H (qlL a11 0) 4 fun c13 => qah p9 c13 H fun p14a n14b H14 => onPtr x0 fun a19 => stC H14 (qlL a19 5) [(qlO p14a)] fun Hs2 => k n14b Hs2
def qa8.ann : Ann := { keep := fun r => match r with  | _ => [],ord := fun r => match r with | 1 => [0,1,2,3,4,5,6,7,8,9,10,11,12,13] | _ => [] }
theorem qa8.link {x0 : Option Addr} {H : AH} {k : Int → AH → Prop} (h : qa8.b x0 H k) : qa8 x0 H k := lk1 pan hT hm Tryz.func72 (by kernel_rfl) (A := qa8.ann) (by kernel_rfl) (by simp) (by kernel_rfl) h
def qbY.b (x0 : List Value) (x1 : Sl) (H : AH) (k : Option Addr → Int → AH → Prop) : Prop :=
 newC H ⟨x0,.rw,0⟩ fun o2 H2 => ldA H2 ⟨o2,0,none⟩ 4 fun c9 => qbg c9 H2 fun b10 H10 => bcase (!b10) (k none (1 : Int) H10) (ldA H10 ⟨o2,0,none⟩ 4 fun c12 => ldA H10 ⟨o2,0,none⟩ 4 fun c13 => qby c13 H10 fun n14 H14 => AH.row? H14 ⟨o2,0,none⟩ 4 = some c12 ∧ nvm_New n14 x1 H14 fun p16 H16 => AH.row? H16 ⟨o2,0,none⟩ 4 = some c12 ∧ (qlY c12 = 4) ∧ newC H16 ⟨(List.set (setMany [(qlI .i64 (0 : Int)),(qlI .i64 (0 : Int)),(qlI .i64 (0 : Int)),(qlI .i64 (0 : Int)),(qlO none),(qlO none),(qlI .i64 (0 : Int))] 0 c12) 4 (qlO p16)),.rw,0⟩ fun o18 H18 => elP (AH.cell? H18 (qlL ⟨o18,0,none⟩ 4)) fun p22 => ldA H18 ⟨o2,0,none⟩ 4 fun c23 => qL p22 c23 H18 fun n24 H24 => bcase ((n24 : Int) != (0 : Int)) (k none n24 H24) (qa8 (some ⟨o18,0,none⟩) H24 fun n29 H29 => bcase ((n29 : Int) != (0 : Int)) (k none n29 H29) (k (some ⟨o18,0,none⟩) (0 : Int) H29)))
def qbY.ann : Ann := { keep := fun r => match r with  | _ => [],ord := fun r => match r with | 3 => [0,1,3,2,4,5,6,7] | 4 => [0,1,2,3,4,5,6] | _ => [] }
theorem qbY.link {x0 : List Value} {x1 : Sl} {H : AH} {k : Option Addr → Int → AH → Prop} (h : qbY.b x0 x1 H k) : qbY x0 x1 H k := lk2 pan hT hm Tryz.func24 (by kernel_rfl) (A := qbY.ann) (by kernel_rfl) (by simp) (by simp) (by kernel_rfl) h
def qaM.b (x0 : Option Addr) (H : AH) (k : Int → AH → Prop) : Prop :=
 bcase (qmb x0) (k (0 : Int) H) (onPtr x0 fun a6 => elI .i64 (AH.cell? H (qlL a6 36)) fun n8 => k n8 H)
theorem qaM.link {x0 : Option Addr} {H : AH} {k : Int → AH → Prop} (h : qaM.b x0 H k) : qaM x0 H k := lk1 pan hT hm Tryz.func26 (by kernel_rfl) (A := ann0) (by kernel_rfl) (by simp) (by kernel_rfl) h
def qa3.b (x0 : Option Addr) (x1 : Int) (x2 : Int) (H : AH) (k : AH → Prop) : Prop :=
 bcase (!(qmb x0)) (onPtr x0 fun a13 => stC H (qlL a13 37) [(qlI .i64 (if (-1 : Int) > x1 then (-1 : Int) else x1))] fun Hs2 => onPtr x0 fun a15 => stC Hs2 (qlL a15 38) [(qlI .i64 x2)] fun Hs4 => k Hs4) (k H)
theorem qa3.link {x0 : Option Addr} {x1 : Int} {x2 : Int} {H : AH} {k : AH → Prop} (h : qa3.b x0 x1 x2 H k) : qa3 x0 x1 x2 H k := lk0 pan hT hm Tryz.func120 (by kernel_rfl) (A := ann0) (by kernel_rfl) (by kernel_rfl) h
def qaL.b (x0 : Option Addr) (H : AH) (k : AH → Prop) : Prop :=
 bcase (!(qmb x0)) (onPtr x0 fun a6 => stC H (qlL a6 37) [(qlI .i64 (-1 : Int))] fun Hs2 => onPtr x0 fun a8 => stC Hs2 (qlL a8 39) [(qmD false)] fun Hs4 => k Hs4) (k H)
theorem qaL.link {x0 : Option Addr} {H : AH} {k : AH → Prop} (h : qaL.b x0 H k) : qaL x0 H k := lk0 pan hT hm Tryz.func121 (by kernel_rfl) (A := ann0) (by kernel_rfl) (by kernel_rfl) h
def qbn.b (x0 : Option Addr) (x1 : List Value) (H : AH) (k : List Value → AH → Prop) : Prop :=
 newC H ⟨x1,.rw,0⟩ fun o3 H3 => newC H3 ⟨[(qlI .i64 (0 : Int)),(qlI .i64 (0 : Int)),(qlV none 0 0)],.rw,0⟩ fun o4 H4 => elI .i64 (AH.cell? H4 (qlL ⟨o3,0,none⟩ 0)) fun n7 => bcase ((n7 : Int) == (7 : Int)) (onPtr x0 fun a10 => elP (AH.cell? H4 (qlL a10 4)) fun p12 => elI .i64 (AH.cell? H4 (qlL ⟨o3,0,none⟩ 2)) fun n14 => elI .i64 (AH.cell? H4 (qlL ⟨o3,0,none⟩ 3)) fun n16 => qa3 p12 n14 n16 H4 fun H17 => (qlY [(qlI .i64 (0 : Int)),(qlI .i64 (0 : Int)),(qlV none 0 0)] = 3 ∧ qmq [(qlI .i64 (0 : Int)),(qlI .i64 (0 : Int)),(qlV none 0 0)] qo = true) ∧ stC H17 ⟨o4,0,none⟩ [(qlI .i64 (0 : Int)),(qlI .i64 (0 : Int)),(qlV none 0 0)] fun Hs2 => ldA Hs2 ⟨o4,0,none⟩ 3 fun r0 => k r0 Hs2) (elI .i64 (AH.cell? H4 (qlL ⟨o3,0,none⟩ 0)) fun n21 => bcase ((n21 : Int) == (8 : Int)) (onPtr x0 fun a24 => elP (AH.cell? H4 (qlL a24 4)) fun p26 => qaL p26 H4 fun H27 => qa8 x0 H27 fun n29 H29 => (qlY [(qlI .i64 n29),(qlI .i64 (0 : Int)),(qlV none 0 0)] = 3 ∧ qmq [(qlI .i64 n29),(qlI .i64 (0 : Int)),(qlV none 0 0)] qo = true) ∧ stC H29 ⟨o4,0,none⟩ [(qlI .i64 n29),(qlI .i64 (0 : Int)),(qlV none 0 0)] fun Hs4 => ldA Hs4 ⟨o4,0,none⟩ 3 fun r0 => k r0 Hs4) (onPtr x0 fun a33 => elP (AH.cell? H4 (qlL a33 5)) fun p35 => bcase (qmb p35) ((qlY [(qlI .i64 (5 : Int)),(qlI .i64 (0 : Int)),(qlV none 0 0)] = 3 ∧ qmq [(qlI .i64 (5 : Int)),(qlI .i64 (0 : Int)),(qlV none 0 0)] qo = true) ∧ stC H4 ⟨o4,0,none⟩ [(qlI .i64 (5 : Int)),(qlI .i64 (0 : Int)),(qlV none 0 0)] fun Hs6 => ldA Hs6 ⟨o4,0,none⟩ 3 fun r0 => k r0 Hs6) (onPtr x0 fun a39 => elP (AH.cell? H4 (qlL a39 5)) fun p41 => ldA H4 ⟨o3,0,none⟩ 5 fun c42 => qw p41 c42 H4 fun c43 H43 => (qlY c43 = 3 ∧ qmq c43 qo = true) ∧ stC H43 ⟨o4,0,none⟩ c43 fun Hs8 => ldA Hs8 ⟨o4,0,none⟩ 3 fun r0 => k r0 Hs8)))
def qbn.ann : Ann := { keep := fun r => match r with  | _ => [],ord := fun r => match r with | 2 => [0,1,2,3,4,5,6,7,8] | 9 => [0,1,2,3,4,5,6] | _ => [] }
theorem qbn.link {x0 : Option Addr} {x1 : List Value} {H : AH} {k : List Value → AH → Prop} (h : qbn.b x0 x1 H k) : qbn x0 x1 H k := lk1 pan hT hm Tryz.func73 (by kernel_rfl) (A := qbn.ann) (by kernel_rfl) (by simp) (by kernel_rfl) h
def qap.b (x0 : Option Addr) (x1 : List Value) (H : AH) (k : List Value → AH → Prop) : Prop :=
 newC H ⟨x1,.rw,0⟩ fun o3 H3 => newC H3 ⟨[(qlI .i64 (0 : Int)),(qlI .i64 (0 : Int)),(qlV none 0 0)],.rw,0⟩ fun o4 H4 => bcase (qmb x0) ((qlY [(qlI .i64 (1 : Int)),(qlI .i64 (0 : Int)),(qlV none 0 0)] = 3 ∧ qmq [(qlI .i64 (1 : Int)),(qlI .i64 (0 : Int)),(qlV none 0 0)] qo = true) ∧ stC H4 ⟨o4,0,none⟩ [(qlI .i64 (1 : Int)),(qlI .i64 (0 : Int)),(qlV none 0 0)] fun Hs2 => ldA Hs2 ⟨o4,0,none⟩ 3 fun r0 => k r0 Hs2) (onPtr x0 fun a11 => elP (AH.cell? H4 (qlL a11 4)) fun p13 => qaM p13 H4 fun n14 H14 => ldA H14 ⟨o3,0,none⟩ 5 fun c16 => qbn x0 c16 H14 fun c17 H17 => newC H17 ⟨[(qlI .i64 (0 : Int)),(qlI .i64 (0 : Int)),(qlV none 0 0)],.rw,0⟩ fun o6 H6 => (qlY c17 = 3 ∧ qmq c17 qo = true) ∧ stC H6 ⟨o6,0,none⟩ c17 fun Hs4 => onPtr x0 fun a20 => elP (AH.cell? Hs4 (qlL a20 4)) fun p22 => qaM p22 Hs4 fun n23 H23 => onPtr x0 fun a26 => stC H23 (qlL a26 6) [(qlI .i64 (qlJ .i64 (n23 - n14)))] fun Hs6 => ldA Hs6 ⟨o6,0,none⟩ 3 fun c28 => (qlY c28 = 3 ∧ qmq c28 qo = true) ∧ stC Hs6 ⟨o4,0,none⟩ c28 fun Hs8 => ldA Hs8 ⟨o4,0,none⟩ 3 fun r0 => k r0 Hs8)
theorem qap.link {x0 : Option Addr} {x1 : List Value} {H : AH} {k : List Value → AH → Prop} (h : qap.b x0 x1 H k) : qap x0 x1 H k := lk1 pan hT hm Tryz.func28 (by kernel_rfl) (A := ann0) (by kernel_rfl) (by simp) (by kernel_rfl) h
def qaB.j1 (k : Bool → AH → Prop) (H9 : AH) (p9a : Option Addr) (x17 : Bool) : Prop :=
 bcase x17 (k false H9) (qap p9a [(qlI .i64 (1 : Int)),(qlI .i64 (0 : Int)),(qlI .i64 (9 : Int)),(qlI .i64 (0 : Int)),(qlV none 0 0)] H9 fun c20 H20 => newC H20 ⟨[(qlI .i64 (0 : Int)),(qlI .i64 (0 : Int)),(qlV none 0 0)],.rw,0⟩ fun o3 H3 => (qlY c20 = 3 ∧ qmq c20 qo = true) ∧ stC H3 ⟨o3,0,none⟩ c20 fun Hs2 => qap p9a [(qlI .i64 (7 : Int)),(qlI .i64 (0 : Int)),(qlI .i64 (0 : Int)),(qlI .i64 (0 : Int)),(qlV none 0 0)] Hs2 fun c23 H23 => qap p9a [(qlI .i64 (2 : Int)),(qlI .i64 (8 : Int)),(qlI .i64 (0 : Int)),(qlI .i64 (0 : Int)),(qlV none 0 0)] H23 fun c26 H26 => newC H26 ⟨[(qlI .i64 (0 : Int)),(qlI .i64 (0 : Int)),(qlV none 0 0)],.rw,0⟩ fun o4 H4 => (qlY c26 = 3 ∧ qmq c26 qo = true) ∧ stC H4 ⟨o4,0,none⟩ c26 fun Hs4 => qap p9a [(qlI .i64 (8 : Int)),(qlI .i64 (0 : Int)),(qlI .i64 (0 : Int)),(qlI .i64 (0 : Int)),(qlV none 0 0)] Hs4 fun c29 H29 => newC H29 ⟨[(qlI .i64 (0 : Int)),(qlI .i64 (0 : Int)),(qlV none 0 0)],.rw,0⟩ fun o5 H5 => (qlY c29 = 3 ∧ qmq c29 qo = true) ∧ stC H5 ⟨o5,0,none⟩ c29 fun Hs6 => qap p9a [(qlI .i64 (3 : Int)),(qlI .i64 (8 : Int)),(qlI .i64 (9 : Int)),(qlI .i64 (0 : Int)),(qlV none 0 0)] Hs6 fun c32 H32 => newC H32 ⟨[(qlI .i64 (0 : Int)),(qlI .i64 (0 : Int)),(qlV none 0 0)],.rw,0⟩ fun o6 H6 => (qlY c32 = 3 ∧ qmq c32 qo = true) ∧ stC H6 ⟨o6,0,none⟩ c32 fun Hs8 => elI .i64 (AH.cell? Hs8 (qlL ⟨o3,0,none⟩ 1)) fun n34 => bcase ((n34 : Int) == (8 : Int)) (elI .i64 (AH.cell? Hs8 (qlL ⟨o4,0,none⟩ 0)) fun n38 => bcase ((n38 : Int) == (2 : Int)) (elI .i64 (AH.cell? Hs8 (qlL ⟨o5,0,none⟩ 0)) fun n43 => bcase ((n43 : Int) == (0 : Int)) (elL (AH.cell? Hs8 (qlL ⟨o6,0,none⟩ 2)) fun s48 => k ((((s48.n : Nat) : Int) : Int) == (9 : Int)) Hs8) (k false Hs8)) (k false Hs8)) (k false Hs8))
def qaB.b (H : AH) (k : Bool → AH → Prop) : Prop :=
 qbY [(qlI .i64 (4 : Int)),(qlI .i64 (1 : Int)),(qlI .i64 (2 : Int)),(qlI .i64 (2 : Int))] ⟨none,0,0⟩ H fun p9a n9b H9 => bcase ((n9b : Int) != (0 : Int)) (qaB.j1 k H9 p9a true) (qaB.j1 k H9 p9a (qmb p9a))
theorem qaB.link {_u : Unit} {H : AH} {k : Bool → AH → Prop} (h : qaB.b  H k) : qaB  H k := lk1 pan hT hm Tryz.func13 (by kernel_rfl) (A := ann0) (by kernel_rfl) (by simp) (by kernel_rfl) h
def qbS.b (x0 : Option Addr) (H : AH) (k : Bool → AH → Prop) : Prop :=
 bcase (qmb x0) (k false H) (onPtr x0 fun a9 => elP (AH.cell? H (qlL a9 0)) fun p11 => qJ p11 (1 : Int) H fun n12a n12b H12 => k ((n12a : Int) != (0 : Int)) H12)
theorem qbS.link {x0 : Option Addr} {H : AH} {k : Bool → AH → Prop} (h : qbS.b x0 H k) : qbS x0 H k := lk1 pan hT hm Tryz.func71 (by kernel_rfl) (A := ann0) (by kernel_rfl) (by simp) (by kernel_rfl) h
def qci.b (x0 : Option Addr) (H : AH) (k : Bool → AH → Prop) : Prop :=
 bcase (!(qmb x0)) (onPtr x0 fun a7 => elB (AH.cell? H (qlL a7 8)) fun b9 => bcase b9 (k true H) (onPtr x0 fun a12 => elP (AH.cell? H (qlL a12 6)) fun p14 => qbS p14 H fun b15 H15 => k b15 H15)) (k false H)
theorem qci.link {x0 : Option Addr} {H : AH} {k : Bool → AH → Prop} (h : qci.b x0 H k) : qci x0 H k := lk1 pan hT hm Tryz.func20 (by kernel_rfl) (A := ann0) (by kernel_rfl) (by simp) (by kernel_rfl) h
def qS.j1 (k : List Value → Bool → AH → Prop) (o2 : Nat) (o6 : Nat) (Hj : AH) : Prop :=
 ldA Hj ⟨o6,0,none⟩ 5 fun c54 => (qlY c54 = 5 ∧ qmq c54 qo = true) ∧ stC Hj ⟨o2,0,none⟩ c54 fun Hs4 => ldA Hs4 ⟨o2,0,none⟩ 5 fun r0 => k r0 true Hs4
def qS.j2 (k : List Value → Bool → AH → Prop) (o2 : Nat) (o6 : Nat) (Hs2 : AH) (x51 : Bool) : Prop :=
 bcase x51 (qS.j1 k o2 o6 Hs2) ((qlY [(qlI .i64 (0 : Int)),(qlI .i64 (0 : Int)),(qlI .i64 (0 : Int)),(qlI .i64 (0 : Int)),(qlV none 0 0)] = 5 ∧ qmq [(qlI .i64 (0 : Int)),(qlI .i64 (0 : Int)),(qlI .i64 (0 : Int)),(qlI .i64 (0 : Int)),(qlV none 0 0)] qo = true) ∧ stC Hs2 ⟨o2,0,none⟩ [(qlI .i64 (0 : Int)),(qlI .i64 (0 : Int)),(qlI .i64 (0 : Int)),(qlI .i64 (0 : Int)),(qlV none 0 0)] fun Hs18 => ldA Hs18 ⟨o2,0,none⟩ 5 fun r0 => k r0 false Hs18)
def qS.j3 (k : List Value → Bool → AH → Prop) (o2 : Nat) (n9 : Int) (n13 : Int) (n19 : Int) (o6 : Nat) (Hs2 : AH) (n27 : Int) (x33 : Bool) : Prop :=
 bcase x33 (stC Hs2 (qlL ⟨o6,0,none⟩ 1) [(qlI .i64 (qlJ .i64 ((qlJ .i64 n9) + (qlJ .i64 ((256 : Int) * (qlJ .i64 n13))))))] fun Hs8 => qS.j1 k o2 o6 Hs8) (bcase ((n27 : Int) == (3 : Int)) (stC Hs2 (qlL ⟨o6,0,none⟩ 1) [(qlI .i64 (qlJ .i64 ((qlJ .i64 n9) + (qlJ .i64 ((256 : Int) * (qlJ .i64 n13))))))] fun Hs10 => stC Hs10 (qlL ⟨o6,0,none⟩ 2) [(qlI .i64 (qlJ .i64 n19))] fun Hs12 => qS.j1 k o2 o6 Hs12) (bcase ((n27 : Int) == (7 : Int)) (stC Hs2 (qlL ⟨o6,0,none⟩ 2) [(qlI .i64 (qlJ .i64 ((qlJ .i64 n9) + (qlJ .i64 ((256 : Int) * (qlJ .i64 n13))))))] fun Hs14 => stC Hs14 (qlL ⟨o6,0,none⟩ 3) [(qlI .i64 (qlJ .i64 n19))] fun Hs16 => qS.j1 k o2 o6 Hs16) (bcase ((n27 : Int) == (6 : Int)) (qS.j2 k o2 o6 Hs2 ((n27 : Int) == (6 : Int))) (qS.j2 k o2 o6 Hs2 ((n27 : Int) == (8 : Int))))))
def qS.b (x0 : Sl) (H : AH) (k : List Value → Bool → AH → Prop) : Prop :=
 newC H ⟨[(qlI .i64 (0 : Int)),(qlI .i64 (0 : Int)),(qlI .i64 (0 : Int)),(qlI .i64 (0 : Int)),(qlV none 0 0)],.rw,0⟩ fun o2 H2 => (0 ≤ (1 : Int) ∧ (1 : Int) < ((x0.n : Nat) : Int)) ∧ onPtr x0.a fun a8 => elI .u8 (AH.cell? H2 (qlL a8 (qlQ (1 : Int) * 1))) fun n9 => (0 ≤ (2 : Int) ∧ (2 : Int) < ((x0.n : Nat) : Int)) ∧ onPtr x0.a fun a12 => elI .u8 (AH.cell? H2 (qlL a12 (qlQ (2 : Int) * 1))) fun n13 => (0 ≤ (3 : Int) ∧ (3 : Int) < ((x0.n : Nat) : Int)) ∧ onPtr x0.a fun a18 => elI .u8 (AH.cell? H2 (qlL a18 (qlQ (3 : Int) * 1))) fun n19 => (0 ≤ (0 : Int) ∧ (0 : Int) < ((x0.n : Nat) : Int)) ∧ onPtr x0.a fun a22 => elI .u8 (AH.cell? H2 (qlL a22 (qlQ (0 : Int) * 1))) fun n23 => newC H2 ⟨[(qlI .i64 (0 : Int)),(qlI .i64 (0 : Int)),(qlI .i64 (0 : Int)),(qlI .i64 (0 : Int)),(qlV none 0 0)],.rw,0⟩ fun o6 H6 => (qlY [(qlI .i64 (qlJ .i64 n23)),(qlI .i64 (0 : Int)),(qlI .i64 (0 : Int)),(qlI .i64 (0 : Int)),(qlV none 0 0)] = 5 ∧ qmq [(qlI .i64 (qlJ .i64 n23)),(qlI .i64 (0 : Int)),(qlI .i64 (0 : Int)),(qlI .i64 (0 : Int)),(qlV none 0 0)] qo = true) ∧ stC H6 ⟨o6,0,none⟩ [(qlI .i64 (qlJ .i64 n23)),(qlI .i64 (0 : Int)),(qlI .i64 (0 : Int)),(qlI .i64 (0 : Int)),(qlV none 0 0)] fun Hs2 => elI .i64 (AH.cell? Hs2 (qlL ⟨o6,0,none⟩ 0)) fun n27 => bcase ((n27 : Int) == (1 : Int)) (stC Hs2 (qlL ⟨o6,0,none⟩ 2) [(qlI .i64 (qlJ .i64 ((qlJ .i64 n9) + (qlJ .i64 ((256 : Int) * (qlJ .i64 n13))))))] fun Hs6 => qS.j1 k o2 o6 Hs6) (bcase ((n27 : Int) == (2 : Int)) (qS.j3 k o2 n9 n13 n19 o6 Hs2 n27 ((n27 : Int) == (2 : Int))) (bcase ((n27 : Int) == (4 : Int)) (qS.j3 k o2 n9 n13 n19 o6 Hs2 n27 ((n27 : Int) == (4 : Int))) (qS.j3 k o2 n9 n13 n19 o6 Hs2 n27 ((n27 : Int) == (5 : Int)))))
def qS.ann : Ann := { keep := fun r => match r with  | _ => [],ord := fun r => match r with | 1 => [0,1,2,3,4,5,6,7,8,9,10,11,12,13,14,15] | _ => [] }
theorem qS.link {x0 : Sl} {H : AH} {k : List Value → Bool → AH → Prop} (h : qS.b x0 H k) : qS x0 H k := lk2 pan hT hm Tryz.func77 (by kernel_rfl) (A := qS.ann) (by kernel_rfl) (by simp) (by simp) (by kernel_rfl) h
def qaJ.j1 (t2 : Sl × Sl) (it2 : (Sl × Sl) → AH → Prop) (o4 : Nat) (x0 : Sl) (Hj : AH) : Prop :=
 ldA Hj ⟨o4,0,none⟩ 5 fun c40 => (qlY c40 = 5) ∧ newC Hj ⟨(setMany [(qlI .i64 (0 : Int)),(qlI .i64 (0 : Int)),(qlI .i64 (0 : Int)),(qlI .i64 (0 : Int)),(qlV none 0 0)] 0 c40),.rw,5⟩ fun o41 H41 => appendC 5 H41 t2.2 ⟨(some ⟨o41,0,none⟩),1,1⟩ fun s42 H42 => it2 (x0,s42) H42
def qaJ.l2 (k : Sl → AH → Prop) (t2 : Sl × Sl) (HL2 : AH) (it2 : (Sl × Sl) → AH → Prop) : Prop :=
 bcase (decide ((((t2.1.n : Nat) : Int) : Int) ≥ (4 : Int))) (qS t2.1 HL2 fun c13a b13b H13 => newC H13 ⟨[(qlI .i64 (0 : Int)),(qlI .i64 (0 : Int)),(qlI .i64 (0 : Int)),(qlI .i64 (0 : Int)),(qlV none 0 0)],.rw,0⟩ fun o4 H4 => (qlY c13a = 5 ∧ qmq c13a qo = true) ∧ stC H4 ⟨o4,0,none⟩ c13a fun Hs2 => (0 ≤ (3 : Int) ∧ (3 : Int) < ((t2.1.n : Nat) : Int)) ∧ onPtr t2.1.a fun a17 => elI .u8 (AH.cell? Hs2 (qlL a17 (qlQ (3 : Int) * 1))) fun n18 => (0 ≤ (4 : Int) ∧ (4 : Int) ≤ ((t2.1.n : Nat) : Int)) ∧ bcase (!b13b) (it2 (⟨(Option.map (fun x => qlL x (qlQ (4 : Int) * 1)) t2.1.a),(t2.1.n - qlQ (4 : Int)),0⟩,t2.2) Hs2) (elI .i64 (AH.cell? Hs2 (qlL ⟨o4,0,none⟩ 0)) fun n25 => bcase ((n25 : Int) == (4 : Int)) ((0 ≤ (if (((t2.1.n - qlQ (4 : Int)) : Nat) : Int) < (qlJ .i64 n18) then (((t2.1.n - qlQ (4 : Int)) : Nat) : Int) else (qlJ .i64 n18)) ∧ (if (((t2.1.n - qlQ (4 : Int)) : Nat) : Int) < (qlJ .i64 n18) then (((t2.1.n - qlQ (4 : Int)) : Nat) : Int) else (qlJ .i64 n18)) ≤ (((t2.1.n - qlQ (4 : Int)) : Nat) : Int)) ∧ (0 ≤ (if (((t2.1.n - qlQ (4 : Int)) : Nat) : Int) < (qlJ .i64 n18) then (((t2.1.n - qlQ (4 : Int)) : Nat) : Int) else (qlJ .i64 n18)) ∧ (if (((t2.1.n - qlQ (4 : Int)) : Nat) : Int) < (qlJ .i64 n18) then (((t2.1.n - qlQ (4 : Int)) : Nat) : Int) else (qlJ .i64 n18)) ≤ (((t2.1.n - qlQ (4 : Int)) : Nat) : Int)) ∧ appendC 1 Hs2 ⟨none,0,0⟩ ⟨(Option.map (fun x => qlL x (qlQ (4 : Int) * 1)) t2.1.a),(qlQ (if (((t2.1.n - qlQ (4 : Int)) : Nat) : Int) < (qlJ .i64 n18) then (((t2.1.n - qlQ (4 : Int)) : Nat) : Int) else (qlJ .i64 n18))),0⟩ fun s34 H34 => stC H34 (qlL ⟨o4,0,none⟩ 4) [(Sl.val s34)] fun Hs4 => qaJ.j1 t2 it2 o4 ⟨(Option.map (fun x => qlL x (qlQ (if (((t2.1.n - qlQ (4 : Int)) : Nat) : Int) < (qlJ .i64 n18) then (((t2.1.n - qlQ (4 : Int)) : Nat) : Int) else (qlJ .i64 n18)) * 1)) (Option.map (fun x => qlL x (qlQ (4 : Int) * 1)) t2.1.a)),((t2.1.n - qlQ (4 : Int)) - qlQ (if (((t2.1.n - qlQ (4 : Int)) : Nat) : Int) < (qlJ .i64 n18) then (((t2.1.n - qlQ (4 : Int)) : Nat) : Int) else (qlJ .i64 n18))),0⟩ Hs4) (qaJ.j1 t2 it2 o4 ⟨(Option.map (fun x => qlL x (qlQ (4 : Int) * 1)) t2.1.a),(t2.1.n - qlQ (4 : Int)),0⟩ Hs2))) (k t2.2 HL2)
def qaJ.b (x0 : Sl) (H : AH) (k : Sl → AH → Prop) : Prop :=
 loopT (qaJ.l2 k) ((x0,⟨none,0,0⟩) : Sl × Sl) H
def qaJ.ann : Ann := { keep := fun r => match r with | 2 => [(0,.sl),(3,.sl)] | _ => [],ord := fun r => match r with | 9 => [0,1,2,4,5,6,3,7,8,9] | _ => [] }
theorem qaJ.link {x0 : Sl} {H : AH} {k : Sl → AH → Prop} (h : qaJ.b x0 H k) : qaJ x0 H k := lk1 pan hT hm Tryz.func34 (by kernel_rfl) (A := qaJ.ann) (by kernel_rfl) (by simp) (by kernel_rfl) h
def qb1.b (x0 : Option Addr) (H : AH) (k : Option Addr → AH → Prop) : Prop :=
 bcase (qmb x0) (k none H) (onPtr x0 fun a6 => elP (AH.cell? H (qlL a6 5)) fun p8 => k p8 H)
theorem qb1.link {x0 : Option Addr} {H : AH} {k : Option Addr → AH → Prop} (h : qb1.b x0 H k) : qb1 x0 H k := lk1 pan hT hm Tryz.func37 (by kernel_rfl) (A := ann0) (by kernel_rfl) (by simp) (by kernel_rfl) h
def qcO.b (x0 : Int) (H : AH) (k : Option Addr → AH → Prop) : Prop :=
 qa1 x0 H fun s4 H4 => bcase (qmb s4.a) (k none H4) (newC H4 ⟨[(qlI .i64 x0),(qlV none 0 0),(qlI .i64 (0 : Int))],.rw,0⟩ fun o8 H8 => k (some ⟨o8,0,none⟩) H8)
theorem qcO.link {x0 : Int} {H : AH} {k : Option Addr → AH → Prop} (h : qcO.b x0 H k) : qcO x0 H k := lk1 pan hT hm Tryz.func81 (by kernel_rfl) (A := ann0) (by kernel_rfl) (by simp) (by kernel_rfl) h
def qcF.b (x0 : Int) (H : AH) (k : Option Addr → AH → Prop) : Prop :=
 qcO x0 H fun p5 H5 => bcase (qmb p5) (k none H5) (newC H5 ⟨[(qlO p5),(qmD false)],.rw,0⟩ fun o10 H10 => k (some ⟨o10,0,none⟩) H10)
theorem qcF.link {x0 : Int} {H : AH} {k : Option Addr → AH → Prop} (h : qcF.b x0 H k) : qcF x0 H k := lk1 pan hT hm Tryz.func41 (by kernel_rfl) (A := ann0) (by kernel_rfl) (by simp) (by kernel_rfl) h
def qbj.j1 (x0 : Int) (H : AH) (k : Int → AH → Prop) (x8 : Bool) : Prop :=
 bcase x8 (k (0 : Int) H) (((8 : Int) : Int) ≠ 0 ∧ k (qlJ .i64 ((qlJ .i64 (qm5 (qlJ .i64 (x0 + (7 : Int))) (8 : Int))) + (1 : Int))) H)
def qbj.b (x0 : Int) (H : AH) (k : Int → AH → Prop) : Prop :=
 bcase (decide ((x0 : Int) < (1 : Int))) (qbj.j1 x0 H k true) (qbj.j1 x0 H k (decide ((x0 : Int) > (448 : Int))))
theorem qbj.link {x0 : Int} {H : AH} {k : Int → AH → Prop} (h : qbj.b x0 H k) : qbj x0 H k := lk1 pan hT hm Tryz.func109 (by kernel_rfl) (A := ann0) (by kernel_rfl) (by simp) (by kernel_rfl) h
def qcn.b (x0 : Sl) (x1 : Sl) (H : AH) (k : Bool → AH → Prop) : Prop :=
 strC H x0 fun y6 => strC H x1 fun y8 => k (ByteArray.toList ⟨qme y6⟩ == ByteArray.toList ⟨qme y8⟩) H
theorem qcn.link {x0 : Sl} {x1 : Sl} {H : AH} {k : Bool → AH → Prop} (h : qcn.b x0 x1 H k) : qcn x0 x1 H k := lk1 pan hT hm Tryz.func128 (by kernel_rfl) (A := ann0) (by kernel_rfl) (by simp) (by kernel_rfl) h
def qaa.b (x0 : List Value) (x1 : List Value) (H : AH) (k : Bool → AH → Prop) : Prop :=
 newC H ⟨x0,.rw,0⟩ fun o2 H2 => newC H2 ⟨x1,.rw,0⟩ fun o3 H3 => elI .i64 (AH.cell? H3 (qlL ⟨o2,0,none⟩ 0)) fun n6 => elI .i64 (AH.cell? H3 (qlL ⟨o3,0,none⟩ 0)) fun n8 => bcase ((n6 : Int) == n8) (elI .i64 (AH.cell? H3 (qlL ⟨o2,0,none⟩ 1)) fun n12 => elI .i64 (AH.cell? H3 (qlL ⟨o3,0,none⟩ 1)) fun n14 => bcase ((n12 : Int) == n14) (elL (AH.cell? H3 (qlL ⟨o2,0,none⟩ 2)) fun s19 => elL (AH.cell? H3 (qlL ⟨o3,0,none⟩ 2)) fun s21 => qcn s19 s21 H3 fun b22 H22 => k b22 H22) (k false H3)) (k false H3)
theorem qaa.link {x0 : List Value} {x1 : List Value} {H : AH} {k : Bool → AH → Prop} (h : qaa.b x0 x1 H k) : qaa x0 x1 H k := lk1 pan hT hm Tryz.func85 (by kernel_rfl) (A := ann0) (by kernel_rfl) (by simp) (by kernel_rfl) h
def qaT.b (x0 : Sl) (H : AH) (k : Sl → AH → Prop) : Prop :=
 bcase (qmb x0.a) (k ⟨none,0,0⟩ H) (newC H ⟨[],.rw,3⟩ fun o5 H5 => appendC 3 H5 ⟨(some ⟨o5,0,none⟩),0,1⟩ x0 fun s7 H7 => k s7 H7)
theorem qaT.link {x0 : Sl} {H : AH} {k : Sl → AH → Prop} (h : qaT.b x0 H k) : qaT x0 H k := lk1 pan hT hm Tryz.func130 (by kernel_rfl) (A := ann0) (by kernel_rfl) (by simp) (by kernel_rfl) h
def qx.j1 (t6 : Sl × Int × Int) (it6 : (Sl × Int × Int) → AH → Prop) (o6 : Nat) (x3 : Sl) (Hj : AH) : Prop :=
 elI .i64 (AH.cell? Hj (qlL ⟨o6,0,none⟩ 0)) fun n51 => elI .i64 (AH.cell? Hj (qlL ⟨o6,0,none⟩ 1)) fun n53 => it6 (x3,(qlJ .i64 (n51 + n53)),(qlJ .i64 (t6.2.2 + (1 : Int)))) Hj
def qx.j2 (t6 : Sl × Int × Int) (it6 : (Sl × Int × Int) → AH → Prop) (o6 : Nat) (x3 : Sl) (Hj : AH) : Prop :=
 elI .i64 (AH.cell? Hj (qlL ⟨o6,0,none⟩ 1)) fun n40 => bcase (decide ((n40 : Int) > (0 : Int))) (elI .i64 (AH.cell? Hj (qlL ⟨o6,0,none⟩ 0)) fun n44 => elI .i64 (AH.cell? Hj (qlL ⟨o6,0,none⟩ 1)) fun n46 => (qlY [(qlI .i64 n44),(qlI .i64 n46),(qmD true)] = 3) ∧ newC Hj ⟨[(qlI .i64 n44),(qlI .i64 n46),(qmD true)],.rw,3⟩ fun o48 H48 => appendC 3 H48 x3 ⟨(some ⟨o48,0,none⟩),1,1⟩ fun s49 H49 => qx.j1 t6 it6 o6 s49 H49) (qx.j1 t6 it6 o6 x3 Hj)
def qx.l3 (k : Sl → AH → Prop) (s20 : Sl) (t6 : Sl × Int × Int) (HL6 : AH) (it6 : (Sl × Int × Int) → AH → Prop) : Prop :=
 bcase (decide ((t6.2.2 : Int) < ((s20.n : Nat) : Int))) ((0 ≤ t6.2.2 ∧ t6.2.2 < ((s20.n : Nat) : Int)) ∧ onPtr s20.a fun a24 => ldA HL6 (qlL a24 (qlQ t6.2.2 * 3)) 3 fun c25 => newC HL6 ⟨[(qlI .i64 (0 : Int)),(qlI .i64 (0 : Int)),(qlV none 0 0)],.rw,0⟩ fun o6 H6 => (qlY c25 = 3 ∧ qmq c25 qo = true) ∧ stC H6 ⟨o6,0,none⟩ c25 fun Hs2 => elI .i64 (AH.cell? Hs2 (qlL ⟨o6,0,none⟩ 0)) fun n28 => bcase (decide ((t6.2.1 : Int) < n28)) (elI .i64 (AH.cell? Hs2 (qlL ⟨o6,0,none⟩ 0)) fun n33 => (qlY [(qlI .i64 t6.2.1),(qlI .i64 (qlJ .i64 (n33 - t6.2.1))),(qmD false)] = 3) ∧ newC Hs2 ⟨[(qlI .i64 t6.2.1),(qlI .i64 (qlJ .i64 (n33 - t6.2.1))),(qmD false)],.rw,3⟩ fun o37 H37 => appendC 3 H37 t6.1 ⟨(some ⟨o37,0,none⟩),1,1⟩ fun s38 H38 => qx.j2 t6 it6 o6 s38 H38) (qx.j2 t6 it6 o6 t6.1 Hs2)) (k t6.1 HL6)
def qx.b (x0 : Option Addr) (H : AH) (k : Sl → AH → Prop) : Prop :=
 bcase (qmb x0) (k ⟨none,0,0⟩ H) (onPtr x0 fun a10 => elL (AH.cell? H (qlL a10 1)) fun s12 => onPtr x0 fun a15 => elI .i64 (AH.cell? H (qlL a15 0)) fun n17 => (qlY [(qlI .i64 n17),(qlI .i64 (0 : Int)),(qlV none 0 0)] = 3) ∧ newC H ⟨[(qlI .i64 n17),(qlI .i64 (0 : Int)),(qlV none 0 0)],.rw,3⟩ fun o19 H19 => qaT s12 H19 fun s13 H13 => AH.cell? H13 (qlL a15 0) = some (qlI .i64 n17) ∧ appendC 3 H13 s13 ⟨(some ⟨o19,0,none⟩),1,1⟩ fun s20 H20 => loopT (qx.l3 k s20) ((⟨none,0,0⟩,(0 : Int),(0 : Int)) : Sl × Int × Int) H20)
def qx.ann : Ann := { keep := fun r => match r with | 6 => [(3,.sl),(4,.int .i64),(22,.int .i64)] | _ => [],ord := fun r => match r with | 5 => [0,1,2,3,5,6,7,8,9,10,13,4,11,12] | _ => [] }
theorem qx.link {x0 : Option Addr} {H : AH} {k : Sl → AH → Prop} (h : qx.b x0 H k) : qx x0 H k := lk1 pan hT hm Tryz.func90 (by kernel_rfl) (A := qx.ann) (by kernel_rfl) (by simp) (by kernel_rfl) h
def qY.j1 (t3 : Sl × Int) (it3 : (Sl × Int) → AH → Prop) (Hs2 : AH) (x5 : Sl) (x56 : Bool) : Prop :=
 bcase x56 (newC Hs2 ⟨[(qlI .i64 t3.2)],.rw,1⟩ fun o59 H59 => appendC 1 H59 x5 ⟨(some ⟨o59,0,none⟩),1,1⟩ fun s60 H60 => it3 (s60,(qlJ .i64 (t3.2 + (1 : Int)))) H60) (it3 (x5,(qlJ .i64 (t3.2 + (1 : Int)))) Hs2)
def qY.j2 (x0 : Sl) (t3 : Sl × Int) (it3 : (Sl × Int) → AH → Prop) (o7 : Nat) (Hs2 : AH) (x5 : Sl) : Prop :=
 bcase ((((x5.n : Nat) : Int) : Int) == (0 : Int)) (qY.j1 t3 it3 Hs2 x5 true) (elI .i64 (AH.cell? Hs2 (qlL ⟨o7,0,none⟩ 1)) fun n47 => (0 ≤ (0 : Int) ∧ (0 : Int) < ((x5.n : Nat) : Int)) ∧ onPtr x5.a fun a50 => elI .i64 (AH.cell? Hs2 (qlL a50 (qlQ (0 : Int) * 1))) fun n51 => (0 ≤ n51 ∧ n51 < ((x0.n : Nat) : Int)) ∧ onPtr x0.a fun a52 => elI .i64 (AH.cell? Hs2 (qlL (qlL a52 (qlQ n51 * 3)) 1)) fun n54 => qY.j1 t3 it3 Hs2 x5 ((n47 : Int) == n54))
def qY.j3 (x0 : Sl) (t3 : Sl × Int) (it3 : (Sl × Int) → AH → Prop) (o7 : Nat) (Hs2 : AH) (x41 : Bool) : Prop :=
 bcase x41 (qY.j2 x0 t3 it3 o7 Hs2 ⟨none,0,0⟩) (qY.j2 x0 t3 it3 o7 Hs2 t3.1)
def qY.j4 (x0 : Sl) (t3 : Sl × Int) (it3 : (Sl × Int) → AH → Prop) (o7 : Nat) (Hs2 : AH) (x26 : Bool) : Prop :=
 bcase x26 (it3 (t3.1,(qlJ .i64 (t3.2 + (1 : Int)))) Hs2) (bcase (decide ((((t3.1.n : Nat) : Int) : Int) > (0 : Int))) (elI .i64 (AH.cell? Hs2 (qlL ⟨o7,0,none⟩ 1)) fun n32 => (0 ≤ (0 : Int) ∧ (0 : Int) < ((t3.1.n : Nat) : Int)) ∧ onPtr t3.1.a fun a35 => elI .i64 (AH.cell? Hs2 (qlL a35 (qlQ (0 : Int) * 1))) fun n36 => (0 ≤ n36 ∧ n36 < ((x0.n : Nat) : Int)) ∧ onPtr x0.a fun a37 => elI .i64 (AH.cell? Hs2 (qlL (qlL a37 (qlQ n36 * 3)) 1)) fun n39 => qY.j3 x0 t3 it3 o7 Hs2 (decide ((n32 : Int) < n39))) (qY.j3 x0 t3 it3 o7 Hs2 false))
def qY.l5 (x0 : Sl) (x1 : Int) (k : Sl → AH → Prop) (t3 : Sl × Int) (HL3 : AH) (it3 : (Sl × Int) → AH → Prop) : Prop :=
 bcase (decide ((t3.2 : Int) < ((x0.n : Nat) : Int))) ((0 ≤ t3.2 ∧ t3.2 < ((x0.n : Nat) : Int)) ∧ onPtr x0.a fun a13 => ldA HL3 (qlL a13 (qlQ t3.2 * 3)) 3 fun c14 => newC HL3 ⟨[(qlI .i64 (0 : Int)),(qlI .i64 (0 : Int)),(qmD false)],.rw,0⟩ fun o7 H7 => (qlY c14 = 3 ∧ qmq c14 qo = true) ∧ stC H7 ⟨o7,0,none⟩ c14 fun Hs2 => bcase (decide ((x1 : Int) < (2 : Int))) (qY.j4 x0 t3 it3 o7 Hs2 true) (elB (AH.cell? Hs2 (qlL ⟨o7,0,none⟩ 2)) fun b19 => bcase b19 (qY.j4 x0 t3 it3 o7 Hs2 true) (elI .i64 (AH.cell? Hs2 (qlL ⟨o7,0,none⟩ 1)) fun n23 => qY.j4 x0 t3 it3 o7 Hs2 (decide ((n23 : Int) < x1))))) (k t3.1 HL3)
def qY.b (x0 : Sl) (x1 : Int) (H : AH) (k : Sl → AH → Prop) : Prop :=
 loopT (qY.l5 x0 x1 k) ((⟨none,0,0⟩,(0 : Int)) : Sl × Int) H
def qY.ann : Ann := { keep := fun r => match r with | 3 => [(5,.sl),(10,.int .i64)] | _ => [],ord := fun r => match r with | 6 => [0,1,2,3,4,5,6,7,8,9,10,11,12,13,14] | 8 => [0,1,2,3,4,5,6,7,8,9,10,11,12,13,14] | _ => [] }
theorem qY.link {x0 : Sl} {x1 : Int} {H : AH} {k : Sl → AH → Prop} (h : qY.b x0 x1 H k) : qY x0 x1 H k := lk1 pan hT hm Tryz.func164 (by kernel_rfl) (A := qY.ann) (by kernel_rfl) (by simp) (by kernel_rfl) h
def qae.l1 (k : Sl → AH → Prop) (s10 : Sl) (s14 : Sl) (t4 : Sl × Int) (HL4 : AH) (it4 : (Sl × Int) → AH → Prop) : Prop :=
 bcase (decide ((t4.2 : Int) < ((s14.n : Nat) : Int))) ((0 ≤ t4.2 ∧ t4.2 < ((s14.n : Nat) : Int)) ∧ onPtr s14.a fun a18 => elI .i64 (AH.cell? HL4 (qlL a18 (qlQ t4.2 * 1))) fun n19 => (0 ≤ n19 ∧ n19 < ((s10.n : Nat) : Int)) ∧ onPtr s10.a fun a23 => ldA HL4 (qlL a23 (qlQ n19 * 3)) 3 fun c24 => qba c24 HL4 fun n25 H25 => newC H25 ⟨[(qlI .i64 n25)],.rw,1⟩ fun o26 H26 => appendC 1 H26 t4.1 ⟨(some ⟨o26,0,none⟩),1,1⟩ fun s27 H27 => it4 (s27,(qlJ .i64 (t4.2 + (1 : Int)))) H27) (k t4.1 HL4)
def qae.b (x0 : Option Addr) (x1 : Int) (H : AH) (k : Sl → AH → Prop) : Prop :=
 qx x0 H fun s10 H10 => qbj x1 H10 fun n13 H13 => qY s10 n13 H13 fun s14 H14 => loopT (qae.l1 k s10 s14) ((⟨none,0,0⟩,(0 : Int)) : Sl × Int) H14
def qae.ann : Ann := { keep := fun r => match r with | 4 => [(5,.sl),(16,.int .i64)] | _ => [],ord := fun r => match r with  | _ => [] }
theorem qae.link {x0 : Option Addr} {x1 : Int} {H : AH} {k : Sl → AH → Prop} (h : qae.b x0 x1 H k) : qae x0 x1 H k := lk1 pan hT hm Tryz.func123 (by kernel_rfl) (A := qae.ann) (by kernel_rfl) (by simp) (by kernel_rfl) h
def qZ.l1 (x0 : Sl) (x1 : Int) (k : Int → AH → Prop) (t2 : Int × Int) (HL2 : AH) (it2 : (Int × Int) → AH → Prop) : Prop :=
 bcase (decide ((t2.2 : Int) < ((x0.n : Nat) : Int))) ((0 ≤ t2.2 ∧ t2.2 < ((x0.n : Nat) : Int)) ∧ onPtr x0.a fun a14 => elI .i64 (AH.cell? HL2 (qlL a14 (qlQ t2.2 * 1))) fun n15 => bcase ((x1 : Int) == n15) (k t2.2 HL2) (it2 (t2.1,(qlJ .i64 (t2.2 + (1 : Int)))) HL2)) (k (-1 : Int) HL2)
def qZ.b (x0 : Sl) (x1 : Int) (H : AH) (k : Int → AH → Prop) : Prop :=
 loopT (qZ.l1 x0 x1 k) (((0 : Int),(0 : Int)) : Int × Int) H
def qZ.ann : Ann := { keep := fun r => match r with | 2 => [(4,.int .i64),(8,.int .i64)] | _ => [],ord := fun r => match r with  | _ => [] }
theorem qZ.link {x0 : Sl} {x1 : Int} {H : AH} {k : Int → AH → Prop} (h : qZ.b x0 x1 H k) : qZ x0 x1 H k := lk1 pan hT hm Tryz.func184 (by kernel_rfl) (A := qZ.ann) (by kernel_rfl) (by simp) (by kernel_rfl) h
def qaA.b (x0 : Sl) (x1 : Int) (H : AH) (k : Bool → AH → Prop) : Prop :=
 qZ x0 x1 H fun n7 H7 => k (decide ((n7 : Int) ≥ (0 : Int))) H7
theorem qaA.link {x0 : Sl} {x1 : Int} {H : AH} {k : Bool → AH → Prop} (h : qaA.b x0 x1 H k) : qaA x0 x1 H k := lk1 pan hT hm Tryz.func160 (by kernel_rfl) (A := ann0) (by kernel_rfl) (by simp) (by kernel_rfl) h
def qch.l1 (x0 : Sl) (x1 : Int) (k : Int → AH → Prop) (t2 : Int × Int) (HL2 : AH) (it2 : (Int × Int) → AH → Prop) : Prop :=
 bcase (decide ((t2.2 : Int) < ((x0.n : Nat) : Int))) ((0 ≤ t2.2 ∧ t2.2 < ((x0.n : Nat) : Int)) ∧ onPtr x0.a fun a12 => ldA HL2 (qlL a12 (qlQ t2.2 * 3)) 3 fun c13 => newC HL2 ⟨[(qlI .i64 (0 : Int)),(qlI .i64 (0 : Int)),(qmD false)],.rw,0⟩ fun o6 H6 => (qlY c13 = 3 ∧ qmq c13 qo = true) ∧ stC H6 ⟨o6,0,none⟩ c13 fun Hs2 => elI .i64 (AH.cell? Hs2 (qlL ⟨o6,0,none⟩ 0)) fun n16 => bcase (decide ((x1 : Int) ≥ n16)) (elI .i64 (AH.cell? Hs2 (qlL ⟨o6,0,none⟩ 1)) fun n20 => bcase (decide ((n20 : Int) > (0 : Int))) (elI .i64 (AH.cell? Hs2 (qlL ⟨o6,0,none⟩ 0)) fun n27 => elI .i64 (AH.cell? Hs2 (qlL ⟨o6,0,none⟩ 1)) fun n31 => bcase (decide (((qlJ .u64 ((qlJ .u64 x1) - (qlJ .u64 n27))) : Int) < (qlJ .u64 n31))) (k t2.2 Hs2) (it2 (t2.1,(qlJ .i64 (t2.2 + (1 : Int)))) Hs2)) (it2 (t2.1,(qlJ .i64 (t2.2 + (1 : Int)))) Hs2)) (it2 (t2.1,(qlJ .i64 (t2.2 + (1 : Int)))) Hs2)) (k (-1 : Int) HL2)
def qch.b (x0 : Sl) (x1 : Int) (H : AH) (k : Int → AH → Prop) : Prop :=
 loopT (qch.l1 x0 x1 k) (((0 : Int),(0 : Int)) : Int × Int) H
def qch.ann : Ann := { keep := fun r => match r with | 2 => [(4,.int .i64),(9,.int .i64)] | _ => [],ord := fun r => match r with  | _ => [] }
theorem qch.link {x0 : Sl} {x1 : Int} {H : AH} {k : Int → AH → Prop} (h : qch.b x0 x1 H k) : qch x0 x1 H k := lk1 pan hT hm Tryz.func161 (by kernel_rfl) (A := qch.ann) (by kernel_rfl) (by simp) (by kernel_rfl) h
def qbL.j1 (x0 : Int) (x1 : Int) (H : AH) (k : Int → AH → Prop) (x5 : Bool) : Prop :=
 bcase x5 (k (0 : Int) H) (bcase (decide (((qlJ .i64 (x0 - x1)) : Int) < (2 : Int))) (k x0 H) (k x1 H))
def qbL.b (x0 : Int) (x1 : Int) (H : AH) (k : Int → AH → Prop) : Prop :=
 bcase (decide ((x1 : Int) < (2 : Int))) (qbL.j1 x0 x1 H k true) (qbL.j1 x0 x1 H k (decide ((x1 : Int) > x0)))
theorem qbL.link {x0 : Int} {x1 : Int} {H : AH} {k : Int → AH → Prop} (h : qbL.b x0 x1 H k) : qbL x0 x1 H k := lk1 pan hT hm Tryz.func162 (by kernel_rfl) (A := ann0) (by kernel_rfl) (by simp) (by kernel_rfl) h
def qH.j1 (x0 : Option Addr) (k : Bool → AH → Prop) (o10 : Nat) (t9 : Int) (HL9 : AH) : Prop :=
 onPtr x0 fun a65 => elL (AH.cell? HL9 (qlL a65 1)) fun s67 => ldA HL9 ⟨o10,0,none⟩ 3 fun c69 => (qlY c69 = 3) ∧ newC HL9 ⟨(setMany [(qlI .i64 (0 : Int)),(qlI .i64 (0 : Int)),(qlV none 0 0)] 0 c69),.rw,3⟩ fun o70 H70 => qct s67 t9 ⟨(some ⟨o70,0,none⟩),1,1⟩ H70 fun s71 H71 => onPtr x0 fun a72 => stC H71 (qlL a72 1) [(Sl.val s71)] fun Hs6 => k true Hs6
def qH.j2 (x0 : Option Addr) (k : Bool → AH → Prop) (o10 : Nat) (t9 : Int) (it9 : (Int) → AH → Prop) (HL9 : AH) (x60 : Bool) : Prop :=
 bcase x60 (it9 (qlJ .i64 (t9 + (1 : Int))) HL9) (qH.j1 x0 k o10 t9 HL9)
def qH.l3 (x0 : Option Addr) (x2 : Int) (k : Bool → AH → Prop) (o10 : Nat) (t9 : Int) (HL9 : AH) (it9 : (Int) → AH → Prop) : Prop :=
 onPtr x0 fun a44 => elL (AH.cell? HL9 (qlL a44 1)) fun s46 => bcase (decide ((t9 : Int) < ((s46.n : Nat) : Int))) (onPtr x0 fun a51 => elL (AH.cell? HL9 (qlL a51 1)) fun s53 => (0 ≤ t9 ∧ t9 < ((s53.n : Nat) : Int)) ∧ onPtr s53.a fun a55 => elI .i64 (AH.cell? HL9 (qlL (qlL a55 (qlQ t9 * 3)) 0)) fun n57 => qH.j2 x0 k o10 t9 it9 HL9 (decide ((n57 : Int) < (qlJ .i64 ((qlJ .i64 (qm5 x2 (8 : Int))) - (1 : Int)))))) (qH.j2 x0 k o10 t9 it9 HL9 false)
def qH.b (x0 : Option Addr) (x1 : Int) (x2 : Int) (H : AH) (k : Bool → AH → Prop) : Prop :=
 qae x0 x1 H fun s14 H14 => qaA s14 x2 H14 fun b16 H16 => bcase (!b16) (k false H16) (qx x0 H16 fun s19 H19 => ((8 : Int) : Int) ≠ 0 ∧ qch s19 (qlJ .i64 ((qlJ .i64 (qm5 x2 (8 : Int))) - (1 : Int))) H19 fun n26 H26 => (0 ≤ n26 ∧ n26 < ((s19.n : Nat) : Int)) ∧ onPtr s19.a fun a27 => elI .i64 (AH.cell? H26 (qlL (qlL a27 (qlQ n26 * 3)) 1)) fun n29 => qbj x1 H26 fun n33 H33 => qbL n29 n33 H33 fun n34 H34 => newC H34 ⟨[(qlI .i64 (0 : Int)),(qlI .i64 (0 : Int)),(qlV none 0 0)],.rw,0⟩ fun o10 H10 => (qlY [(qlI .i64 (qlJ .i64 ((qlJ .i64 (qm5 x2 (8 : Int))) - (1 : Int)))),(qlI .i64 n34),(qlV none 0 0)] = 3 ∧ qmq [(qlI .i64 (qlJ .i64 ((qlJ .i64 (qm5 x2 (8 : Int))) - (1 : Int)))),(qlI .i64 n34),(qlV none 0 0)] qo = true) ∧ stC H10 ⟨o10,0,none⟩ [(qlI .i64 (qlJ .i64 ((qlJ .i64 (qm5 x2 (8 : Int))) - (1 : Int)))),(qlI .i64 n34),(qlV none 0 0)] fun Hs2 => elI .i64 (AH.cell? Hs2 (qlL ⟨o10,0,none⟩ 1)) fun n37 => (0 ≤ (qlJ .i64 ((qlJ .i64 (n37 - (1 : Int))) * (8 : Int))) ∧ (qlJ .i64 ((qlJ .i64 (n37 - (1 : Int))) * (8 : Int))) ≤ (qlJ .i64 ((qlJ .i64 (n37 - (1 : Int))) * (8 : Int))) ∧ (qlJ .i64 ((qlJ .i64 (n37 - (1 : Int))) * (8 : Int))) ≤ (lim : Int)) ∧ newC Hs2 ⟨zerosOf (qlQ (qlJ .i64 ((qlJ .i64 (n37 - (1 : Int))) * (8 : Int)))) [(qlI .u8 (0 : Int))],.rw,1⟩ fun o40 H40 => stC H40 (qlL ⟨o10,0,none⟩ 2) [(qlV (some ⟨o40,0,none⟩) (qlQ (qlJ .i64 ((qlJ .i64 (n37 - (1 : Int))) * (8 : Int)))) 1)] fun Hs4 => loopT (qH.l3 x0 x2 k o10) (((0 : Int)) : Int) Hs4)
def qH.ann : Ann := { keep := fun r => match r with | 9 => [(11,.int .i64)] | _ => [],ord := fun r => match r with | 11 => [0,1,2,3,4,5,6,7,8,9,10,11] | _ => [] }
theorem qH.link {x0 : Option Addr} {x1 : Int} {x2 : Int} {H : AH} {k : Bool → AH → Prop} (h : qH.b x0 x1 x2 H k) : qH x0 x1 x2 H k := lk1 pan hT hm Tryz.func122 (by kernel_rfl) (A := qH.ann) (by kernel_rfl) (by simp) (by kernel_rfl) h
def qQ.j1 (x0 : Option Addr) (k : Bool → AH → Prop) (o4 : Nat) (o5 : Nat) (H18 : AH) (x27 : Bool) : Prop :=
 bcase x27 (onPtr x0 fun a38 => elP (AH.cell? H18 (qlL a38 0)) fun p40 => elI .i64 (AH.cell? H18 (qlL ⟨o4,0,none⟩ 2)) fun n42 => elI .i64 (AH.cell? H18 (qlL ⟨o5,0,none⟩ 1)) fun n44 => qH p40 n42 n44 H18 fun b45 H45 => k b45 H45) (ldA H18 ⟨o5,0,none⟩ 3 fun c46 => qaa c46 [(qlI .i64 (4 : Int)),(qlI .i64 (0 : Int)),(qlV none 0 0)] H18 fun b48 H48 => bcase b48 (onPtr x0 fun a51 => elP (AH.cell? H48 (qlL a51 0)) fun p53 => elI .i64 (AH.cell? H48 (qlL ⟨o4,0,none⟩ 2)) fun n55 => qae p53 n55 H48 fun s56 H56 => k ((((s56.n : Nat) : Int) : Int) == (0 : Int)) H56) (k false H48))
def qQ.b (x0 : Option Addr) (x1 : List Value) (x2 : List Value) (H : AH) (k : Bool → AH → Prop) : Prop :=
 newC H ⟨x1,.rw,0⟩ fun o4 H4 => newC H4 ⟨x2,.rw,0⟩ fun o5 H5 => elI .i64 (AH.cell? H5 (qlL ⟨o4,0,none⟩ 2)) fun n9 => qbj n9 H5 fun n10 H10 => bcase ((n10 : Int) == (0 : Int)) (ldA H10 ⟨o5,0,none⟩ 3 fun c12 => qaa c12 [(qlI .i64 (1 : Int)),(qlI .i64 (0 : Int)),(qlV none 0 0)] H10 fun b14 H14 => k b14 H14) (ldA H10 ⟨o5,0,none⟩ 3 fun c16 => qaa c16 [(qlI .i64 (3 : Int)),(qlI .i64 (0 : Int)),(qlV none 0 0)] H10 fun b18 H18 => bcase b18 (onPtr x0 fun a20 => stC H18 (qlL a20 1) [(qmD true)] fun Hs2 => k true Hs2) (onPtr x0 fun a24 => elB (AH.cell? H18 (qlL a24 1)) fun b26 => bcase b26 (k false H18) (elI .i64 (AH.cell? H18 (qlL ⟨o5,0,none⟩ 0)) fun n29 => bcase ((n29 : Int) == (0 : Int)) (elL (AH.cell? H18 (qlL ⟨o5,0,none⟩ 2)) fun s33 => qQ.j1 x0 k o4 o5 H18 ((((s33.n : Nat) : Int) : Int) == (0 : Int))) (qQ.j1 x0 k o4 o5 H18 false))))
def qQ.ann : Ann := { keep := fun r => match r with  | _ => [],ord := fun r => match r with | 9 => [0,1,2,3,4,5,6,7,8,9] | 10 => [0,1,2,3,4,5,6,7,8,9,10,11,12,13,14] | _ => [] }
theorem qQ.link {x0 : Option Addr} {x1 : List Value} {x2 : List Value} {H : AH} {k : Bool → AH → Prop} (h : qQ.b x0 x1 x2 H k) : qQ x0 x1 x2 H k := lk1 pan hT hm Tryz.func82 (by kernel_rfl) (A := qQ.ann) (by kernel_rfl) (by simp) (by kernel_rfl) h
def qad.b (x0 : Sl) (H : AH) (k : Sl → AH → Prop) : Prop :=
 bcase (qmb x0.a) (k ⟨none,0,0⟩ H) (newC H ⟨[],.rw,1⟩ fun o5 H5 => appendC 1 H5 ⟨(some ⟨o5,0,none⟩),0,1⟩ x0 fun s7 H7 => k s7 H7)
theorem qad.link {x0 : Sl} {H : AH} {k : Sl → AH → Prop} (h : qad.b x0 H k) : qad x0 H k := lk1 pan hT hm Tryz.func127 (by kernel_rfl) (A := ann0) (by kernel_rfl) (by simp) (by kernel_rfl) h
def qau.l1 (k : Option Addr → AH → Prop) (o17 : Nat) (s21 : Sl) (t5 : Int) (HL5 : AH) (it5 : (Int) → AH → Prop) : Prop :=
 bcase (decide ((t5 : Int) < ((s21.n : Nat) : Int))) ((0 ≤ t5 ∧ t5 < ((s21.n : Nat) : Int)) ∧ onPtr s21.a fun a25 => ldA HL5 (qlL a25 (qlQ t5 * 3)) 3 fun c26 => newC HL5 ⟨[(qlI .i64 (0 : Int)),(qlI .i64 (0 : Int)),(qlV none 0 0)],.rw,0⟩ fun o5 H5 => (qlY c26 = 3 ∧ qmq c26 qo = true) ∧ stC H5 ⟨o5,0,none⟩ c26 fun Hs2 => elL (AH.cell? Hs2 (qlL ⟨o5,0,none⟩ 2)) fun s28 => qad s28 Hs2 fun s29 H29 => stC H29 (qlL ⟨o5,0,none⟩ 2) [(Sl.val s29)] fun Hs4 => elL (AH.cell? Hs4 (qlL ⟨o17,0,none⟩ 1)) fun s35 => ldA Hs4 ⟨o5,0,none⟩ 3 fun c36 => (qlY c36 = 3) ∧ newC Hs4 ⟨(setMany [(qlI .i64 (0 : Int)),(qlI .i64 (0 : Int)),(qlV none 0 0)] 0 c36),.rw,3⟩ fun o37 H37 => appendC 3 H37 s35 ⟨(some ⟨o37,0,none⟩),1,1⟩ fun s38 H38 => stC H38 (qlL ⟨o17,0,none⟩ 1) [(Sl.val s38)] fun Hs6 => it5 (qlJ .i64 (t5 + (1 : Int))) Hs6) (k (some ⟨o17,0,none⟩) HL5)
def qau.b (x0 : Option Addr) (H : AH) (k : Option Addr → AH → Prop) : Prop :=
 bcase (qmb x0) (k none H) (onPtr x0 fun a9 => elI .i64 (AH.cell? H (qlL a9 0)) fun n11 => onPtr x0 fun a13 => elI .i64 (AH.cell? H (qlL a13 2)) fun n15 => newC H ⟨[(qlI .i64 n11),(qlV none 0 0),(qlI .i64 n15)],.rw,0⟩ fun o17 H17 => onPtr x0 fun a19 => elL (AH.cell? H17 (qlL a19 1)) fun s21 => loopT (qau.l1 k o17 s21) (((0 : Int)) : Int) H17)
def qau.ann : Ann := { keep := fun r => match r with | 5 => [(23,.int .i64)] | _ => [],ord := fun r => match r with | 3 => [0,1,2,3,4,5,6,7,8,9,10] | 8 => [0,1,2,3,4,5,6,7,8,9,10] | _ => [] }
theorem qau.link {x0 : Option Addr} {H : AH} {k : Option Addr → AH → Prop} (h : qau.b x0 H k) : qau x0 H k := lk1 pan hT hm Tryz.func124 (by kernel_rfl) (A := qau.ann) (by kernel_rfl) (by simp) (by kernel_rfl) h
def qal.b (x0 : List Value) (H : AH) (k : Int → AH → Prop) : Prop :=
 newC H ⟨x0,.rw,0⟩ fun o1 H1 => elI .i64 (AH.cell? H1 (qlL ⟨o1,0,none⟩ 0)) fun n4 => k (qlJ .i64 ((qlJ .i64 (n4 + (1 : Int))) * (8 : Int))) H1
theorem qal.link {x0 : List Value} {H : AH} {k : Int → AH → Prop} (h : qal.b x0 H k) : qal x0 H k := lk1 pan hT hm Tryz.func168 (by kernel_rfl) (A := ann0) (by kernel_rfl) (by simp) (by kernel_rfl) h
def qaF.b (x0 : List Value) (x1 : Option Addr) (H : AH) (k : Bool → AH → Prop) : Prop :=
 newC H ⟨x0,.rw,0⟩ fun o2 H2 => ldA H2 ⟨o2,0,none⟩ 3 fun c4 => onPtr x1 fun a6 => elI .i64 (AH.cell? H2 a6) fun n6 => qal c4 H2 fun n5 H5 => AH.cell? H5 a6 = some (qlI .i64 n6) ∧ k ((n5 : Int) == n6) H5
def qaF.ann : Ann := { keep := fun r => match r with  | _ => [],ord := fun r => match r with | 1 => [0,2,1,3,4] | _ => [] }
theorem qaF.link {x0 : List Value} {x1 : Option Addr} {H : AH} {k : Bool → AH → Prop} (h : qaF.b x0 x1 H k) : qaF x0 x1 H k := lk1 pan hT hm Tryz.func196 (by kernel_rfl) (A := qaF.ann) (by kernel_rfl) (by simp) (by kernel_rfl) h
def qaX.b (x0 : Option Addr) (x1 : Int) (H : AH) (k : Int → AH → Prop) : Prop :=
 newC H ⟨[(qlI .i64 x1)],.rw,0⟩ fun o3 H3 => bcase (qmb x0) (k (-1 : Int) H3) (onPtr x0 fun a8 => elL (AH.cell? H3 (qlL a8 1)) fun s10 => qq s10 (some ⟨o3,0,none⟩) H3 fun n12 H12 => k n12 H12)
theorem qaX.link {x0 : Option Addr} {x1 : Int} {H : AH} {k : Int → AH → Prop} (h : qaX.b x0 x1 H k) : qaX x0 x1 H k := lk1 pan hT hm Tryz.func187 (by kernel_rfl) (A := ann0) (by kernel_rfl) (by simp) (by kernel_rfl) h
def qbo.b (x0 : Option Addr) (x1 : Int) (H : AH) (k : Int → AH → Prop) : Prop :=
 qaX x0 x1 H fun n8 H8 => bcase (decide ((n8 : Int) < (0 : Int))) (k (1 : Int) H8) (onPtr x0 fun a14 => elI .i64 (AH.cell? H8 (qlL a14 2)) fun n16 => bcase ((n16 : Int) == x1) (k (5 : Int) H8) (onPtr x0 fun a21 => elL (AH.cell? H8 (qlL a21 1)) fun s23 => qcs s23 n8 (qlJ .i64 (n8 + (1 : Int))) H8 fun s27 H27 => onPtr x0 fun a28 => stC H27 (qlL a28 1) [(Sl.val s27)] fun Hs2 => k (0 : Int) Hs2))
theorem qbo.link {x0 : Option Addr} {x1 : Int} {H : AH} {k : Int → AH → Prop} (h : qbo.b x0 x1 H k) : qbo x0 x1 H k := lk1 pan hT hm Tryz.func165 (by kernel_rfl) (A := ann0) (by kernel_rfl) (by simp) (by kernel_rfl) h
def qA.j1 (x1 : Int) (x2 : Int) (k : Sl → Int → AH → Prop) (t4 : Sl × Int × Int) (it4 : (Sl × Int × Int) → AH → Prop) (o9 : Nat) (x45 : Bool) (Hj : AH) : Prop :=
 bcase x45 (ldA Hj ⟨o9,0,none⟩ 3 fun c47 => qal c47 Hj fun n48 H48 => elL (AH.cell? H48 (qlL ⟨o9,0,none⟩ 2)) fun s51 => (0 ≤ (qlJ .i64 (x1 - n48)) ∧ (qlJ .i64 (x1 - n48)) ≤ (qlJ .i64 ((qlJ .i64 (x1 - n48)) + x2)) ∧ (qlJ .i64 ((qlJ .i64 (x1 - n48)) + x2)) ≤ ((s51.n : Nat) : Int)) ∧ k ⟨(Option.map (fun x => qlL x (qlQ (qlJ .i64 (x1 - n48)) * 1)) s51.a),(qlQ (qlJ .i64 ((qlJ .i64 (x1 - n48)) + x2)) - qlQ (qlJ .i64 (x1 - n48))),0⟩ (0 : Int) H48) (it4 (t4.1,t4.2.1,(qlJ .i64 (t4.2.2 + (1 : Int)))) Hj)
def qA.l2 (x1 : Int) (x2 : Int) (k : Sl → Int → AH → Prop) (s24 : Sl) (t4 : Sl × Int × Int) (HL4 : AH) (it4 : (Sl × Int × Int) → AH → Prop) : Prop :=
 bcase (decide ((t4.2.2 : Int) < ((s24.n : Nat) : Int))) ((0 ≤ t4.2.2 ∧ t4.2.2 < ((s24.n : Nat) : Int)) ∧ onPtr s24.a fun a28 => ldA HL4 (qlL a28 (qlQ t4.2.2 * 3)) 3 fun c29 => newC HL4 ⟨[(qlI .i64 (0 : Int)),(qlI .i64 (0 : Int)),(qlV none 0 0)],.rw,0⟩ fun o9 H9 => (qlY c29 = 3 ∧ qmq c29 qo = true) ∧ stC H9 ⟨o9,0,none⟩ c29 fun Hs2 => ldA Hs2 ⟨o9,0,none⟩ 3 fun c31 => qal c31 Hs2 fun n32 H32 => bcase (decide ((x1 : Int) ≥ n32)) (ldA H32 ⟨o9,0,none⟩ 3 fun c36 => elL (AH.cell? H32 (qlL ⟨o9,0,none⟩ 2)) fun s39 => qal c36 H32 fun n37 H37 => AH.cell? H37 (qlL ⟨o9,0,none⟩ 2) = some (Sl.val s39) ∧ qA.j1 x1 x2 k t4 it4 o9 (decide ((x1 : Int) ≤ (qlJ .i64 ((qlJ .i64 (n37 + ((s39.n : Nat) : Int))) - x2)))) H37) (qA.j1 x1 x2 k t4 it4 o9 false H32)) (k ⟨none,0,0⟩ (1 : Int) HL4)
def qA.j3 (x0 : Option Addr) (x1 : Int) (x2 : Int) (H : AH) (k : Sl → Int → AH → Prop) (x20 : Bool) : Prop :=
 bcase x20 (k ⟨none,0,0⟩ (1 : Int) H) (onPtr x0 fun a22 => elL (AH.cell? H (qlL a22 1)) fun s24 => loopT (qA.l2 x1 x2 k s24) ((⟨none,0,0⟩,(0 : Int),(0 : Int)) : Sl × Int × Int) H)
def qA.b (x0 : Option Addr) (x1 : Int) (x2 : Int) (H : AH) (k : Sl → Int → AH → Prop) : Prop :=
 bcase (qmb x0) (qA.j3 x0 x1 x2 H k true) (bcase (decide ((x2 : Int) < (0 : Int))) (qA.j3 x0 x1 x2 H k true) (qA.j3 x0 x1 x2 H k (decide ((x2 : Int) > (448 : Int)))))
def qA.ann : Ann := { keep := fun r => match r with | 4 => [(6,.sl),(7,.int .i64),(26,.int .i64)] | _ => [],ord := fun r => match r with | 6 => [0,1,2,3,4,5,6,8,9,10,12,7,11,13,14,15] | _ => [] }
theorem qA.link {x0 : Option Addr} {x1 : Int} {x2 : Int} {H : AH} {k : Sl → Int → AH → Prop} (h : qA.b x0 x1 x2 H k) : qA x0 x1 x2 H k := lk2 pan hT hm Tryz.func126 (by kernel_rfl) (A := qA.ann) (by kernel_rfl) (by simp) (by simp) (by kernel_rfl) h
def qbd.b (x0 : Option Addr) (x1 : Int) (x2 : Sl) (H : AH) (k : Int → AH → Prop) : Prop :=
 qA x0 x1 ((x2.n : Nat) : Int) H fun s14a n14b H14 => copyC 1 H14 s14a x2 fun n19 H19 => k n14b H19
theorem qbd.link {x0 : Option Addr} {x1 : Int} {x2 : Sl} {H : AH} {k : Int → AH → Prop} (h : qbd.b x0 x1 x2 H k) : qbd x0 x1 x2 H k := lk1 pan hT hm Tryz.func166 (by kernel_rfl) (A := ann0) (by kernel_rfl) (by simp) (by kernel_rfl) h
def qN.j1 (x0 : Option Addr) (x1 : Int) (k : Int → AH → Prop) (x16 : Bool) (Hj : AH) : Prop :=
 bcase x16 (k (1 : Int) Hj) (onPtr x0 fun a19 => stC Hj (qlL a19 2) [(qlI .i64 x1)] fun Hs2 => k (0 : Int) Hs2)
def qN.b (x0 : Option Addr) (x1 : Int) (H : AH) (k : Int → AH → Prop) : Prop :=
 bcase (qmb x0) (qN.j1 x0 x1 k true H) (bcase ((x1 : Int) != (0 : Int)) (qaX x0 x1 H fun n13 H13 => qN.j1 x0 x1 k (decide ((n13 : Int) < (0 : Int))) H13) (qN.j1 x0 x1 k false H))
theorem qN.link {x0 : Option Addr} {x1 : Int} {H : AH} {k : Int → AH → Prop} (h : qN.b x0 x1 H k) : qN x0 x1 H k := lk1 pan hT hm Tryz.func167 (by kernel_rfl) (A := ann0) (by kernel_rfl) (by simp) (by kernel_rfl) h
def qcD.b (x0 : Option Addr) (x1 : List Value) (H : AH) (k : Int → AH → Prop) : Prop :=
 newC H ⟨x1,.rw,0⟩ fun o3 H3 => elI .i64 (AH.cell? H3 (qlL ⟨o3,0,none⟩ 0)) fun n6 => bcase ((n6 : Int) == (2 : Int)) (elI .i64 (AH.cell? H3 (qlL ⟨o3,0,none⟩ 1)) fun n11 => qbo x0 n11 H3 fun n12 H12 => k n12 H12) (bcase ((n6 : Int) == (4 : Int)) (elI .i64 (AH.cell? H3 (qlL ⟨o3,0,none⟩ 1)) fun n17 => elL (AH.cell? H3 (qlL ⟨o3,0,none⟩ 4)) fun s19 => qbd x0 n17 s19 H3 fun n20 H20 => k n20 H20) (elI .i64 (AH.cell? H3 (qlL ⟨o3,0,none⟩ 1)) fun n23 => qN x0 n23 H3 fun n24 H24 => k n24 H24))
theorem qcD.link {x0 : Option Addr} {x1 : List Value} {H : AH} {k : Int → AH → Prop} (h : qcD.b x0 x1 H k) : qcD x0 x1 H k := lk1 pan hT hm Tryz.func125 (by kernel_rfl) (A := ann0) (by kernel_rfl) (by simp) (by kernel_rfl) h
def qz.j1 (x0 : Option Addr) (k : Bool → AH → Prop) (p14 : Option Addr) (Hj : AH) : Prop :=
 onPtr x0 fun a64 => stC Hj (qlL a64 0) [(qlO p14)] fun Hs2 => k true Hs2
def qz.j2 (x0 : Option Addr) (k : Bool → AH → Prop) (o5 : Nat) (p14 : Option Addr) (n17 : Int) (x9 : Bool) (x27 : Bool) (Hj : AH) : Prop :=
 bcase x27 (onPtr x0 fun a40 => stC Hj (qlL a40 1) [(qmD true)] fun Hs4 => k true Hs4) (bcase ((n17 : Int) == (0 : Int)) (bcase (!x9) (onPtr x0 fun a51 => elB (AH.cell? Hj (qlL a51 1)) fun b53 => bcase b53 (k false Hj) (ldA Hj ⟨o5,0,none⟩ 3 fun c56 => qaa c56 [(qlI .i64 n17),(qlI .i64 (0 : Int)),(qlV none 0 0)] Hj fun b59 H59 => bcase (!b59) (k false H59) (qz.j1 x0 k p14 H59))) (ldA Hj ⟨o5,0,none⟩ 3 fun c56 => qaa c56 [(qlI .i64 n17),(qlI .i64 (0 : Int)),(qlV none 0 0)] Hj fun b59 H59 => bcase (!b59) (k false H59) (qz.j1 x0 k p14 H59))) (ldA Hj ⟨o5,0,none⟩ 3 fun c56 => qaa c56 [(qlI .i64 n17),(qlI .i64 (0 : Int)),(qlV none 0 0)] Hj fun b59 H59 => bcase (!b59) (k false H59) (qz.j1 x0 k p14 H59)))
def qz.j3 (x0 : Option Addr) (k : Bool → AH → Prop) (o5 : Nat) (p14 : Option Addr) (H17 : AH) (n17 : Int) (x9 : Bool) : Prop :=
 bcase ((n17 : Int) == (0 : Int)) (bcase (!x9) (ldA H17 ⟨o5,0,none⟩ 3 fun c35 => qaa c35 [(qlI .i64 (3 : Int)),(qlI .i64 (0 : Int)),(qlV none 0 0)] H17 fun b37 H37 => qz.j2 x0 k o5 p14 n17 x9 b37 H37) (qz.j2 x0 k o5 p14 n17 x9 false H17)) (qz.j2 x0 k o5 p14 n17 x9 false H17)
def qz.b (x0 : Option Addr) (x1 : List Value) (x2 : List Value) (H : AH) (k : Bool → AH → Prop) : Prop :=
 newC H ⟨x1,.rw,0⟩ fun o4 H4 => newC H4 ⟨x2,.rw,0⟩ fun o5 H5 => onPtr x0 fun a11 => elP (AH.cell? H5 (qlL a11 0)) fun p13 => qau p13 H5 fun p14 H14 => ldA H14 ⟨o4,0,none⟩ 5 fun c16 => qcD p14 c16 H14 fun n17 H17 => elI .i64 (AH.cell? H17 (qlL ⟨o4,0,none⟩ 0)) fun n19 => bcase ((n19 : Int) == (4 : Int)) (elL (AH.cell? H17 (qlL ⟨o4,0,none⟩ 4)) fun s23 => qz.j3 x0 k o5 p14 H17 n17 ((((s23.n : Nat) : Int) : Int) == (0 : Int))) (qz.j3 x0 k o5 p14 H17 n17 false)
theorem qz.link {x0 : Option Addr} {x1 : List Value} {x2 : List Value} {H : AH} {k : Bool → AH → Prop} (h : qz.b x0 x1 x2 H k) : qz x0 x1 x2 H k := lk1 pan hT hm Tryz.func83 (by kernel_rfl) (A := ann0) (by kernel_rfl) (by simp) (by kernel_rfl) h
def qbm.b (x0 : Option Addr) (x1 : Int) (x2 : Int) (H : AH) (k : Sl → Int → AH → Prop) : Prop :=
 qA x0 x1 x2 H fun s14a n14b H14 => qad s14a H14 fun s18 H18 => k s18 n14b H18
theorem qbm.link {x0 : Option Addr} {x1 : Int} {x2 : Int} {H : AH} {k : Sl → Int → AH → Prop} (h : qbm.b x0 x1 x2 H k) : qbm x0 x1 x2 H k := lk2 pan hT hm Tryz.func84 (by kernel_rfl) (A := ann0) (by kernel_rfl) (by simp) (by simp) (by kernel_rfl) h
def qbp.b (x0 : Option Addr) (H : AH) (k : Int → AH → Prop) : Prop :=
 bcase (qmb x0) (k (0 : Int) H) (onPtr x0 fun a6 => elI .i64 (AH.cell? H (qlL a6 2)) fun n8 => k n8 H)
theorem qbp.link {x0 : Option Addr} {H : AH} {k : Int → AH → Prop} (h : qbp.b x0 H k) : qbp x0 H k := lk1 pan hT hm Tryz.func86 (by kernel_rfl) (A := ann0) (by kernel_rfl) (by simp) (by kernel_rfl) h
def qX.j1 (x0 : Option Addr) (k : Bool → AH → Prop) (o4 : Nat) (o5 : Nat) (H5 : AH) (n12 : Int) (x19 : Bool) : Prop :=
 bcase x19 (ldA H5 ⟨o4,0,none⟩ 5 fun c24 => ldA H5 ⟨o5,0,none⟩ 3 fun c25 => qz x0 c24 c25 H5 fun b26 H26 => k b26 H26) (bcase ((n12 : Int) == (3 : Int)) (onPtr x0 fun a31 => elP (AH.cell? H5 (qlL a31 0)) fun p33 => elI .i64 (AH.cell? H5 (qlL ⟨o4,0,none⟩ 1)) fun n35 => elI .i64 (AH.cell? H5 (qlL ⟨o4,0,none⟩ 2)) fun n37 => qbm p33 n35 n37 H5 fun s38a n38b H38 => ldA H38 ⟨o5,0,none⟩ 3 fun c41 => qaa c41 [(qlI .i64 n38b),(qlI .i64 (0 : Int)),(Sl.val s38a)] H38 fun b45 H45 => k b45 H45) (bcase ((n12 : Int) == (6 : Int)) (ldA H5 ⟨o5,0,none⟩ 3 fun c48 => onPtr x0 fun a50 => elP (AH.cell? H5 (qlL a50 0)) fun p52 => qbp p52 H5 fun n53 H53 => AH.row? H53 ⟨o5,0,none⟩ 3 = some c48 ∧ qaa c48 [(qlI .i64 (0 : Int)),(qlI .i64 n53),(qlV none 0 0)] H53 fun b55 H55 => k b55 H55) (ldA H5 ⟨o5,0,none⟩ 3 fun c56 => qaa c56 [(qlI .i64 (1 : Int)),(qlI .i64 (0 : Int)),(qlV none 0 0)] H5 fun b58 H58 => k b58 H58)))
def qX.b (x0 : Option Addr) (x1 : List Value) (x2 : List Value) (H : AH) (k : Bool → AH → Prop) : Prop :=
 newC H ⟨x1,.rw,0⟩ fun o4 H4 => newC H4 ⟨x2,.rw,0⟩ fun o5 H5 => bcase (qmb x0) (k false H5) (elI .i64 (AH.cell? H5 (qlL ⟨o4,0,none⟩ 0)) fun n12 => bcase ((n12 : Int) == (1 : Int)) (ldA H5 ⟨o4,0,none⟩ 5 fun c16 => ldA H5 ⟨o5,0,none⟩ 3 fun c17 => qQ x0 c16 c17 H5 fun b18 H18 => k b18 H18) (bcase ((n12 : Int) == (2 : Int)) (qX.j1 x0 k o4 o5 H5 n12 ((n12 : Int) == (2 : Int))) (bcase ((n12 : Int) == (4 : Int)) (qX.j1 x0 k o4 o5 H5 n12 ((n12 : Int) == (4 : Int))) (qX.j1 x0 k o4 o5 H5 n12 ((n12 : Int) == (5 : Int))))))
def qX.ann : Ann := { keep := fun r => match r with  | _ => [],ord := fun r => match r with | 11 => [0,1,2,3,4,5,6,7,8,9,10,11,12,13] | 14 => [0,1,2,3,4,5,6,7,8] | _ => [] }
theorem qX.link {x0 : Option Addr} {x1 : List Value} {x2 : List Value} {H : AH} {k : Bool → AH → Prop} (h : qX.b x0 x1 x2 H k) : qX x0 x1 x2 H k := lk1 pan hT hm Tryz.func43 (by kernel_rfl) (A := qX.ann) (by kernel_rfl) (by simp) (by kernel_rfl) h
def qa0.b (x0 : Option Addr) (H : AH) (k : Sl → AH → Prop) : Prop :=
 bcase (qmb x0) (k ⟨none,0,0⟩ H) (onPtr x0 fun a6 => elP (AH.cell? H (qlL a6 0)) fun p8 => qx p8 H fun s9 H9 => k s9 H9)
theorem qa0.link {x0 : Option Addr} {H : AH} {k : Sl → AH → Prop} (h : qa0.b x0 H k) : qa0 x0 H k := lk1 pan hT hm Tryz.func47 (by kernel_rfl) (A := ann0) (by kernel_rfl) (by simp) (by kernel_rfl) h
def qeJ.ann : Ann := { keep := fun r => match r with | 12 => [(6,.bool),(72,.int .i64)] | _ => [],ord := fun r => match r with | 14 => [0,1,2,3,4,5,6] | _ => [] }
def qR.l1 (x0 : Sl) (x1 : Sl) (k : Bool → AH → Prop) (t4 : Bool × Int) (HL4 : AH) (it4 : (Bool × Int) → AH → Prop) : Prop :=
 bcase (decide ((t4.2 : Int) < ((x0.n : Nat) : Int))) ((0 ≤ t4.2 ∧ t4.2 < ((x0.n : Nat) : Int)) ∧ onPtr x0.a fun a18 => ldA HL4 (qlL a18 (qlQ t4.2 * 3)) 3 fun c19 => (0 ≤ t4.2 ∧ t4.2 < ((x1.n : Nat) : Int)) ∧ onPtr x1.a fun a22 => ldA HL4 (qlL a22 (qlQ t4.2 * 3)) 3 fun c23 => elO (eqCells [(K.int .i64),(K.int .i64),K.bool] c19 c23) fun e24 => bcase (!e24) (k false HL4) (it4 (t4.1,(qlJ .i64 (t4.2 + (1 : Int)))) HL4)) (k true HL4)
def qR.b (x0 : Sl) (x1 : Sl) (H : AH) (k : Bool → AH → Prop) : Prop :=
 bcase ((((x0.n : Nat) : Int) : Int) != ((x1.n : Nat) : Int)) (k false H) (loopT (qR.l1 x0 x1 k) ((false,(0 : Int)) : Bool × Int) H)
def qR.ann : Ann := { keep := fun r => match r with | 4 => [(4,.bool),(13,.int .i64)] | _ => [],ord := fun r => match r with | 6 => [0,1,2,3,4,5,6,7,8] | _ => [] }
theorem qR.link {x0 : Sl} {x1 : Sl} {H : AH} {k : Bool → AH → Prop} (h : qR.b x0 x1 H k) : qR x0 x1 H k := lk1 pan hT hm Tryz.func46 (by kernel_rfl) (A := qR.ann) (by kernel_rfl) (by simp) (by kernel_rfl) h
def qs.j1 (k : Bool → AH → Prop) (p30a : Option Addr) (p35 : Option Addr) (HL9 : AH) : Prop :=
 qb1 p30a HL9 fun p77 H77 => qab p77 H77 fun s78a n78b H78 => qO s78a H78 fun s83a b83b H83 => bcase ((n78b : Int) == (0 : Int)) (bcase b83b (qa0 p35 H83 fun s94 H94 => qR s83a s94 H94 fun b95 H95 => bcase b95 (qaB  H95 fun b98 H98 => k b98 H98) (k false H95)) (k false H83)) (k false H83)
def qs.j2 (k : Bool → AH → Prop) (p30a : Option Addr) (p35 : Option Addr) (t9 : Bool × Int) (it9 : (Bool × Int) → AH → Prop) (o11 : Nat) (Hs4 : AH) (x66 : Bool) : Prop :=
 bcase x66 (it9 (t9.1,(qlJ .i64 (t9.2 + (1 : Int)))) Hs4) (ldA Hs4 ⟨o11,0,none⟩ 5 fun c68 => ldA Hs4 ⟨o11,0,none⟩ 5 fun c70 => qap p30a c70 Hs4 fun c71 H71 => AH.row? H71 ⟨o11,0,none⟩ 5 = some c68 ∧ qX p35 c68 c71 H71 fun b72 H72 => bcase (!b72) (k false H72) (it9 (t9.1,(qlJ .i64 (t9.2 + (1 : Int)))) H72))
def qs.l3 (k : Bool → AH → Prop) (p30a : Option Addr) (p35 : Option Addr) (s53 : Sl) (t9 : Bool × Int) (HL9 : AH) (it9 : (Bool × Int) → AH → Prop) : Prop :=
 bcase (decide ((t9.2 : Int) < ((s53.n : Nat) : Int))) ((0 ≤ t9.2 ∧ t9.2 < ((s53.n : Nat) : Int)) ∧ onPtr s53.a fun a57 => ldA HL9 (qlL a57 (qlQ t9.2 * 5)) 5 fun c58 => newC HL9 ⟨[(qlI .i64 (0 : Int)),(qlI .i64 (0 : Int)),(qlI .i64 (0 : Int)),(qlI .i64 (0 : Int)),(qlV none 0 0)],.rw,0⟩ fun o11 H11 => (qlY c58 = 5 ∧ qmq c58 qo = true) ∧ stC H11 ⟨o11,0,none⟩ c58 fun Hs4 => elI .i64 (AH.cell? Hs4 (qlL ⟨o11,0,none⟩ 0)) fun n60 => bcase ((n60 : Int) == (7 : Int)) (qs.j2 k p30a p35 t9 it9 o11 Hs4 true) (elI .i64 (AH.cell? Hs4 (qlL ⟨o11,0,none⟩ 0)) fun n64 => qs.j2 k p30a p35 t9 it9 o11 Hs4 ((n64 : Int) == (8 : Int)))) (qs.j1 k p30a p35 HL9)
def qs.j4 (x1 : Sl) (x2 : Sl) (k : Bool → AH → Prop) (p30a : Option Addr) (n30b : Int) (H35 : AH) (p35 : Option Addr) (x41 : Bool) : Prop :=
 bcase x41 (bcase ((n30b : Int) != (0 : Int)) (bcase (decide ((((x1.n : Nat) : Int) : Int) > (0 : Int))) (qaB  H35 fun b50 H50 => k b50 H50) (k false H35)) (k false H35)) (qaJ x2 H35 fun s53 H53 => loopT (qs.l3 k p30a p35 s53) ((false,(0 : Int)) : Bool × Int) H53)
def qs.j5 (x1 : Sl) (x2 : Sl) (k : Bool → AH → Prop) (o3 : Nat) (H3 : AH) (x23 : Bool) : Prop :=
 bcase x23 (qaB  H3 fun b24 H24 => k b24 H24) (ldA H3 ⟨o3,0,none⟩ 4 fun c25 => qbZ c25 H3 fun c26 H26 => (qlY c26 = 4 ∧ qmq c26 qo = true) ∧ stC H26 ⟨o3,0,none⟩ c26 fun Hs2 => ldA Hs2 ⟨o3,0,none⟩ 4 fun c28 => qbY c28 x1 Hs2 fun p30a n30b H30 => ldA H30 ⟨o3,0,none⟩ 4 fun c33 => qb6 c33 H30 fun n34 H34 => qcF n34 H34 fun p35 H35 => bcase (qmb p30a) (qs.j4 x1 x2 k p30a n30b H35 p35 true) (qs.j4 x1 x2 k p30a n30b H35 p35 (qmb p35)))
def qs.b (x0 : List Value) (x1 : Sl) (x2 : Sl) (H : AH) (k : Bool → AH → Prop) : Prop :=
 newC H ⟨x0,.rw,0⟩ fun o3 H3 => bcase (decide ((((x2.n : Nat) : Int) : Int) > (800 : Int))) (qs.j5 x1 x2 k o3 H3 true) (qs.j5 x1 x2 k o3 H3 (decide ((((x1.n : Nat) : Int) : Int) > (200 : Int))))
def qs.ann : Ann := { keep := fun r => match r with | 9 => [(6,.bool),(55,.int .i64)] | _ => [],ord := fun r => match r with | 12 => [0,1,2,3,4,5,6] | _ => [] }
theorem qs.link {x0 : List Value} {x1 : Sl} {x2 : Sl} {H : AH} {k : Bool → AH → Prop} (h : qs.b x0 x1 x2 H k) : qs x0 x1 x2 H k := lk1 pan hT hm Tryz.func11 (by kernel_rfl) (A := qs.ann) (by kernel_rfl) (by simp) (by kernel_rfl) h
def qar.b (x0 : Int) (H : AH) (pk : Value → AH → Prop) (k : AH → Prop) : Prop :=
 bcase ((x0 : Int) != (0 : Int)) (pk (Value.iface 31 (qlI .i64 x0)) H) (k H)
theorem qar.link {x0 : Int} {H : AH} {pk : Value → AH → Prop} {k : AH → Prop} (h : qar.b x0 H pk k) : qar x0 H pk k := lk0 pan hT hm Tryz.func113 (by kernel_rfl) (A := ann0) (by kernel_rfl) (by kernel_rfl) h
def qa7.b (x0 : Option Addr) (H : AH) (pk : Value → AH → Prop) (k : Sl → AH → Prop) : Prop :=
 qab x0 H fun s7a n7b H7 => qar n7b H7 (fun pv11 Hp11 => pk pv11 Hp11) fun H11 => k s7a H11
theorem qa7.link {x0 : Option Addr} {H : AH} {pk : Value → AH → Prop} {k : Sl → AH → Prop} (h : qa7.b x0 H pk k) : qa7 x0 H pk k := lk1 pan hT hm Tryz.func108 (by kernel_rfl) (A := ann0) (by kernel_rfl) (by simp) (by kernel_rfl) h
def qaz.b (x0 : Option Addr) (H : AH) (pk : Value → AH → Prop) (k : AH → Prop) : Prop :=
 qci x0 H fun b3 H3 => bcase b3 (pk (Value.iface 31 (qlI .i64 (3 : Int))) H3) (k H3)
theorem qaz.link {x0 : Option Addr} {H : AH} {pk : Value → AH → Prop} {k : AH → Prop} (h : qaz.b x0 H pk k) : qaz x0 H pk k := lk0 pan hT hm Tryz.func110 (by kernel_rfl) (A := ann0) (by kernel_rfl) (by kernel_rfl) h
def qaU.b (x0 : Sl) (H : AH) (k : Sl → AH → Prop) : Prop :=
 bcase (qmb x0.a) (k ⟨none,0,0⟩ H) (newC H ⟨[],.rw,1⟩ fun o5 H5 => appendC 1 H5 ⟨(some ⟨o5,0,none⟩),0,1⟩ x0 fun s7 H7 => k s7 H7)
theorem qaU.link {x0 : Sl} {H : AH} {k : Sl → AH → Prop} (h : qaU.b x0 H k) : qaU x0 H k := lk1 pan hT hm Tryz.func147 (by kernel_rfl) (A := ann0) (by kernel_rfl) (by simp) (by kernel_rfl) h
def qca.b (x0 : Option Addr) (H : AH) (k : Sl → AH → Prop) : Prop :=
 bcase (qmb x0) (k ⟨none,0,0⟩ H) (onPtr x0 fun a6 => elL (AH.cell? H (qlL a6 1)) fun s8 => qaU s8 H fun s9 H9 => k s9 H9)
theorem qca.link {x0 : Option Addr} {H : AH} {k : Sl → AH → Prop} (h : qca.b x0 H k) : qca x0 H k := lk1 pan hT hm Tryz.func112 (by kernel_rfl) (A := ann0) (by kernel_rfl) (by simp) (by kernel_rfl) h
def qbK.j1 (x1 : Sl) (k : Int → AH → Prop) (o2 : Nat) (H2 : AH) (x15 : Bool) : Prop :=
 bcase x15 (k (0 : Int) H2) (elI .i64 (AH.cell? H2 (qlL ⟨o2,0,none⟩ 0)) fun n18 => ((32 : Int) : Int) ≠ 0 ∧ (0 ≤ (qlJ .i64 (qm5 n18 (32 : Int))) ∧ (qlJ .i64 (qm5 n18 (32 : Int))) < ((x1.n : Nat) : Int)) ∧ onPtr x1.a fun a20 => elI .i64 (AH.cell? H2 (qlL a20 (qlQ (qlJ .i64 (qm5 n18 (32 : Int))) * 1))) fun n21 => k n21 H2)
def qbK.b (x0 : List Value) (x1 : Sl) (H : AH) (k : Int → AH → Prop) : Prop :=
 newC H ⟨x0,.rw,0⟩ fun o2 H2 => elI .i64 (AH.cell? H2 (qlL ⟨o2,0,none⟩ 0)) fun n6 => bcase (decide ((n6 : Int) < (0 : Int))) (qbK.j1 x1 k o2 H2 true) (elI .i64 (AH.cell? H2 (qlL ⟨o2,0,none⟩ 0)) fun n10 => ((32 : Int) : Int) ≠ 0 ∧ qbK.j1 x1 k o2 H2 (decide (((qlJ .i64 (qm5 n10 (32 : Int))) : Int) ≥ ((x1.n : Nat) : Int))))
theorem qbK.link {x0 : List Value} {x1 : Sl} {H : AH} {k : Int → AH → Prop} (h : qbK.b x0 x1 H k) : qbK x0 x1 H k := lk1 pan hT hm Tryz.func173 (by kernel_rfl) (A := ann0) (by kernel_rfl) (by simp) (by kernel_rfl) h
def qaP.j1 (t3 : Int × Int) (it3 : (Int × Int) → AH → Prop) (n19 : Int) (H34 : AH) (x55 : Bool) : Prop :=
 bcase x55 (it3 (n19,(qlJ .i64 (t3.2 + (1 : Int)))) H34) (it3 (t3.1,(qlJ .i64 (t3.2 + (1 : Int)))) H34)
def qaP.l2 (x0 : Sl) (x2 : Sl) (k : Int → AH → Prop) (s14 : Sl) (t3 : Int × Int) (HL3 : AH) (it3 : (Int × Int) → AH → Prop) : Prop :=
 bcase (decide ((t3.2 : Int) < ((s14.n : Nat) : Int))) ((0 ≤ t3.2 ∧ t3.2 < ((s14.n : Nat) : Int)) ∧ onPtr s14.a fun a18 => elI .i64 (AH.cell? HL3 (qlL a18 (qlQ t3.2 * 1))) fun n19 => bcase (decide ((t3.1 : Int) < (0 : Int))) (it3 (n19,(qlJ .i64 (t3.2 + (1 : Int)))) HL3) ((0 ≤ n19 ∧ n19 < ((x0.n : Nat) : Int)) ∧ onPtr x0.a fun a25 => ldA HL3 (qlL a25 (qlQ n19 * 3)) 3 fun c26 => (0 ≤ t3.1 ∧ t3.1 < ((x0.n : Nat) : Int)) ∧ onPtr x0.a fun a31 => ldA HL3 (qlL a31 (qlQ t3.1 * 3)) 3 fun c32 => qbK c26 x2 HL3 fun n28 H28 => AH.row? H28 (qlL a31 (qlQ t3.1 * 3)) 3 = some c32 ∧ qbK c32 x2 H28 fun n34 H34 => bcase (decide ((n28 : Int) < n34)) (qaP.j1 t3 it3 n19 H34 true) (bcase ((n28 : Int) == n34) ((0 ≤ n19 ∧ n19 < ((x0.n : Nat) : Int)) ∧ onPtr x0.a fun a45 => elI .i64 (AH.cell? H34 (qlL (qlL a45 (qlQ n19 * 3)) 0)) fun n47 => (0 ≤ t3.1 ∧ t3.1 < ((x0.n : Nat) : Int)) ∧ onPtr x0.a fun a50 => elI .i64 (AH.cell? H34 (qlL (qlL a50 (qlQ t3.1 * 3)) 0)) fun n52 => qaP.j1 t3 it3 n19 H34 (decide ((n47 : Int) < n52))) (qaP.j1 t3 it3 n19 H34 false)))) (k t3.1 HL3)
def qaP.b (x0 : Sl) (x1 : Int) (x2 : Sl) (H : AH) (k : Int → AH → Prop) : Prop :=
 qY x0 x1 H fun s14 H14 => loopT (qaP.l2 x0 x2 k s14) (((-1 : Int),(0 : Int)) : Int × Int) H14
def qaP.ann : Ann := { keep := fun r => match r with | 3 => [(7,.int .i64),(16,.int .i64)] | _ => [],ord := fun r => match r with | 7 => [0,1,2,3,4,6,7,8,9,10,5,11,12,13] | 8 => [0,1,2,3,4,5,6,7,8,9,10,11,12,13,14,15,16,17,18,19,20] | _ => [] }
theorem qaP.link {x0 : Sl} {x1 : Int} {x2 : Sl} {H : AH} {k : Int → AH → Prop} (h : qaP.b x0 x1 x2 H k) : qaP x0 x1 x2 H k := lk1 pan hT hm Tryz.func145 (by kernel_rfl) (A := qaP.ann) (by kernel_rfl) (by simp) (by kernel_rfl) h
def qaO.j1 (k : Int → AH → Prop) (t3 : Int × Int × Int) (it3 : (Int × Int × Int) → AH → Prop) (o5 : Nat) (H14 : AH) (x19 : Bool) : Prop :=
 bcase x19 (k (0 : Int) H14) (elI .i64 (AH.cell? H14 (qlL ⟨o5,0,none⟩ 1)) fun n22 => it3 (t3.1,(qlJ .i64 (t3.2.1 + n22)),(qlJ .i64 (t3.2.2 + (1 : Int)))) H14)
def qaO.l2 (x0 : Sl) (k : Int → AH → Prop) (t3 : Int × Int × Int) (HL3 : AH) (it3 : (Int × Int × Int) → AH → Prop) : Prop :=
 bcase (decide ((t3.2.2 : Int) < ((x0.n : Nat) : Int))) ((0 ≤ t3.2.2 ∧ t3.2.2 < ((x0.n : Nat) : Int)) ∧ onPtr x0.a fun a10 => ldA HL3 (qlL a10 (qlQ t3.2.2 * 3)) 3 fun c11 => newC HL3 ⟨[(qlI .i64 (0 : Int)),(qlI .i64 (0 : Int)),(qmD false)],.rw,0⟩ fun o5 H5 => (qlY c11 = 3 ∧ qmq c11 qo = true) ∧ stC H5 ⟨o5,0,none⟩ c11 fun Hs2 => elI .i64 (AH.cell? Hs2 (qlL ⟨o5,0,none⟩ 1)) fun n13 => qbq n13 Hs2 fun b14 H14 => bcase (!b14) (qaO.j1 k t3 it3 o5 H14 true) (qaO.j1 k t3 it3 o5 H14 (decide ((t3.2.1 : Int) > (512 : Int))))) (k t3.2.1 HL3)
def qaO.b (x0 : Sl) (H : AH) (k : Int → AH → Prop) : Prop :=
 loopT (qaO.l2 x0 k) (((0 : Int),(0 : Int),(0 : Int)) : Int × Int × Int) H
def qaO.ann : Ann := { keep := fun r => match r with | 3 => [(2,.int .i64),(3,.int .i64),(8,.int .i64)] | _ => [],ord := fun r => match r with  | _ => [] }
theorem qaO.link {x0 : Sl} {H : AH} {k : Int → AH → Prop} (h : qaO.b x0 H k) : qaO x0 H k := lk1 pan hT hm Tryz.func189 (by kernel_rfl) (A := qaO.ann) (by kernel_rfl) (by simp) (by kernel_rfl) h
def qbf.j1 (x0 : Sl) (x1 : Int) (x2 : Int) (k : Sl → AH → Prop) (H13 : AH) (x31 : Bool) : Prop :=
 bcase x31 (k ⟨none,0,0⟩ H13) ((0 ≤ x1 ∧ x1 < ((x0.n : Nat) : Int)) ∧ onPtr x0.a fun a34 => ldA H13 (qlL a34 (qlQ x1 * 3)) 3 fun c35 => newC H13 ⟨[(qlI .i64 (0 : Int)),(qlI .i64 (0 : Int)),(qmD false)],.rw,0⟩ fun o7 H7 => (qlY c35 = 3 ∧ qmq c35 qo = true) ∧ stC H7 ⟨o7,0,none⟩ c35 fun Hs2 => elI .i64 (AH.cell? Hs2 (qlL ⟨o7,0,none⟩ 1)) fun n37 => qbL n37 x2 Hs2 fun n39 H39 => bcase ((n39 : Int) == (0 : Int)) (k ⟨none,0,0⟩ H39) (elI .i64 (AH.cell? H39 (qlL ⟨o7,0,none⟩ 0)) fun n43 => (qlY [(qlI .i64 n43),(qlI .i64 n39),(qmD true)] = 3) ∧ newC H39 ⟨[(qlI .i64 n43),(qlI .i64 n39),(qmD true)],.rw,3⟩ fun o46 H46 => elI .i64 (AH.cell? H46 (qlL ⟨o7,0,none⟩ 1)) fun n49 => bcase (decide ((n39 : Int) < n49)) (elI .i64 (AH.cell? H46 (qlL ⟨o7,0,none⟩ 0)) fun n53 => elI .i64 (AH.cell? H46 (qlL ⟨o7,0,none⟩ 1)) fun n57 => (qlY [(qlI .i64 (qlJ .i64 (n53 + n39))),(qlI .i64 (qlJ .i64 (n57 - n39))),(qmD false)] = 3) ∧ newC H46 ⟨[(qlI .i64 (qlJ .i64 (n53 + n39))),(qlI .i64 (qlJ .i64 (n57 - n39))),(qmD false)],.rw,3⟩ fun o61 H61 => appendC 3 H61 ⟨(some ⟨o46,0,none⟩),1,1⟩ ⟨(some ⟨o61,0,none⟩),1,1⟩ fun s62 H62 => k s62 H62) (k ⟨(some ⟨o46,0,none⟩),1,1⟩ H46)))
def qbf.b (x0 : Sl) (x1 : Int) (x2 : Int) (H : AH) (k : Sl → AH → Prop) : Prop :=
 qaO x0 H fun n12 H12 => qaf x0 n12 H12 fun b13 H13 => bcase (!b13) (qbf.j1 x0 x1 x2 k H13 true) (bcase (decide ((x1 : Int) < (0 : Int))) (qbf.j1 x0 x1 x2 k H13 true) (bcase (decide ((x1 : Int) ≥ ((x0.n : Nat) : Int))) (qbf.j1 x0 x1 x2 k H13 true) ((0 ≤ x1 ∧ x1 < ((x0.n : Nat) : Int)) ∧ onPtr x0.a fun a28 => elB (AH.cell? H13 (qlL (qlL a28 (qlQ x1 * 3)) 2)) fun b30 => qbf.j1 x0 x1 x2 k H13 b30)))
theorem qbf.link {x0 : Sl} {x1 : Int} {x2 : Int} {H : AH} {k : Sl → AH → Prop} (h : qbf.b x0 x1 x2 H k) : qbf x0 x1 x2 H k := lk1 pan hT hm Tryz.func174 (by kernel_rfl) (A := ann0) (by kernel_rfl) (by simp) (by kernel_rfl) h
def qaj.j1 (t3 : Sl × Int) (it3 : (Sl × Int) → AH → Prop) (o9 : Nat) (t7 : Sl × Int) (it7 : (Sl × Int) → AH → Prop) (HL7 : AH) (x38 : Bool) : Prop :=
 bcase x38 (elI .i64 (AH.cell? HL7 (qlL ⟨o9,0,none⟩ 0)) fun n43 => (qlY [(qlI .i64 (qlJ .i64 (n43 + t7.2))),(qlI .u64 (0 : Int))] = 2) ∧ newC HL7 ⟨[(qlI .i64 (qlJ .i64 (n43 + t7.2))),(qlI .u64 (0 : Int))],.rw,2⟩ fun o47 H47 => appendC 2 H47 t7.1 ⟨(some ⟨o47,0,none⟩),1,1⟩ fun s48 H48 => it7 (s48,(qlJ .i64 (t7.2 + (1 : Int)))) H48) (it3 (t7.1,(qlJ .i64 (t3.2 + (1 : Int)))) HL7)
def qaj.l2 (t3 : Sl × Int) (it3 : (Sl × Int) → AH → Prop) (o9 : Nat) (t7 : Sl × Int) (HL7 : AH) (it7 : (Sl × Int) → AH → Prop) : Prop :=
 elI .i64 (AH.cell? HL7 (qlL ⟨o9,0,none⟩ 1)) fun n33 => bcase (decide ((t7.2 : Int) < n33)) (elB (AH.cell? HL7 (qlL ⟨o9,0,none⟩ 2)) fun b37 => qaj.j1 t3 it3 o9 t7 it7 HL7 b37) (qaj.j1 t3 it3 o9 t7 it7 HL7 false)
def qaj.l3 (k : Sl → AH → Prop) (s14 : Sl) (t3 : Sl × Int) (HL3 : AH) (it3 : (Sl × Int) → AH → Prop) : Prop :=
 bcase (decide ((t3.2 : Int) < ((s14.n : Nat) : Int))) ((0 ≤ t3.2 ∧ t3.2 < ((s14.n : Nat) : Int)) ∧ onPtr s14.a fun a18 => ldA HL3 (qlL a18 (qlQ t3.2 * 3)) 3 fun c19 => newC HL3 ⟨[(qlI .i64 (0 : Int)),(qlI .i64 (0 : Int)),(qmD false)],.rw,0⟩ fun o9 H9 => (qlY c19 = 3 ∧ qmq c19 qo = true) ∧ stC H9 ⟨o9,0,none⟩ c19 fun Hs2 => elI .i64 (AH.cell? Hs2 (qlL ⟨o9,0,none⟩ 0)) fun n22 => elI .i64 (AH.cell? Hs2 (qlL ⟨o9,0,none⟩ 1)) fun n24 => elB (AH.cell? Hs2 (qlL ⟨o9,0,none⟩ 2)) fun b26 => qbU n24 b26 Hs2 fun n27 H27 => AH.cell? H27 (qlL ⟨o9,0,none⟩ 0) = some (qlI .i64 n22) ∧ (qlY [(qlI .i64 n22),(qlI .u64 n27)] = 2) ∧ newC H27 ⟨[(qlI .i64 n22),(qlI .u64 n27)],.rw,2⟩ fun o29 H29 => appendC 2 H29 t3.1 ⟨(some ⟨o29,0,none⟩),1,1⟩ fun s30 H30 => loopT (qaj.l2 t3 it3 o9) ((s30,(1 : Int)) : Sl × Int) H30) (k t3.1 HL3)
def qaj.b (x0 : Sl) (x1 : Int) (x2 : Int) (H : AH) (k : Sl → AH → Prop) : Prop :=
 qbf x0 x1 x2 H fun s14 H14 => loopT (qaj.l3 k s14) ((⟨none,0,0⟩,(0 : Int)) : Sl × Int) H14
def qaj.ann : Ann := { keep := fun r => match r with | 3 => [(7,.sl),(16,.int .i64)] | 7 => [(7,.sl),(10,.int .i64)] | _ => [],ord := fun r => match r with | 5 => [0,1,2,3,4,5,6,7,8,9,10,11] | _ => [] }
theorem qaj.link {x0 : Sl} {x1 : Int} {x2 : Int} {H : AH} {k : Sl → AH → Prop} (h : qaj.b x0 x1 x2 H k) : qaj x0 x1 x2 H k := lk1 pan hT hm Tryz.func146 (by kernel_rfl) (A := qaj.ann) (by kernel_rfl) (by simp) (by kernel_rfl) h
def qb4.b (x0 : Sl) (x1 : Int) (x2 : Sl) (H : AH) (k : Sl → Int → Int → AH → Prop) : Prop :=
 qbj x1 H fun n14 H14 => bcase ((n14 : Int) == (0 : Int)) (k ⟨none,0,0⟩ (0 : Int) (1 : Int) H14) (qO x0 H14 fun s19a b19b H19 => bcase (!b19b) (k ⟨none,0,0⟩ (0 : Int) (6 : Int) H19) (qaP s19a n14 x2 H19 fun n27 H27 => bcase (decide ((n27 : Int) < (0 : Int))) (k ⟨none,0,0⟩ (0 : Int) (4 : Int) H27) ((0 ≤ n27 ∧ n27 < ((s19a.n : Nat) : Int)) ∧ onPtr s19a.a fun a36 => ldA H27 (qlL a36 (qlQ n27 * 3)) 3 fun c37 => qaj s19a n27 n14 H27 fun s33 H33 => AH.row? H33 (qlL a36 (qlQ n27 * 3)) 3 = some c37 ∧ qba c37 H33 fun n38 H38 => k s33 n38 (0 : Int) H38)))
def qb4.ann : Ann := { keep := fun r => match r with  | _ => [],ord := fun r => match r with | 10 => [0,1,2,4,5,6,7,3,8,9,10,11] | _ => [] }
theorem qb4.link {x0 : Sl} {x1 : Int} {x2 : Sl} {H : AH} {k : Sl → Int → Int → AH → Prop} (h : qb4.b x0 x1 x2 H k) : qb4 x0 x1 x2 H k := lk3 pan hT hm Tryz.func111 (by kernel_rfl) (A := qb4.ann) (by kernel_rfl) (by simp) (by simp) (by simp) (by kernel_rfl) h
def qak.b (x0 : Sl) (H : AH) (k : Sl → AH → Prop) : Prop :=
 bcase (qmb x0.a) (k ⟨none,0,0⟩ H) (newC H ⟨[],.rw,1⟩ fun o5 H5 => appendC 1 H5 ⟨(some ⟨o5,0,none⟩),0,1⟩ x0 fun s7 H7 => k s7 H7)
theorem qak.link {x0 : Sl} {H : AH} {k : Sl → AH → Prop} (h : qak.b x0 H k) : qak x0 H k := lk1 pan hT hm Tryz.func175 (by kernel_rfl) (A := ann0) (by kernel_rfl) (by simp) (by kernel_rfl) h
def qaZ.j1 (s9 : Sl) (t3 : Int) (it3 : (Int) → AH → Prop) (o7 : Nat) (Hs2 : AH) (x25 : Bool) : Prop :=
 bcase x25 (elI .i64 (AH.cell? Hs2 (qlL ⟨o7,0,none⟩ 0)) fun n28 => elI .u64 (AH.cell? Hs2 (qlL ⟨o7,0,none⟩ 1)) fun n30 => (0 ≤ n28 ∧ n28 < ((s9.n : Nat) : Int)) ∧ onPtr s9.a fun a31 => stC Hs2 (qlL a31 (qlQ n28 * 1)) [(qlI .u64 n30)] fun Hs4 => it3 (qlJ .i64 (t3 + (1 : Int))) Hs4) (it3 (qlJ .i64 (t3 + (1 : Int))) Hs2)
def qaZ.l2 (x1 : Sl) (k : Sl → AH → Prop) (s9 : Sl) (t3 : Int) (HL3 : AH) (it3 : (Int) → AH → Prop) : Prop :=
 bcase (decide ((t3 : Int) < ((x1.n : Nat) : Int))) ((0 ≤ t3 ∧ t3 < ((x1.n : Nat) : Int)) ∧ onPtr x1.a fun a14 => ldA HL3 (qlL a14 (qlQ t3 * 2)) 2 fun c15 => newC HL3 ⟨[(qlI .i64 (0 : Int)),(qlI .u64 (0 : Int))],.rw,0⟩ fun o7 H7 => (qlY c15 = 2 ∧ qmq c15 qo = true) ∧ stC H7 ⟨o7,0,none⟩ c15 fun Hs2 => elI .i64 (AH.cell? Hs2 (qlL ⟨o7,0,none⟩ 0)) fun n17 => bcase (decide ((n17 : Int) ≥ (0 : Int))) (elI .i64 (AH.cell? Hs2 (qlL ⟨o7,0,none⟩ 0)) fun n21 => qaZ.j1 s9 t3 it3 o7 Hs2 (decide ((n21 : Int) < ((s9.n : Nat) : Int)))) (qaZ.j1 s9 t3 it3 o7 Hs2 false)) (k s9 HL3)
def qaZ.b (x0 : Sl) (x1 : Sl) (H : AH) (k : Sl → AH → Prop) : Prop :=
 qak x0 H fun s9 H9 => loopT (qaZ.l2 x1 k s9) (((0 : Int)) : Int) H9
def qaZ.ann : Ann := { keep := fun r => match r with | 3 => [(12,.int .i64)] | _ => [],ord := fun r => match r with  | _ => [] }
theorem qaZ.link {x0 : Sl} {x1 : Sl} {H : AH} {k : Sl → AH → Prop} (h : qaZ.b x0 x1 H k) : qaZ x0 x1 H k := lk1 pan hT hm Tryz.func148 (by kernel_rfl) (A := qaZ.ann) (by kernel_rfl) (by simp) (by kernel_rfl) h
def qaS.j1 (k : Sl → AH → Prop) (t3 : Sl × Int) (HL3 : AH) : Prop :=
 qcH t3.1 HL3 fun H23 => qck t3.1 H23 fun s25 H25 => k s25 H25
def qaS.l2 (x0 : Sl) (k : Sl → AH → Prop) (t3 : Sl × Int) (HL3 : AH) (it3 : (Sl × Int) → AH → Prop) : Prop :=
 bcase (decide ((t3.2 : Int) < ((x0.n : Nat) : Int))) ((0 ≤ t3.2 ∧ t3.2 < ((x0.n : Nat) : Int)) ∧ onPtr x0.a fun a10 => ldA HL3 (qlL a10 (qlQ t3.2 * 2)) 2 fun c11 => newC HL3 ⟨[(qlI .i64 (0 : Int)),(qlI .u64 (0 : Int))],.rw,0⟩ fun o5 H5 => (qlY c11 = 2 ∧ qmq c11 qo = true) ∧ stC H5 ⟨o5,0,none⟩ c11 fun Hs2 => elI .i64 (AH.cell? Hs2 (qlL ⟨o5,0,none⟩ 0)) fun n13 => bcase (decide ((n13 : Int) ≥ (0 : Int))) (elI .i64 (AH.cell? Hs2 (qlL ⟨o5,0,none⟩ 0)) fun n17 => ((8 : Int) : Int) ≠ 0 ∧ newC Hs2 ⟨[(qlI .i64 (qlJ .i64 (qm5 n17 (8 : Int))))],.rw,1⟩ fun o19 H19 => appendC 1 H19 t3.1 ⟨(some ⟨o19,0,none⟩),1,1⟩ fun s20 H20 => it3 (s20,(qlJ .i64 (t3.2 + (1 : Int)))) H20) (it3 (t3.1,(qlJ .i64 (t3.2 + (1 : Int)))) Hs2)) (qaS.j1 k t3 HL3)
def qaS.b (x0 : Sl) (H : AH) (k : Sl → AH → Prop) : Prop :=
 loopT (qaS.l2 x0 k) ((⟨none,0,0⟩,(0 : Int)) : Sl × Int) H
def qaS.ann : Ann := { keep := fun r => match r with | 3 => [(3,.sl),(8,.int .i64)] | _ => [],ord := fun r => match r with  | _ => [] }
theorem qaS.link {x0 : Sl} {H : AH} {k : Sl → AH → Prop} (h : qaS.b x0 H k) : qaS x0 H k := lk1 pan hT hm Tryz.func149 (by kernel_rfl) (A := qaS.ann) (by kernel_rfl) (by simp) (by kernel_rfl) h
def qT.j1 (x0 : Option Addr) (x1 : Sl) (k : Int → AH → Prop) (HL15 : AH) : Prop :=
 onPtr x0 fun a80 => elP (AH.cell? HL15 (qlL a80 0)) fun p82 => qG p82 (1 : Int) (qlJ .u64 ((x1.n : Nat) : Int)) HL15 fun n86 H86 => bcase ((n86 : Int) != (0 : Int)) (k n86 H86) (qay x0 x1 H86 fun n92 H92 => k n92 H92)
def qT.l2 (x0 : Option Addr) (x1 : Sl) (k : Int → AH → Prop) (t9 : Sl × Int) (t15 : Int × Int) (HL15 : AH) (it15 : (Int × Int) → AH → Prop) : Prop :=
 bcase (decide ((t15.2 : Int) < ((t9.1.n : Nat) : Int))) ((0 ≤ t15.2 ∧ t15.2 < ((t9.1.n : Nat) : Int)) ∧ onPtr t9.1.a fun a66 => ldA HL15 (qlL a66 (qlQ t15.2 * 8)) 8 fun c67 => newC HL15 ⟨[(qlI .u64 (0 : Int)),(qlI .u64 (0 : Int)),(qlI .u64 (0 : Int)),(qlI .u64 (0 : Int)),(qlI .u64 (0 : Int)),(qlI .u64 (0 : Int)),(qlI .u64 (0 : Int)),(qlI .u64 (0 : Int))],.rw,0⟩ fun o9 H9 => (qlY c67 = 8 ∧ qmq c67 qo = true) ∧ stC H9 ⟨o9,0,none⟩ c67 fun Hs6 => onPtr x0 fun a69 => elP (AH.cell? Hs6 (qlL a69 1)) fun p71 => ldA Hs6 ⟨o9,0,none⟩ 8 fun c73 => qaG p71 t15.2 c73 Hs6 fun n74 H74 => bcase ((n74 : Int) != (0 : Int)) (k n74 H74) (it15 (t15.1,(qlJ .i64 (t15.2 + (1 : Int)))) H74)) (qT.j1 x0 x1 k HL15)
def qT.l3 (x0 : Option Addr) (x1 : Sl) (k : Int → AH → Prop) (t9 : Sl × Int) (HL9 : AH) (it9 : (Sl × Int) → AH → Prop) : Prop :=
 bcase (decide ((t9.2 : Int) < ((x1.n : Nat) : Int))) ((0 ≤ t9.2 ∧ t9.2 < ((x1.n : Nat) : Int)) ∧ onPtr x1.a fun a43 => ldA HL9 (qlL a43 (qlQ t9.2 * 9)) 9 fun c44 => newC HL9 ⟨[(qlI .i64 (0 : Int)),(qlI .u64 (0 : Int)),(qlI .u64 (0 : Int)),(qlI .u64 (0 : Int)),(qlI .u64 (0 : Int)),(qlI .u64 (0 : Int)),(qlI .u64 (0 : Int)),(qlI .u64 (0 : Int)),(qlI .u64 (0 : Int))],.rw,0⟩ fun o7 H7 => (qlY c44 = 9 ∧ qmq c44 qo = true) ∧ stC H7 ⟨o7,0,none⟩ c44 fun Hs2 => ((8 : Int) : Int) ≠ 0 ∧ ((8 : Int) : Int) ≠ 0 ∧ elI .i64 (AH.cell? Hs2 (qlL ⟨o7,0,none⟩ 0)) fun n51 => (0 ≤ (qlJ .i64 (qm5 t9.2 (8 : Int))) ∧ (qlJ .i64 (qm5 t9.2 (8 : Int))) < ((t9.1.n : Nat) : Int)) ∧ onPtr t9.1.a fun a53 => (0 ≤ (qmS t9.2 (8 : Int)) ∧ (qmS t9.2 (8 : Int)) < ((8 : Nat) : Int)) ∧ stC Hs2 (qlL (qlL a53 (qlQ (qlJ .i64 (qm5 t9.2 (8 : Int))) * 8)) (qlQ (qmS t9.2 (8 : Int)) * 1)) [(qlI .u64 (qlJ .u64 n51))] fun Hs4 => ldA Hs4 (qlL ⟨o7,0,none⟩ 1) 8 fun c57 => (qlY c57 = 8) ∧ newC Hs4 ⟨(setMany [(qlI .u64 (0 : Int)),(qlI .u64 (0 : Int)),(qlI .u64 (0 : Int)),(qlI .u64 (0 : Int)),(qlI .u64 (0 : Int)),(qlI .u64 (0 : Int)),(qlI .u64 (0 : Int)),(qlI .u64 (0 : Int))] 0 c57),.rw,8⟩ fun o58 H58 => appendC 8 H58 t9.1 ⟨(some ⟨o58,0,none⟩),1,1⟩ fun s59 H59 => it9 (s59,(qlJ .i64 (t9.2 + (1 : Int)))) H59) (loopT (qT.l2 x0 x1 k t9) (((0 : Int),(0 : Int)) : Int × Int) HL9)
def qT.j4 (x0 : Option Addr) (x1 : Sl) (k : Int → AH → Prop) (x12 : Bool) (Hj : AH) : Prop :=
 bcase x12 (k (1 : Int) Hj) (onPtr x0 fun a27 => elP (AH.cell? Hj (qlL a27 0)) fun p29 => qao p29 Hj fun b30 H30 => bcase b30 (k (2 : Int) H30) (qbS x0 H30 fun b33 H33 => bcase b33 (k (5 : Int) H33) (qcu ((x1.n : Nat) : Int) H33 fun n36 H36 => (0 ≤ n36 ∧ n36 ≤ (16 : Int) ∧ (16 : Int) ≤ (lim : Int)) ∧ newC H36 ⟨zerosOf (qlQ n36) [(qlI .u64 (0 : Int)),(qlI .u64 (0 : Int)),(qlI .u64 (0 : Int)),(qlI .u64 (0 : Int)),(qlI .u64 (0 : Int)),(qlI .u64 (0 : Int)),(qlI .u64 (0 : Int)),(qlI .u64 (0 : Int))],.rw,8⟩ fun o37 H37 => loopT (qT.l3 x0 x1 k) ((⟨(some ⟨o37,0,none⟩),(qlQ n36),1⟩,(0 : Int)) : Sl × Int) H37)))
def qT.b (x0 : Option Addr) (x1 : Sl) (H : AH) (k : Int → AH → Prop) : Prop :=
 bcase (qmb x0) (qT.j4 x0 x1 k true H) (onPtr x0 fun a17 => elP (AH.cell? H (qlL a17 1)) fun p19 => qaR p19 H fun n20 H20 => log_May n20 x1 H20 fun b22 H22 => qT.j4 x0 x1 k (!b22) H22)
def qT.ann : Ann := { keep := fun r => match r with | 9 => [(5,.sl),(40,.int .i64)] | 15 => [(4,.int .i64),(63,.int .i64)] | _ => [],ord := fun r => match r with | 11 => [0,1,2,3,4,5,6,7,8,9,10] | 17 => [0,1,2,3,4,5,6,7] | _ => [] }
theorem qT.link {x0 : Option Addr} {x1 : Sl} {H : AH} {k : Int → AH → Prop} (h : qT.b x0 x1 H k) : qT x0 x1 H k := lk1 pan hT hm Tryz.func150 (by kernel_rfl) (A := qT.ann) (by kernel_rfl) (by simp) (by kernel_rfl) h
def qbV.b (x0 : Option Addr) (x1 : Int) (H : AH) (k : Bool → AH → Prop) : Prop :=
 bcase (!(qmb x0)) (bcase (decide ((x1 : Int) ≥ (0 : Int))) (onPtr x0 fun a14 => elL (AH.cell? H (qlL a14 1)) fun s16 => k (decide ((x1 : Int) < ((s16.n : Nat) : Int))) H) (k false H)) (k false H)
theorem qbV.link {x0 : Option Addr} {x1 : Int} {H : AH} {k : Bool → AH → Prop} (h : qbV.b x0 x1 H k) : qbV x0 x1 H k := lk1 pan hT hm Tryz.func178 (by kernel_rfl) (A := ann0) (by kernel_rfl) (by simp) (by kernel_rfl) h
def qbv.b (x0 : Option Addr) (x1 : Int) (H : AH) (k : Int → AH → Prop) : Prop :=
 qbV x0 x1 H fun b7 H7 => bcase (!b7) (k (0 : Int) H7) (onPtr x0 fun a10 => elL (AH.cell? H7 (qlL a10 1)) fun s12 => (0 ≤ x1 ∧ x1 < ((s12.n : Nat) : Int)) ∧ onPtr s12.a fun a14 => elI .i64 (AH.cell? H7 (qlL a14 (qlQ x1 * 1))) fun n15 => onPtr x0 fun a17 => elL (AH.cell? H7 (qlL a17 2)) fun s19 => (0 ≤ x1 ∧ x1 < ((s19.n : Nat) : Int)) ∧ onPtr s19.a fun a21 => elI .i64 (AH.cell? H7 (qlL a21 (qlQ x1 * 1))) fun n22 => k (qlJ .i64 (n15 - n22)) H7)
def qbv.ann : Ann := { keep := fun r => match r with  | _ => [],ord := fun r => match r with | 3 => [0,1,2,3,4,5,6,7,8,9,10,11,12,13,14,15] | _ => [] }
theorem qbv.link {x0 : Option Addr} {x1 : Int} {H : AH} {k : Int → AH → Prop} (h : qbv.b x0 x1 H k) : qbv x0 x1 H k := lk1 pan hT hm Tryz.func179 (by kernel_rfl) (A := qbv.ann) (by kernel_rfl) (by simp) (by kernel_rfl) h
def qav.j1 (x0 : Option Addr) (x1 : Int) (k : Int → Bool → AH → Prop) (n26 : Int) (n22 : Int) (Hj : AH) : Prop :=
 onPtr x0 fun a43 => elL (AH.cell? Hj (qlL a43 1)) fun s45 => (0 ≤ x1 ∧ x1 < ((s45.n : Nat) : Int)) ∧ onPtr s45.a fun a47 => elI .i64 (AH.cell? Hj (qlL a47 (qlQ x1 * 1))) fun n48 => k n48 (decide ((n22 : Int) ≥ n26)) Hj
def qav.b (x0 : Option Addr) (x1 : Int) (H : AH) (k : Int → Bool → AH → Prop) : Prop :=
 qbV x0 x1 H fun b9 H9 => bcase (!b9) (k (0 : Int) false H9) (onPtr x0 fun a12 => elL (AH.cell? H9 (qlL a12 1)) fun s14 => (0 ≤ x1 ∧ x1 < ((s14.n : Nat) : Int)) ∧ onPtr s14.a fun a16 => elI .i64 (AH.cell? H9 (qlL a16 (qlQ x1 * 1))) fun n17 => (0 ≤ x1 ∧ x1 < ((s14.n : Nat) : Int)) ∧ onPtr s14.a fun a19 => stC H9 (qlL a19 (qlQ x1 * 1)) [(qlI .i64 (qlJ .i64 (n17 + (1 : Int))))] fun Hs2 => onPtr x0 fun a24 => elI .i64 (AH.cell? Hs2 (qlL a24 0)) fun n26 => qbv x0 x1 Hs2 fun n22 H22 => AH.cell? H22 (qlL a24 0) = some (qlI .i64 n26) ∧ bcase (decide ((n22 : Int) ≥ n26)) (onPtr x0 fun a30 => elL (AH.cell? H22 (qlL a30 2)) fun s32 => onPtr x0 fun a35 => elL (AH.cell? H22 (qlL a35 1)) fun s37 => (0 ≤ x1 ∧ x1 < ((s37.n : Nat) : Int)) ∧ onPtr s37.a fun a39 => elI .i64 (AH.cell? H22 (qlL a39 (qlQ x1 * 1))) fun n40 => (0 ≤ x1 ∧ x1 < ((s32.n : Nat) : Int)) ∧ onPtr s32.a fun a41 => stC H22 (qlL a41 (qlQ x1 * 1)) [(qlI .i64 n40)] fun Hs4 => qav.j1 x0 x1 k n26 n22 Hs4) (qav.j1 x0 x1 k n26 n22 H22))
def qav.ann : Ann := { keep := fun r => match r with  | _ => [],ord := fun r => match r with | 4 => [0,1,3,4,5,6,2,7,8] | 6 => [0,1,2,3,4,5,6,7,8,9,10,11,12,13] | _ => [] }
theorem qav.link {x0 : Option Addr} {x1 : Int} {H : AH} {k : Int → Bool → AH → Prop} (h : qav.b x0 x1 H k) : qav x0 x1 H k := lk2 pan hT hm Tryz.func151 (by kernel_rfl) (A := qav.ann) (by kernel_rfl) (by simp) (by simp) (by kernel_rfl) h
def qF.l1 (x0 : Option Addr) (k : AH → Prop) (pk : Value → AH → Prop) (s59 : Sl) (t11 : Int) (HL11 : AH) (it11 : (Int) → AH → Prop) : Prop :=
 bcase (decide ((t11 : Int) < ((s59.n : Nat) : Int))) ((0 ≤ t11 ∧ t11 < ((s59.n : Nat) : Int)) ∧ onPtr s59.a fun a63 => elI .i64 (AH.cell? HL11 (qlL a63 (qlQ t11 * 1))) fun n64 => qcr n64 HL11 fun n66 H66 => onPtr x0 fun a69 => elP (AH.cell? H66 (qlL a69 7)) fun p71 => qav p71 n66 H66 fun n73a b73b H73 => bcase b73b (onPtr x0 fun a78 => elP (AH.cell? H73 (qlL a78 0)) fun p80 => qG p80 (qlJ .i64 ((19 : Int) + n66)) (qlJ .u64 n73a) H73 fun n85 H85 => qar n85 H85 (fun pv86 Hp86 => pk pv86 Hp86) fun H86 => it11 (qlJ .i64 (t11 + (1 : Int))) H86) (it11 (qlJ .i64 (t11 + (1 : Int))) H73)) (k HL11)
def qF.j2 (x0 : Option Addr) (x2 : Sl) (k : AH → Prop) (pk : Value → AH → Prop) (n44 : Int) (Hj : AH) : Prop :=
 qar n44 Hj (fun pv57 Hp57 => pk pv57 Hp57) fun H57 => qaS x2 H57 fun s59 H59 => loopT (qF.l1 x0 k pk s59) (((0 : Int)) : Int) H59
def qF.j3 (x0 : Option Addr) (x2 : Sl) (k : AH → Prop) (pk : Value → AH → Prop) (t3 : Sl × Int) (HL3 : AH) : Prop :=
 onPtr x0 fun a40 => elP (AH.cell? HL3 (qlL a40 6)) fun p42 => qT p42 t3.1 HL3 fun n44 H44 => onPtr x0 fun a47 => elB (AH.cell? H44 (qlL a47 8)) fun b49 => bcase b49 (onPtr x0 fun a54 => stC H44 (qlL a54 8) [(qmD true)] fun Hs2 => qF.j2 x0 x2 k pk n44 Hs2) (onPtr x0 fun a54 => stC H44 (qlL a54 8) [(qmD ((n44 : Int) == (3 : Int)))] fun Hs4 => qF.j2 x0 x2 k pk n44 Hs4)
def qF.l4 (x0 : Option Addr) (x2 : Sl) (k : AH → Prop) (pk : Value → AH → Prop) (s17 : Sl) (s19 : Sl) (t3 : Sl × Int) (HL3 : AH) (it3 : (Sl × Int) → AH → Prop) : Prop :=
 bcase (decide ((t3.2 : Int) < ((s19.n : Nat) : Int))) ((0 ≤ t3.2 ∧ t3.2 < ((s19.n : Nat) : Int)) ∧ onPtr s19.a fun a23 => elI .i64 (AH.cell? HL3 (qlL a23 (qlQ t3.2 * 1))) fun n24 => onPtr x0 fun a27 => ldA HL3 (qlL a27 1) 4 fun c29 => qbA c29 n24 HL3 fun n31 H31 => qbr s17 n24 H31 fun c34 H34 => (qlY c34 = 8) ∧ (qlY (setMany [(qlI .i64 n31),(qlI .u64 (0 : Int)),(qlI .u64 (0 : Int)),(qlI .u64 (0 : Int)),(qlI .u64 (0 : Int)),(qlI .u64 (0 : Int)),(qlI .u64 (0 : Int)),(qlI .u64 (0 : Int)),(qlI .u64 (0 : Int))] 1 c34) = 9) ∧ newC H34 ⟨(setMany [(qlI .i64 (0 : Int)),(qlI .u64 (0 : Int)),(qlI .u64 (0 : Int)),(qlI .u64 (0 : Int)),(qlI .u64 (0 : Int)),(qlI .u64 (0 : Int)),(qlI .u64 (0 : Int)),(qlI .u64 (0 : Int)),(qlI .u64 (0 : Int))] 0 (setMany [(qlI .i64 n31),(qlI .u64 (0 : Int)),(qlI .u64 (0 : Int)),(qlI .u64 (0 : Int)),(qlI .u64 (0 : Int)),(qlI .u64 (0 : Int)),(qlI .u64 (0 : Int)),(qlI .u64 (0 : Int)),(qlI .u64 (0 : Int))] 1 c34)),.rw,9⟩ fun o36 H36 => appendC 9 H36 t3.1 ⟨(some ⟨o36,0,none⟩),1,1⟩ fun s37 H37 => it3 (s37,(qlJ .i64 (t3.2 + (1 : Int)))) H37) (qF.j3 x0 x2 k pk t3 HL3)
def qF.b (x0 : Option Addr) (x1 : Sl) (x2 : Sl) (H : AH) (pk : Value → AH → Prop) (k : AH → Prop) : Prop :=
 qaZ x1 x2 H fun s17 H17 => qaS x2 H17 fun s19 H19 => loopT (qF.l4 x0 x2 k pk s17 s19) ((⟨none,0,0⟩,(0 : Int)) : Sl × Int) H19
def qF.ann : Ann := { keep := fun r => match r with | 3 => [(6,.sl),(21,.int .i64)] | 11 => [(61,.int .i64)] | _ => [],ord := fun r => match r with  | _ => [] }
theorem qF.link {x0 : Option Addr} {x1 : Sl} {x2 : Sl} {H : AH} {pk : Value → AH → Prop} {k : AH → Prop} (h : qF.b x0 x1 x2 H pk k) : qF x0 x1 x2 H pk k := lk0 pan hT hm Tryz.func114 (by kernel_rfl) (A := qF.ann) (by kernel_rfl) (by kernel_rfl) h
def qb9.b (x0 : Option Addr) (x1 : Int) (H : AH) (pk : Value → AH → Prop) (k : Int → AH → Prop) : Prop :=
 qa7 x0 H (fun pv10 Hp10 => pk pv10 Hp10) fun s10 H10 => qbj x1 H10 fun n12 H12 => bcase ((n12 : Int) == (0 : Int)) (pk (Value.iface 31 (qlI .i64 (1 : Int))) H12) (qaz x0 H12 (fun pv16 Hp16 => pk pv16 Hp16) fun H16 => onPtr x0 fun a21 => elP (AH.cell? H16 (qlL a21 7)) fun p23 => qca p23 H16 fun s24 H24 => qb4 s10 x1 s24 H24 fun s25a n25b n25c H25 => qar n25c H25 (fun pv30 Hp30 => pk pv30 Hp30) fun H30 => qF x0 s10 s25a H30 (fun pv34 Hp34 => pk pv34 Hp34) fun H34 => k n25b H34)
theorem qb9.link {x0 : Option Addr} {x1 : Int} {H : AH} {pk : Value → AH → Prop} {k : Int → AH → Prop} (h : qb9.b x0 x1 H pk k) : qb9 x0 x1 H pk k := lk1 pan hT hm Tryz.func64 (by kernel_rfl) (A := ann0) (by kernel_rfl) (by simp) (by kernel_rfl) h
def qax.j1 (k : Int → AH → Prop) (t3 : Int × Int × Int) (it3 : (Int × Int × Int) → AH → Prop) (o5 : Nat) (H14 : AH) (x19 : Bool) : Prop :=
 bcase x19 (k (0 : Int) H14) (elI .i64 (AH.cell? H14 (qlL ⟨o5,0,none⟩ 1)) fun n22 => it3 (t3.1,(qlJ .i64 (t3.2.1 + n22)),(qlJ .i64 (t3.2.2 + (1 : Int)))) H14)
def qax.l2 (x0 : Sl) (k : Int → AH → Prop) (t3 : Int × Int × Int) (HL3 : AH) (it3 : (Int × Int × Int) → AH → Prop) : Prop :=
 bcase (decide ((t3.2.2 : Int) < ((x0.n : Nat) : Int))) ((0 ≤ t3.2.2 ∧ t3.2.2 < ((x0.n : Nat) : Int)) ∧ onPtr x0.a fun a10 => ldA HL3 (qlL a10 (qlQ t3.2.2 * 3)) 3 fun c11 => newC HL3 ⟨[(qlI .i64 (0 : Int)),(qlI .i64 (0 : Int)),(qmD false)],.rw,0⟩ fun o5 H5 => (qlY c11 = 3 ∧ qmq c11 qo = true) ∧ stC H5 ⟨o5,0,none⟩ c11 fun Hs2 => elI .i64 (AH.cell? Hs2 (qlL ⟨o5,0,none⟩ 1)) fun n13 => qbq n13 Hs2 fun b14 H14 => bcase (!b14) (qax.j1 k t3 it3 o5 H14 true) (qax.j1 k t3 it3 o5 H14 (decide ((t3.2.1 : Int) > (512 : Int))))) (k t3.2.1 HL3)
def qax.b (x0 : Sl) (H : AH) (k : Int → AH → Prop) : Prop :=
 loopT (qax.l2 x0 k) (((0 : Int),(0 : Int),(0 : Int)) : Int × Int × Int) H
def qax.ann : Ann := { keep := fun r => match r with | 3 => [(2,.int .i64),(3,.int .i64),(8,.int .i64)] | _ => [],ord := fun r => match r with  | _ => [] }
theorem qax.link {x0 : Sl} {H : AH} {k : Int → AH → Prop} (h : qax.b x0 H k) : qax x0 H k := lk1 pan hT hm Tryz.func181 (by kernel_rfl) (A := qax.ann) (by kernel_rfl) (by simp) (by kernel_rfl) h
def qD.j1 (x1 : Int) (k : Int → Int → Bool → AH → Prop) (H10 : AH) (x4 : Int) (x57 : Bool) : Prop :=
 bcase x57 (k x4 (qlJ .i64 ((qlJ .i64 (x1 + (1 : Int))) + (1 : Int))) true H10) (k x4 (qlJ .i64 (x1 + (1 : Int))) true H10)
def qD.j2 (x0 : Sl) (x1 : Int) (k : Int → Int → Bool → AH → Prop) (H10 : AH) (x4 : Int) : Prop :=
 bcase (decide (((qlJ .i64 (x1 + (1 : Int))) : Int) < ((x0.n : Nat) : Int))) ((0 ≤ (qlJ .i64 (x1 + (1 : Int))) ∧ (qlJ .i64 (x1 + (1 : Int))) < ((x0.n : Nat) : Int)) ∧ onPtr x0.a fun a53 => elB (AH.cell? H10 (qlL (qlL a53 (qlQ (qlJ .i64 (x1 + (1 : Int))) * 3)) 2)) fun b55 => qD.j1 x1 k H10 x4 (!b55)) (qD.j1 x1 k H10 x4 false)
def qD.j3 (x0 : Sl) (x1 : Int) (k : Int → Int → Bool → AH → Prop) (H10 : AH) (x43 : Bool) : Prop :=
 bcase x43 (qD.j2 x0 x1 k H10 (qlJ .i64 (x1 - (1 : Int)))) (qD.j2 x0 x1 k H10 x1)
def qD.j4 (x0 : Sl) (x1 : Int) (k : Int → Int → Bool → AH → Prop) (H10 : AH) (x29 : Bool) : Prop :=
 bcase x29 (k (0 : Int) (0 : Int) false H10) (bcase (decide ((x1 : Int) > (0 : Int))) ((0 ≤ (qlJ .i64 (x1 - (1 : Int))) ∧ (qlJ .i64 (x1 - (1 : Int))) < ((x0.n : Nat) : Int)) ∧ onPtr x0.a fun a39 => elB (AH.cell? H10 (qlL (qlL a39 (qlQ (qlJ .i64 (x1 - (1 : Int))) * 3)) 2)) fun b41 => qD.j3 x0 x1 k H10 (!b41)) (qD.j3 x0 x1 k H10 false))
def qD.b (x0 : Sl) (x1 : Int) (H : AH) (k : Int → Int → Bool → AH → Prop) : Prop :=
 qax x0 H fun n9 H9 => qaf x0 n9 H9 fun b10 H10 => bcase (!b10) (qD.j4 x0 x1 k H10 true) (bcase (decide ((x1 : Int) < (0 : Int))) (qD.j4 x0 x1 k H10 true) (bcase (decide ((x1 : Int) ≥ ((x0.n : Nat) : Int))) (qD.j4 x0 x1 k H10 true) ((0 ≤ x1 ∧ x1 < ((x0.n : Nat) : Int)) ∧ onPtr x0.a fun a25 => elB (AH.cell? H10 (qlL (qlL a25 (qlQ x1 * 3)) 2)) fun b27 => qD.j4 x0 x1 k H10 (!b27))))
theorem qD.link {x0 : Sl} {x1 : Int} {H : AH} {k : Int → Int → Bool → AH → Prop} (h : qD.b x0 x1 H k) : qD x0 x1 H k := lk3 pan hT hm Tryz.func180 (by kernel_rfl) (A := ann0) (by kernel_rfl) (by simp) (by simp) (by simp) (by kernel_rfl) h
def qbl.b (x0 : Sl) (x1 : Int) (H : AH) (k : List Value → Bool → AH → Prop) : Prop :=
 newC H ⟨[(qlI .i64 (0 : Int)),(qlI .u64 (0 : Int))],.rw,0⟩ fun o4 H4 => qD x0 x1 H4 fun n12a n12b b12c H12 => bcase (!b12c) ((qlY [(qlI .i64 (0 : Int)),(qlI .u64 (0 : Int))] = 2 ∧ qmq [(qlI .i64 (0 : Int)),(qlI .u64 (0 : Int))] qo = true) ∧ stC H12 ⟨o4,0,none⟩ [(qlI .i64 (0 : Int)),(qlI .u64 (0 : Int))] fun Hs2 => ldA Hs2 ⟨o4,0,none⟩ 2 fun r0 => k r0 false Hs2) ((0 ≤ n12a ∧ n12a < ((x0.n : Nat) : Int)) ∧ onPtr x0.a fun a21 => elI .i64 (AH.cell? H12 (qlL (qlL a21 (qlQ n12a * 3)) 0)) fun n23 => (0 ≤ n12a ∧ n12a ≤ n12b ∧ n12b ≤ ((x0.n : Nat) : Int)) ∧ qax ⟨(Option.map (fun x => qlL x (qlQ n12a * 3)) x0.a),(qlQ n12b - qlQ n12a),0⟩ H12 fun n28 H28 => AH.cell? H28 (qlL (qlL a21 (qlQ n12a * 3)) 0) = some (qlI .i64 n23) ∧ qbU n28 false H28 fun n29 H29 => AH.cell? H29 (qlL (qlL a21 (qlQ n12a * 3)) 0) = some (qlI .i64 n23) ∧ (qlY [(qlI .i64 n23),(qlI .u64 n29)] = 2 ∧ qmq [(qlI .i64 n23),(qlI .u64 n29)] qo = true) ∧ stC H29 ⟨o4,0,none⟩ [(qlI .i64 n23),(qlI .u64 n29)] fun Hs4 => ldA Hs4 ⟨o4,0,none⟩ 2 fun r0 => k r0 true Hs4)
def qbl.ann : Ann := { keep := fun r => match r with  | _ => [],ord := fun r => match r with | 4 => [0,1,2,3,4,5,6,7,8,9,10,11,12,13] | _ => [] }
theorem qbl.link {x0 : Sl} {x1 : Int} {H : AH} {k : List Value → Bool → AH → Prop} (h : qbl.b x0 x1 H k) : qbl x0 x1 H k := lk2 pan hT hm Tryz.func152 (by kernel_rfl) (A := qbl.ann) (by kernel_rfl) (by simp) (by simp) (by kernel_rfl) h
def qcE.b (x0 : Sl) (x1 : Int) (H : AH) (k : Sl → Int → AH → Prop) : Prop :=
 qcg x0 x1 H fun s13a n13b H13 => bcase ((((s13a.n : Nat) : Int) : Int) == (0 : Int)) (k ⟨none,0,0⟩ (6 : Int) H13) (qbl s13a n13b H13 fun c22a b22b H22 => newC H22 ⟨[(qlI .i64 (0 : Int)),(qlI .u64 (0 : Int))],.rw,0⟩ fun o8 H8 => (qlY c22a = 2 ∧ qmq c22a qo = true) ∧ stC H8 ⟨o8,0,none⟩ c22a fun Hs2 => bcase (!b22b) (k ⟨none,0,0⟩ (1 : Int) Hs2) (ldA Hs2 ⟨o8,0,none⟩ 2 fun c27 => (qlY c27 = 2) ∧ newC Hs2 ⟨(setMany [(qlI .i64 (0 : Int)),(qlI .u64 (0 : Int))] 0 c27),.rw,2⟩ fun o28 H28 => k ⟨(some ⟨o28,0,none⟩),1,1⟩ (0 : Int) H28))
theorem qcE.link {x0 : Sl} {x1 : Int} {H : AH} {k : Sl → Int → AH → Prop} (h : qcE.b x0 x1 H k) : qcE x0 x1 H k := lk2 pan hT hm Tryz.func115 (by kernel_rfl) (A := ann0) (by kernel_rfl) (by simp) (by simp) (by kernel_rfl) h
def qbJ.b (x0 : Option Addr) (H : AH) (pk : Value → AH → Prop) (k : Int → AH → Prop) : Prop :=
 onPtr x0 fun a7 => elP (AH.cell? H (qlL a7 0)) fun p9 => qJ p9 (2 : Int) H fun n10a n10b H10 => qar n10b H10 (fun pv14 Hp14 => pk pv14 Hp14) fun H14 => k (qlJ .i64 n10a) H14
theorem qbJ.link {x0 : Option Addr} {H : AH} {pk : Value → AH → Prop} {k : Int → AH → Prop} (h : qbJ.b x0 H pk k) : qbJ x0 H pk k := lk1 pan hT hm Tryz.func69 (by kernel_rfl) (A := ann0) (by kernel_rfl) (by simp) (by kernel_rfl) h
def qcl.b (x0 : Option Addr) (x1 : Int) (H : AH) (pk : Value → AH → Prop) (k : AH → Prop) : Prop :=
 qa7 x0 H (fun pv8 Hp8 => pk pv8 Hp8) fun s8 H8 => qcE s8 x1 H8 fun s12a n12b H12 => qar n12b H12 (fun pv16 Hp16 => pk pv16 Hp16) fun H16 => qbJ x0 H16 (fun pv18 Hp18 => pk pv18 Hp18) fun n18 H18 => bcase ((n18 : Int) == x1) (pk (Value.iface 31 (qlI .i64 (5 : Int))) H18) (qaz x0 H18 (fun pv23 Hp23 => pk pv23 Hp23) fun H23 => qF x0 s8 s12a H23 (fun pv27 Hp27 => pk pv27 Hp27) fun H27 => k H27)
theorem qcl.link {x0 : Option Addr} {x1 : Int} {H : AH} {pk : Value → AH → Prop} {k : AH → Prop} (h : qcl.b x0 x1 H pk k) : qcl x0 x1 H pk k := lk0 pan hT hm Tryz.func65 (by kernel_rfl) (A := ann0) (by kernel_rfl) (by kernel_rfl) h
def qbt.b (x0 : List Value) (x1 : Option Addr) (x2 : Option Addr) (H : AH) (k : Bool → AH → Prop) : Prop :=
 newC H ⟨x0,.rw,0⟩ fun o3 H3 => elB (AH.cell? H3 (qlL ⟨o3,0,none⟩ 2)) fun b6 => bcase b6 (onPtr x1 fun a8 => elI .i64 (AH.cell? H3 a8) fun n8 => ldA H3 ⟨o3,0,none⟩ 3 fun c9 => qba c9 H3 fun n10 H10 => AH.cell? H10 a8 = some (qlI .i64 n8) ∧ bcase (decide ((n8 : Int) ≥ n10)) (onPtr x1 fun a14 => elI .i64 (AH.cell? H10 a14) fun n14 => elI .i64 (AH.cell? H10 (qlL ⟨o3,0,none⟩ 0)) fun n16 => elI .i64 (AH.cell? H10 (qlL ⟨o3,0,none⟩ 1)) fun n18 => onPtr x2 fun a21 => elI .i64 (AH.cell? H10 a21) fun n21 => k (decide ((n14 : Int) ≤ (qlJ .i64 ((qlJ .i64 ((qlJ .i64 (n16 + n18)) * (8 : Int))) - n21)))) H10) (k false H10)) (k false H3)
def qbt.ann : Ann := { keep := fun r => match r with  | _ => [],ord := fun r => match r with | 1 => [0,1,2,3,4,5,6,7,8,9,10,11,12,13,14,15,16,17,18,19,20] | _ => [] }
theorem qbt.link {x0 : List Value} {x1 : Option Addr} {x2 : Option Addr} {H : AH} {k : Bool → AH → Prop} (h : qbt.b x0 x1 x2 H k) : qbt x0 x1 x2 H k := lk1 pan hT hm Tryz.func193 (by kernel_rfl) (A := qbt.ann) (by kernel_rfl) (by simp) (by kernel_rfl) h
def qbz.j1 (x0 : Sl) (k : Bool → AH → Prop) (o4 : Nat) (o5 : Nat) (H5 : AH) (x14 : Bool) : Prop :=
 bcase x14 (k false H5) (qO x0 H5 fun s17a b17b H17 => qM s17a (some ⟨o4,0,none⟩) (some ⟨o5,0,none⟩) H17 fun b22 H22 => k b22 H22)
def qbz.b (x0 : Sl) (x1 : Int) (x2 : Int) (H : AH) (k : Bool → AH → Prop) : Prop :=
 newC H ⟨[(qlI .i64 x1)],.rw,0⟩ fun o4 H4 => newC H4 ⟨[(qlI .i64 x2)],.rw,0⟩ fun o5 H5 => elI .i64 (AH.cell? H5 ⟨o5,0,none⟩) fun n9 => bcase (decide ((n9 : Int) < (0 : Int))) (qbz.j1 x0 k o4 o5 H5 true) (elI .i64 (AH.cell? H5 ⟨o5,0,none⟩) fun n12 => qbz.j1 x0 k o4 o5 H5 (decide ((n12 : Int) > (448 : Int))))
theorem qbz.link {x0 : Sl} {x1 : Int} {x2 : Int} {H : AH} {k : Bool → AH → Prop} (h : qbz.b x0 x1 x2 H k) : qbz x0 x1 x2 H k := lk1 pan hT hm Tryz.func182 (by kernel_rfl) (A := ann0) (by kernel_rfl) (by simp) (by kernel_rfl) h
def qb2.b (x0 : Sl) (x1 : Int) (x2 : Int) (H : AH) (k : Int → AH → Prop) : Prop :=
 qO x0 H fun s11a b11b H11 => bcase (!b11b) (k (6 : Int) H11) (qbz x0 x1 x2 H11 fun b19 H19 => bcase (!b19) (k (1 : Int) H19) (k (0 : Int) H19))
theorem qb2.link {x0 : Sl} {x1 : Int} {x2 : Int} {H : AH} {k : Int → AH → Prop} (h : qb2.b x0 x1 x2 H k) : qb2 x0 x1 x2 H k := lk1 pan hT hm Tryz.func153 (by kernel_rfl) (A := ann0) (by kernel_rfl) (by simp) (by kernel_rfl) h
def qb3.b (x0 : Sl) (x1 : Int) (x2 : Int) (H : AH) (k : Bool → AH → Prop) : Prop :=
 bcase (decide ((x1 : Int) ≥ (0 : Int))) (bcase (decide ((x2 : Int) ≥ (0 : Int))) (bcase (decide ((x2 : Int) ≤ (448 : Int))) (k (decide ((x1 : Int) ≤ (qlJ .i64 ((qlJ .i64 (((x0.n : Nat) : Int) * (8 : Int))) - x2)))) H) (k false H)) (k false H)) (k false H)
theorem qb3.link {x0 : Sl} {x1 : Int} {x2 : Int} {H : AH} {k : Bool → AH → Prop} (h : qb3.b x0 x1 x2 H k) : qb3 x0 x1 x2 H k := lk1 pan hT hm Tryz.func183 (by kernel_rfl) (A := ann0) (by kernel_rfl) (by simp) (by kernel_rfl) h
def qb0.l1 (x0 : Sl) (x1 : Int) (x2 : Int) (k : Sl → Bool → AH → Prop) (t5 : Sl × Int) (HL5 : AH) (it5 : (Sl × Int) → AH → Prop) : Prop :=
 bcase (decide ((t5.2 : Int) < (qlJ .i64 (x1 + x2)))) (((8 : Int) : Int) ≠ 0 ∧ (0 ≤ (qlJ .i64 (qm5 t5.2 (8 : Int))) ∧ (qlJ .i64 (qm5 t5.2 (8 : Int))) < ((x0.n : Nat) : Int)) ∧ onPtr x0.a fun a27 => elI .u64 (AH.cell? HL5 (qlL a27 (qlQ (qlJ .i64 (qm5 t5.2 (8 : Int))) * 1))) fun n28 => ((8 : Int) : Int) ≠ 0 ∧ (0 : Int) ≤ (qlJ .i64 ((qmS t5.2 (8 : Int)) * (8 : Int))) ∧ newC HL5 ⟨[(qlI .u8 (qlJ .u8 (shrI .u64 n28 (qlJ .i64 ((qmS t5.2 (8 : Int)) * (8 : Int))))))],.rw,1⟩ fun o34 H34 => appendC 1 H34 t5.1 ⟨(some ⟨o34,0,none⟩),1,1⟩ fun s35 H35 => it5 (s35,(qlJ .i64 (t5.2 + (1 : Int)))) H35) (k t5.1 true HL5)
def qb0.b (x0 : Sl) (x1 : Int) (x2 : Int) (H : AH) (k : Sl → Bool → AH → Prop) : Prop :=
 qb3 x0 x1 x2 H fun b13 H13 => bcase (!b13) (k ⟨none,0,0⟩ false H13) (loopT (qb0.l1 x0 x1 x2 k) ((⟨none,0,0⟩,x1) : Sl × Int) H13)
def qb0.ann : Ann := { keep := fun r => match r with | 5 => [(8,.sl),(9,.int .i64)] | _ => [],ord := fun r => match r with  | _ => [] }
theorem qb0.link {x0 : Sl} {x1 : Int} {x2 : Int} {H : AH} {k : Sl → Bool → AH → Prop} (h : qb0.b x0 x1 x2 H k) : qb0 x0 x1 x2 H k := lk2 pan hT hm Tryz.func154 (by kernel_rfl) (A := qb0.ann) (by kernel_rfl) (by simp) (by simp) (by kernel_rfl) h
def qcA.b (x0 : Sl) (x1 : Int) (x2 : Int) (H : AH) (k : Sl → Int → AH → Prop) : Prop :=
 qb2 x0 x1 x2 H fun n14 H14 => bcase ((n14 : Int) != (0 : Int)) (k ⟨none,0,0⟩ n14 H14) (qb0 x0 x1 x2 H14 fun s22a b22b H22 => k s22a (0 : Int) H22)
theorem qcA.link {x0 : Sl} {x1 : Int} {x2 : Int} {H : AH} {k : Sl → Int → AH → Prop} (h : qcA.b x0 x1 x2 H k) : qcA x0 x1 x2 H k := lk2 pan hT hm Tryz.func116 (by kernel_rfl) (A := ann0) (by kernel_rfl) (by simp) (by simp) (by kernel_rfl) h
def qcj.b (x0 : Option Addr) (x1 : Int) (x2 : Int) (H : AH) (pk : Value → AH → Prop) (k : Sl → AH → Prop) : Prop :=
 qa7 x0 H (fun pv11 Hp11 => pk pv11 Hp11) fun s11 H11 => qcA s11 x1 x2 H11 fun s14a n14b H14 => qar n14b H14 (fun pv18 Hp18 => pk pv18 Hp18) fun H18 => k s14a H18
theorem qcj.link {x0 : Option Addr} {x1 : Int} {x2 : Int} {H : AH} {pk : Value → AH → Prop} {k : Sl → AH → Prop} (h : qcj.b x0 x1 x2 H pk k) : qcj x0 x1 x2 H pk k := lk1 pan hT hm Tryz.func66 (by kernel_rfl) (A := ann0) (by kernel_rfl) (by simp) (by kernel_rfl) h
def qan.j1 (x1 : Int) (t5 : Sl × Int) (it5 : (Sl × Int) → AH → Prop) (n25 : Int) (x8 : Sl) (Hj : AH) : Prop :=
 (0 ≤ (qlJ .i64 (((x8.n : Nat) : Int) - (1 : Int))) ∧ (qlJ .i64 (((x8.n : Nat) : Int) - (1 : Int))) < ((x8.n : Nat) : Int)) ∧ onPtr x8.a fun a59 => elI .u64 (AH.cell? Hj (qlL (qlL a59 (qlQ (qlJ .i64 (((x8.n : Nat) : Int) - (1 : Int))) * 2)) 1)) fun n64 => ((8 : Int) : Int) ≠ 0 ∧ (0 : Int) ≤ (qlJ .i64 ((qmS (qlJ .i64 (x1 + t5.2)) (8 : Int)) * (8 : Int))) ∧ ((8 : Int) : Int) ≠ 0 ∧ (0 : Int) ≤ (qlJ .i64 ((qmS (qlJ .i64 (x1 + t5.2)) (8 : Int)) * (8 : Int))) ∧ stC Hj (qlL (qlL a59 (qlQ (qlJ .i64 (((x8.n : Nat) : Int) - (1 : Int))) * 2)) 1) [(qlI .u64 (orI .u64 (andNotI .u64 n64 (shlI .u64 (255 : Int) (qlJ .i64 ((qmS (qlJ .i64 (x1 + t5.2)) (8 : Int)) * (8 : Int))))) (shlI .u64 (qlJ .u64 n25) (qlJ .i64 ((qmS (qlJ .i64 (x1 + t5.2)) (8 : Int)) * (8 : Int))))))] fun Hs2 => it5 (x8,(qlJ .i64 (t5.2 + (1 : Int)))) Hs2
def qan.j2 (x0 : Sl) (x1 : Int) (t5 : Sl × Int) (it5 : (Sl × Int) → AH → Prop) (HL5 : AH) (n25 : Int) (x43 : Bool) : Prop :=
 bcase x43 (((8 : Int) : Int) ≠ 0 ∧ ((8 : Int) : Int) ≠ 0 ∧ (0 ≤ (qlJ .i64 (qm5 (qlJ .i64 (x1 + t5.2)) (8 : Int))) ∧ (qlJ .i64 (qm5 (qlJ .i64 (x1 + t5.2)) (8 : Int))) < ((x0.n : Nat) : Int)) ∧ onPtr x0.a fun a50 => elI .u64 (AH.cell? HL5 (qlL a50 (qlQ (qlJ .i64 (qm5 (qlJ .i64 (x1 + t5.2)) (8 : Int))) * 1))) fun n51 => (qlY [(qlI .i64 (qlJ .i64 (qm5 (qlJ .i64 (x1 + t5.2)) (8 : Int)))),(qlI .u64 n51)] = 2) ∧ newC HL5 ⟨[(qlI .i64 (qlJ .i64 (qm5 (qlJ .i64 (x1 + t5.2)) (8 : Int)))),(qlI .u64 n51)],.rw,2⟩ fun o53 H53 => appendC 2 H53 t5.1 ⟨(some ⟨o53,0,none⟩),1,1⟩ fun s54 H54 => qan.j1 x1 t5 it5 n25 s54 H54) (qan.j1 x1 t5 it5 n25 t5.1 HL5)
def qan.l3 (x0 : Sl) (x1 : Int) (x2 : Sl) (k : Sl → Bool → AH → Prop) (t5 : Sl × Int) (HL5 : AH) (it5 : (Sl × Int) → AH → Prop) : Prop :=
 bcase (decide ((t5.2 : Int) < ((x2.n : Nat) : Int))) ((0 ≤ t5.2 ∧ t5.2 < ((x2.n : Nat) : Int)) ∧ onPtr x2.a fun a24 => elI .u8 (AH.cell? HL5 (qlL a24 (qlQ t5.2 * 1))) fun n25 => bcase ((((t5.1.n : Nat) : Int) : Int) == (0 : Int)) (qan.j2 x0 x1 t5 it5 HL5 n25 true) ((0 ≤ (qlJ .i64 (((t5.1.n : Nat) : Int) - (1 : Int))) ∧ (qlJ .i64 (((t5.1.n : Nat) : Int) - (1 : Int))) < ((t5.1.n : Nat) : Int)) ∧ onPtr t5.1.a fun a37 => elI .i64 (AH.cell? HL5 (qlL (qlL a37 (qlQ (qlJ .i64 (((t5.1.n : Nat) : Int) - (1 : Int))) * 2)) 0)) fun n39 => ((8 : Int) : Int) ≠ 0 ∧ qan.j2 x0 x1 t5 it5 HL5 n25 ((n39 : Int) != (qlJ .i64 (qm5 (qlJ .i64 (x1 + t5.2)) (8 : Int)))))) (k t5.1 true HL5)
def qan.b (x0 : Sl) (x1 : Int) (x2 : Sl) (H : AH) (k : Sl → Bool → AH → Prop) : Prop :=
 qb3 x0 x1 ((x2.n : Nat) : Int) H fun b17 H17 => bcase (!b17) (k ⟨none,0,0⟩ false H17) (loopT (qan.l3 x0 x1 x2 k) ((⟨none,0,0⟩,(0 : Int)) : Sl × Int) H17)
def qan.ann : Ann := { keep := fun r => match r with | 5 => [(8,.sl),(21,.int .i64)] | _ => [],ord := fun r => match r with | 11 => [0,1,2,3,4,5,6,7,8,9,10,11,12,13,14,15,16,17,18,19] | _ => [] }
theorem qan.link {x0 : Sl} {x1 : Int} {x2 : Sl} {H : AH} {k : Sl → Bool → AH → Prop} (h : qan.b x0 x1 x2 H k) : qan x0 x1 x2 H k := lk2 pan hT hm Tryz.func155 (by kernel_rfl) (A := qan.ann) (by kernel_rfl) (by simp) (by simp) (by kernel_rfl) h
def qco.b (x0 : Sl) (x1 : Int) (x2 : Sl) (H : AH) (k : Sl → Int → AH → Prop) : Prop :=
 qb2 x0 x1 ((x2.n : Nat) : Int) H fun n15 H15 => bcase ((n15 : Int) != (0 : Int)) (k ⟨none,0,0⟩ n15 H15) (qan x0 x1 x2 H15 fun s23a b23b H23 => k s23a (0 : Int) H23)
theorem qco.link {x0 : Sl} {x1 : Int} {x2 : Sl} {H : AH} {k : Sl → Int → AH → Prop} (h : qco.b x0 x1 x2 H k) : qco x0 x1 x2 H k := lk2 pan hT hm Tryz.func117 (by kernel_rfl) (A := ann0) (by kernel_rfl) (by simp) (by simp) (by kernel_rfl) h
def qcb.b (x0 : Option Addr) (x1 : Int) (x2 : Sl) (H : AH) (pk : Value → AH → Prop) (k : AH → Prop) : Prop :=
 qa7 x0 H (fun pv10 Hp10 => pk pv10 Hp10) fun s10 H10 => qco s10 x1 x2 H10 fun s15a n15b H15 => qar n15b H15 (fun pv19 Hp19 => pk pv19 Hp19) fun H19 => bcase ((((s15a.n : Nat) : Int) : Int) == (0 : Int)) (k H19) (qaz x0 H19 (fun pv24 Hp24 => pk pv24 Hp24) fun H24 => qF x0 s10 s15a H24 (fun pv28 Hp28 => pk pv28 Hp28) fun H28 => k H28)
theorem qcb.link {x0 : Option Addr} {x1 : Int} {x2 : Sl} {H : AH} {pk : Value → AH → Prop} {k : AH → Prop} (h : qcb.b x0 x1 x2 H pk k) : qcb x0 x1 x2 H pk k := lk0 pan hT hm Tryz.func67 (by kernel_rfl) (A := ann0) (by kernel_rfl) (by kernel_rfl) h
def qaE.j1 (x0 : Option Addr) (x1 : Int) (k : AH → Prop) (pk : Value → AH → Prop) (x14 : Bool) (Hj : AH) : Prop :=
 bcase x14 (pk (Value.iface 31 (qlI .i64 (1 : Int))) Hj) (qaz x0 Hj (fun pv17 Hp17 => pk pv17 Hp17) fun H17 => onPtr x0 fun a19 => elP (AH.cell? H17 (qlL a19 0)) fun p21 => qG p21 (2 : Int) (qlJ .u64 x1) H17 fun n24 H24 => qar n24 H24 (fun pv25 Hp25 => pk pv25 Hp25) fun H25 => k H25)
def qaE.b (x0 : Option Addr) (x1 : Int) (H : AH) (pk : Value → AH → Prop) (k : AH → Prop) : Prop :=
 qa7 x0 H (fun pv6 Hp6 => pk pv6 Hp6) fun s6 H6 => bcase ((x1 : Int) != (0 : Int)) (qcv s6 x1 H6 fun b12 H12 => qaE.j1 x0 x1 k pk (!b12) H12) (qaE.j1 x0 x1 k pk false H6)
theorem qaE.link {x0 : Option Addr} {x1 : Int} {H : AH} {pk : Value → AH → Prop} {k : AH → Prop} (h : qaE.b x0 x1 H pk k) : qaE x0 x1 H pk k := lk0 pan hT hm Tryz.func68 (by kernel_rfl) (A := ann0) (by kernel_rfl) (by kernel_rfl) h
def pl (a b c d : Int) : List Value := [.int .i64 a,.int .i64 b,.int .i64 c,.int .i64 d]
def mayP (a b c d : Int) : Bool := decide (1 ≤ a ∧ a ≤ 64 ∧ 0 ≤ b ∧ b ≤ 16 ∧ 1 ≤ c ∧ c ≤ 1000 ∧ 1 ≤ d ∧ d ≤ 100)
def wordsP (a b c d : Int) : Int := if mayP a b c d = true then 8 * a else 0
def pagesP (a b c d : Int) : Int := if mayP a b c d = true then (a + 3) / 4 else 0
def logicalP (a b c d : Int) : Int := if mayP a b c d = true then 16 + a else 0
def deviceP (a b c d : Int) : Int := if mayP a b c d = true then 17 + a + b else 0
def homeP (a b c d x : Int) : Int := if mayP a b c d = true ∧ 0 ≤ x ∧ x < a then 16 + x else -1
section
variable {a b c d x : Int} {H : AH} {e : Nat}
theorem pl_row : AH.row? (H.push ⟨pl a b c d,.rw,e⟩) ⟨H.size,0,none⟩ 4 = some (pl a b c d) := row_new rfl rfl
theorem pl_ld {k : List Value → Prop} : ldA (H.push ⟨pl a b c d,.rw,e⟩) ⟨H.size,0,none⟩ 4 k ↔ k (pl a b c d) := ql pl_row
theorem pl_0 : AH.cell? (H.push ⟨pl a b c d,.rw,e⟩) (qlL ⟨H.size,0,none⟩ 0) = some (.int .i64 a) := qdQ _ _ _ _
theorem pl_1 : AH.cell? (H.push ⟨pl a b c d,.rw,e⟩) (qlL ⟨H.size,0,none⟩ 1) = some (.int .i64 b) := qdQ _ _ _ _
theorem pl_2 : AH.cell? (H.push ⟨pl a b c d,.rw,e⟩) (qlL ⟨H.size,0,none⟩ 2) = some (.int .i64 c) := qdQ _ _ _ _
theorem pl_3 : AH.cell? (H.push ⟨pl a b c d,.rw,e⟩) (qlL ⟨H.size,0,none⟩ 3) = some (.int .i64 d) := qdQ _ _ _ _
theorem qV : mayP a b c d = true ↔ 1 ≤ a ∧ a ≤ 64 ∧ 0 ≤ b ∧ b ≤ 16 ∧ 1 ≤ c ∧ c ≤ 1000 ∧ 1 ≤ d ∧ d ≤ 100 := by simp [mayP]
theorem hK {o : AObj} {P : Prop} : (qa H (H.push o) ∧ P) ↔ P := ⟨fun h => h.2,fun h => ⟨(qa.refl H).push _,h⟩⟩
theorem qbg.s {k : Bool → AH → Prop} (h : k (mayP a b c d) H) : qbg (pl a b c d) H k := by
 refine gcB (mayP a b c d) (qbg.link ?_) h
 simp only [qbg.b,qp,pl_0,pl_1,pl_2,pl_3,qf,qi,decide_eq_true_eq,hK]
 repeat' split
 all_goals simp only [mayP,decide_eq_decide,Bool.false_eq,decide_eq_false_iff_not]
 all_goals omega
theorem qb6.s {k : Int → AH → Prop} (h : k (wordsP a b c d) H) : qb6 (pl a b c d) H k := by
 refine gcI (wordsP a b c d) (qb6.link ?_) h
 simp only [qb6.b,qp,pl_ld]
 refine qbg.s ?_
 simp only [pl_0,qf,qi,hK,wordsP,qnd]
 cases hm : mayP a b c d
 ·simp
 ·have := qV.1 hm
  simp only [Bool.true_eq_false,eq_self,if_false,if_true]
  rw [qg (by omega) (by omega)]
  omega
theorem qcr.s {k : Int → AH → Prop} (hx : -9223372036854775808 ≤ x ∧ x ≤ 9223372036854775807) (h : k ((if 0 > x then 0 else x) / 4) H) : qcr x H k := by
 refine gcI ((if 0 > x then 0 else x) / 4) (qcr.link ?_) h
 refine ⟨by decide,qa.refl H,?_⟩
 have : (0 : Int) ≤ (if 0 > x then 0 else x) := by split <;> omega
 rw [qmK this,qg (by split <;> omega) (by split <;> omega)]
theorem qcz.s {k : Int → AH → Prop} (h : k (pagesP a b c d) H) : qcz (pl a b c d) H k := by
 refine gcI (pagesP a b c d) (qcz.link ?_) h
 simp only [qcz.b,qp,pl_ld]
 refine qbg.s ?_
 simp only [pl_0,qf,qi,hK,pagesP,qnd]
 cases hm : mayP a b c d
 ·simp
 ·have := qV.1 hm
  simp only [Bool.true_eq_false,eq_self,if_false,if_true]
  rw [qg (by omega) (by omega)]
  refine qcr.s (by omega) ?_
  rw [qg (by split <;> omega) (by split <;> omega)]
  simp only [hK]
  split <;> omega
theorem qbF.s {k : Int → AH → Prop} (h : k (logicalP a b c d) H) : qbF (pl a b c d) H k := by
 refine gcI (logicalP a b c d) (qbF.link ?_) h
 simp only [qbF.b,qp,pl_ld]
 refine qbg.s ?_
 simp only [pl_0,qf,qi,hK,logicalP,qnd]
 cases hm : mayP a b c d
 ·simp
 ·have := qV.1 hm
  simp only [Bool.true_eq_false,eq_self,if_false,if_true]
  rw [qg (by omega) (by omega)]
theorem qby.s {k : Int → AH → Prop} (h : k (deviceP a b c d) H) : qby (pl a b c d) H k := by
 refine gcI (deviceP a b c d) (qby.link ?_) h
 simp only [qby.b,qp,pl_ld]
 refine qbg.s ?_
 simp only [pl_0,pl_1,qf,qi,hK,deviceP,qnd]
 cases hm : mayP a b c d
 ·simp
 ·have := qV.1 hm
  simp only [Bool.true_eq_false,eq_self,if_false,if_true]
  rw [pl_ld]
  refine qbF.s ?_
  refine ⟨pl_1,?_⟩
  simp only [logicalP,hm,if_true,hK]
  rw [qg (n := 16 + a + 1) (by omega) (by omega),qg (by omega) (by omega)]
  omega
theorem qbA.s {k : Int → AH → Prop} (h : k (homeP a b c d x) H) : qbA (pl a b c d) x H k := by
 refine gcI (homeP a b c d x) (qbA.link ?_) h
 simp only [qbA.b,qp,pl_ld]
 refine qbg.s ?_
 simp only [pl_0,pl_1,qf,qi,hK,homeP,qnd,decide_eq_true_eq]
 cases hm : mayP a b c d
 ·simp
 ·have := qV.1 hm
  simp only [Bool.true_eq_false,eq_self,if_false,true_and]
  split
  ·rw [if_neg (by omega)]
  ·split
   ·rw [if_neg (by omega)]
   ·rw [if_pos (by omega),qg (by omega) (by omega)]
end
section
variable {a b c d x y z u p q r s p' q' r' s' p2 q2 r2 s2 : Int} {H : AH} {e : Nat}
def three (H : AH) (A B C : List Value) : AH := H.more [⟨A,.rw,0⟩,⟨B,.rw,0⟩,⟨C,.rw,0⟩]
end
def opl (K a b c : Int) (s : Sl) : List Value := [.int .i64 K,.int .i64 a,.int .i64 b,.int .i64 c,s.val]
def linesP (K b : Int) (n : Nat) : Int :=
 if K = 1 then (if 0 ≤ b ∧ b ≤ 448 then b / 64 + 4 else 0) else if K = 4 then (if n ≤ 448 then (n : Int) / 64 + 2 else 0) else if K = 2 then 1 else 0
section
variable {K a b c d m x : Int} {sl : Sl} {H : AH} {e : Nat}
theorem qfK : 0 ≤ linesP K b sl.n ∧ linesP K b sl.n ≤ 11 := by
 unfold linesP
 repeat' split
 all_goals omega
theorem op_len : (opl K a b c sl).length = 5 := rfl
theorem op_ok : (opl K a b c sl).all qo = true := rfl
end
def isU (n : Int) : Prop := 0 ≤ n ∧ n ≤ 18446744073709551615
def isI (n : Int) : Prop := -9223372036854775808 ≤ n ∧ n ≤ 9223372036854775807
def isB (n : Int) : Prop := 0 ≤ n ∧ n ≤ 255
def iV (v : Int) : List Value := [.int .i64 v]
def wU (v : Int) : List Value := [.int .u64 v]
def bU (v : Int) : List Value := [.int .u8 v]
end Go.Proofs.YtdcbkjgoaknmkaaGreat
namespace Go.Abs
theorem own_len {α : Type} {B : Nat} {H : AH} {s : Sl} {z : Nat} {f : α → List Value} {l : List α} (h : Own B H s z f l) : s.n = l.length := by
 rcases h with ⟨rfl,rfl⟩ | ⟨b,rfl,_,_,_⟩ <;> rfl
theorem qj5 {α : Type} {cells : List Value} {z : Nat} {f : α → List Value} : ∀ {l : List α} {o : Nat},(∀ i x,l[i]? = some x → (cells.drop (o + i * z)).take z = f x ∧ (f x).length = z) → (cells.drop o).take (l.length * z) = l.flatMap f := by
 intro l
 induction l with
 | nil => intro o _; simp
 | cons a r ih =>
  intro o h
  have h0 := h 0 a rfl
  rw [Nat.zero_mul,Nat.add_zero] at h0
  have hr := ih (o := o + z) fun i x hx => by
   have := h (i + 1) x (by simpa using hx)
   rw [show o + z + i * z = o + (i + 1) * z by rw [Nat.add_mul]; omega]
   exact this
  simp only [ql0,qmn]
  rw [Nat.add_mul,Nat.one_mul,Nat.add_comm,List.take_add,h0.1,List.drop_drop,hr]
theorem qeB {α : Type} {H : AH} {s : Sl} {z : Nat} {f : α → List Value} {l : List α} (hf : ∀ x,(f x).length = z) (hc : ∀ x,(f x).all qo = true) (h : Rows H s z f l) : AH.rowS? H s z = some (l.flatMap f) := by
 simp only [AH.rowS?]
 by_cases h0 : s.n = 0
 ·rw [if_pos h0]
  have : l = [] := List.length_eq_zero_iff.1 (by rw [← h.1]; exact h0)
  subst this; rfl
 ·rw [if_neg h0]
  have hpos : 0 < l.length := by rw [← h.1]; omega
  obtain ⟨b,o,ha,hb,_⟩ := h.at hpos
  have hrow : ∀ i x,l[i]? = some x → AH.row? H ⟨b,o + i * z,none⟩ z = some (f x) := by
   intro i x hx
   obtain ⟨a,e1,e2,e3,e4⟩ := h.2 i x hx
   rw [ha] at e1
   injection e1 with e1
   subst e1
   exact e4
  have hun : ∀ i x,l[i]? = some x → (H.get b).md ≠ .dead ∧ ((H.get b).cells.drop (o + i * z)).take z = f x ∧ o + i * z + z ≤ (H.get b).cells.length := by
   intro i x hx
   have := hrow i x hx
   simp only [AH.row?,ql4,qlU,if_false] at this
   split at this
   ·cases this
   ·rename_i hd
    split at this
    ·rename_i hh
     injection this with this
     exact ⟨hd,this,hh.1⟩
    ·cases this
  have hl := hun (l.length - 1) l[l.length - 1] (qlK (by omega))
  have hflat := qj5 (cells := (H.get b).cells) (z := z) (f := f) (l := l) (o := o) fun i x hx => ⟨(hun i x hx).2.1,hf x⟩
  have hle : o + l.length * z ≤ (H.get b).cells.length := by
   have := hl.2.2
   obtain ⟨n,hn⟩ : ∃ n,l.length = n + 1 := ⟨l.length - 1,by omega⟩
   rw [hn] at this ⊢
   rw [Nat.add_sub_cancel] at this
   rw [Nat.add_mul]
   omega
  have hall : (l.flatMap f).all qo = true := by simp [List.all_flatMap,hc]
  rw [ha]
  simp only [AH.row?,ql4,qlU,if_false]
  rw [if_neg hl.1,h.1,hflat,if_pos ⟨hle,hall⟩]
theorem qfT {α : Type} {H0 H : AH} {B : Nat} {s t : Sl} {z : Nat} {f : α → List Value} {l r : List α} {k : Sl → AH → Prop} (hf : ∀ x,(f x).length = z) (hc : ∀ x,(f x).all qo = true)
  (hO : Own B H s z f l) (hR : Rows H t z f r) (hB : H0.size ≤ B) (hBH : B ≤ H.size) (hK : qa H0 H) (hlim : l.length + r.length ≤ limS z)
  (h : ∀ s' H',Own B H' s' z f (l ++ r) → qa H0 H' → H.size ≤ H'.size → (∀ b,b < H.size → (∀ a,s.a = some a → b ≠ a.block) → H'.get b = H.get b) → k s' H') :
  appendC z H s t k := by
 have hrow := qeB hf hc hR
 have hge := hK.1
 have hs : s.n = l.length := own_len hO
 refine ⟨by rw [hs,hR.1]; exact hlim,?_⟩
 by_cases h0 : t.n = 0
 ·rw [if_pos h0]
  have : r = [] := List.length_eq_zero_iff.1 (by rw [← hR.1]; exact h0)
  subst this
  refine h _ _ (by rw [List.append_nil]; exact hO) hK (qlS _) fun _ _ _ => rfl
 rw [if_neg h0]
 refine ⟨_,hrow,?_⟩
 have ht := hR.1
 rcases hO with ⟨rfl,rfl⟩ | ⟨b,rfl,hb1,hb2,hg⟩
 ·refine h _ _ (.inr ⟨H.size,?_,?_,?_,?_⟩) (hK.push _) (by simp [qe]) ?_
  ·simp [newAt,ht]
  ·omega
  ·simp [qe]
  ·simp [qm]
  ·intro b hb _; exact qv (by omega)
 ·refine ⟨⟨rfl,rfl,rfl,by rw [hg],by rw [hg,qcQ hf],by rw [hg]⟩,?_⟩
  refine h _ _ (.inr ⟨H.size,?_,?_,?_,?_⟩) ((hK.kill (b := b) (Nat.le_trans hB hb1)).push _) (by simp [qe,qP]) ?_
  ·simp [newAt,ht]
  ·omega
  ·simp [qe,qP]
  ·simp only [qm,qP,if_true]
   rw [hg]
   simp
  ·intro b' hb' hne
   have hne' : b' ≠ b := hne _ rfl
   rw [qv (by simp only [qP]; omega),qcy hne']
theorem qdu {α : Type} {H0 H : AH} {B : Nat} {s t : Sl} {z : Nat} {f : α → List Value} {l r : List α} {k : Sl → AH → Prop} (hf : ∀ x,(f x).length = z) (hc : ∀ x,(f x).all qo = true)
  (hO : Own B H s z f l) (hR : Rows H t z f r) (hB : H0.size ≤ B) (hBH : B ≤ H.size) (hK : qa H0 H) (hlim : l.length + r.length ≤ lim)
  (h : ∀ s' H',Own B H' s' z f (l ++ r) → qa H0 H' → H.size ≤ H'.size → (∀ b,b < H.size → (∀ a,s.a = some a → b ≠ a.block) → H'.get b = H.get b) → k s' H') :
  appendC z H s t k := qfT hf hc hO hR hB hBH hK (le_limS hlim z) h
theorem qeY {α : Type} {H : AH} {s : Sl} {z : Nat} {f : α → List Value} {l : List α} {k : Nat} (h : Rows H s z f l) (hk : k ≤ l.length) : Rows H ⟨s.a,k,0⟩ z f (l.take k) := by
 refine ⟨by simp; omega,fun i x hi => h.2 i x ?_⟩
 rw [qmr] at hi
 split at hi
 ·exact hi
 ·cases hi
theorem qd7 {α : Type} {H : AH} {s : Sl} {z : Nat} {f : α → List Value} {l : List α} {k : Nat} (h : Rows H s z f l) (hk : k ≤ l.length) : Rows H ⟨Option.map (fun x => qlL x (k * z)) s.a,s.n - k,0⟩ z f (l.drop k) := by
 refine ⟨by simp [h.1],fun i x hi => ?_⟩
 rw [qmo] at hi
 obtain ⟨a,h1,h2,h3,h4⟩ := h.2 _ _ hi
 obtain ⟨b,o,sp⟩ := a
 simp only at h2 h3 h4
 subst h2
 refine ⟨⟨b,o + k * z,none⟩,by rw [h1,Option.map_some,qk],rfl,h3,?_⟩
 rw [← h4]
 simp only
 congr 2
 rw [Nat.add_mul]; omega
def getB (v : Int) (j : Nat) : Int := (v / 2 ^ (8 * j)) % 256
def setB (v : Int) (j : Nat) (c : Int) : Int :=
 ((((qmH 64 v) &&& ~~~(BitVec.ofNat 64 (255 * 2 ^ (8 * j)))) ||| (BitVec.ofNat 64 (c.toNat * 2 ^ (8 * j)))).toNat : Int)
theorem qjO (v : Int) (j : Nat) (c : Int) : 0 ≤ setB v j c ∧ setB v j c ≤ 18446744073709551615 := by
 unfold setB
 have := (((qmH 64 v) &&& ~~~(BitVec.ofNat 64 (255 * 2 ^ (8 * j)))) ||| (BitVec.ofNat 64 (c.toNat * 2 ^ (8 * j)))).isLt
 omega
theorem qgg (n j : Nat) : getB (n : Int) j = ((n / 2 ^ (8 * j)) % 256 : Nat) := by
 unfold getB
 rw [Int.natCast_emod,Int.natCast_ediv,Int.natCast_pow]
 rfl
theorem qei (n j t : Nat) : ((n / 2 ^ (8 * j)) % 256).testBit t = (decide (t < 8) && n.testBit (8 * j + t)) := by
 have : (256 : Nat) = 2 ^ 8 := rfl
 rw [this,Nat.testBit_mod_two_pow,Nat.testBit_div_two_pow,Nat.add_comm]
theorem qg3 {v c : Int} {j : Nat} (hj : j < 8) (hc : 0 ≤ c ∧ c ≤ 255) : getB (setB v j c) j = c := by
 obtain ⟨n,rfl⟩ := qma hc.1
 unfold setB
 rw [qgg]
 congr 1
 apply Nat.eq_of_testBit_eq
 intro t
 rw [qei,BitVec.testBit_toNat]
 simp only [qlP]
 have hn : n < 2 ^ 8 := by omega
 by_cases ht : t < 8
 ·have h64 : 8 * j + t < 64 := by omega
  simp only [ht,decide_true,Bool.true_and,BitVec.getLsbD_or,BitVec.getLsbD_and,BitVec.getLsbD_not,BitVec.getLsbD_ofNat,h64,Nat.testBit_mul_two_pow]
  rw [show decide (8 * j + t ≥ 8 * j) = true from by simp,show 8 * j + t - 8 * j = t from by omega]
  have h255 : Nat.testBit 255 t = true := by
   have : (255 : Nat) = 2 ^ 8 - 1 := rfl
   rw [this,Nat.testBit_two_pow_sub_one]; simpa using ht
  simp [h255]
 ·have : n.testBit t = false := Nat.testBit_lt_two_pow (qm2 hn (Nat.pow_le_pow_right (by omega) (by omega)))
  simp [ht,this]
theorem qgL {v c : Int} {j i : Nat} (hv : 0 ≤ v ∧ v ≤ 18446744073709551615) (hj : j < 8) (hi : i < 8) (hij : i ≠ j) (hc : 0 ≤ c ∧ c ≤ 255) : getB (setB v j c) i = getB v i := by
 obtain ⟨n,rfl⟩ := qma hc.1
 obtain ⟨m,rfl⟩ := qma hv.1
 unfold setB
 rw [qgg,qgg]
 congr 1
 apply Nat.eq_of_testBit_eq
 intro t
 rw [qei,qei,BitVec.testBit_toNat]
 simp only [qlP]
 have hn : n < 2 ^ 8 := by omega
 by_cases ht : t < 8
 ·have h64 : 8 * i + t < 64 := by omega
  simp only [ht,decide_true,Bool.true_and,BitVec.getLsbD_or,BitVec.getLsbD_and,BitVec.getLsbD_not,BitVec.getLsbD_ofNat,h64,Nat.testBit_mul_two_pow,BitVec.ofInt_natCast]
  have hz : ∀ q : Nat,q < 2 ^ 8 → (decide (8 * i + t ≥ 8 * j) && q.testBit (8 * i + t - 8 * j)) = false := by
   intro q hq
   by_cases hge : 8 * i + t ≥ 8 * j
   ·have : 8 ≤ 8 * i + t - 8 * j := by omega
    rw [Nat.testBit_lt_two_pow (qm2 hq (Nat.pow_le_pow_right (by omega) this))]; simp
   ·simp [hge]
  rw [hz 255 (by omega),hz n hn]
  simp
 ·simp [ht]
theorem qkW {v : Int} (hv : 0 ≤ v ∧ v ≤ 18446744073709551615) {j : Nat} (hj : j < 8) : qlJ .u8 (shrI .u64 v (8 * (j : Int))) = getB v j := by
 unfold shrI getB
 rw [show (min ((8 * (j : Int)).toNat) (qmQ .u64)) = 8 * j from by simp [qmQ]; omega]
 rw [Int.fdiv_eq_ediv_of_nonneg _ (Int.pow_nonneg (by omega))]
 simp only [qlJ,qmQ,IntKind.signed,Bool.false_and,Int.reducePow,qlU,if_false]
theorem qd6 (x : Int) : qmH 64 (qlJ .u64 x) = qmH 64 x := by
 simp only [qlJ,qmQ,IntKind.signed,Bool.false_and,qlU,if_false]
 apply BitVec.eq_of_toInt_eq
 simp only [BitVec.toInt_ofInt]
 exact Int.emod_bmod x (2 ^ 64)
theorem qlo (n : Nat) (h : n < 2 ^ 64) : qlJ .u64 (n : Int) = n := qbE (by omega) (by omega)
theorem qlj {v c : Int} (hc : 0 ≤ c ∧ c ≤ 255) {j : Nat} (hj : j < 8) :
  orI .u64 (andNotI .u64 v (shlI .u64 255 (8 * (j : Int)))) (shlI .u64 (qlJ .u64 c) (8 * (j : Int))) = setB v j c := by
 have h1 : ∀ x : Int,shlI .u64 x (8 * (j : Int)) = qlJ .u64 (x * 2 ^ (8 * j)) := by
  intro x
  unfold shlI
  rw [show (min ((8 * (j : Int)).toNat) (qmQ .u64)) = 8 * j from by simp [qmQ]; omega]
 have h2 : ∀ a b : Int,andNotI .u64 a b = qlJ .u64 ((qmH 64 a &&& ~~~(qmH 64 b)).toNat : Int) := fun _ _ => rfl
 have h3 : ∀ a b : Int,orI .u64 a b = qlJ .u64 ((qmH 64 a ||| qmH 64 b).toNat : Int) := fun _ _ => rfl
 rw [h3,h2,h1,h1,qbE (n := c) (by omega) (by omega),qd6,qd6,qd6,qlo _ (BitVec.isLt _)]
 unfold setB
 obtain ⟨n,rfl⟩ := qma hc.1
 have e1 : (255 : Int) * 2 ^ (8 * j) = ((255 * 2 ^ (8 * j) : Nat) : Int) := by rw [Int.natCast_mul,Int.natCast_pow]; rfl
 have e2 : (n : Int) * 2 ^ (8 * j) = ((n * 2 ^ (8 * j) : Nat) : Int) := by rw [Int.natCast_mul,Int.natCast_pow]; rfl
 rw [e1,e2]
 simp only [BitVec.ofInt_natCast,qlP,BitVec.ofNat_toNat,BitVec.setWidth_eq]
end Go.Abs
namespace Go.Proofs.YtdcbkjgoaknmkaaGreat
open Go Go.Abs
theorem qkJ {H : AH} {b o : Nat} {v : Value} (h : AH.row? H ⟨b,o,none⟩ 1 = some [v]) : AH.cell? H ⟨b,o,none⟩ = some v := by
 have := (AH.row?_cell h).2.2.2.2 0 v rfl
 simpa using this
theorem qbs {α : Type} {H : AH} {s : Sl} {g : α → Value} {l : List α} (h : ql5 H s 1 (fun x => [g x]) l) {i : Nat} (hi : i < l.length) :
  ∃ b o,s.a = some ⟨b,o,none⟩ ∧ b < H.size ∧ AH.cell? H (qlL ⟨b,o,none⟩ (i * 1)) = some (g (l[i])) := by
 obtain ⟨b,o,h1,h2,h3⟩ := h.at hi
 refine ⟨b,o,h1,h2,?_⟩
 rw [qk] at h3 ⊢
 exact qkJ h3
def inside (len : Nat) (off n : Int) : Prop := 0 ≤ off ∧ 0 ≤ n ∧ n ≤ 448 ∧ off ≤ 8 * len - n
instance (len : Nat) (off n : Int) : Decidable (inside len off n) := by unfold inside; infer_instance
def byteAt (ws : List Int) (i : Nat) : Int := getB (ws.getD (i / 8) 0) (i % 8)
def bytesOf (ws : List Int) (off n : Nat) : List Int := (List.range n).map fun j => byteAt ws (off + j)
def qaI (ws : List Int) : Prop := ∀ v ∈ ws,0 ≤ v ∧ v ≤ 18446744073709551615
section
variable {off n : Int} {H : AH} {sl : Sl}
theorem qb3.s {k : Bool → AH → Prop} (hs : sl.n ≤ 1000000000) (ho : -9223372036854775808 ≤ off ∧ off ≤ 9223372036854775807) (h : k (decide (inside sl.n off n)) H) : qb3 sl off n H k := by
 refine gcB (decide (inside sl.n off n)) (qb3.link ?_) h
 simp only [qb3.b,qi,decide_eq_true_eq,qa.refl,true_and]
 by_cases h1 : off ≥ 0
 ·rw [if_pos h1]
  by_cases h2 : n ≥ 0
  ·rw [if_pos h2]
   by_cases h3 : n ≤ 448
   ·rw [if_pos h3,qg (n := (sl.n : Int) * 8) (by omega) (by omega),qg (by omega) (by omega)]
    refine decide_eq_decide.2 ?_; unfold inside; omega
   ·rw [if_neg h3]; refine (decide_eq_false ?_).symm; unfold inside; omega
  ·rw [if_neg h2]; refine (decide_eq_false ?_).symm; unfold inside; omega
 ·rw [if_neg h1]; refine (decide_eq_false ?_).symm; unfold inside; omega
theorem qb0.s {ws : List Int} {k : Sl → Bool → AH → Prop} (hw : ql5 H sl 1 wU ws) (h64 : qaI ws) (hlen : ws.length ≤ 1000000) (ho : -9223372036854775808 ≤ off ∧ off ≤ 9223372036854775807)
  (h1 : inside ws.length off n → ∀ s H',qa H H' → Own H.size H' s 1 bU (bytesOf ws off.toNat n.toNat) → k s true H') (h0 : ¬ inside ws.length off n → k ⟨none,0,0⟩ false H) : qb0 sl off n H k := by
 refine qb0.link ?_
 unfold qb0.b
 have hn : sl.n = ws.length := hw.1
 refine qb3.s (by omega) ho ?_
 rw [hn]
 by_cases hin : inside ws.length off n
 ·rw [show decide (inside ws.length off n) = true from by simpa using hin,Bool.not_true,qc]
  have hin' := hin
  unfold inside at hin
  refine qI (t := ((⟨none,0,0⟩,off) : Sl × Int)) (H := H) (I := fun (t : Sl × Int) H' => ∃ j : Nat,t.2 = off + j ∧ (j : Int) ≤ n ∧ qa H H' ∧ Own H.size H' t.1 1 bU (bytesOf ws off.toNat j)) (m := fun (t : Sl × Int) _ => qlQ (off + n - t.2)) ?_ ?_
  ·intro t H1 hI it hit
   obtain ⟨s,i⟩ := t
   obtain ⟨j,hi,hj,hK,hO⟩ := hI
   simp only at hi hO
   subst hi
   have hR := hw.keep hK
   unfold qb0.l1
   simp only
   rw [qg (n := off + n) (by omega) (by omega)]
   by_cases hlt : (j : Int) < n
   ·rw [show decide (off + (j : Int) < off + n) = true from by simp; omega,qj]
    rw [qmK (by omega),Int.tmod_eq_emod_of_nonneg (by omega),qg (n := (off + (j : Int)) / 8) (by omega) (by omega),hn]
    have hidx : ((off + (j : Int)) / 8).toNat < ws.length := by omega
    obtain ⟨b,o,ha,hb,hcell⟩ := qbs (g := fun v => qlI .u64 v) hR hidx
    refine ⟨by decide,⟨by omega,by omega⟩,?_⟩
    rw [ha,qd,hcell,qf,qg (n := (off + (j : Int)) % 8 * 8) (by omega) (by omega)]
    refine ⟨by decide,by omega,?_⟩
    have hjm : ((off + (j : Int)) % 8) = (((off.toNat + j) % 8 : Nat) : Int) := by omega
    have hidx' : ((off + (j : Int)) / 8).toNat = (off.toNat + j) / 8 := by omega
    have hv := h64 _ (List.getElem_mem hidx)
    have hbyte : qlJ .u8 (shrI .u64 ws[((off + (j : Int)) / 8).toNat] ((off + (j : Int)) % 8 * 8)) = byteAt ws (off.toNat + j) := by
     rw [Int.mul_comm,hjm,qkW hv (by omega)]
     unfold byteAt
     rw [qlM,← hidx',qlK hidx,Option.getD_some]
    rw [hbyte]
    simp only [qp]
    refine qbB (H0 := H) (B := H.size) (f := bU) (x := byteAt ws (off.toNat + j)) (l := bytesOf ws off.toNat j) (fun _ => rfl) rfl hO (qlS _) hK.1 hK (by simp only [bytesOf,List.length_map,List.length_range,lim]; omega) ?_
    intro s' H' hO' hK' _ _
    rw [qg (n := off + (j : Int) + 1) (by omega) (by omega)]
    refine hit _ _ ⟨j + 1,by simp only; omega,by omega,hK',?_⟩ (by simp only; omega)
    have : bytesOf ws off.toNat (j + 1) = bytesOf ws off.toNat j ++ [byteAt ws (off.toNat + j)] := by simp [bytesOf,List.range_succ]
    rw [this]; exact hO'
   ·rw [show decide (off + (j : Int) < off + n) = false from by simp; omega,qc]
    have hjn : n.toNat = j := by omega
    exact h1 hin' _ _ hK (hjn ▸ hO)
  ·exact ⟨0,by simp,by omega,qa.refl H,.inl ⟨rfl,rfl⟩⟩
 ·rw [show decide (inside ws.length off n) = false from by simpa using hin,Bool.not_false,qj]
  exact h0 hin
end
end Go.Proofs.YtdcbkjgoaknmkaaGreat
namespace Go.Abs
theorem qlu {α : Type} {f : α → List Value} {z : Nat} (hf : ∀ x,(f x).length = z) {j : Nat} {v : Value} (hj : j < z) : ∀ (l : List α) (i : Nat) (x y : α),l[i]? = some x → f y = (f x).set j v →
  (l.flatMap f).set (i * z + j) v = (l.set i y).flatMap f := by
 intro l
 induction l with
 | nil => intro i x y h; simp at h
 | cons a l ih =>
  intro i x y h hy
  cases i with
  | zero =>
   simp only [List.getElem?_cons_zero,Option.some.injEq] at h
   subst h
   simp only [Nat.zero_mul,ql3,qmn,List.set_cons_zero]
   rw [hy,List.set_append_left _ _ (by rw [hf]; exact hj)]
  | succ i =>
   simp only [List.getElem?_cons_succ] at h
   simp only [qmn,List.set_cons_succ]
   rw [← ih i x y h hy,List.set_append_right _ _ (by rw [hf,Nat.succ_mul]; omega)]
   congr 2
   rw [hf,Nat.succ_mul]; omega
theorem Own.cell {α : Type} {B : Nat} {H : AH} {s : Sl} {z : Nat} {f : α → List Value} {l : List α} (h : Own B H s z f l) (hf : ∀ x,(f x).length = z) {i : Nat} {x : α} (hi : l[i]? = some x) {j : Nat} (hj : j < z) :
  ∃ b,s.a = some ⟨b,0,none⟩ ∧ B ≤ b ∧ b < H.size ∧ AH.cell? H ⟨b,i * z + j,none⟩ = (f x)[j]? := by
 rcases h with ⟨_,rfl⟩ | ⟨b,rfl,h1,h2,hg⟩
 ·simp at hi
 ·refine ⟨b,rfl,h1,h2,?_⟩
  simp only [AH.cell?,hg,ql4,qlU,if_false]
  rw [if_neg (by simp)]
  have := qge hf l i x hi
  rw [← this,qmr,if_pos hj,qmo]
theorem Own.put {α : Type} {B : Nat} {H : AH} {s : Sl} {z : Nat} {f : α → List Value} {l : List α} (h : Own B H s z f l) (hf : ∀ x,(f x).length = z) {i : Nat} {x y : α} (hi : l[i]? = some x) {j : Nat} (hj : j < z) {v : Value}
  (hy : f y = (f x).set j v) : ∃ b,s.a = some ⟨b,0,none⟩ ∧ B ≤ b ∧ b < H.size ∧ AH.canPut H ⟨b,i * z + j,none⟩ 1 ∧ Own B (H.put ⟨b,i * z + j,none⟩ [v]) s z f (l.set i y) ∧
   ∀ b',b' ≠ b → (H.put ⟨b,i * z + j,none⟩ [v]).get b' = H.get b' := by
 rcases h with ⟨_,rfl⟩ | ⟨b,rfl,h1,h2,hg⟩
 ·simp at hi
 ·have hlt : i < l.length := (List.getElem?_eq_some_iff.1 hi).1
  have hle : i * z + j + 1 ≤ (l.flatMap f).length := by
   rw [qcQ hf]
   calc i * z + j + 1 ≤ i * z + z := by omega
    _ = (i + 1) * z := by rw [Nat.succ_mul]
    _ ≤ l.length * z := Nat.mul_le_mul_right _ hlt
  refine ⟨b,rfl,h1,h2,⟨rfl,by rw [hg],by rw [hg]; exact hle⟩,.inr ⟨b,by simp,h1,h2,?_⟩,fun b' hb' => ?_⟩
  ·simp only [AH.put,qu,if_true,hg,setMany]
   rw [qlu hf hj l i x y hi hy]
  ·simp only [AH.put,qu]; rw [if_neg hb']
end Go.Abs
namespace Go.Proofs.YtdcbkjgoaknmkaaGreat
open Go Go.Abs
def putB (ws : List Int) (i : Nat) (c : Int) : List Int := ws.set (i / 8) (setB (ws.getD (i / 8) 0) (i % 8) c)
def putBs : List Int → Nat → List Int → List Int
 | ws,_,[] => ws
 | ws,i,c :: r => putBs (putB ws i c) (i + 1) r
def eU (x : Int × Int) : List Value := [.int .i64 x.1,.int .u64 x.2]
def editsOf (cur : List Int) (q m : Nat) : List (Int × Int) := (List.range m).map fun j => (((q + j : Nat) : Int),cur.getD (q + j) 0)
def touched (off k : Nat) : Nat := if k = 0 then 0 else (off + k - 1) / 8 - off / 8 + 1
def qam (bs : List Int) : Prop := ∀ v ∈ bs,0 ≤ v ∧ v ≤ 255
theorem qdW (ws : List Int) (i : Nat) (c : Int) : (putB ws i c).length = ws.length := by simp [putB]
theorem qcG : ∀ (bs ws : List Int) (i : Nat),(putBs ws i bs).length = ws.length := by
 intro bs
 induction bs with
 | nil => intro ws i; rfl
 | cons c r ih => intro ws i; simp [putBs,ih,qdW]
theorem qjV : ∀ (bs ws : List Int) (i : Nat) (c : Int),putBs ws i (bs ++ [c]) = putB (putBs ws i bs) (i + bs.length) c := by
 intro bs
 induction bs with
 | nil => intro ws i c; rfl
 | cons b r ih => intro ws i c; simp only [List.cons_append,putBs,ih,ql0]; congr 1; omega
theorem qfv (ws : List Int) (i : Nat) (c : Int) (w : Nat) (h : i / 8 < ws.length) : (putB ws i c).getD w 0 = if w = i / 8 then setB (ws.getD (i / 8) 0) (i % 8) c else ws.getD w 0 := by
 unfold putB
 simp only [qlM]
 by_cases hw : w = i / 8
 ·subst hw; simp [h]
 ·rw [if_neg hw,qmf (by omega)]
theorem qfC : ∀ (bs ws : List Int) (i w : Nat),(i + bs.length ≤ w * 8 ∨ w < i / 8) → i + bs.length ≤ ws.length * 8 → (putBs ws i bs).getD w 0 = ws.getD w 0 := by
 intro bs
 induction bs with
 | nil => intro ws i w _ _; rfl
 | cons c r ih =>
  intro ws i w h hl
  simp only [ql0] at h hl
  simp only [putBs]
  rw [ih _ _ _ (by omega) (by rw [qdW]; omega),qfv _ _ _ _ (by omega),if_neg (by omega)]
section
variable {off : Nat} {H : AH} {x0 x2 : Sl}
theorem qb8 (cur : List Int) (q m : Nat) : (editsOf cur q m).length = m := by simp [editsOf]
theorem qdX {cur : List Int} {q m i : Nat} (h : i < m) : (editsOf cur q m)[i]? = some (((q + i : Nat) : Int),cur.getD (q + i) 0) := by
 simp [editsOf,h]
theorem qfL {ws : List Int} (h : qaI ws) (i : Nat) (c : Int) : qaI (putB ws i c) := by
 intro v hv
 unfold putB at hv
 rcases List.mem_or_eq_of_mem_set hv with hv | rfl
 ·exact h v hv
 ·exact qjO _ _ _
theorem qiL {cur : List Int} {q m i : Nat} {c : Int} (hm : 1 ≤ m) (hi : i / 8 = q + m - 1) (hl : i / 8 < cur.length) :
  (editsOf cur q m).set (m - 1) (((i / 8 : Nat) : Int),setB (cur.getD (i / 8) 0) (i % 8) c) = editsOf (putB cur i c) q m := by
 apply qmc
 intro j
 by_cases hj : j < m
 ·rw [qdX hj,qfv _ _ _ _ hl]
  by_cases hjm : j = m - 1
  ·subst hjm
   rw [List.getElem?_set_self (by rw [qb8]; omega),if_pos (by omega),show q + (m - 1) = i / 8 from by omega]
  ·rw [qmf (by omega),qdX hj,if_neg (by omega)]
 ·rw [qlR (by rw [List.length_set,qb8]; omega),qlR (by rw [qb8]; omega)]
theorem qil {it : Sl × Int → AH → Prop} {H0 H1 : AH} {s : Sl} {cur : List Int} {k m : Nat} {c : Int} {t : Sl × Int} (ht : t.2 = (k : Int)) (hK : qa H0 H1) (hO : Own H0.size H1 s 2 eU (editsOf cur (off / 8) m)) (hm : 1 ≤ m) (hm' : m ≤ 1000)
  (hi : (off + k) / 8 = off / 8 + m - 1) (hl : (off + k) / 8 < cur.length) (hc : 0 ≤ c ∧ c ≤ 255) (hoff : off + k ≤ 100000000)
  (hit : ∀ H',qa H0 H' → Own H0.size H' s 2 eU (editsOf (putB cur (off + k) c) (off / 8) m) → it (s,(k : Int) + 1) H') : qan.j1 (off : Int) t it c s H1 := by
 unfold qan.j1
 have hlen : s.n = m := by
  rcases hO with ⟨rfl,h⟩ | ⟨b,rfl,_,_,_⟩
  ·have := qb8 cur (off / 8) m
   rw [h] at this; simpa using this
  ·simp [qb8]
 rw [hlen,ht,qg (n := (m : Int) - 1) (by omega) (by omega),qg (n := (off : Int) + (k : Int)) (by omega) (by omega)]
 have hidx : ((m : Int) - 1).toNat = m - 1 := by omega
 have hget := qdX (cur := cur) (q := off / 8) (show m - 1 < m from by omega)
 have hq : off / 8 + (m - 1) = (off + k) / 8 := by omega
 rw [hq] at hget
 obtain ⟨b,ha,hb1,hb2,hcell⟩ := hO.cell (fun _ => rfl) hget (j := 1) (by omega)
 refine ⟨⟨by omega,by omega⟩,?_⟩
 rw [ha,qd,hidx,qk,qk,ql3,hcell]
 have hmod : ((off : Int) + (k : Int)).tmod 8 = (((off + k) % 8 : Nat) : Int) := by rw [Int.tmod_eq_emod_of_nonneg (by omega)]; omega
 rw [hmod]
 show elI .u64 (some (qlI .u64 (cur.getD ((off + k) / 8) 0))) _
 rw [qf,qg (n := (((off + k) % 8 : Nat) : Int) * 8) (by omega) (by omega),Int.mul_comm _ 8,qlj hc (by omega)]
 refine ⟨by decide,by omega,by decide,by omega,?_⟩
 obtain ⟨b',ha',_,_,hcan,hO',hsame⟩ := hO.put (y := ((((off + k) / 8 : Nat) : Int),setB (cur.getD ((off + k) / 8) 0) ((off + k) % 8) c)) (fun _ => rfl) hget (j := 1) (by omega) (v := .int .u64 (setB (cur.getD ((off + k) / 8) 0) ((off + k) % 8) c)) rfl
 rw [ha] at ha'
 injection ha' with ha'
 injection ha' with ha'
 subst ha'
 refine ⟨hcan,?_⟩
 rw [qg (n := (k : Int) + 1) (by omega) (by omega)]
 rw [qiL hm hi hl] at hO'
 exact hit _ (hK.put hb1 _) hO'
theorem own_n {α : Type} {B : Nat} {H : AH} {s : Sl} {z : Nat} {f : α → List Value} {l : List α} (h : Own B H s z f l) : s.n = l.length := by
 rcases h with ⟨rfl,rfl⟩ | ⟨b,rfl,_,_,_⟩ <;> rfl
theorem qix {it : Sl × Int → AH → Prop} {H0 H1 : AH} {s : Sl} {ws cur : List Int} {k m : Nat} {c : Int} {t : Sl × Int} (ht : t = (s,(k : Int))) (hw : ql5 H1 x0 1 wU ws) (hcl : cur.length = ws.length) (hcw : cur.getD ((off + k) / 8) 0 = ws.getD ((off + k) / 8) 0)
  (hK : qa H0 H1) (hO : Own H0.size H1 s 2 eU (editsOf cur (off / 8) m)) (hm' : m ≤ 900)
  (hi : (off + k) / 8 = off / 8 + m) (hl : (off + k) / 8 < cur.length) (hc : 0 ≤ c ∧ c ≤ 255) (hoff : off + k ≤ 100000000) (hwl : ws.length ≤ 1000000)
  (hit : ∀ s' H',qa H0 H' → Own H0.size H' s' 2 eU (editsOf (putB cur (off + k) c) (off / 8) (m + 1)) → it (s',(k : Int) + 1) H') : qan.j2 x0 (off : Int) t it H1 c true := by
 subst ht
 unfold qan.j2
 rw [qj]
 simp only
 rw [qg (n := (off : Int) + (k : Int)) (by omega) (by omega),qmK (by omega),qg (n := ((off : Int) + (k : Int)) / 8) (by omega) (by omega),hw.1]
 refine ⟨by decide,by decide,⟨by omega,by omega⟩,?_⟩
 have hidx : (((off : Int) + (k : Int)) / 8).toNat = (off + k) / 8 := by omega
 have hlt : (off + k) / 8 < ws.length := by omega
 obtain ⟨b,o,ha,hb,hcell⟩ := qbs (g := fun v => qlI .u64 v) hw hlt
 rw [ha,qd,hidx,hcell,qf]
 refine ⟨rfl,?_⟩
 rw [qp]
 have hx : [qlI .i64 (((off : Int) + (k : Int)) / 8),qlI .u64 ws[(off + k) / 8]] = eU ((((off + k) / 8 : Nat) : Int),cur.getD ((off + k) / 8) 0) := by
  rw [hcw]
  simp only [eU,qlM,qlK hlt,Option.getD_some]
  congr 1
 rw [hx]
 refine qbB (H0 := H0) (B := H0.size) (f := eU) (x := ((((off + k) / 8 : Nat) : Int),cur.getD ((off + k) / 8) 0)) (l := editsOf cur (off / 8) m) (fun _ => rfl) rfl hO (qlS _) hK.1 hK (by rw [qb8]; simp only [lim]; omega) ?_
 intro s' H' hO' hK' _ _
 have hl' : editsOf cur (off / 8) m ++ [((((off + k) / 8 : Nat) : Int),cur.getD ((off + k) / 8) 0)] = editsOf cur (off / 8) (m + 1) := by
  simp only [editsOf,List.range_succ,List.map_append,List.map_cons,List.map_nil,hi]
 rw [hl'] at hO'
 exact qil rfl hK' hO' (by omega) (by omega) (by omega) hl hc hoff (fun H'' hK'' hO'' => hit s' H'' hK'' hO'')
theorem qan.s {ws bs : List Int} {k : Sl → Bool → AH → Prop} {offI : Int} (hw : ql5 H x0 1 wU ws) (h64 : qaI ws) (hwl : ws.length ≤ 1000000) (hb : ql5 H x2 1 bU bs) (h8 : qam bs) (ho : -9223372036854775808 ≤ offI ∧ offI ≤ 9223372036854775807)
  (h1 : inside ws.length offI bs.length → ∀ s H',qa H H' → Own H.size H' s 2 eU (editsOf (putBs ws offI.toNat bs) (offI.toNat / 8) (touched offI.toNat bs.length)) → k s true H')
  (h0 : ¬ inside ws.length offI bs.length → k ⟨none,0,0⟩ false H) : qan x0 offI x2 H k := by
 refine qan.link ?_
 unfold qan.b
 rw [hb.1]
 refine qb3.s (by rw [hw.1]; omega) ho ?_
 rw [hw.1]
 by_cases hin : inside ws.length offI bs.length
 ·rw [show decide (inside ws.length offI bs.length) = true from by simpa using hin,Bool.not_true,qc]
  have hin' := hin
  unfold inside at hin
  obtain ⟨off,rfl⟩ := qma hin.1
  simp only [qlP] at h1
  refine qI (t := ((⟨none,0,0⟩,(0 : Int)) : Sl × Int)) (H := H) (I := fun (t : Sl × Int) H' => ∃ j : Nat,t.2 = (j : Int) ∧ j ≤ bs.length ∧ qa H H' ∧ Own H.size H' t.1 2 eU (editsOf (putBs ws off (bs.take j)) (off / 8) (touched off j))) (m := fun (t : Sl × Int) _ => qlQ ((bs.length : Int) - t.2)) ?_ ?_
  ·intro t H1 hI it hit
   obtain ⟨s,i⟩ := t
   obtain ⟨j,hi,hj,hK,hO⟩ := hI
   simp only at hi hO
   subst hi
   have hR := hw.keep hK
   have hB := hb.keep hK
   unfold qan.l3
   simp only
   rw [hb.1]
   by_cases hlt : j < bs.length
   ·rw [show decide ((j : Int) < (bs.length : Int)) = true from by simpa using hlt,qj]
    obtain ⟨b,o,ha,hbb,hcell⟩ := qbs (g := fun v => qlI .u8 v) hB hlt
    refine ⟨⟨by omega,by omega⟩,?_⟩
    rw [ha,qd,qlP,hcell,qf]
    have hc := h8 _ (List.getElem_mem hlt)
    have hcl : (putBs ws off (bs.take j)).length = ws.length := qcG _ _ _
    have hstep : putB (putBs ws off (bs.take j)) (off + j) bs[j] = putBs ws off (bs.take (j + 1)) := by
     rw [List.take_succ,qlK hlt,Option.toList_some,qjV,qnc,Nat.min_eq_left (by omega)]
    have hnext : ∀ s' H',qa H H' → Own H.size H' s' 2 eU (editsOf (putB (putBs ws off (bs.take j)) (off + j) bs[j]) (off / 8) (touched off (j + 1))) → it (s',(j : Int) + 1) H' := by
     intro s' H' hK' hO'
     rw [hstep] at hO'
     exact hit _ _ ⟨j + 1,by simp,by omega,hK',hO'⟩ (by simp only; omega)
    rw [own_n hO,qb8]
    have hlw : (off + j) / 8 < (putBs ws off (bs.take j)).length := by rw [hcl]; omega
    by_cases hj0 : j = 0
    ·subst hj0
     rw [show (((touched off 0 : Nat) : Int) == 0) = true from rfl,qj]
     refine qix (m := 0) (cur := putBs ws off (bs.take 0)) rfl hR hcl rfl hK hO (by omega) (by omega) hlw hc (by omega) hwl ?_
     intro s' H' hK' hO'
     have : touched off (0 + 1) = 0 + 1 := by simp [touched]
     exact hnext s' H' hK' (by rw [this]; exact hO')
    ·have htm : touched off j = (off + j - 1) / 8 - off / 8 + 1 := by simp [touched,hj0]
     have htn : touched off (j + 1) = (off + j) / 8 - off / 8 + 1 := by simp [touched]
     have hle : touched off j ≤ 60 := by omega
     rw [show (((touched off j : Nat) : Int) == 0) = false from by simp; omega,qc,qg (n := ((touched off j : Nat) : Int) - 1) (by omega) (by omega)]
     refine ⟨⟨by omega,by omega⟩,?_⟩
     have hget := qdX (cur := putBs ws off (bs.take j)) (q := off / 8) (show touched off j - 1 < touched off j from by omega)
     obtain ⟨b',ha',_,_,hcell'⟩ := hO.cell (fun _ => rfl) hget (j := 0) (by omega)
     have hidx : (((touched off j : Nat) : Int) - 1).toNat = touched off j - 1 := by omega
     rw [ha',qd,hidx,qk,qk,ql3,hcell']
     show elI .i64 (some (qlI .i64 ((off / 8 + (touched off j - 1) : Nat) : Int))) _
     rw [qf,qg (n := (off : Int) + (j : Int)) (by omega) (by omega),qmK (by omega),qg (n := ((off : Int) + (j : Int)) / 8) (by omega) (by omega)]
     refine ⟨by decide,?_⟩
     by_cases hsame : (off + j) / 8 = off / 8 + touched off j - 1
     ·rw [show ((((off / 8 + (touched off j - 1) : Nat) : Int)) != ((off : Int) + (j : Int)) / 8) = false from by simp; omega]
      unfold qan.j2
      rw [qc]
      refine qil (m := touched off j) (cur := putBs ws off (bs.take j)) rfl hK hO (by omega) (by omega) hsame hlw hc (by omega) ?_
      intro H' hK' hO'
      exact hnext s H' hK' (by rw [show touched off (j + 1) = touched off j from by omega]; exact hO')
     ·rw [show ((((off / 8 + (touched off j - 1) : Nat) : Int)) != ((off : Int) + (j : Int)) / 8) = true from by simp; omega]
      refine qix (m := touched off j) (cur := putBs ws off (bs.take j)) rfl hR hcl ?_ hK hO (by omega) (by omega) hlw hc (by omega) hwl ?_
      ·exact qfC _ _ _ _ (.inl (by rw [qnc]; omega)) (by rw [qnc]; omega)
      ·intro s' H' hK' hO'
       exact hnext s' H' hK' (by rw [show touched off (j + 1) = touched off j + 1 from by omega]; exact hO')
   ·rw [show decide ((j : Int) < (bs.length : Int)) = false from by simpa using hlt,qc]
    have hjn : j = bs.length := by omega
    subst hjn
    rw [List.take_length] at hO
    exact h1 hin' _ _ hK hO
  ·exact ⟨0,rfl,by omega,qa.refl H,.inl ⟨rfl,rfl⟩⟩
 ·rw [show decide (inside ws.length offI bs.length) = false from by simpa using hin,Bool.not_false,qj]
  exact h0 hin
end
theorem qfX {α : Type} (g : α → Value) (l : List α) : (l.flatMap fun x => [g x]) = l.map g := by
 induction l with
 | nil => rfl
 | cons a l ih => simp [ih]
theorem qgr {α : Type} {H : AH} {s : Sl} {g : α → Value} {l : List α} (hg : ∀ x,qo (g x) = true) (h : ql5 H s 1 (fun x => [g x]) l) : AH.rowS? H s 1 = some (l.map g) := by
 simp only [AH.rowS?]
 by_cases h0 : s.n = 0
 ·rw [if_pos h0]
  have : l = [] := List.length_eq_zero_iff.1 (by rw [← h.1]; exact h0)
  subst this; rfl
 ·rw [if_neg h0]
  have hpos : 0 < l.length := by rw [← h.1]; omega
  obtain ⟨b,o,ha,hb,hr0⟩ := h.at hpos
  rw [ha]
  simp only [Nat.mul_one]
  have hcell : ∀ i (hi : i < l.length),AH.cell? H ⟨b,o + i,none⟩ = some (g l[i]) := by
   intro i hi
   obtain ⟨b',o',ha',_,hr⟩ := qbs h hi
   rw [ha] at ha'
   injection ha' with ha'
   injection ha' with e1 e2 _
   subst e1 e2
   rw [qk,Nat.mul_one] at hr
   exact hr
  have hm : (H.get b).md ≠ .dead := by
   intro hm
   have := hcell 0 hpos
   simp [AH.cell?,hm] at this
  have hc : ∀ i (hi : i < l.length),(H.get b).cells[o + i]? = some (g l[i]) := by
   intro i hi
   have := hcell i hi
   simpa [AH.cell?,hm] using this
  have hlen : o + s.n ≤ (H.get b).cells.length := by
   have h1 := hc (l.length - 1) (by omega)
   have := (List.getElem?_eq_some_iff.1 h1).1
   have := h.1
   omega
  have htake : ((H.get b).cells.drop o).take s.n = l.map g := by
   apply qmc
   intro i
   by_cases hi : i < s.n
   ·have hi' : i < l.length := by rw [← h.1]; exact hi
    rw [qmr,if_pos hi,qmo,hc i hi',List.getElem?_map,qlK hi',Option.map_some]
   ·rw [qlR (by simp; omega),qlR (by rw [List.length_map,← h.1]; omega)]
  simp only [AH.row?,ql4,qlU,if_false]
  rw [if_neg hm,htake,if_pos ⟨hlen,by simp [hg]⟩]
theorem qak.s {H : AH} {sl : Sl} {ws : List Int} {k : Sl → AH → Prop} (hw : ql5 H sl 1 wU ws) (hwl : ws.length ≤ 1000000)
  (h : ∀ s H',qa H H' → Own H.size H' s 1 wU ws ∨ (ws = [] ∧ s.n = 0) → k s H') : qak sl H k := by
 refine qak.link ?_
 unfold qak.b
 cases ha : sl.a with
 | none =>
  rw [Option.isNone_none,qj]
  refine h _ _ (qa.refl H) (.inr ⟨?_,rfl⟩)
  cases ws with
  | nil => rfl
  | cons x r =>
   obtain ⟨a,h1,_⟩ := hw.2 0 x rfl
   rw [ha] at h1; cases h1
 | some a =>
  rw [Option.isNone_some,qc,qp]
  refine ⟨le_limS (by have := hw.1; simp only [lim]; omega) _,?_⟩
  by_cases h0 : sl.n = 0
  ·rw [if_pos h0]
   refine h _ _ ((qa.refl H).push _) (.inr ⟨List.length_eq_zero_iff.1 (by rw [← hw.1]; exact h0),rfl⟩)
  ·rw [if_neg h0]
   have hr := qgr (g := fun v => qlI .u64 v) (fun _ => rfl) (hw.keep ((qa.refl H).push ⟨[],.rw,1⟩))
   refine ⟨_,hr,⟨rfl,rfl,rfl,by simp [qm],by simp [qm],by simp [qm]⟩,?_⟩
   refine h _ _ ((((qa.refl H).push _).kill (b := H.size) (qlS _)).push _) (.inl (.inr ⟨H.size + 1,?_,by omega,by simp [qe,qP],?_⟩))
   ·simp [newAt,qe,hw.1]
   ·simp only [qm,qP,qe,if_true]
    simp only [List.nil_append,AObj.mk.injEq,and_true]
    exact (qfX (fun v => qlI .u64 v) ws).symm
end Go.Proofs.YtdcbkjgoaknmkaaGreat
