/- Lemmas for the law: an abstract machine, and what the functions do on it. No condition. -/
import Derived.Test.YtdcbkjgoaknmkaaGreatFT13
import Derived.Test.YtdcbkjgoaknmkaaGreatProg
import Derived.WalkKit
import Derived.Defers
import Derived.Recover
set_option linter.all false
open Go.Value renaming int → qlI,pointer → qlO,agg → qmE
open Go.IntKind renaming wrap → qlJ
open List renaming getElem?_eq_getElem → qlK,getD_eq_getElem?_getD → qlM,replicate → qlN,getElem?_eq_none → qlR,getElem?_map → qlW,mem_of_getElem? → qlX,length → qlY,length_cons → ql0,getElem_mem → ql1,mem_append → ql2,mem_cons → ql6,length_append → ql7,getElem?_append_right → ql8,ext_getElem? → qmc,getElem?_append_left → qmd,toArray → qme,getElem?_set_ne → qmf,getElem?_range → qmh,length_set → qmj,length_eq_zero_iff → qmk,mem_map → qml,flatMap_cons → qmn,getElem?_drop → qmo,getElem?_take → qmr,length_map → qmt,map_cons → qmv,cons_append → qmw,take_of_length_le → qmx,map_append → qmz,range → qmA,nil_append → qmB,getElem?_cons_succ → qmC,take_length → qmI,mem_range → qmJ,flatMap_append → qmP,length_nil → qmR,append_assoc → qmV,range_succ → qm0,append_nil → qm1,drop_length → qm3,take_succ → qm6,append_of_mem → qm9,mem_map_of_mem → qna,getElem?_replicate → qnm
open Go.Addr renaming add → qlL
open Int renaming toNat_natCast → qlP,toNat → qlQ,eq_ofNat_of_zero_le → qma
open Nat renaming le_refl → qlS,zero_add → ql3,le_trans → qmM,zero_le → qmT
open Bool renaming false_eq_true → qlU,not_true → qmm
open Option renaming isNone_some → qlZ,isSome_none → ql4,map_some → qmi,isNone_none → qm8
open Go.Abs renaming Rows → ql5
open Array renaming getD_eq_getD_getElem? → ql9,replicate → qnn
open Go.World renaming cell?_setCell_other → qmL
open List.cons renaming injEq → qnb
set_option linter.all false
namespace Go.Proofs.YtdcbkjgoaknmkaaGreat
open Go
theorem qkT (p : Addr) (w : World) : CallsD Tryz.prog 63 #[.pointer (some p)] .returning w fun e u' w' => e = .returned (.tuple #[]) ∧ u' = .returning ∧ w' = w := by
 refine callsD_of_wpS Tryz.func63 rfl fun c₀ cs hu => ?_
 apply wpS_seq
 apply wpS_region
 simp [wpOpsS,go_sem,recoverD,hu,Tryz.ntmps63,Exit.thenS]
 apply wpS_seq
 apply wpS_region
 simp [wpOpsS,go_sem,Exit.thenS]
 refine wpS_cond (t := false) (by simp [Act.eval,qnn]) ?_
 refine wpS_of_wp (wp_skip ?_)
 cases c₀
 simp_all [bodyPostS,results,Tryz.results63,Exit.thenS]
theorem do1_pan (b : Nat) (e0 : Int) (older : List PanicEntry) (w : World) (h0 : ∃ v,w.cell? ⟨b,0,none⟩ = some v) (h1 : ∃ v,w.cell? ⟨b,1,none⟩ = some v) (h2 : ∃ v,w.cell? ⟨b,2,none⟩ = some v) (hf : ∀ i,w.frozen? ⟨b,i,none⟩ = false) :
  CallsD Tryz.prog 63 #[.pointer (some ⟨b,0,none⟩)] (.panicking ({ v := .iface 31 (.int .i64 e0),recovered := false } :: older)) w fun e u' w' =>
   e = .returned (.tuple #[]) ∧ u' = .panicking ({ v := .iface 31 (.int .i64 e0),recovered := true } :: older) ∧ w' = w.setCells b 0 [.int .i64 e0,.int .i64 0,.slice none 0 0] := by
 obtain ⟨v0,h0⟩ := h0
 obtain ⟨v1,h1⟩ := h1
 obtain ⟨v2,h2⟩ := h2
 have fz : ∀ (w : World) (a : Addr) (v : Value) (c : Addr),(w.setCell a v).frozen? c = w.frozen? c := fun w a v c => World.frozen?_setCell w a c v
 have g1 : (w.setCell ⟨b,0,none⟩ (.int .i64 e0)).cell? ⟨b,1,none⟩ = some v1 := by rw [qmL _ _ _ _ (by simp)]; exact h1
 have g2 : ((w.setCell ⟨b,0,none⟩ (.int .i64 e0)).setCell ⟨b,1,none⟩ (.int .i64 0)).cell? ⟨b,2,none⟩ = some v2 := by
  rw [qmL _ _ _ _ (by simp),qmL _ _ _ _ (by simp)]; exact h2
 refine callsD_of_wpS Tryz.func63 rfl fun c₀ cs hu => ?_
 apply wpS_seq
 apply wpS_region
 simp [wpOpsS,go_sem,recoverD,hu,Tryz.ntmps63,Exit.thenS]
 apply wpS_seq
 apply wpS_region
 simp [wpOpsS,go_sem,Exit.thenS]
 refine wpS_cond (t := true) (by simp [Act.eval,qnn]) ?_
 simp only [if_true]
 apply wpS_seq
 apply wpS_region
 have hta : ∀ w : World,Sem.run Tryz.prog (Instr.typeAssert (.iface 31 (.int .i64 e0)) 20 31 true) w = .ok (.tuple #[.int .i64 e0,.bool true]) w := fun _ => by kernel_rfl
 have hta2 : ∀ w : World,(Instr.typeAssert (.iface 31 (.int .i64 e0)) 20 31 true).run Tryz.prog w = .ok (.tuple #[.int .i64 e0,.bool true]) w := fun _ => by kernel_rfl
 simp [wpOpsS,go_sem,Exit.thenS,hta,hta2]
 apply wpS_seq
 apply wpS_seq
 apply wpS_region
 simp [wpOpsS,go_sem,Exit.thenS]
 refine wpS_cond (t := false) (by simp [Act.eval,qnn]) ?_
 refine wpS_of_wp (wp_skip ?_)
 simp only [Exit.thenS]
 apply wpS_region
 simp [wpOpsS,go_sem,Exit.thenS,h0,g1,g2,hf,fz]
 cases c₀
 simp_all [bodyPostS,results,Tryz.results63,Exit.thenS,World.setCells]
end Go.Proofs.YtdcbkjgoaknmkaaGreat
set_option linter.all false
namespace Go.Proofs.YtdcbkjgoaknmkaaGreat
open Go Go.Abs
theorem qk8 {Q : Exit → Act → World → Prop} {a : Act} {w : World} {p : Addr} (hs : a.tmps.size = Tryz.f18.ntmps) (hd : a.defers = []) (h4 : a.tmps.getD 4 undef = .pointer (some p))
  (h : ∀ a' d,a'.tmps.size = a.tmps.size → (∀ s,s ≠ 8 → a'.tmps.getD s undef = a.tmps.getD s undef) → a'.defers = [d] → (∃ fv cap,d.target = .fn fv cap ∧ ∀ w,(invoke d.target d.args).run Tryz.prog w = .ok (.enter 63 #[.pointer (some p)]) w) → Q .normal a' w) :
  (deferOf Tryz.f18.body).wp Tryz.prog Q a w := by
 have hs' : a.tmps.size = 54 := hs
 show Code.wp Tryz.prog (Code.region 3 _ _) Q a w
 apply wp_region
 have h4' : a.tmps[4]?.getD undef = .pointer (some p) := by simpa [ql9] using h4
 simp [wpOps,go_sem,h4,h4',hs',hd]
 left; left
 refine h _ ⟨Target.fn (Fn.func 63) #[qlO (some p)],#[]⟩ ?_ ?_ rfl ⟨_,_,rfl,fun w => ?_⟩
 ·simp
 ·intro s hs
  simp [ql9,Array.getElem?_setIfInBounds_ne (Ne.symm hs)]
 ·simp [go_sem,invoke]
theorem _root_.Go.Abs.ARel.weaken {Ds Ds' : List Deferred} {φ : Emb} {n : Nat} {fr fr' : Fr} {a a' : Act} (r : ARel Ds φ n fr a) (hd : a'.defers = Ds') (hs : a'.tmps.size = a.tmps.size) (ht : ∀ s,fr' s = undef ∨ (fr' s = fr s ∧ a'.tmps.getD s undef = a.tmps.getD s undef)) : ARel Ds' φ n fr' a' := by
 refine ⟨hd,hs.trans r.size,fun s => ?_⟩
 rcases ht s with h | ⟨h,e⟩
 ·rw [h]; exact .undef _
 ·rw [h,e]; exact r.tmp s
def doFr (x0 : Option Addr) (o3 o4 : Nat) : Fr := argFr [.pointer x0,undef,undef,.pointer (some ⟨o3,0,none⟩),.pointer (some ⟨o4,0,none⟩)]
theorem qg1 {x0 : Option Addr} {o3 o4 : Nat} {fr : Fr} (h0 : fr 0 = .pointer x0) (h3 : fr 3 = .pointer (some ⟨o3,0,none⟩)) (h4 : fr 4 = .pointer (some ⟨o4,0,none⟩)) (s : Nat) : doFr x0 o3 o4 s = undef ∨ (doFr x0 o3 o4 s = fr s ∧ (s = 0 ∨ s = 3 ∨ s = 4)) := by
 match s with
 | 0 => exact .inr ⟨h0.symm,.inl rfl⟩
 | 1 => exact .inl rfl
 | 2 => exact .inl rfl
 | 3 => exact .inr ⟨h3.symm,.inr (.inl rfl)⟩
 | 4 => exact .inr ⟨h4.symm,.inr (.inr rfl)⟩
 | n + 5 => exact .inl rfl
theorem qhS {φ : Emb} {e : Int} {v : Value} (h : VRel φ (.iface 31 (.int .i64 e)) v) : v = .iface 31 (.int .i64 e) := by
 cases h with
 | iface _ _ v' hv => cases hv; rfl
section
variable {x0 : Option Addr} {x1 : List Value} {H : AH}
theorem heap_Do.walk {k : List Value → AH → Prop} 
  (hnil : x0 = none → ∀ o4 H4 z,H4.get o4 = anObj 1 0 ⟨none,0,0⟩ z → o4 < H4.size → qa H H4 → k (anObj 1 0 ⟨none,0,0⟩ 0).cells H4)
  (hrun : x0 ≠ none → qw.r x0 H.size (H.size + 1) ((H.push ⟨x1,.rw,0⟩).push (anObj 0 0 ⟨none,0,0⟩ 0))
   (fun v H' => ∃ e,v = .iface 31 (.int .i64 e) ∧ H'.get (H.size + 1) = anObj 0 0 ⟨none,0,0⟩ 0 ∧ k (anObj e 0 ⟨none,0,0⟩ 0).cells (H'.upd (H.size + 1) (anObj e 0 ⟨none,0,0⟩ 0)))
   (fun H' => ∃ e off x z,H'.get (H.size + 1) = anObj e off x z ∧ k (anObj e off x 0).cells H')) : qw x0 x1 H k := by
 unfold qw
 have hent : enterable Tryz.prog 18 = true := by kernel_rfl
 have hres : Tryz.f18.results.toList = [.cell 4 38] := by kernel_rfl
 refine ⟨hent,fun W w φ args' hl R => ?_⟩
 have hsz : args'.size = 2 := by have := hl.1; simp at this; omega
 refine calls_of_wp_defers Tryz.func18 qw.body_eq ?_
 have hnt : Tryz.f18.ntmps = 54 := by kernel_rfl
 have A0 : ARel [] φ Tryz.f18.ntmps (argFr [.pointer x0,.agg (qme x1)]) { tmps := args' ++ qnn (Tryz.f18.ntmps - args'.size) undef,defers := [] } := by
  refine ⟨rfl,by simp; omega,fun s => ?_⟩
  unfold argFr
  by_cases hs : s < 2
  ·have h1 : [qlO x0,qmE (qme x1)].getD s undef = [qlO x0,qmE (qme x1)][s]'(by simpa using hs) := by simp [qlM,hs]
   have h2 : (args' ++ qnn (Tryz.f18.ntmps - args'.size) undef).getD s undef = args'[s]'(by omega) := by
    simp [ql9,Array.getElem?_append,show s < args'.size by omega]
   rw [h1]
   simp only
   rw [h2]
   exact hl.2 s _ _ (qlK (by simpa using hs)) (by simp [show s < args'.size by omega])
  ·have h1 : [qlO x0,qmE (qme x1)].getD s undef = undef := by simp [qlM,qlR (show [qlO x0,qmE (qme x1)].length ≤ s by simp; omega)]
   rw [h1]
   exact .undef _
 -- the answer is read off its cell
 have ending : ∀ (ds : List Deferred) (φ1 : Emb) (fr1 : Fr) (H1 : AH) (a1 : Act) (w1 : World) (o4 : Nat) (cs : List Value),ARel ds φ1 Tryz.f18.ntmps fr1 a1 → fr1 4 = .pointer (some ⟨o4,0,none⟩) → Rel W φ1 H1 w1 → Hist φ H φ1 H1 → AH.row? H1 ⟨o4,0,none⟩ 3 = some cs → k cs H1 →
   ∃ v,(results Tryz.f18 a1.tmps).run Tryz.prog w1 = .ok v w1 ∧ ∃ le φ' H',Hist φ H φ' H' ∧ qcR φ' le (.returned v) ∧ Rel W φ' H' w1 ∧ in1 .agg le qn (fun r0 => k r0 H') := by
  intro ds φ1 fr1 H1 a1 w1 o4 cs A1 h4 R1 hh hrow hk
  have A1' : ARel [] φ1 Tryz.f18.ntmps fr1 ⟨a1.tmps,[]⟩ := ⟨rfl,A1.size,A1.tmp⟩
  have hv : resVals T fr1 H1 [.cell 4 38] (fun vs => vs = [.agg cs.toArray]) := by
   simp only [resVals,h4]
   exact ⟨cs,hrow,rfl⟩
  obtain ⟨vs,vs',hk1,hlv,hrunv⟩ := qfi (P := Tryz.prog) (T := T) hT A1' R1 _ _ hv
  subst hk1
  obtain ⟨v',rfl⟩ : ∃ v',vs' = [v'] := by
   have := hlv.1
   match vs',this with
   | [v'],_ => exact ⟨v',rfl⟩
  refine ⟨v',?_,.ret (.agg cs.toArray),φ1,H1,hh,hlv.2 0 _ _ rfl rfl,R1,⟨cs,rfl,hk⟩⟩
  rw [qgP,Array.mapM_eq_mapM_toList,hres]
  simp only [Sem.run_bind,Sem.run_map,hrunv,Result.andThen_ok,Sem.run_pure]
  rfl
 -- the box,the answer's cell
 refine wp_seq (qex (W := W) (Ds := []) (A := qw.ann0) (QQ := fun _ _ _ => True) (T := T) (pan := pan) (n := Tryz.f18.ntmps) hT hm trivial _ _ H
  (qw.Q0 fun v0 v3 v4 H2 => v0 = .pointer x0 ∧ v3 = .pointer (some ⟨H.size,0,none⟩) ∧ v4 = .pointer (some ⟨H.size + 1,0,none⟩) ∧ H2 = (H.push ⟨x1,.rw,0⟩).push (anObj 0 0 ⟨none,0,0⟩ 0)) φ _ w _ trivial ?_ A0 R ?_)
 ·rw [qw.box_link,qp,qp]
  exact ⟨rfl,rfl,rfl,rfl⟩
 intro le e φ1 fr1 H1 a1 w1 hh1 he1 hdf1 hA1 _ R1 hq1
 cases le with
 | ret => exact hq1.elim
 | exit i => exact hq1.elim
 | pan v => exact hq1.elim
 | normal =>
 cases e <;> simp only [ERel] at he1
 obtain ⟨A1,_⟩ := hA1 rfl
 obtain ⟨f0,f3,f4,hH1⟩ := hq1
 have hfr := qg1 f0 f3 f4
 have A1' : ARel [] φ1 Tryz.f18.ntmps (doFr x0 H.size (H.size + 1)) a1 := A1.weaken hdf1 rfl fun s => (hfr s).imp id fun h => ⟨h.1,rfl⟩
 have h4get : H1.get (H.size + 1) = anObj 0 0 ⟨none,0,0⟩ 0 := by rw [hH1,qm,qe,if_pos rfl]
 have hkeep : qa H H1 := by rw [hH1]; exact ((qa.refl H).push _).push _
 have h4lt : H.size + 1 < H1.size := by rw [hH1]; simp [qe]
 -- is there a heap?
 show Code.wp Tryz.prog _ _ a1 w1
 refine wp_seq (qex (W := W) (Ds := []) (A := qw.ann0) (QQ := fun _ _ _ => True) (T := T) (pan := pan) (n := Tryz.f18.ntmps) hT hm trivial _ _ H1
  (qw.Q1 (fun H2 => x0 = none ∧ H2 = H1.put ⟨H.size + 1,0,none⟩ (anObj 1 0 ⟨none,0,0⟩ 0).cells) (fun H2 => x0 ≠ none ∧ H2 = H1)) φ1 _ w1 _ trivial ?_ A1' R1 ?_)
 ·rw [show doFr x0 H.size (H.size + 1) = argFr [.pointer x0,undef,undef,.pointer (some ⟨H.size,0,none⟩),.pointer (some ⟨H.size + 1,0,none⟩)] from rfl,qw.nil_link]
  cases hx : x0 with
  | none =>
   rw [qm8,qj,qaQ]
   exact ⟨⟨rfl,rfl⟩,⟨rfl,by rw [h4get]; rfl,by rw [h4get]; simp [anObj]⟩,rfl,rfl⟩
  | some p =>
   rw [qlZ,qc]
   exact ⟨by simp,rfl⟩
 intro le e φ2 fr2 H2 a2 w2 hh2 he2 hdf2 hA2 _ R2 hq2
 have hh12 := hh1.trans hh2
 cases le with
 | exit i => exact hq2.elim
 | pan v => exact hq2.elim
 | ret =>
  cases e <;> simp only [ERel] at he2
  obtain ⟨A2,hkp⟩ := hA2 rfl
  obtain ⟨hx0,hH2⟩ := hq2
  have g2 : H2.get (H.size + 1) = anObj 1 0 ⟨none,0,0⟩ 0 := by
   rw [hH2]; simp only [AH.put,qu,if_true,h4get,anObj,setMany]
   rfl
  have hkeep2 : qa H H2 := by rw [hH2]; exact hkeep.upd (b := H.size + 1) (by omega) _
  show Leaves Tryz.prog Tryz.f18 a2.tmps _ a2.defers .returning w2
  rw [hdf2]
  have h4' : fr2 4 = .pointer (some ⟨H.size + 1,0,none⟩) := (hkp 4 (by decide)).trans rfl
  exact ending [] φ2 fr2 H2 a2 w2 (H.size + 1) _ A2 h4' R2 hh12 (an_row g2) (hnil hx0 _ H2 0 g2 (by show H.size + 1 < H2.size; rw [hH2]; exact h4lt) hkeep2)
 | normal =>
 cases e <;> simp only [ERel] at he2
 obtain ⟨A2,hkp⟩ := hA2 rfl
 obtain ⟨hx0,hH2⟩ := hq2
 subst hH2
 have k0 : fr2 0 = .pointer x0 := (hkp 0 (by decide)).trans rfl
 have k3 : fr2 3 = .pointer (some ⟨H.size,0,none⟩) := (hkp 3 (by decide)).trans rfl
 have k4 : fr2 4 = .pointer (some ⟨H.size + 1,0,none⟩) := (hkp 4 (by decide)).trans rfl
 have hfr2 := qg1 k0 k3 k4
 obtain ⟨b4,B4,o,hbe,hb4,he4⟩ : ∃ b B o,(⟨H.size + 1,0,none⟩ : Addr) = ⟨b,o,none⟩ ∧ φ2 b = some B ∧ a2.tmps.getD 4 undef = .pointer (some ⟨B.c,o,none⟩) := by
  have hx := A2.tmp 4
  rw [k4] at hx
  obtain ⟨b,B,o,h1,h2,h3⟩ := qc5 hx
  exact ⟨b,B,o,h1,h2,h3⟩
 injection hbe with hbe1 hbe2
 subst hbe1 hbe2
 show Code.wp Tryz.prog _ _ a2 w2
 refine wp_seq (qk8 A2.size hdf2 he4 ?_)
 intro a3 d ht3 hs3 hd3 hinv
 obtain ⟨fv,cap,hdt,hinv⟩ := hinv
 show Code.wp Tryz.prog _ _ a3 w2
 have A3 : ARel [d] φ2 Tryz.f18.ntmps (doFr x0 H.size (H.size + 1)) a3 := A2.weaken hd3 ht3 fun s => (hfr2 s).imp id fun h => ⟨h.1,hs3 s (by omega)⟩
 refine qex (W := W) (Ds := [d]) (A := qw.ann) (QQ := fun _ _ _ => True) (T := T) (pan := pan) (n := Tryz.f18.ntmps) hT hm trivial _ _ _ (qw.Q _ _) φ2 _ w2 _ trivial
  (by rw [show doFr x0 H.size (H.size + 1) = argFr [.pointer x0,undef,undef,.pointer (some ⟨H.size,0,none⟩),.pointer (some ⟨H.size + 1,0,none⟩)] from rfl,qw.r_link,hH1]; exact hrun hx0) A3 R2 ?_
 intro le e φ4 fr4 H4 a4 w4 hh4 he4' hdf4 hA4 hX4 R4 hq4
 have hh := hh12.trans hh4
 have ret : (∃ e off x z,H4.get (H.size + 1) = anObj e off x z ∧ k (anObj e off x 0).cells H4) → (ARel [d] φ4 Tryz.f18.ntmps fr4 a4 ∧ ∀ s,s ∉ writes (restOf Tryz.f18.body) → fr4 s = doFr x0 H.size (H.size + 1) s) → 
   Leaves Tryz.prog Tryz.f18 a4.tmps (fun e w' => ∃ le φ' H',Hist φ H φ' H' ∧ qcR φ' le e ∧ Rel W φ' H' w' ∧ in1 .agg le qn (fun r0 => k r0 H')) a4.defers .returning w4 := by
  rintro ⟨e,off,x,z,hg,hk⟩ ⟨A4,hkp4⟩
  rw [hdf4]
  refine ⟨by simp,fv,cap,63,_,hdt,hinv w4,(qkT _ w4).mono ?_⟩
  rintro e' u' w' ⟨rfl,rfl,rfl⟩
  show Leaves Tryz.prog Tryz.f18 a4.tmps _ [] .returning w'
  have h4' : fr4 4 = .pointer (some ⟨H.size + 1,0,none⟩) := (hkp4 4 (by decide)).trans rfl
  exact ending [d] φ4 fr4 H4 a4 w' (H.size + 1) _ A4 h4' R4 hh (an_row hg) hk
 cases le with
 | normal =>
  cases e <;> simp only [ERel] at he4'
  exact ret hq4 (hA4 rfl)
 | ret =>
  cases e <;> simp only [ERel] at he4'
  exact ret hq4 (hA4 rfl)
 | exit i => exact hq4.elim
 | pan v =>
  cases e <;> simp only [ERel] at he4'
  obtain ⟨v',rfl,hv⟩ := he4'
  obtain ⟨er,rfl,hg4,hk⟩ := hq4
  have hcan : H4.canPut ⟨H.size + 1,0,none⟩ (anObj er 0 ⟨none,0,0⟩ 0).cells.length := ⟨rfl,by rw [hg4]; rfl,by rw [hg4]; simp [anObj]⟩
  have hput : H4.put ⟨H.size + 1,0,none⟩ (anObj er 0 ⟨none,0,0⟩ 0).cells = H4.upd (H.size + 1) (anObj er 0 ⟨none,0,0⟩ 0) := by
   refine AH.ext' rfl fun b => ?_
   simp only [AH.put,qu,hg4]
   split
   ·rfl
   ·rfl
  have := qhS hv
  subst this
  have hb4' : φ4 (H.size + 1) = some B4 := hh4.1 _ _ hb4
  obtain ⟨hW,_,_⟩ := R4.room _ _ hb4' hcan.2.1
  have hcell : ∀ i,i < 3 → ∃ u,w4.cell? ⟨B4.c,i,none⟩ = some u := fun i hi => by
   have hlt : i < (H4.get (H.size + 1)).cells.length := by rw [hg4]; exact hi
   obtain ⟨u,hu,_⟩ := R4.cell _ _ hb4' (by rw [hcan.2.1]; simp) i _ (qlK hlt)
   exact ⟨u,hu⟩
  show Leaves Tryz.prog Tryz.f18 a4.tmps _ a4.defers (.panicking _) w4
  rw [hdf4]
  refine ⟨by simp,fv,cap,63,_,hdt,hinv w4,(do1_pan B4.c er [] w4 (hcell 0 (by omega)) (hcell 1 (by omega)) (hcell 2 (by omega)) (fun i => R4.unfrozen hb4' hW i)).mono ?_⟩
  rintro e' u' w' ⟨rfl,rfl,rfl⟩
  show Leaves Tryz.prog Tryz.f18 a4.tmps _ [] .returning _
  have hlr : LRel φ4 (anObj er 0 ⟨none,0,0⟩ 0).cells [.int .i64 er,.int .i64 0,.slice none 0 0] := ⟨rfl,fun i x y hx hy => by
   match i with
   | 0 => cases hx; cases hy; exact .int _ _
   | 1 => cases hx; cases hy; exact .int _ _
   | 2 => cases hx; cases hy; exact .sl0
   | n + 3 => cases hx⟩
  obtain ⟨R5,_⟩ := Rel.put (P := Tryz.prog) R4 hb4' (o := 0) hcan hlr (by simp [Value.oneCell'])
  obtain ⟨frx,Ax,hkx⟩ := hX4
  have h4' : frx 4 = .pointer (some ⟨H.size + 1,0,none⟩) := (hkx 4 (by decide)).trans rfl
  rw [hput] at R5
  have hh5 : Hist φ H φ4 (H4.upd (H.size + 1) (anObj er 0 ⟨none,0,0⟩ 0)) := hh.trans ⟨Emb.le_refl _,qlS _,fun _ _ h => h,fun b _ hn => by
   have : b ≠ H.size + 1 := fun hb => by rw [hb,hb4'] at hn; cases hn
   rw [qu,if_neg this]⟩
  exact ending [d] φ4 frx _ a4 _ (H.size + 1) _ Ax h4' R5 hh5 (an_row (by rw [qu,if_pos rfl])) hk
end
def anV (e off : Int) (x : Sl) : List Value := [.int .i64 e,.int .i64 off,x.val]
def opV (K off n mask : Int) (x : Sl) : List Value := [.int .i64 K,.int .i64 off,.int .i64 n,.int .i64 mask,x.val]
section
variable {H : AH} {L : Pl} {pa pb pc pd : Int} {s : HS} {mvb : Nat} {cb : Int}
theorem qkm {K off n mask : Int} {x : Sl} {bs : List Int} {k : List Value → AH → Prop} (h : HOK H L pa pb pc pd s mvb cb)
  (hio : isI off) (hin : isI n) (hb : K = 4 → ql5 H x 1 bU bs ∧ qam bs)
  (hk : ∀ H' x',HA H' L pa pb pc pd (doH pa pb pc pd s K off n bs).1 → Frh H H' L → Own H.size H' x' 1 bU (doH pa pb pc pd s K off n bs).2.2.2 →
   k (anV (doH pa pb pc pd s K off n bs).2.1 (doH pa pb pc pd s K off n bs).2.2.1 x') H') :
  qw (some ⟨L.h,0,none⟩) (opV K off n mask x) H k := by
 refine heap_Do.walk (fun hh => by cases hh) fun _ => ?_
 have hk2 : qa H ((H.push ⟨opV K off n mask x,.rw,0⟩).push (anObj 0 0 ⟨none,0,0⟩ 0)) := ((qa.refl H).push _).push _
 have h3 : ((H.push ⟨opV K off n mask x,.rw,0⟩).push (anObj 0 0 ⟨none,0,0⟩ 0)).get H.size = opObj K off n mask x 0 := by
  rw [qm,qe,if_neg (by omega),qm,if_pos rfl]; rfl
 have h4 : ((H.push ⟨opV K off n mask x,.rw,0⟩).push (anObj 0 0 ⟨none,0,0⟩ 0)).get (H.size + 1) = anObj 0 0 ⟨none,0,0⟩ 0 := by rw [qm,qe,if_pos rfl]
 have hsz : ((H.push ⟨opV K off n mask x,.rw,0⟩).push (anObj 0 0 ⟨none,0,0⟩ 0)).size = H.size + 2 := by simp [qe]
 generalize (H.push ⟨opV K off n mask x,.rw,0⟩).push (anObj 0 0 ⟨none,0,0⟩ 0) = H2 at *
 have hOK : HOK H2 L pa pb pc pd s mvb cb := ⟨HAt.keeps h.ha hk2,h.ps,h.mb,h.cl,h.cb'⟩
 have hbl := HAt.below h.ha
 have hga := HAt.ga h.ha
 have hca := HAt.ca h.ha
 have ho : H.size + 1 ≠ L.h ∧ H.size + 1 ≠ L.g ∧ H.size + 1 ≠ L.t ∧ H.size + 1 ≠ L.x ∧ H.size + 1 ≠ L.p ∧ H.size + 1 ≠ L.c ∧ H.size + 1 ≠ L.ct ∧ H.size + 1 ≠ L.q1 ∧ H.size + 1 ≠ L.q2 := by
  have a1 := hbl.h; have a2 := hga.lg; have a3 := hbl.t; have a4 := hga.tn.l.lx; have a5 := hbl.p; have a6 := hbl.c; have a7 := hca.lc; have a8 := hbl.q1; have a9 := hbl.q2
  exact ⟨by omega,by omega,by omega,by omega,by omega,by omega,by omega,by omega,by omega⟩
 refine qkq (x := x) (bs := bs) hOK ho (by omega) h3 h4 hio hin (fun hK => ⟨(hb hK).1.keep hk2,(hb hK).2⟩) ?_ ?_
 ·intro H' hH f he hz
  have hg4 : H'.get (H.size + 1) = anObj 0 0 ⟨none,0,0⟩ 0 := by
   rw [f.get _ (by omega) ho.1 ho.2.2.1 ho.2.2.2.2.1 ho.2.2.2.2.2.1 ho.2.2.2.2.2.2.2.1 ho.2.2.2.2.2.2.2.2,h4]
  refine ⟨_,rfl,hg4,?_⟩
  have hs' := f.size
  have hk' := hk (H'.upd (H.size + 1) (anObj (doH pa pb pc pd s K off n bs).2.1 0 ⟨none,0,0⟩ 0)) ⟨none,0,0⟩ (HA.other hH ho (fun b hb => by rw [qu,if_neg hb]) rfl)
   ⟨by show H.size ≤ H'.size; omega,fun b hb h1 h2 h3 h4 h5 h6 => by rw [qu,if_neg (by omega),f.get b (by omega) h1 h2 h3 h4 h5 h6,hk2.2 b hb]⟩ (.inl ⟨rfl,by rw [hz]⟩)
  rw [hz] at hk'
  exact hk'
 ·intro H' x' hH hs' hfr hg4 hO
  refine ⟨_,_,x',0,hg4,?_⟩
  exact hk H' x' hH ⟨by omega,fun b hb h1 h2 h3 h4 h5 h6 => by rw [hfr b (by omega) h1 h2 h3 h4 h5 h6 (by omega),hk2.2 b hb]⟩ (qbO hO (by omega))
end
theorem qgY {H : AH} {B : Nat} {s : Sl} {l : List Int} {v : Int} {o : Nat} {k : Sl → AH → Prop} (hO : Own B H s 1 iV l) (ho : H.get o = ⟨[.int .i64 v],.rw,1⟩) (hl : l.length ≤ 1000)
  (h : ∀ H',H'.size = H.size + 1 → H'.get H.size = ⟨(l ++ [v]).flatMap iV,.rw,1⟩ → (∀ b,b < H.size → (∀ a,s.a = some a → b ≠ a.block) → H'.get b = H.get b) → k ⟨some ⟨H.size,0,none⟩,(l ++ [v]).length,1⟩ H') :
  appendC 1 H s ⟨some ⟨o,0,none⟩,1,1⟩ k := by
 have hrow : AH.rowS? H ⟨some ⟨o,0,none⟩,1,1⟩ 1 = some [.int .i64 v] := by
  simp only [AH.rowS?,Nat.one_mul]
  rw [if_neg (by simp)]
  simp [AH.row?,ho,qo]
 rcases hO with ⟨rfl,rfl⟩ | ⟨b,rfl,hb1,hb2,hg⟩
 ·refine ⟨le_limS (by simp [lim]) _,?_⟩
  rw [if_neg (by simp)]
  refine ⟨_,hrow,?_⟩
  exact h _ (by simp [qe]) (by rw [qm,if_pos rfl]; rfl) (fun b hb _ => qv (by omega))
 ·refine ⟨le_limS (by simp only [lim]; omega) _,?_⟩
  rw [if_neg (by simp)]
  refine ⟨_,hrow,⟨rfl,rfl,rfl,by rw [hg],by rw [hg]; simp only; exact qcQ (f := iV) (z := 1) (fun _ => rfl) _,by rw [hg]⟩,?_⟩
  have := h ((H.kill b).push ⟨(H.get b).cells ++ [.int .i64 v],.rw,1⟩) (by simp [qe,qP]) (by
   rw [qm,qP,if_pos rfl,hg,qmP]; rfl) (fun b' hb' hne => by
   have hne' : b' ≠ b := hne _ rfl
   rw [qv (by simp only [qP]; omega),qcy hne'])
  rw [ql7] at this
  exact this
section
variable {H : AH}
theorem qbc.s {pd : Int} {x1 : Sl} {l : List Int} {k : Option Addr → AH → Prop} (hr : ql5 H x1 1 iV l) (hpd : 1 ≤ pd ∧ pd ≤ 100) (hl : 1 ≤ l.length ∧ l.length ≤ 16) (hv : ∀ v ∈ l,0 ≤ v ∧ v ≤ 1099511627776)
  (h : ∀ H' ct q1 q2,CAt H' ct q1 q2 pd l l → qa H H' → H.size ≤ ct → H.size ≤ q1 → H.size ≤ q2 → k (some ⟨ct,0,none⟩) H') : qbc pd x1 H k := by
 refine qbc.link ?_
 unfold qbc.b
 rw [decide_eq_false (show ¬ pd < 1 by omega),qc,decide_eq_false (show ¬ pd > 100 by omega),qc,hr.1,decide_eq_false (show ¬ (l.length : Int) > 16 by omega)]
 unfold qbc.j2
 rw [qc,qp]
 have hk0 := (qa.refl H).push ⟨[(qlI .i64 pd),(Value.slice none 0 0),(Value.slice none 0 0)],.rw,0⟩
 refine qI (t := ((0 : Int) : Int)) (I := fun (t : Int) H' => ∃ (j : Nat) (s1 s2 : Sl),t = (j : Int) ∧ j ≤ l.length ∧ qa H H' ∧ H.size < H'.size ∧ H'.get H.size = ⟨[.int .i64 pd,s1.val,s2.val],.rw,0⟩ ∧ Own (H.size + 1) H' s1 1 iV (l.take j) ∧ Own (H.size + 1) H' s2 1 iV (l.take j) ∧ (∀ a b,s1.a = some a → s2.a = some b → a.block ≠ b.block)) (m := fun (t : Int) _ => qlQ ((l.length : Int) - t)) ?_
  ⟨0,⟨none,0,0⟩,⟨none,0,0⟩,rfl,by omega,hk0,by simp [qe],by rw [qm,if_pos rfl],.inl ⟨rfl,rfl⟩,.inl ⟨rfl,rfl⟩,fun a b h => by cases h⟩
 intro t H1 hI it hit
 obtain ⟨j,s1,s2,rfl,hj,hk1,hsz,hg,hO1,hO2,hdj⟩ := hI
 unfold qbc.l1
 rw [hr.1]
 by_cases hlt : (j : Int) < (l.length : Int)
 rotate_left 1
 ·rw [decide_eq_false hlt,qc]
  have : j = l.length := by omega
  subst this
  rw [qmI] at hO1 hO2
  rcases hO1 with ⟨_,h0⟩ | ⟨b1,rfl,hb1,hb1',hg1⟩
  ·rw [h0] at hl; simp at hl
  rcases hO2 with ⟨_,h0⟩ | ⟨b2,rfl,hb2,hb2',hg2⟩
  ·rw [h0] at hl; simp at hl
  have hne := hdj _ _ rfl rfl
  simp only at hne
  refine h H1 H.size b1 b2 ⟨hg,hg1,hg2,rfl,hl.2,hsz,hb1',hb2',⟨by omega,by omega,hne⟩,fun i hi => ?_⟩ hk1 (qlS _) (by omega) (by omega)
  have := hv (l.getD i 0) (by rw [qlM,qlK hi]; exact ql1 hi)
  omega
 rw [decide_eq_true hlt,qj]
 have hj' : j < l.length := by omega
 refine ⟨by omega,?_⟩
 obtain ⟨b,o,ha,_,hc1⟩ := qbs (g := fun v => qlI .i64 v) (hr.keep hk1) (i := j) hj'
 rw [ha,qd,qlP,hc1,qf]
 have hvj := hv _ (ql1 hj')
 have htk : l.take (j + 1) = l.take j ++ [l[j]] := by rw [qm6,qlK hj']; rfl
 generalize l[j] = v at *
 have hcl : (if (1099511627776 : Int) < (if (0 : Int) > v then (0 : Int) else v) then (1099511627776 : Int) else (if (0 : Int) > v then (0 : Int) else v)) = v := by
  rw [if_neg (show ¬ (0 : Int) > v by omega),if_neg (by omega)]
 rw [hcl]
 have cell : ∀ {H' : AH} {s1 s2 : Sl} (i : Nat),H'.get H.size = ⟨[.int .i64 pd,s1.val,s2.val],.rw,0⟩ → AH.cell? H' (qlL ⟨H.size,0,none⟩ i) = [qlI .i64 pd,s1.val,s2.val][i]? := by
  intro H' s1 s2 i hg
  rw [qk,ql3]
  simp [AH.cell?,hg]
 rw [cell 1 hg]
 show elL (some (Sl.val s1)) _
 rw [qag,qp,cell 2 (s1 := s1) (s2 := s2) (by rw [qv (by omega)]; exact hg)]
 show elL (some (Sl.val s2)) _
 rw [qag,qp]
 have hA : ((H1.push ⟨[.int .i64 v],.rw,1⟩).push ⟨[.int .i64 v],.rw,1⟩).get H1.size = ⟨[.int .i64 v],.rw,1⟩ := by rw [qv (by simp [qe]),qm,if_pos rfl]
 have hB : ((H1.push ⟨[.int .i64 v],.rw,1⟩).push ⟨[.int .i64 v],.rw,1⟩).get (H1.size + 1) = ⟨[.int .i64 v],.rw,1⟩ := by rw [qm,qe,if_pos rfl]
 have hlow : ∀ b,b < H1.size → ((H1.push ⟨[.int .i64 v],.rw,1⟩).push ⟨[.int .i64 v],.rw,1⟩).get b = H1.get b := fun b hb => by rw [qv (by simp [qe]; omega),qv (by omega)]
 have hsz2 : ((H1.push ⟨[.int .i64 v],.rw,1⟩).push ⟨[.int .i64 v],.rw,1⟩).size = H1.size + 2 := by simp [qe]
 rw [qe]
 generalize (H1.push ⟨[.int .i64 v],.rw,1⟩).push ⟨[.int .i64 v],.rw,1⟩ = H2 at *
 have hO1' : Own (H.size + 1) H2 s1 1 iV (l.take j) := hO1.keep (by omega) (fun b _ hb => hlow b hb)
 have hO2' : Own (H.size + 1) H2 s2 1 iV (l.take j) := hO2.keep (by omega) (fun b _ hb => hlow b hb)
 have hlen : (l.take j).length ≤ 1000 := by rw [List.length_take]; omega
 have bl1 : ∀ a,s1.a = some a → H.size < a.block ∧ a.block < H1.size := fun a ha => by
  rcases hO1 with ⟨rfl,_⟩ | ⟨b,rfl,h1,h2,_⟩
  ·cases ha
  ·cases ha; exact ⟨by simp only; omega,h2⟩
 have bl2 : ∀ a,s2.a = some a → H.size < a.block ∧ a.block < H1.size := fun a ha => by
  rcases hO2 with ⟨rfl,_⟩ | ⟨b,rfl,h1,h2,_⟩
  ·cases ha
  ·cases ha; exact ⟨by simp only; omega,h2⟩
 refine qgY hO1' hA hlen ?_
 intro H3 z3 g3 f3
 rw [← htk] at g3 ⊢
 have o3 : H3.get H.size = ⟨[.int .i64 pd,s1.val,s2.val],.rw,0⟩ := by rw [f3 _ (by omega) (fun a ha => by have := bl1 a ha; omega),hlow _ hsz]; exact hg
 refine ⟨cell 2 o3,?_⟩
 have hO2'' : Own (H.size + 1) H3 s2 1 iV (l.take j) := by
  rcases hO2' with h0 | ⟨b,h1,h2,h3,h4⟩
  ·exact .inl h0
  ·refine .inr ⟨b,h1,h2,by omega,?_⟩
   rw [f3 b h3 (fun a ha he => hdj a ⟨b,0,none⟩ ha (by rw [h1]) he.symm)]
   exact h4
 refine qgY hO2'' (o := H1.size + 1) (by rw [f3 _ (by omega) (fun a ha => by have := bl1 a ha; omega)]; exact hB) hlen ?_
 intro H4 z4 g4 f4
 rw [← htk] at g4 ⊢
 have o4 : H4.get H.size = ⟨[.int .i64 pd,s1.val,s2.val],.rw,0⟩ := by rw [f4 _ (by omega) (fun a ha => by have := bl2 a ha; omega)]; exact o3
 have g3' : H4.get H2.size = ⟨(l.take (j + 1)).flatMap iV,.rw,1⟩ := by rw [f4 _ (by omega) (fun a ha => by have := bl2 a ha; omega)]; exact g3
 have k4 : qa H H4 := ⟨by have := hk1.1; omega,fun b hb => by
  rw [f4 b (by omega) (fun a ha => by have := bl2 a ha; omega),f3 b (by omega) (fun a ha => by have := bl1 a ha; omega),hlow b (by omega),hk1.2 b hb]⟩
 rw [qk,qk,qaQ]
 refine ⟨⟨rfl,by rw [o4],by rw [o4]; simp⟩,?_⟩
 rw [qaQ]
 have e5 : (AH.put H4 ⟨H.size,0 + 1,none⟩ [(⟨some ⟨H2.size,0,none⟩,(l.take (j + 1)).length,1⟩ : Sl).val]) = H4.upd H.size ⟨[.int .i64 pd,(⟨some ⟨H2.size,0,none⟩,(l.take (j + 1)).length,1⟩ : Sl).val,s2.val],.rw,0⟩ := by
  simp only [AH.put,o4,setMany]; rfl
 rw [e5]
 refine ⟨⟨rfl,by simp [qu],by simp [qu]⟩,?_⟩
 have e6 : (AH.put (H4.upd H.size ⟨[.int .i64 pd,(⟨some ⟨H2.size,0,none⟩,(l.take (j + 1)).length,1⟩ : Sl).val,s2.val],.rw,0⟩) ⟨H.size,0 + 2,none⟩ [(⟨some ⟨H3.size,0,none⟩,(l.take (j + 1)).length,1⟩ : Sl).val]) = H4.upd H.size ⟨[.int .i64 pd,(⟨some ⟨H2.size,0,none⟩,(l.take (j + 1)).length,1⟩ : Sl).val,(⟨some ⟨H3.size,0,none⟩,(l.take (j + 1)).length,1⟩ : Sl).val],.rw,0⟩ := by
  refine AH.ext' rfl fun b => ?_
  simp only [AH.put,qu,if_true,setMany]
  split <;> rfl
 rw [e6,qg (n := (j : Int) + 1) (by omega) (by omega)]
 refine hit _ _ ⟨j + 1,_,_,by simp,by omega,k4.upd (qlS _) _,by show H.size < H4.size; omega,by rw [qu,if_pos rfl],.inr ⟨H2.size,rfl,by omega,by show H2.size < H4.size; omega,by rw [qu,if_neg (by omega)]; exact g3'⟩,
  .inr ⟨H3.size,rfl,by omega,by show H3.size < H4.size; omega,by rw [qu,if_neg (by omega)]; exact g4⟩,fun a b ha hb => by cases ha; cases hb; simp only; omega⟩ (by omega)
end
structure HW (H : AH) (hb g t x p c : Nat) (pa pb pc pd : Int) (puts : Nat) (M : Mem) : Prop where
 hh : ∃ v8 w,qo v8 = true ∧ H.get hb = ⟨[.pointer (some ⟨p,0,none⟩),.int .i64 pa,.int .i64 pb,.int .i64 pc,.int .i64 pd,.pointer (some ⟨t,0,none⟩),.pointer (some ⟨g,0,none⟩),v8,.bool w],.rw,0⟩
 lh : hb < H.size
 may : mayP pa pb pc pd = true
 ga : GAt H g t x p c (16 + pa.toNat) pb.toNat pc.toNat puts M
section
variable {H H' : AH} {hb g t x p c : Nat} {pa pb pc pd : Int} {puts : Nat} {M : Mem}
theorem HW.keeps (h : HW H hb g t x p c pa pb pc pd puts M) (hk : qa H H') : HW H' hb g t x p c pa pb pc pd puts M := by
 obtain ⟨v8,w,h0,h1⟩ := h.hh
 exact ⟨⟨v8,w,h0,by rw [hk.2 _ h.lh,h1]⟩,by have := hk.1; have := h.lh; omega,h.may,h.ga.keeps hk⟩
theorem HW.push (h : HW H hb g t x p c pa pb pc pd puts M) (o : AObj) : HW (H.push o) hb g t x p c pa pb pc pd puts M := h.keeps ((qa.refl H).push o)
theorem HW.c6 (h : HW H hb g t x p c pa pb pc pd puts M) : AH.cell? H (qlL ⟨hb,0,none⟩ 6) = some (.pointer (some ⟨g,0,none⟩)) := by
 obtain ⟨v8,w,h0,h1⟩ := h.hh
 rw [qk,ql3]
 simp [AH.cell?,h1]
theorem HW.c10 (h : HW H hb g t x p c pa pb pc pd puts M) : AH.cell? H (qlL (qlL ⟨hb,0,none⟩ 1) 0) = some (.int .i64 pa) := by
 obtain ⟨v8,w,h0,h1⟩ := h.hh
 rw [qk,qk]
 simp [AH.cell?,h1]
theorem HW.row (h : HW H hb g t x p c pa pb pc pd puts M) : AH.row? H (qlL ⟨hb,0,none⟩ 1) 4 = some (pl pa pb pc pd) := by
 obtain ⟨v8,w,h0,h1⟩ := h.hh
 rw [qk]
 simp [AH.row?,h1,pl,qo]
theorem HW.getN_range {i : Nat} (h : HW H hb g t x p c pa pb pc pd puts M) (hi : (i : Int) < pa) :
  isLine (getN (16 + pa.toNat) pb.toNat M (16 + (i : Int))).1 ∧ (getN (16 + pa.toNat) pb.toNat M (16 + (i : Int))).2 = if M.down then 2 else 0 := by
 have hm := qV.1 h.may
 obtain ⟨ho,_⟩ := qfc h.ga
 have ht := h.ga.tn.lineOf (16 + (i : Int)).toNat
 unfold getN
 rw [if_pos ⟨by omega,by omega⟩]
 by_cases hd : M.down = true
 ·rw [if_pos hd,if_pos hd]; exact ⟨⟨by simp,by simp [isU]⟩,rfl⟩
 ·rw [if_neg hd,if_neg hd]
  split
  ·rename_i q hq
   split at hq
   ·have := List.mem_of_find?_eq_some hq
    exact ⟨(ho q this).line,rfl⟩
   ·cases hq
  ·exact ⟨ht,rfl⟩
theorem qea.w {k : Sl → Int → AH → Prop} (h : HW H hb g t x p c pa pb pc pd puts M) (hd : M.down = true → ∀ H',qa H H' → k ⟨none,0,0⟩ 2 H')
  (hu : M.down = false → ∀ s H',qa H H' → Own H.size H' s 1 wU (wordsH pa pb M) → k s 0 H') : qab (some ⟨hb,0,none⟩) H k := by
 have hm := qV.1 h.may
 refine qab.link ?_
 unfold qab.b
 rw [qlZ,qc,qd,h.c10,qf]
 have hll : ∀ i : Nat,(i : Int) < pa → (lineH pa pb M i).length = 8 := fun i hi => (HW.getN_range h hi).1.1
 have hfl : ∀ i : Nat,(i : Int) ≤ pa → ((qmA i).flatMap (lineH pa pb M)).length = 8 * i := by
  intro i
  induction i with
  | zero => intro _; rfl
  | succ i ih =>
   intro hi
   rw [qm0,qmP,ql7,ih (by omega)]
   simp only [qmn,List.flatMap_nil,qm1]
   rw [hll i (by omega)]; omega
 refine qI (t := ((⟨none,0,0⟩,(0 : Int),⟨none,0,0⟩,(0 : Int)) : Sl × Int × Sl × Int)) (I := fun (t : Sl × Int × Sl × Int) H' => ∃ i : Nat,t.2.2.2 = (i : Int) ∧ (i : Int) ≤ pa ∧ (0 < i → M.down = false) ∧ qa H H' ∧ Own H.size H' t.2.2.1 1 wU ((qmA i).flatMap (lineH pa pb M))) (m := fun (t : Sl × Int × Sl × Int) _ => qlQ (pa - t.2.2.2)) ?_ ⟨0,rfl,by omega,by omega,qa.refl H,.inl ⟨rfl,rfl⟩⟩
 intro t H1 hI it hit
 obtain ⟨t1,t2,s,t4⟩ := t
 obtain ⟨i,e1,hi,hup,hk,hO⟩ := hI
 simp only at e1 hO
 subst e1
 unfold qab.l1
 simp only [qi,decide_eq_true_eq]
 have h1 := h.keeps hk
 by_cases hlt : (i : Int) < pa
 ·rw [if_pos hlt,qd,h1.c6,qE,qd,ql h1.row,qp,zeroV]
  have h2 := h1.push ⟨lineV (qlN 8 0),.rw,0⟩
  refine qbA.s ⟨h2.c6,?_⟩
  have hh : homeP pa pb pc pd (i : Int) = 16 + (i : Int) := by unfold homeP; rw [if_pos ⟨h.may,by omega,hlt⟩]
  rw [hh]
  refine log_Get.s h2.ga (by unfold isI; omega) ?_
  obtain ⟨hl,he⟩ := HW.getN_range h hlt
  rw [he]
  have hlH : (getN (16 + pa.toNat) pb.toNat M (16 + (i : Int))).1 = lineH pa pb M i := rfl
  rw [hlH] at hl ⊢
  refine ⟨⟨qr hl.1,qaD _⟩,?_⟩
  rw [qaQ]
  refine ⟨qcC.2 (by rw [qr hl.1]; simp [lineV]),?_⟩
  have e2 : AH.put (H1.push ⟨lineV (qlN 8 0),.rw,0⟩) ⟨H1.size,0,none⟩ (lineV (lineH pa pb M i)) = H1.push ⟨lineV (lineH pa pb M i),.rw,0⟩ := by
   rw [qdq]
   congr 2
   apply qmc
   intro t
   rw [qb5 _ _ _ _ (by rw [qr hl.1]; simp [lineV])]
   have := qr hl.1
   by_cases ht : t < (lineV (lineH pa pb M i)).length
   ·rw [if_pos (by omega)]; rfl
   ·rw [if_neg (by omega),qlR (by simp [lineV]; omega),qlR (by omega)]
  rw [e2]
  have hk3 : qa H (H1.push ⟨lineV (lineH pa pb M i),.rw,0⟩) := hk.push _
  by_cases hdn : M.down = true
  ·rw [if_pos hdn,if_pos (by decide)]
   exact hd hdn _ hk3
  ·rw [if_neg hdn,if_neg (by decide)]
   have hR : ql5 (H1.push ⟨lineV (lineH pa pb M i),.rw,0⟩) ⟨some ⟨H1.size,0,none⟩,8,0⟩ 1 wU (lineH pa pb M i) := qhn hl.1 (by simp [qe]) (by rw [qm,if_pos rfl])
   have hO3 : Own H.size (H1.push ⟨lineV (lineH pa pb M i),.rw,0⟩) s 1 wU ((qmA i).flatMap (lineH pa pb M)) := hO.keep (by simp [qe]) (fun b _ hb => qv (by omega))
   refine qdu (H0 := H) (B := H.size) (fun _ => rfl) (fun _ => rfl) hO3 hR (qlS _) hk3.1 hk3 (by rw [hfl i hi,hl.1]; simp only [lim]; omega) ?_
   intro s' H' hO' hk' _ _
   rw [qg (n := (i : Int) + 1) (by omega) (by omega)]
   refine hit _ _ ⟨i + 1,by simp,by omega,fun _ => by simpa using hdn,hk',?_⟩ (by simp only; omega)
   rw [qm0,qmP]
   simpa using hO'
 ·rw [if_neg hlt]
  have hia : pa.toNat = i := by omega
  refine hu (hup (by omega)) _ _ hk ?_
  unfold wordsH
  rw [hia]; exact hO
end
def linesOf (m : Nat) (ws : List Int) : List (List Int) := (qmA m).map (lineOf ws)
theorem qcX {m : Nat} {ws : List Int} : (linesOf m ws).length = m := by simp [linesOf]
theorem qdN {m i : Nat} {ws : List Int} (hi : i < m) : (linesOf m ws).getD i [] = lineOf ws i := by
 unfold linesOf
 rw [qlM,qlW,qmh hi]; rfl
theorem qjx {ws : List Int} : ∀ {m : Nat},(qmA m).flatMap (lineOf ws) = ws.take (8 * m) := by
 intro m
 induction m with
 | zero => simp
 | succ m ih =>
  rw [qm0,qmP,ih]
  simp only [qmn,List.flatMap_nil,qm1]
  rw [show 8 * (m + 1) = 8 * m + 8 by omega,List.take_add]; rfl
theorem qhw {pa pb : Int} {M : Mem} {ws : List Int} (hp : 1 ≤ pa ∧ pa ≤ 64) (hup : M.down = false) (hl : (ws.length : Int) = 8 * pa) (hs : Sd (16 + pa.toNat) pb.toNat M (linesOf pa.toNat ws)) : wordsH pa pb M = ws := by
 have e : ∀ i,i < pa.toNat → lineH pa pb M i = lineOf ws i := fun i hi => by
  have := sd_get (nn := pa.toNat) rfl (by omega) hup hs hi
  unfold lineH
  rw [show (16 + (i : Int)) = ((16 + i : Nat) : Int) by omega,this,qdN hi]
 unfold wordsH
 have e2 : (qmA pa.toNat).flatMap (lineH pa pb M) = (qmA pa.toNat).flatMap (lineOf ws) := by
  simp only [List.flatMap_def]
  rw [List.map_congr_left (fun i hi => e i (List.mem_range.1 hi))]
 rw [e2,qjx,qmx (by omega)]
theorem qjy {ws : List Int} {e : Int × Int} {w : Nat} (h : e.1 ≠ (w : Int)) : (putE ws e).getD w 0 = ws.getD w 0 := by
 unfold putE
 split
 ·rw [qlM,qmf (by omega),← qlM]
 ·rfl
theorem qir {w : Nat} : ∀ {l : List (Int × Int)} {ws : List Int},(∀ e ∈ l,e.1 ≠ (w : Int)) → (applyE ws l).getD w 0 = ws.getD w 0 := by
 intro l
 induction l with
 | nil => intro ws _; rfl
 | cons a r ih =>
  intro ws h
  show (applyE (putE ws a) r).getD w 0 = _
  rw [ih (fun e he => h e (by simp [he])),qjy (h a (by simp))]
theorem qjJ {ws ws' : List Int} {i : Nat} (hl : ws'.length = ws.length) (h : ∀ w,8 * i ≤ w → w < 8 * i + 8 → ws'.getD w 0 = ws.getD w 0) : lineOf ws' i = lineOf ws i := by
 unfold lineOf
 apply qmc
 intro j
 rw [qmr,qmr,qmo,qmo]
 by_cases hj : j < 8
 ·rw [if_pos hj,if_pos hj]
  have := h (8 * i + j) (by omega) (by omega)
  by_cases hb : 8 * i + j < ws.length
  ·rw [qlM,qlM,qlK (by omega),qlK hb] at this
   rw [qlK (by omega),qlK hb]
   simpa using this
  ·rw [qlR (by omega),qlR (by omega)]
 ·rw [if_neg hj,if_neg hj]
theorem qfh (l : List (Int × Int)) : (eLines l).Pairwise (· < ·) := (eFold l [] List.Pairwise.nil).1
theorem qjW (W : List Int) (ls : List Int) : (homesC W ls).map (·.1) = ls.map fun ln => 16 + ln := by
 unfold homesC; rw [List.map_map]; rfl
theorem qin (W : List Int) (E : List (Int × Int)) : ((homesC W (eLines E)).map (·.1)).Nodup := by
 rw [qjW]
 unfold List.Nodup
 rw [List.pairwise_map]
 exact (qfh E).imp fun h => by omega
theorem qj4 {m : Nat} {ws : List Int} {E : List (Int × Int)} (hl : ws.length = 8 * m) (hin : ∀ e ∈ E,0 ≤ e.1 ∧ e.1 < 8 * (m : Int)) :
    upd (linesOf m ws) (homesC (applyE ws E) (eLines E)) = linesOf m (applyE ws E) := by
  have hlen : (applyE ws E).length = ws.length := qac E ws
  have h0 : ∀ x ∈ eLines E,0 ≤ x := fun x hx => by
    obtain ⟨e,he,h0,rfl⟩ := qcV.1 hx
    omega
  have h16 : ∀ q ∈ homesC (applyE ws E) (eLines E),16 ≤ q.1 := by
    intro q hq
    unfold homesC at hq
    rw [qml] at hq
    obtain ⟨ln,hln,rfl⟩ := hq
    have := h0 ln hln
    simp only; omega
  apply qmc
  intro i
  by_cases hi : i < m
  · have e1 : (upd (linesOf m ws) (homesC (applyE ws E) (eLines E))).length = m := by rw [upd_len,qcX]
    have e2 : (linesOf m (applyE ws E)).length = m := qcX
    have key : (upd (linesOf m ws) (homesC (applyE ws E) (eLines E))).getD i [] = (linesOf m (applyE ws E)).getD i [] := by
      rw [qdN hi]
      by_cases hx : (i : Int) ∈ eLines E
      · have hq : ((16 + (i : Int),lineOf (applyE ws E) i) : Int × List Int) ∈ homesC (applyE ws E) (eLines E) := by
          unfold homesC
          rw [qml]
          exact ⟨(i : Int),hx,by simp⟩
        rw [upd_in h16 (qin _ _) hq (by simp) (by rw [qcX]; exact hi)]
      · have hne : ∀ q ∈ homesC (applyE ws E) (eLines E),q.1 ≠ ((16 + i : Nat) : Int) := by
          intro q hq he
          unfold homesC at hq
          rw [qml] at hq
          obtain ⟨ln,hln,rfl⟩ := hq
          simp only at he
          exact hx (by have : ln = (i : Int) := by omega
                       rw [← this]; exact hln)
        rw [qfo h16 hne,qdN hi]
        refine (qjJ hlen fun w h1 h2 => qir fun e he hw => hx ?_).symm
        have := hin e he
        exact qcV.2 ⟨e,he,this.1,by omega⟩
    rw [qlM,qlM,qlK (by omega),qlK (by omega)] at key
    rw [qlK (by omega),qlK (by omega)]
    simpa using key
  · rw [qlR (by rw [upd_len,qcX]; omega),qlR (by rw [qcX]; omega)]
theorem qhf {m : Nat} {W : List Int} {ls : List Int} (h64 : qaI W) (hl : W.length = 8 * m) (hm : m ≤ 64) (hls : ∀ ln ∈ ls,0 ≤ ln ∧ ln < (m : Int)) : ∀ q ∈ homesC W ls,qcm q := by
 intro q hq
 unfold homesC at hq
 rw [qml] at hq
 obtain ⟨ln,hln,rfl⟩ := hq
 have := hls ln hln
 exact ⟨by unfold isI; simp only; omega,qdb h64 (by omega)⟩
theorem qgU {m : Nat} {W : List Int} {E : List (Int × Int)} (hls : ∀ ln ∈ eLines E,0 ≤ ln ∧ ln < (m : Int)) (h1 : 1 ≤ (eLines E).length) (h14 : (eLines E).length ≤ 14) : MayL ((16 + m : Nat) : Int) (homesC W (eLines E)) := by
 have hlen : (homesC W (eLines E)).length = (eLines E).length := by simp [homesC]
 have hat : ∀ i (hi : i < (eLines E).length),lnAt (homesC W (eLines E)) i = 16 + (eLines E)[i] := fun i hi => by
  unfold lnAt homesC
  rw [qlM,qlW,qlK hi]; rfl
 have hs := List.pairwise_iff_getElem.1 (qfh E)
 refine ⟨by omega,by omega,by omega,fun i hi => ?_⟩
 rw [hlen] at hi
 rw [hat i hi]
 have := hls _ (ql1 hi)
 refine ⟨by omega,by omega,fun j hj => ?_⟩
 rw [hat j (by omega)]
 have := hs j i (by omega) hi hj
 omega
section
variable {n sp per : Nat} {M M' : Mem} {mvb len pt : Nat}
theorem qcP {i v : Int} {r : Nat} (h : (r : Int) ≠ i) : (M.set i v).1.regs.getD r 0 = M.regs.getD r 0 := by
 have hw : M.wr.regs = M.regs := Mem.wr_regs
 unfold Mem.set
 split
 ·rename_i hi
  split
  ·rfl
  ·simp only
   split
   ·unfold regIn at hi
    simp only [qlM]
    rw [qmf (by omega)]
   ·rw [hw]
 ·rfl
theorem qe0 (hn : 1 ≤ n) : ∀ {L : List (Int × List Int)} {M : Mem} {pt mvb : Nat},PSt n sp per M pt mvb len → M.down = false → mvb + L.length < 4611686018427387904 → (∀ q ∈ L,0 ≤ q.1 ∧ q.1 < n ∧ isLine q.2) →
  (∀ r,(r = 1 ∨ r = 2 ∨ 19 ≤ r) → (tputs n sp per L M pt).1.regs.getD r 0 = M.regs.getD r 0) ∧ ((tputs n sp per L M pt).2.2 = 3 → LV (tputs n sp per L M pt).1 (n + 1) sp sp) ∧ (∀ k,LV M (n + 1) sp k → ∃ k',k ≤ k' ∧ LV (tputs n sp per L M pt).1 (n + 1) sp k') := by
 intro L
 induction L with
 | nil => intro M pt mvb h hup _ _; exact ⟨fun r _ => rfl,fun h => by simp [tputs] at h,fun k hk => ⟨k,qlS _,hk⟩⟩
 | cons q r ih =>
  intro M pt mvb h hup hb hL
  simp only [ql0] at hb ⊢
  obtain ⟨hq0,hqn,hql⟩ := hL q (by simp)
  obtain ⟨k,hlv⟩ := h.lv
  have hmv := h.mv
  obtain ⟨ln,hln⟩ := qma hq0
  have hP := fun (k : Nat) (hlv : LV M (n + 1) sp k) => (qem (sp := sp) (k := k) (line := ln) (period := per) (puts := pt) (d := q.2) hlv hn h.ok (by omega) hup (by omega) hql.1).1
  have hps := h.tput hn (by omega) (line := q.1) hql
  have hdef : tputs n sp per (q :: r) M pt = if (tput n sp per M pt q.1 q.2).2.2 = 0 then tputs n sp per r (tput n sp per M pt q.1 q.2).1 (tput n sp per M pt q.1 q.2).2.1 else tput n sp per M pt q.1 q.2 := rfl
  rw [hdef]
  rw [← hln] at hP
  generalize tput n sp per M pt q.1 q.2 = R at *
  have hP0 := hP k hlv
  by_cases e : R.2.2 = 0
  ·rw [if_pos e]
   have hup' : R.1.down = false := by
    rcases hP0.res with ⟨_,h,_⟩ | ⟨e',_⟩ | ⟨e',_⟩
    ·exact h
    ·omega
    ·omega
   obtain ⟨i1,i2,i3⟩ := ih hps hup' (by omega) (fun q' hq' => hL q' (by simp [hq']))
   refine ⟨fun rr hrr => by rw [i1 rr hrr,hP0.regs rr hrr],i2,fun k0 hk0 => ?_⟩
   obtain ⟨k1,hk1,hlv1,_⟩ := (hP k0 hk0).lv
   obtain ⟨k2,hk2,hlv2⟩ := i3 k1 hlv1
   exact ⟨k2,by omega,hlv2⟩
  ·rw [if_neg e]
   refine ⟨hP0.regs,fun h3 => ?_,fun k0 hk0 => ?_⟩
   ·obtain ⟨k1,hk1,hlv1,h2⟩ := hP0.lv
    have := h2 h3
    subst this
    exact hlv1
   ·obtain ⟨k1,hk1,hlv1,_⟩ := (hP k0 hk0).lv
    exact ⟨k1,hk1,hlv1⟩
theorem LV.low {k : Nat} (h : LV M n sp k) (hc : M'.cs.length = M.cs.length) (hr : ∀ r,3 ≤ r → r < 19 → M'.regs.getD r 0 = M.regs.getD r 0) : LV M' n sp k := by
 have h16 := h.sp16
 have hk := h.kle
 have hw : ∀ i,i < sp → M'.whose i = M.whose i := fun i hi => hr _ (by omega) (by omega)
 exact ⟨by rw [hc]; exact h.len,h.n1,h.sp16,h.kle,fun i hi => by rw [hw i (by omega)]; exact h.used i hi,fun i hi hi' => by rw [hw i hi']; exact h.free i hi hi'⟩
theorem LV.set1 {k : Nat} {v : Int} (h : LV M n sp k) : LV (M.set 1 v).1 n sp k := h.low Mem.set_len fun r h1 h2 => qcP (by omega)
theorem qij {l : List (Int × List Int)} (h : PSt n sp per M pt mvb len) (hn : 16 < n ∧ n ≤ 1000) (hup : M.down = false) (hb : mvb + 1000 < 4611686018427387904) (hok : ∀ q ∈ l,qcm q) :
  (∀ r,(r = 2 ∨ 19 ≤ r) → (comN n sp per l M pt).1.regs.getD r 0 = M.regs.getD r 0) ∧
  (MayL n l → commits M = 0 → (comN n sp per l M pt).1.down = false → (comN n sp per l M pt).2.2 = 3 ∨ commits (comN n sp per l M pt).1 ≠ 0 → LV (comN n sp per l M pt).1 (n + 1) sp sp) ∧
  (∀ k,LV M (n + 1) sp k → ∃ k',k ≤ k' ∧ LV (comN n sp per l M pt).1 (n + 1) sp k') ∧
  (MayL n l → commits M = 0 → (comN n sp per l M pt).2.2 = 0 ∨ (comN n sp per l M pt).2.2 = 2 ∨ (comN n sp per l M pt).2.2 = 3) := by
 by_cases hm : MayL n l
 rotate_left 1
 ·have e : comN n sp per l M pt = (M,pt,1) := by unfold comN; rw [if_pos hm]
  rw [e]
  exact ⟨fun _ _ => rfl,fun h => absurd h hm,fun k hk => ⟨k,qlS _,hk⟩,fun h => absurd h hm⟩
 by_cases hc : commits M = 0
 rotate_left 1
 ·have e : comN n sp per l M pt = (M,pt,5) := by unfold comN; rw [if_neg (fun hh => hh hm),if_neg (by simp [hup]),if_pos hc]
  rw [e]
  exact ⟨fun _ _ => rfl,fun _ h => absurd h hc,fun k hk => ⟨k,qlS _,hk⟩,fun _ h => absurd h hc⟩
 have hl14 := hm.2.2.1
 have hl1 := hm.2.1
 have hidx : idxN l.length ≤ 2 := by unfold idxN; omega
 have hlen : (rowsN l).length = idxN l.length + l.length := qce l (qlS _)
 have hrl := qdt l
 have hro := qdH hok (by omega)
 have hrm : ∀ q ∈ rowPuts l,0 ≤ q.1 ∧ q.1 < n ∧ isLine q.2 := by
  intro q hq
  have h2 := (hro q hq).line
  obtain ⟨i,hi,rfl⟩ := qeK hq
  exact ⟨by simp only; omega,by simp only; omega,h2⟩
 obtain ⟨r1,r2,r3⟩ := qe0 (by omega) h hup (by omega) hrm
 obtain ⟨a1,a2,a3,a4⟩ := qcU (by omega) h hup (by omega) hrm (qdy l)
 have hps := h.puts (by omega) (l := rowPuts l) (by omega) hro
 unfold comN
 rw [if_neg (fun hh => hh hm),if_neg (by simp [hup]),if_neg (by simp [hc])]
 generalize tputs n sp per (rowPuts l) M pt = R at *
 have hcR : commits R.1 = commits M := by unfold commits; exact a4 1 (.inl rfl)
 by_cases e0 : R.2.2 = 0
 rotate_left 1
 ·rw [if_pos e0]
  refine ⟨fun r hr => r1 r (by omega),fun _ _ _ hh => ?_,r3,fun _ _ => ?_⟩
  ·rcases hh with hh | hh
   ·exact r2 hh
   ·exact absurd (hcR.trans hc) hh
  ·rcases a1 with ⟨h,_⟩ | ⟨h,_⟩ | ⟨h,_⟩
   ·exact .inl h
   ·exact .inr (.inr h)
   ·exact .inr (.inl h)
 rw [if_neg (by omega)]
 have hRup : R.1.down = false := by
  rcases a1 with ⟨_,h,_⟩ | ⟨e',_⟩ | ⟨e',_⟩
  ·exact h
  ·omega
  ·omega
 obtain ⟨s1,s2⟩ := qdB (v := (l.length : Int)) hps hRup
 have hps2 := hps.set1 (v := (l.length : Int)) (by unfold isU; omega)
 have g1 : ∀ r,(r = 2 ∨ 19 ≤ r) → (R.1.set 1 (l.length : Int)).1.regs.getD r 0 = M.regs.getD r 0 := fun r hr => by rw [qcP (by omega),r1 r (by omega)]
 have g3 : ∀ k,LV M (n + 1) sp k → ∃ k',k ≤ k' ∧ LV (R.1.set 1 (l.length : Int)).1 (n + 1) sp k' := fun k hk => by
  obtain ⟨k',h1,h2⟩ := r3 k hk
  exact ⟨k',h1,h2.set1⟩
 generalize R.1.set 1 (l.length : Int) = S at *
 by_cases e1 : S.2 = 0
 rotate_left 1
 ·rw [if_pos e1]
  refine ⟨g1,fun _ _ hd _ => ?_,g3,fun _ _ => ?_⟩
  ·rcases s1 with ⟨e',_⟩ | ⟨_,hd',_⟩
   ·exact absurd e' e1
   ·simp only at hd; rw [hd'] at hd; cases hd
  ·rcases s1 with ⟨e',_⟩ | ⟨e',_⟩
   ·exact .inl e'
   ·exact .inr (.inl e')
 rw [if_neg (by omega)]
 have hSup : S.1.down = false := by
  rcases s1 with ⟨_,h,_⟩ | ⟨e',_⟩
  ·exact h
  ·omega
 have hlm : ∀ q ∈ l,0 ≤ q.1 ∧ q.1 < n ∧ isLine q.2 := fun q hq => by have := qcT hm hq; exact ⟨by omega,this.2,(hok q hq).line⟩
 obtain ⟨t1,t2,t3⟩ := qe0 (pt := R.2.1) (by omega) hps2 hSup (by omega) hlm
 obtain ⟨b1,_,_,b4⟩ := qcU (pt := R.2.1) (by omega) hps2 hSup (by omega) hlm (qdC hm)
 have hps3 := hps2.puts (by omega) (l := l) (by omega) hok
 unfold finN
 simp only
 generalize tputs n sp per l S.1 R.2.1 = T at *
 have u3 : ∀ k,LV M (n + 1) sp k → ∃ k',k ≤ k' ∧ LV T.1 (n + 1) sp k' := fun k hk => by
  obtain ⟨k',h1,h2⟩ := g3 k hk
  obtain ⟨k2,h3,h4⟩ := t3 k' h2
  exact ⟨k2,by omega,h4⟩
 have u1 : ∀ r,(r = 2 ∨ 19 ≤ r) → T.1.regs.getD r 0 = M.regs.getD r 0 := fun r hr => by rw [t1 r (by omega),g1 r hr]
 by_cases e2 : T.2.2 = 0
 ·rw [if_pos e2]
  have hTup : T.1.down = false := by
   rcases b1 with ⟨_,h,_⟩ | ⟨e',_⟩ | ⟨e',_⟩
   ·exact h
   ·omega
   ·omega
  obtain ⟨z1,z2⟩ := qdB (v := 0) hps3 hTup
  refine ⟨fun r hr => by rw [qcP (by omega),u1 r hr],fun _ _ hd hh => ?_,fun k hk => ?_,fun _ _ => ?_⟩
  ·simp only at hd hh
   rcases z1 with ⟨e',_,c⟩ | ⟨_,hd',_⟩
   ·rcases hh with hh | hh
    ·omega
    ·exact absurd c hh
   ·rw [hd'] at hd; cases hd
  ·obtain ⟨k',h1,h2⟩ := u3 k hk
   exact ⟨k',h1,h2.set1⟩
  ·rcases z1 with ⟨e',_⟩ | ⟨e',_⟩
   ·exact .inl e'
   ·exact .inr (.inl e')
 rw [if_neg e2]
 by_cases e3 : T.2.2 = 3
 ·rw [if_pos e3]
  exact ⟨u1,fun _ _ _ _ => t2 e3,u3,fun _ _ => .inl rfl⟩
 rw [if_neg e3]
 refine ⟨u1,fun _ _ hd hh => ?_,u3,fun _ _ => ?_⟩
 ·rcases b1 with ⟨e',_⟩ | ⟨e',_⟩ | ⟨_,hd',_⟩
  ·exact absurd e' e2
  ·exact absurd e' e3
  ·rw [hd'] at hd; cases hd
 ·rcases b1 with ⟨e',_⟩ | ⟨e',_⟩ | ⟨e',_⟩
  ·exact .inl e'
  ·exact .inr (.inr e')
  ·exact .inr (.inl e')
end
section
variable {H : AH}
def idxI (x : Int) : List Int → Nat → Int
 | [],_ => -1
 | a :: r,i => if x = a then (i : Int) else idxI x r (i + 1)
theorem qkQ (x : Int) : ∀ (l : List Int) (i : Nat),(0 ≤ idxI x l i ↔ x ∈ l) := by
 intro l
 induction l with
 | nil => intro i; simp [idxI]
 | cons a r ih =>
  intro i
  simp only [idxI,ql6]
  split
  ·rename_i h; simp [h]
  ·rename_i h; rw [ih]; simp [h]
theorem qZ.s {x0 : Sl} {x : Int} {l : List Int} {k : Int → AH → Prop} (hr : ql5 H x0 1 iV l) (hl : l.length ≤ 100000) (h : k (idxI x l 0) H) : qZ x0 x H k := by
 refine gcI (j := .i64) (idxI x l 0) (qZ.link ?_) h
 unfold qZ.b
 refine qI (t := (((0 : Int),(0 : Int)) : Int × Int)) (I := fun (t : Int × Int) H' => ∃ i : Nat,t.2 = (i : Int) ∧ i ≤ l.length ∧ qa H H' ∧ idxI x l 0 = idxI x (l.drop i) i) (m := fun (t : Int × Int) _ => qlQ ((l.length : Int) - t.2)) ?_ ⟨0,rfl,by omega,qa.refl H,rfl⟩
 intro t H1 hI it hit
 obtain ⟨t1,t2⟩ := t
 obtain ⟨i,e1,hi,hk,he⟩ := hI
 simp only at e1
 subst e1
 unfold qZ.l1
 simp only [qi,decide_eq_true_eq,hr.1]
 by_cases hlt : (i : Int) < (l.length : Int)
 ·rw [if_pos hlt]
  have hi' : i < l.length := by omega
  obtain ⟨b,o,ha,hb,hcells⟩ := qas (hr.keep hk) (by omega)
  refine ⟨by omega,?_⟩
  have hc := (hcells i l[i] (qlK hi')).2 0 _ rfl
  rw [qk,qk] at hc
  rw [ha,qd,qlP,qk,show AH.cell? H1 ⟨b,o + i * 1,none⟩ = _ from hc,qf]
  rw [qdj hi'] at he
  simp only [idxI] at he
  by_cases h1 : x = l[i]
  ·rw [if_pos (by simpa using h1)]
   rw [if_pos h1] at he
   exact ⟨hk,he.symm⟩
  ·rw [if_neg (by simpa using h1)]
   rw [if_neg h1] at he
   rw [qg (n := (i : Int) + 1) (by omega) (by omega)]
   exact hit _ _ ⟨i + 1,by simp,by omega,hk,he⟩ (by simp only; omega)
 ·rw [if_neg hlt]
  have : i = l.length := by omega
  subst this
  rw [qm3] at he
  exact ⟨hk,he.symm⟩
theorem qaA.s {x0 : Sl} {x : Int} {l : List Int} {k : Bool → AH → Prop} (hr : ql5 H x0 1 iV l) (hl : l.length ≤ 100000) (h : k (decide (x ∈ l)) H) : qaA x0 x H k := by
 refine qaA.link ?_
 unfold qaA.b
 refine qZ.s hr hl ?_
 have e : decide (idxI x l 0 ≥ 0) = decide (x ∈ l) := by
  have := qkQ x l 0
  by_cases hm : x ∈ l
  ·rw [decide_eq_true hm,decide_eq_true (this.2 hm)]
  ·rw [decide_eq_false hm,decide_eq_false (fun hh => hm (this.1 hh))]
 rw [e]; exact h
def atN (pt : Int) : List Bk → Nat → Int
 | [],_ => -1
 | b :: r,i => if b.1 ≤ pt ∧ 0 < b.2.1 ∧ pt - b.1 < b.2.1 then (i : Int) else atN pt r (i + 1)
theorem qeC {n : Int} (h1 : 0 ≤ n) (h2 : n ≤ 18446744073709551615) : qlJ .u64 n = n := qbE h1 (by omega)
theorem qch.s {x0 : Sl} {pt : Int} {l : List Bk} {k : Int → AH → Prop} (hr : ql5 H x0 3 bkV l) (hl : l.length ≤ 100000) (hok : ∀ b ∈ l,0 ≤ b.1 ∧ 0 ≤ b.2.1 ∧ b.1 ≤ 100000 ∧ b.2.1 ≤ 100000) (hpt : isI pt) (h : k (atN pt l 0) H) : qch x0 pt H k := by
 unfold isI at hpt
 refine gcI (j := .i64) (atN pt l 0) (qch.link ?_) h
 unfold qch.b
 refine qI (t := (((0 : Int),(0 : Int)) : Int × Int)) (I := fun (t : Int × Int) H' => ∃ i : Nat,t.2 = (i : Int) ∧ i ≤ l.length ∧ qa H H' ∧ atN pt l 0 = atN pt (l.drop i) i) (m := fun (t : Int × Int) _ => qlQ ((l.length : Int) - t.2)) ?_ ⟨0,rfl,by omega,qa.refl H,rfl⟩
 intro t H1 hI it hit
 obtain ⟨t1,t2⟩ := t
 obtain ⟨i,e1,hi,hk,he⟩ := hI
 simp only at e1
 subst e1
 unfold qch.l1
 simp only [qi,decide_eq_true_eq,hr.1]
 by_cases hlt : (i : Int) < (l.length : Int)
 ·rw [if_pos hlt]
  have hi' : i < l.length := by omega
  obtain ⟨b,o,ha,hb,hcells⟩ := qas (hr.keep hk) (by omega)
  refine ⟨by omega,?_⟩
  obtain ⟨hrow,_⟩ := hcells i l[i] (qlK hi')
  have hq := hok l[i] (ql1 hi')
  rw [ha,qd,qlP,ql hrow]
  rw [qdj hi'] at he
  simp only [atN] at he
  generalize l[i] = q at *
  refine qbW (n := 3) rfl (bkV_len q) (bkV_ok q) ?_
  have hB : BkAt (H1.push ⟨bkV q,.rw,0⟩) H1.size q := BkAt.new
  have hk2 : qa H (H1.push ⟨bkV q,.rw,0⟩) := hk.push _
  generalize H1.push ⟨bkV q,.rw,0⟩ = H2 at *
  simp only [hB.c0,hB.c1,qf]
  rw [qg (n := (i : Int) + 1) (by omega) (by omega)]
  have next : ¬ (q.1 ≤ pt ∧ 0 < q.2.1 ∧ pt - q.1 < q.2.1) → it (t1,(i : Int) + 1) H2 := fun hn => by
   rw [if_neg hn] at he
   exact hit _ _ ⟨i + 1,by simp,by omega,hk2,he⟩ (by simp only; omega)
  by_cases h1 : pt ≥ q.1
  ·rw [if_pos h1]
   by_cases h2 : q.2.1 > 0
   ·rw [if_pos h2,qeC (n := pt) (by omega) (by omega),qeC (n := q.1) (by omega) (by omega),qeC (n := q.2.1) (by omega) (by omega),qeC (n := pt - q.1) (by omega) (by omega)]
    by_cases h3 : pt - q.1 < q.2.1
    ·rw [if_pos h3]
     rw [if_pos ⟨h1,h2,h3⟩] at he
     exact ⟨hk2,he.symm⟩
    ·rw [if_neg h3]; exact next (fun hh => h3 hh.2.2)
   ·rw [if_neg h2]; exact next (fun hh => h2 hh.2.1)
  ·rw [if_neg h1]; exact next (fun hh => h1 hh.1)
 ·rw [if_neg hlt]
  have : i = l.length := by omega
  subst this
  rw [qm3] at he
  exact ⟨hk,he.symm⟩
theorem qad.s {sl : Sl} {bs : List Int} {k : Sl → AH → Prop} (hw : ql5 H sl 1 bU bs) (hl : bs.length ≤ 1000000)
  (h : ∀ s H',qa H H' → Own H.size H' s 1 bU bs → k s H') : qad sl H k := by
 refine qad.link ?_
 unfold qad.b
 cases ha : sl.a with
 | none =>
  rw [qm8,qj]
  refine h _ _ (qa.refl H) (.inl ⟨rfl,?_⟩)
  cases bs with
  | nil => rfl
  | cons x r =>
   obtain ⟨a,h1,_⟩ := hw.2 0 x rfl
   rw [ha] at h1; cases h1
 | some a =>
  rw [qlZ,qc,qp]
  refine qdu (H0 := H) (B := H.size) (l := []) (r := bs) (fun _ => rfl) (fun _ => rfl) (.inr ⟨H.size,rfl,qlS _,by simp [qe],by simp [qm]⟩) (hw.keep ((qa.refl H).push _)) (qlS _) (by simp [qe]) ((qa.refl H).push _) (by simp [lim]; omega) ?_
  intro s' H' hO hk _ _
  exact h s' H' hk hO
theorem qaT.s {α : Type} {f : α → List Value} {sl : Sl} {l : List α} {k : Sl → AH → Prop} (hf : ∀ x,(f x).length = 3) (hc : ∀ x,(f x).all qo = true) (hw : ql5 H sl 3 f l) (hl : l.length ≤ 1000000)
  (h : ∀ s H',qa H H' → Own H.size H' s 3 f l → k s H') : qaT sl H k := by
 refine qaT.link ?_
 unfold qaT.b
 cases ha : sl.a with
 | none =>
  rw [qm8,qj]
  refine h _ _ (qa.refl H) (.inl ⟨rfl,?_⟩)
  cases l with
  | nil => rfl
  | cons x r =>
   obtain ⟨a,h1,_⟩ := hw.2 0 x rfl
   rw [ha] at h1; cases h1
 | some a =>
  rw [qlZ,qc,qp]
  refine qdu (H0 := H) (B := H.size) (l := []) (r := l) hf hc (.inr ⟨H.size,rfl,qlS _,by simp [qe],by simp [qm]⟩) (hw.keep ((qa.refl H).push _)) (qlS _) (by simp [qe]) ((qa.refl H).push _) (by simp [lim]; omega) ?_
  intro s' H' hO hk _ _
  exact h s' H' hk hO
end
def hdr (b : Bk) : Int := 2 * b.2.1 + (if b.2.2 = true then 1 else 0)
theorem qig (b : Bk) : hdr b / 2 = b.2.1 := by unfold hdr; split <;> omega
theorem qkV (b : Bk) : (hdr b % 2 == 1) = b.2.2 := by
 obtain ⟨p,z,u⟩ := b
 unfold hdr
 cases u
 ·simp only [qlU,if_false]
  rw [show (2 * z + 0) % 2 = 0 by omega]; rfl
 ·simp only [if_true]
  rw [show (2 * z + 1) % 2 = 1 by omega]; rfl
theorem qeu {b : Bk} (h : mayS b.2.1) : wordN b.2.1 b.2.2 = hdr b := by unfold wordN hdr; rw [if_pos h]
theorem qjt {ws : List Int} : ∀ {l : List Bk} {pt : Nat} {pu : Bool},chainB ws.length pt pu l → (∀ b ∈ l,ws.getD b.1.toNat 0 = hdr b) → blkFrom ws pt = some l := by
 intro l
 induction l with
 | nil =>
  intro pt pu h _
  simp only [chainB] at h
  rw [qdM,dif_neg (by omega)]
 | cons b r ih =>
  intro pt pu h hh
  obtain ⟨h1,h2,h3,h4,h5⟩ := h
  have hs := h2
  unfold mayS at hs
  have hb := hh b (by simp)
  rw [h1,qlP] at hb
  have hm : mayS (ws.getD pt 0 / 2) := by rw [hb,qig]; exact h2
  rw [qdM,dif_pos (by omega),dif_pos hm]
  rw [hb,qig,qkV]
  have e : ((pt + b.2.1.toNat : Nat) : Int) = (pt : Int) + b.2.1 := by omega
  rw [ih (pt := pt + b.2.1.toNat) (pu := b.2.2) (by rw [e]; exact h5) fun b' hb' => hh b' (by simp [hb'])]
  simp only [qmi,Option.some.injEq,qnb,and_true]
  obtain ⟨b1,b2,b3⟩ := b
  simp only at h1 ⊢
  rw [h1]
theorem qji {ws : List Int} (h64 : qaI ws) : ∀ {l : List Bk} {pt : Nat},blkFrom ws pt = some l → ∀ b ∈ l,ws.getD b.1.toNat 0 = hdr b := by
 intro l
 induction l with
 | nil => intro pt _ b hb; cases hb
 | cons a r ih =>
  intro pt h b hb
  rw [qdM] at h
  split at h
  ·rename_i hlt
   split at h
   ·rename_i hm
    rw [Option.map_eq_some_iff] at h
    obtain ⟨r',h1,h2⟩ := h
    injection h2 with h2 h3
    subst h3
    rw [ql6] at hb
    rcases hb with rfl | hb
    ·rw [← h2]
     simp only [qlP]
     have hv : 0 ≤ ws.getD pt 0 := by
      rw [qlM,qlK hlt]
      exact (h64 _ (ql1 hlt)).1
     generalize ws.getD pt 0 = v at *
     unfold hdr
     simp only [beq_iff_eq]
     split <;> omega
    ·exact ih h1 b hb
   ·cases h
  ·injection h with h; cases h
theorem qiX {ws : List Int} {l : List Bk} (h64 : qaI ws) : blocksN ws = some l ↔ MayB l ws.length ∧ ∀ b ∈ l,ws.getD b.1.toNat 0 = hdr b := by
 constructor
 ·intro h
  refine ⟨qbu h,?_⟩
  unfold blocksN at h
  rw [Option.bind_eq_some_iff] at h
  obtain ⟨l',h1,h2⟩ := h
  split at h2
  ·injection h2 with h2; subst h2; exact qji h64 h1
  ·cases h2
 ·intro ⟨h1,h2⟩
  unfold blocksN
  rw [qjt (pt := 0) h1.2 h2,Option.bind_some,if_pos h1]
abbrev Ex : Type := Int × Int × List Int
def gapB (p q : Int) : List Bk := if p < q then [(p,q - p,false)] else []
def bg : Int → List Ex → List Bk
 | _,[] => []
 | p,x :: r => gapB p x.1 ++ (x.1,x.2.1,true) :: bg (x.1 + x.2.1) r
def endX : Int → List Ex → Int
 | p,[] => p
 | _,x :: r => endX (x.1 + x.2.1) r
def blkX (words : Int) (ext : List Ex) : List Bk := bg 0 ext ++ gapB (endX 0 ext) words
def tailB (words : Int) : List Ex → List Bk
 | [] => []
 | x :: r => (x.1,x.2.1,true) :: (bg (x.1 + x.2.1) r ++ gapB (endX (x.1 + x.2.1) r) words)
def startX (words : Int) : List Ex → Int
 | [] => words
 | x :: _ => x.1
theorem qen (words p : Int) (e : List Ex) : bg p e ++ gapB (endX p e) words = gapB p (startX words e) ++ tailB words e := by
 cases e with
 | nil => simp [bg,endX,startX,tailB]
 | cons x r => simp [bg,endX,startX,tailB]
theorem bg_app : ∀ (e1 e2 : List Ex) (p : Int),bg p (e1 ++ e2) = bg p e1 ++ bg (endX p e1) e2 := by
 intro e1
 induction e1 with
 | nil => intro e2 p; rfl
 | cons x r ih => intro e2 p; simp [bg,endX,ih]
theorem qep : ∀ (e1 e2 : List Ex) (p : Int),endX p (e1 ++ e2) = endX (endX p e1) e2 := by
 intro e1
 induction e1 with
 | nil => intro e2 p; rfl
 | cons x r ih => intro e2 p; simp [endX,ih]
theorem qcM (words : Int) (e1 e2 : List Ex) : blkX words (e1 ++ e2) = bg 0 e1 ++ (gapB (endX 0 e1) (startX words e2) ++ tailB words e2) := by
 unfold blkX
 rw [bg_app,qep,qmV,qen]
def ExPre (words : Int) : Int → List Ex → Prop
 | _,[] => True
 | p,x :: r => (p = x.1 ∨ p + 2 ≤ x.1) ∧ 2 ≤ x.2.1 ∧ x.1 + x.2.1 ≤ words ∧ ExPre words (x.1 + x.2.1) r
def ExOK (words p : Int) (e : List Ex) : Prop := ExPre words p e ∧ (endX p e = words ∨ endX p e + 2 ≤ words)
theorem qfs {words : Int} : ∀ {e1 e2 : List Ex} {p : Int},ExPre words p (e1 ++ e2) ↔ ExPre words p e1 ∧ ExPre words (endX p e1) e2 := by
 intro e1
 induction e1 with
 | nil => intro e2 p; simp [ExPre,endX]
 | cons x r ih => intro e2 p; simp only [qmw,ExPre,endX,ih]; constructor <;> (rintro h; simp_all)
theorem qdg {words p : Int} {e1 e2 : List Ex} : ExOK words p (e1 ++ e2) ↔ ExPre words p e1 ∧ ExOK words (endX p e1) e2 := by
 unfold ExOK
 rw [qfs,qep,and_assoc]
theorem qc0 {words : Int} : ∀ {e : List Ex} {p : Int},ExPre words p e → p ≤ endX p e ∧ (p ≤ words → endX p e ≤ words) := by
 intro e
 induction e with
 | nil => intro p _; exact ⟨Int.le_refl _,fun h => h⟩
 | cons x r ih =>
  intro p h
  obtain ⟨h1,h2,h3,h4⟩ := h
  have := ih h4
  simp only [endX]
  exact ⟨by omega,fun _ => this.2 h3⟩
theorem qed {words p : Int} {e : List Ex} (h : ExOK words p e) : p = startX words e ∨ p + 2 ≤ startX words e := by
 cases e with
 | nil => exact h.2
 | cons x r => exact h.1.1
theorem qfS {words p : Int} {e : List Ex} (h : ExOK words p e) : startX words e ≤ words := by
 cases e with
 | nil => exact Int.le_refl _
 | cons x r => have := h.1.2.1; have := h.1.2.2.1; simp only [startX]; omega
theorem qhd {words p q : Int} {e : List Ex} (h : ExOK words p e) (hq : q = startX words e ∨ q + 2 ≤ startX words e) : ExOK words q e := by
 cases e with
 | nil => exact ⟨trivial,hq⟩
 | cons x r => exact ⟨⟨hq,h.1.2⟩,h.2⟩
theorem qdD {words p : Int} {x : Ex} {e : List Ex} (h : ExOK words p (x :: e)) : (p = x.1 ∨ p + 2 ≤ x.1) ∧ 2 ≤ x.2.1 ∧ x.1 + x.2.1 ≤ words ∧ ExOK words (x.1 + x.2.1) e :=
 ⟨h.1.1,h.1.2.1,h.1.2.2.1,h.1.2.2.2,h.2⟩
theorem qhj {words p : Int} {x : Ex} {e : List Ex} (h1 : p = x.1 ∨ p + 2 ≤ x.1) (h2 : 2 ≤ x.2.1) (h3 : x.1 + x.2.1 ≤ words) (h : ExOK words (x.1 + x.2.1) e) : ExOK words p (x :: e) :=
 ⟨⟨h1,h2,h3,h.1⟩,h.2⟩
theorem qjz {words : Int} (hw : mayW words) : ∀ {e : List Ex} {p : Int},0 ≤ p → ExOK words p e → chainB words p true (bg p e ++ gapB (endX p e) words) := by
 have hw' := hw
 unfold mayW at hw'
 intro e
 induction e with
 | nil =>
  intro p hp h
  have h2 := h.2
  simp only [endX] at h2
  simp only [bg,endX,qmB]
  unfold gapB
  split
  ·simp only [chainB]
   refine ⟨trivial,?_,Int.le_refl _,.inl trivial,by omega⟩
   unfold mayS; omega
  ·simp only [chainB]; omega
 | cons x r ih =>
  intro p hp h
  obtain ⟨h1,h2,h3,h4⟩ := qdD h
  have hc := ih (p := x.1 + x.2.1) (by omega) h4
  simp only [bg,endX,qmV,qmw]
  unfold gapB at *
  split
  ·simp only [qmw,qmB,chainB]
   refine ⟨trivial,by unfold mayS; omega,by omega,.inl trivial,by omega,by unfold mayS; omega,by omega,.inr trivial,?_⟩
   rw [show p + (x.1 - p) + x.2.1 = x.1 + x.2.1 by omega]
   exact hc
  ·simp only [qmB,chainB]
   refine ⟨by omega,by unfold mayS; omega,by omega,.inl trivial,?_⟩
   rw [show p + x.2.1 = x.1 + x.2.1 by omega]
   exact hc
theorem qgq {words : Int} (hw : mayW words) {e : List Ex} (h : ExOK words 0 e) : MayB (blkX words e) words := ⟨hw,qjz hw (Int.le_refl 0) h⟩
theorem bg_mem {words : Int} : ∀ {e : List Ex} {p : Int},ExPre words p e → ∀ b ∈ bg p e,p ≤ b.1 ∧ b.1 + b.2.1 ≤ endX p e ∧ 2 ≤ b.2.1 := by
 intro e
 induction e with
 | nil => intro p _ b hb; cases hb
 | cons x r ih =>
  intro p h b hb
  obtain ⟨h1,h2,h3,h4⟩ := h
  have he := qc0 h4
  simp only [bg,ql2,ql6] at hb
  simp only [endX]
  rcases hb with hb | rfl | hb
  ·unfold gapB at hb
   split at hb
   ·simp only [ql6,List.not_mem_nil,or_false] at hb; subst hb; simp only; omega
   ·cases hb
  ·simp only; omega
  ·have := ih h4 b hb; omega
theorem ex_mem {words : Int} : ∀ {e : List Ex} {p : Int},ExPre words p e → ∀ x ∈ e,p ≤ x.1 ∧ x.1 + x.2.1 ≤ endX p e ∧ 2 ≤ x.2.1 := by
 intro e
 induction e with
 | nil => intro p _ b hb; cases hb
 | cons x r ih =>
  intro p h b hb
  obtain ⟨h1,h2,h3,h4⟩ := h
  have he := qc0 h4
  simp only [endX]
  rw [ql6] at hb
  rcases hb with rfl | hb
  ·omega
  ·have := ih h4 b hb; omega
theorem qeU {words : Int} {e : List Ex} {p : Int} (h : ExOK words p e) : ∀ b ∈ tailB words e,startX words e ≤ b.1 := by
 cases e with
 | nil => intro b hb; cases hb
 | cons x r =>
  obtain ⟨h1,h2,h3,h4⟩ := qdD h
  intro b hb
  simp only [tailB,ql6,ql2] at hb
  simp only [startX]
  have he := qc0 h4.1
  rcases hb with rfl | hb | hb
  ·exact Int.le_refl _
  ·have := bg_mem h4.1 b hb; omega
  ·unfold gapB at hb
   split at hb
   ·simp only [ql6,List.not_mem_nil,or_false] at hb; subst hb; simp only; omega
   ·cases hb
theorem qj2 {words : Int} : ∀ {e : List Ex} {p : Int} {i : Nat} {b : Bk},(bg p e ++ gapB (endX p e) words)[i]? = some b → b.2.2 = false →
  ∃ e1 e2,e = e1 ++ e2 ∧ i = (bg p e1).length ∧ b = (endX p e1,startX words e2 - endX p e1,false) ∧ endX p e1 < startX words e2 := by
 intro e
 induction e with
 | nil =>
  intro p i b h hu
  simp only [bg,endX,qmB] at h
  unfold gapB at h
  split at h
  ·cases i with
   | zero => simp at h; subst h; exact ⟨[],[],rfl,rfl,rfl,by simpa [endX,startX]⟩
   | succ i => simp at h
  ·simp at h
 | cons x r ih =>
  intro p i b h hu
  simp only [bg,endX,qmV,qmw] at h
  unfold gapB at h
  split at h
  ·rename_i hlt
   cases i with
   | zero => simp at h; subst h; exact ⟨[],x :: r,rfl,rfl,rfl,by simpa [endX,startX]⟩
   | succ i =>
    cases i with
    | zero => simp at h; subst h; simp at hu
    | succ i =>
     simp only [qmw,qmB,qmC] at h
     obtain ⟨e1,e2,h1,h2,h3,h4⟩ := ih (i := i) h hu
     refine ⟨x :: e1,e2,by rw [h1]; rfl,?_,by simpa [endX] using h3,by simpa [endX] using h4⟩
     simp only [bg,ql7,ql0]
     unfold gapB
     rw [if_pos hlt]; simp; omega
  ·rename_i hlt
   cases i with
   | zero => simp at h; subst h; simp at hu
   | succ i =>
    simp only [qmB,qmC] at h
    obtain ⟨e1,e2,h1,h2,h3,h4⟩ := ih (i := i) h hu
    refine ⟨x :: e1,e2,by rw [h1]; rfl,?_,by simpa [endX] using h3,by simpa [endX] using h4⟩
    simp only [bg,ql7,ql0]
    unfold gapB
    rw [if_neg hlt]; simp; omega
theorem qgx {words : Int} : ∀ {e : List Ex} {p : Int} {i : Nat} {b : Bk},(bg p e ++ gapB (endX p e) words)[i]? = some b → b.2.2 = true →
  ∃ e1 x e2,e = e1 ++ x :: e2 ∧ i = (bg p e1).length + (gapB (endX p e1) x.1).length ∧ b = (x.1,x.2.1,true) := by
 intro e
 induction e with
 | nil =>
  intro p i b h hu
  simp only [bg,endX,qmB] at h
  unfold gapB at h
  split at h
  ·cases i with
   | zero => simp at h; subst h; simp at hu
   | succ i => simp at h
  ·simp at h
 | cons x r ih =>
  intro p i b h hu
  simp only [bg,endX,qmV,qmw] at h
  unfold gapB at h
  split at h
  ·rename_i hlt
   cases i with
   | zero => simp at h; subst h; simp at hu
   | succ i =>
    cases i with
    | zero =>
     simp at h; subst h
     refine ⟨[],x,r,rfl,?_,rfl⟩
     have e0 : (gapB p x.1).length = 1 := by unfold gapB; rw [if_pos hlt]; rfl
     show 0 + 1 = 0 + (gapB p x.1).length
     omega
    | succ i =>
     simp only [qmw,qmB,qmC] at h
     obtain ⟨e1,y,e2,h1,h2,h3⟩ := ih (i := i) h hu
     refine ⟨x :: e1,y,e2,by rw [h1]; rfl,?_,h3⟩
     simp only [bg,endX,ql7,ql0]
     have e0 : (gapB p x.1).length = 1 := by unfold gapB; rw [if_pos hlt]; rfl
     omega
  ·rename_i hlt
   cases i with
   | zero =>
    simp at h; subst h
    refine ⟨[],x,r,rfl,?_,rfl⟩
    have e0 : (gapB p x.1).length = 0 := by unfold gapB; rw [if_neg hlt]; rfl
    show 0 = 0 + (gapB p x.1).length
    omega
   | succ i =>
    simp only [qmB,qmC] at h
    obtain ⟨e1,y,e2,h1,h2,h3⟩ := ih (i := i) h hu
    refine ⟨x :: e1,y,e2,by rw [h1]; rfl,?_,h3⟩
    simp only [bg,endX,ql7,ql0]
    have e0 : (gapB p x.1).length = 0 := by unfold gapB; rw [if_neg hlt]; rfl
    omega
theorem qio {words : Int} {e : List Ex} {b : Bk} (hb : b ∈ blkX words e) (hu : b.2.2 = true) : ∃ x ∈ e,b = (x.1,x.2.1,true) := by
 obtain ⟨i,hi⟩ := List.mem_iff_getElem?.1 hb
 obtain ⟨e1,x,e2,h1,_,h3⟩ := qgx hi hu
 exact ⟨x,by rw [h1]; simp,h3⟩
theorem ex_used {words : Int} {e1 e2 : List Ex} {x : Ex} : (blkX words (e1 ++ x :: e2))[(bg 0 e1).length + (gapB (endX 0 e1) x.1).length]? = some (x.1,x.2.1,true) := by
 rw [qcM,ql8 (by omega),ql8 (by simp [startX])]
 simp [startX,tailB]
theorem qhX {words : Int} {e : List Ex} {x : Ex} (hx : x ∈ e) : (x.1,x.2.1,true) ∈ blkX words e := by
 obtain ⟨e1,e2,rfl⟩ := qm9 hx
 exact qlX ex_used
theorem ex_uniq {words : Int} : ∀ {e1 e2 e1' e2' : List Ex} {x x' : Ex} {p : Int},ExPre words p (e1 ++ x :: e2) → e1 ++ x :: e2 = e1' ++ x' :: e2' → x.1 = x'.1 → e1 = e1' ∧ x = x' ∧ e2 = e2' := by
 intro e1
 induction e1 with
 | nil =>
  intro e2 e1' e2' x x' p h he hx
  cases e1' with
  | nil => simp only [qmB,qnb] at he; exact ⟨rfl,he.1,he.2⟩
  | cons y r =>
   simp only [qmB,qmw,qnb] at he
   obtain ⟨rfl,rfl⟩ := he
   obtain ⟨h1,h2,h3,h4⟩ := h
   have := ex_mem h4 x' (by simp)
   omega
 | cons y r ih =>
  intro e2 e1' e2' x x' p h he hx
  cases e1' with
  | nil =>
   simp only [qmB,qmw,qnb] at he
   obtain ⟨rfl,rfl⟩ := he
   obtain ⟨h1,h2,h3,h4⟩ := h
   have := ex_mem h4 x (by simp)
   omega
  | cons y' r' =>
   simp only [qmw,qnb] at he
   obtain ⟨rfl,he⟩ := he
   obtain ⟨h1,h2,h3,h4⟩ := h
   obtain ⟨a,b,c⟩ := ih h4 he hx
   exact ⟨by rw [a],b,c⟩
theorem qgS (ws : List Int) (a b : List (Int × Int)) : applyE ws (a ++ b) = applyE (applyE ws a) b := List.foldl_append ..
theorem qeE {ws : List Int} {i : Nat} {v : Int} (w : Nat) (hi : i < ws.length) : (putE ws ((i : Int),v)).getD w 0 = if w = i then v else ws.getD w 0 := by
 unfold putE
 rw [if_pos ⟨by simp only; omega,by simp only; omega⟩]
 simp only [qlP,qlM]
 by_cases h : w = i
 ·subst h; rw [if_pos rfl,List.getElem?_set_self hi]; rfl
 ·rw [if_neg h,qmf (by omega)]
theorem qg9 {ws : List Int} {p : Nat} {tk : Int} : ∀ {j : Nat},1 ≤ j → p + j ≤ ws.length → ∀ w,(applyE ws (carveTo (p : Int) tk j)).getD w 0 = if w = p then wordN tk true else if p < w ∧ w < p + j then 0 else ws.getD w 0 := by
 intro j
 induction j with
 | zero => intro h; omega
 | succ j ih =>
  intro _ hp w
  by_cases hj : j = 0
  ·subst hj
   have e : applyE ws (carveTo (p : Int) tk (0 + 1)) = putE ws ((p : Int),wordN tk true) := rfl
   rw [e,qeE w (by omega)]
   by_cases hw : w = p
   ·rw [if_pos hw,if_pos hw]
   ·rw [if_neg hw,if_neg hw,if_neg (by omega)]
  ·rw [qfq _ _ (by omega),qgS]
   have e : ∀ v : List Int,applyE v [((p : Int) + (j : Int),(0 : Int))] = putE v (((p + j : Nat) : Int),0) := fun v => by
    show putE v _ = _
    rw [show (p : Int) + (j : Int) = ((p + j : Nat) : Int) by omega]
   rw [e,qeE w (by rw [qac]; omega),ih (by omega) (by omega) w]
   by_cases hw : w = p + j
   ·rw [if_pos hw,if_neg (by omega),if_pos (by omega)]
   ·rw [if_neg hw]
    by_cases h1 : w = p
    ·rw [if_pos h1,if_pos h1]
    ·rw [if_neg h1,if_neg h1]
     by_cases h2 : p < w ∧ w < p + j
     ·rw [if_pos h2,if_pos (by omega)]
     ·rw [if_neg h2,if_neg (by omega)]
theorem qeq {sz need : Int} (hn : 2 ≤ need ∧ need ≤ sz) : 2 ≤ takesN sz need ∧ takesN sz need ≤ sz ∧ need ≤ takesN sz need ∧ (takesN sz need = sz ∨ takesN sz need + 2 ≤ sz) := by
 unfold takesN
 rw [if_pos hn]
 split <;> omega
theorem qjI {ws : List Int} {b : Bk} {need : Int} {p : Nat} (hp : b.1 = (p : Int)) (hn : 2 ≤ need ∧ need ≤ b.2.1) (hfit : b.1 + b.2.1 ≤ ws.length) (w : Nat) :
  (applyE ws (carveE b need)).getD w 0 = if w = p then wordN (takesN b.2.1 need) true else if p < w ∧ w < p + (takesN b.2.1 need).toNat then 0 else
   if w = p + (takesN b.2.1 need).toNat ∧ takesN b.2.1 need < b.2.1 then wordN (b.2.1 - takesN b.2.1 need) false else ws.getD w 0 := by
 obtain ⟨t1,t2,_,_⟩ := qeq hn
 unfold carveE
 rw [qgS,hp]
 generalize takesN b.2.1 need = tk at *
 have hto := qg9 (ws := ws) (p := p) (tk := tk) (j := tk.toNat) (by omega) (by omega)
 by_cases hlt : tk < b.2.1
 ·rw [if_pos hlt]
  have e : ∀ v : List Int,applyE v [((p : Int) + tk,wordN (b.2.1 - tk) false)] = putE v (((p + tk.toNat : Nat) : Int),wordN (b.2.1 - tk) false) := fun v => by
   show putE v _ = _
   rw [show (p : Int) + tk = ((p + tk.toNat : Nat) : Int) by omega]
  rw [e,qeE w (by rw [qac]; omega),hto]
  by_cases h1 : w = p + tk.toNat
  ·rw [if_pos h1,if_neg (by omega),if_neg (by omega),if_pos ⟨h1,hlt⟩]
  ·rw [if_neg h1]
   by_cases h2 : w = p
   ·rw [if_pos h2,if_pos h2]
   ·rw [if_neg h2,if_neg h2]
    split
    ·rfl
    ·rw [if_neg (by omega)]
 ·rw [if_neg hlt]
  show (applyE ws _).getD w 0 = _
  rw [hto]
  by_cases h2 : w = p
  ·rw [if_pos h2,if_pos h2]
  ·rw [if_neg h2,if_neg h2]
   split
   ·rfl
   ·rw [if_neg (by omega)]
theorem qdw {ws ws' : List Int} {a n : Nat} (h : ∀ w,a / 8 ≤ w → w * 8 < a + n → ws'.getD w 0 = ws.getD w 0) : bytesOf ws' a n = bytesOf ws a n := by
 unfold bytesOf
 refine List.map_congr_left fun j hj => ?_
 rw [qmJ] at hj
 unfold byteAt
 rw [h ((a + j) / 8) (by omega) (by omega)]
theorem qiC {ws : List Int} {a n : Nat} (h : ∀ w,a / 8 ≤ w → w * 8 < a + n → ws.getD w 0 = 0) : bytesOf ws a n = qlN n 0 := by
 unfold bytesOf
 apply qmc
 intro i
 by_cases hi : i < n
 ·rw [qlW,qmh hi,qnm,if_pos hi,qmi]
  unfold byteAt
  rw [h ((a + i) / 8) (by omega) (by omega)]
  simp [getB]
 ·rw [qlR (by simp; omega),qlR (by simp; omega)]
theorem qeM (ws : List Int) (a n : Nat) : (bytesOf ws a n).length = n := by simp [bytesOf]
structure MR (words : Int) (ext : List Ex) (ws : List Int) : Prop where
 len : (ws.length : Int) = words
 mw : mayW words
 u : qaI ws
 ok : ExOK words 0 ext
 hd : ∀ b ∈ blkX words ext,ws.getD b.1.toNat 0 = hdr b
 by8 : ∀ x ∈ ext,x.2.2 = bytesOf ws ((x.1.toNat + 1) * 8) ((x.2.1.toNat - 1) * 8)
section
variable {words : Int} {ext : List Ex} {ws : List Int}
theorem MR.may (h : MR words ext ws) : MayB (blkX words ext) words := qgq h.mw h.ok
theorem MR.blocks (h : MR words ext ws) : blocksN ws = some (blkX words ext) := (qiX h.u).2 ⟨by rw [h.len]; exact h.may,h.hd⟩
theorem MR.range (h : MR words ext ws) : 8 ≤ words ∧ words ≤ 512 := ⟨h.mw.1,h.mw.2.1⟩
theorem MR.mem (h : MR words ext ws) {x : Ex} (hx : x ∈ ext) : 0 ≤ x.1 ∧ x.1 + x.2.1 ≤ words ∧ 2 ≤ x.2.1 := by
 have h1 := ex_mem h.ok.1 x hx
 have h2 := (qc0 h.ok.1).2 (by have := h.range; omega)
 omega
theorem MR.blen (h : MR words ext ws) {x : Ex} (hx : x ∈ ext) : x.2.2.length = (x.2.1.toNat - 1) * 8 := by rw [h.by8 x hx,qeM]
theorem MR.first (hw : mayW words) : MR words [] (firstN words) := by
 have hw' := hw
 unfold mayW at hw'
 have hl : (firstN words).length = words.toNat := by unfold firstN; rw [if_pos hw]; simp; omega
 refine ⟨by omega,hw,qel _,⟨trivial,.inr (by simp only [endX]; omega)⟩,?_,fun x hx => (by cases hx)⟩
 intro b hb
 have e0 : blkX words [] = [((0 : Int),words - 0,false)] := by
  show gapB 0 words = _
  unfold gapB
  rw [if_pos (by omega)]
 rw [e0] at hb
 simp only [ql6,List.not_mem_nil,or_false] at hb
 subst hb
 unfold firstN
 rw [if_pos hw]
 simp only [Int.toNat_zero,List.getD_cons_zero,Int.sub_zero]
 exact qeu (b := (0,words,false)) (by unfold mayS; simp only; omega)
theorem MR.alloc (h : MR words ext ws) {i : Nat} {b : Bk} {need : Int} (hb : (blkX words ext)[i]? = some b) (hu : b.2.2 = false) (hn : 2 ≤ need ∧ need ≤ b.2.1) :
  ∃ e1 e2,ext = e1 ++ e2 ∧ (∀ x ∈ e1,x.1 < b.1) ∧ (∀ x ∈ e2,b.1 < x.1) ∧ MR words (e1 ++ (b.1,takesN b.2.1 need,qlN (((takesN b.2.1 need).toNat - 1) * 8) 0) :: e2) (applyE ws (carveE b need)) := by
 obtain ⟨e1,e2,he,hi,hbe,hlt⟩ := qj2 hb hu
 have hmb := h.may.mem (qlX hb)
 have hok := h.ok
 rw [he] at hok
 obtain ⟨hp1,hok2⟩ := qdg.1 hok
 have hst := qfS hok2
 have hs2 := qed hok2
 obtain ⟨t1,t2,t3,t4⟩ := qeq hn
 obtain ⟨p,hp⟩ := qma hmb.1
 have hb1 : b.1 = endX 0 e1 := by rw [hbe]
 have hb2 : b.2.1 = startX words e2 - endX 0 e1 := by rw [hbe]
 have hget := qjI (ws := ws) (b := b) (need := need) (p := p) hp hn (by rw [h.len]; omega)
 have hcu := (qgZ (b := b) hn).1
 have hm1 := fun x hx => ex_mem hp1 x hx
 have hge2 : ∀ x ∈ e2,startX words e2 ≤ x.1 := by
  intro x hx
  have hmem := qeU (words := words) (e := e2) (p := endX 0 e1) hok2 (x.1,x.2.1,true) (by
   cases e2 with
   | nil => cases hx
   | cons y r =>
    have h3 := (qdD hok2).2.2.2
    rw [ql6] at hx
    simp only [tailB,ql6,ql2]
    rcases hx with hx | hx
    ·left; rw [hx]
    ·right
     obtain ⟨a1,a2,ha⟩ := qm9 hx
     have := qlX (ex_used (words := words) (e1 := a1) (e2 := a2) (x := x))
     left
     rw [ha,bg_app]
     simp only [bg,ql2,ql6]
     exact .inr (.inr (.inl trivial)))
  exact hmem
 have hsplit := fun x (hx : x ∈ e1) => (by have := hm1 x hx; omega : x.1 < b.1)
 refine ⟨e1,e2,he,hsplit,fun x hx => by have := hge2 x hx; omega,?_⟩
 generalize htk : takesN b.2.1 need = tk at *
 have hokn : ExOK words 0 (e1 ++ (b.1,tk,qlN ((tk.toNat - 1) * 8) 0) :: e2) := by
  refine qdg.2 ⟨hp1,qhj (.inl hb1.symm) t1 (by simp only; omega) (qhd hok2 (by simp only; omega))⟩
 refine ⟨by rw [qac]; exact h.len,h.mw,qgt _ _ h.u fun e he => (hcu e he).2.2,hokn,?_,?_⟩
 ·intro b' hb'
  rw [qcM] at hb'
  simp only [ql2] at hb'
  have hold : b' ∈ blkX words ext → (b'.1 + b'.2.1 ≤ b.1 ∨ startX words e2 ≤ b'.1) → (applyE ws (carveE b need)).getD b'.1.toNat 0 = hdr b' := by
   intro hm hout
   have hmb' := h.may.mem hm
   rw [hget,if_neg (by omega),if_neg (by omega),if_neg (by omega)]
   exact h.hd b' hm
  rcases hb' with hb' | hb' | hb'
  ·have := bg_mem hp1 b' hb'
   exact hold (by rw [he,qcM]; simp [hb']) (.inl (by omega))
  ·simp only [startX] at hb'
   unfold gapB at hb'
   rw [if_neg (by omega)] at hb'
   cases hb'
  ·simp only [tailB,ql6] at hb'
   rcases hb' with rfl | hb'
   ·simp only
    rw [hget,hp,qlP,if_pos rfl]
    exact qeu (b := ((p : Int),tk,true)) (by unfold mayS; simp only; omega)
   ·rw [qen] at hb'
    simp only [ql2] at hb'
    rcases hb' with hb' | hb'
    ·unfold gapB at hb'
     split at hb'
     ·rename_i hg
      simp only [ql6,List.not_mem_nil,or_false] at hb'
      subst hb'
      simp only
      rw [hget,if_neg (by omega),if_neg (by omega),if_pos (by omega)]
      have e : startX words e2 - (b.1 + tk) = b.2.1 - tk := by omega
      rw [e]
      exact qeu (b := (b.1 + tk,b.2.1 - tk,false)) (by unfold mayS; simp only; omega)
     ·cases hb'
    ·have := qeU hok2 b' hb'
     exact hold (by rw [he,qcM]; simp [hb']) (.inr this)
 ·intro x hx
  rw [ql2,ql6] at hx
  rcases hx with hx | rfl | hx
  ·have hxm := hm1 x hx
   have hx0 := h.mem (x := x) (by rw [he]; simp [hx])
   rw [h.by8 x (by rw [he]; simp [hx])]
   symm
   refine qdw fun w h1 h2 => ?_
   rw [hget,if_neg (by omega),if_neg (by omega),if_neg (by omega)]
  ·simp only
   rw [hp,qlP]
   symm
   refine qiC fun w h1 h2 => ?_
   rw [hget,if_neg (by omega),if_pos (by omega)]
  ·have hxm := hge2 x hx
   have hx0 := h.mem (x := x) (by rw [he]; simp [hx])
   rw [h.by8 x (by rw [he]; simp [hx])]
   symm
   refine qdw fun w h1 h2 => ?_
   rw [hget,if_neg (by omega),if_neg (by omega),if_neg (by omega)]
theorem bg_last : ∀ {e : List Ex} {p : Int},0 < (bg p e).length → (bkAt (bg p e) ((bg p e).length - 1)).2.2 = true := by
 intro e
 induction e with
 | nil => intro p h; simp [bg] at h
 | cons x r ih =>
  intro p _
  by_cases hr : (bg (x.1 + x.2.1) r).length = 0
  ·simp only [bg,ql7,ql0,hr]
   unfold bkAt
   rw [qlM,ql8 (by omega)]
   simp
  ·have := ih (p := x.1 + x.2.1) (by omega)
   simp only [bg,ql7,ql0]
   unfold bkAt at this ⊢
   rw [qlM] at this ⊢
   rw [ql8 (by omega),show (gapB p x.1).length + ((bg (x.1 + x.2.1) r).length + 1) - 1 - (gapB p x.1).length = ((bg (x.1 + x.2.1) r).length - 1) + 1 by omega,qmC]
   exact this
theorem qkl {e1 e2 : List Ex} {x : Ex} (hok : ExOK words 0 (e1 ++ x :: e2)) {i : Nat} (hi : i = (bg 0 e1).length + (gapB (endX 0 e1) x.1).length) :
  (bkAt (blkX words (e1 ++ x :: e2)) (mFrom (blkX words (e1 ++ x :: e2)) i)).1 = endX 0 e1 ∧
  sumTo (blkX words (e1 ++ x :: e2)) (mFrom (blkX words (e1 ++ x :: e2)) i) (mTo (blkX words (e1 ++ x :: e2)) i - mFrom (blkX words (e1 ++ x :: e2)) i) = startX words e2 - endX 0 e1 := by
 obtain ⟨hp1,hok2⟩ := qdg.1 hok
 obtain ⟨h1,h2,h3,h4⟩ := qdD hok2
 have hs := qed h4
 have hL : blkX words (e1 ++ x :: e2) = bg 0 e1 ++ (gapB (endX 0 e1) x.1 ++ ((x.1,x.2.1,true) :: (gapB (x.1 + x.2.1) (startX words e2) ++ tailB words e2))) := by
  rw [qcM]
  show bg 0 e1 ++ (gapB (endX 0 e1) x.1 ++ ((x.1,x.2.1,true) :: (bg (x.1 + x.2.1) e2 ++ gapB (endX (x.1 + x.2.1) e2) words))) = _
  rw [qen]
 have at0 : ∀ j,bkAt (blkX words (e1 ++ x :: e2)) ((bg 0 e1).length + j) = bkAt (gapB (endX 0 e1) x.1 ++ ((x.1,x.2.1,true) :: (gapB (x.1 + x.2.1) (startX words e2) ++ tailB words e2))) j := by
  intro j
  rw [hL]
  unfold bkAt
  rw [qlM,ql8 (by omega),Nat.add_sub_cancel_left,← qlM]
 have hlen : (blkX words (e1 ++ x :: e2)).length = (bg 0 e1).length + ((gapB (endX 0 e1) x.1).length + (1 + ((gapB (x.1 + x.2.1) (startX words e2)).length + (tailB words e2).length))) := by
  rw [hL]; simp; omega
 have tl : (bkAt (tailB words e2) 0).2.2 = false → (tailB words e2).length = 0 := by
  cases e2 with
  | nil => intro _; rfl
  | cons y r => intro h; simp [tailB,bkAt] at h
 have last : 0 < (bg 0 e1).length → (bkAt (blkX words (e1 ++ x :: e2)) ((bg 0 e1).length - 1)).2.2 = true := by
  intro h
  have := bg_last h
  rw [hL]
  unfold bkAt at this ⊢
  rw [qlM] at this ⊢
  rw [qmd (by omega)]
  exact this
 generalize blkX words (e1 ++ x :: e2) = L at *
 by_cases g1 : endX 0 e1 < x.1
 ·have gl : gapB (endX 0 e1) x.1 = [(endX 0 e1,x.1 - endX 0 e1,false)] := by unfold gapB; rw [if_pos g1]
  rw [gl] at at0 hlen hi
  simp only [ql0,qmR] at hi hlen
  have a0 := at0 0
  have a1 := at0 1
  have a2 := at0 2
  simp only [qmw,qmB] at a0 a1 a2
  have b0 : bkAt L ((bg 0 e1).length + 0) = (endX 0 e1,x.1 - endX 0 e1,false) := a0
  have b1 : bkAt L ((bg 0 e1).length + 1) = (x.1,x.2.1,true) := a1
  have hf : mFrom L i = (bg 0 e1).length := by
   unfold mFrom
   rw [if_pos ⟨by omega,by rw [show i - 1 = (bg 0 e1).length + 0 by omega,b0]⟩]; omega
  by_cases g2 : x.1 + x.2.1 < startX words e2
  ·have gl2 : gapB (x.1 + x.2.1) (startX words e2) = [(x.1 + x.2.1,startX words e2 - (x.1 + x.2.1),false)] := by unfold gapB; rw [if_pos g2]
   rw [gl2] at a2 hlen
   have b2 : bkAt L ((bg 0 e1).length + 2) = (x.1 + x.2.1,startX words e2 - (x.1 + x.2.1),false) := a2
   simp only [ql0,qmR] at hlen
   have ht : mTo L i = i + 2 := by
    unfold mTo
    rw [if_pos ⟨by omega,by rw [show i + 1 = (bg 0 e1).length + 2 by omega,b2]⟩]
   rw [hf,ht,show i + 2 - (bg 0 e1).length = 3 by omega]
   refine ⟨by rw [show (bg 0 e1).length = (bg 0 e1).length + 0 by omega,b0],?_⟩
   simp only [sumTo,b0,b1,b2]; omega
  ·have gl2 : gapB (x.1 + x.2.1) (startX words e2) = [] := by unfold gapB; rw [if_neg g2]
   rw [gl2] at a2 hlen
   have b2 : bkAt L ((bg 0 e1).length + 2) = bkAt (tailB words e2) 0 := a2
   simp only [qmR] at hlen
   have ht : mTo L i = i + 1 := by
    unfold mTo
    rw [if_neg]
    intro ⟨c1,c2⟩
    rw [show i + 1 = (bg 0 e1).length + 2 by omega,b2] at c2
    have := tl c2; omega
   rw [hf,ht,show i + 1 - (bg 0 e1).length = 2 by omega]
   refine ⟨by rw [show (bg 0 e1).length = (bg 0 e1).length + 0 by omega,b0],?_⟩
   simp only [sumTo,b0,b1]; omega
 ·have gl : gapB (endX 0 e1) x.1 = [] := by unfold gapB; rw [if_neg g1]
  rw [gl] at at0 hlen hi
  simp only [qmR] at hi hlen
  have a0 := at0 0
  have a1 := at0 1
  simp only [qmB] at a0 a1
  have b0 : bkAt L ((bg 0 e1).length + 0) = (x.1,x.2.1,true) := a0
  have hf : mFrom L i = (bg 0 e1).length := by
   unfold mFrom
   rw [if_neg]
   ·omega
   ·intro ⟨c1,c2⟩
    rw [show i - 1 = (bg 0 e1).length - 1 by omega,last (by omega)] at c2
    cases c2
  by_cases g2 : x.1 + x.2.1 < startX words e2
  ·have gl2 : gapB (x.1 + x.2.1) (startX words e2) = [(x.1 + x.2.1,startX words e2 - (x.1 + x.2.1),false)] := by unfold gapB; rw [if_pos g2]
   rw [gl2] at a1 hlen
   have b1 : bkAt L ((bg 0 e1).length + 1) = (x.1 + x.2.1,startX words e2 - (x.1 + x.2.1),false) := a1
   simp only [ql0,qmR] at hlen
   have ht : mTo L i = i + 2 := by
    unfold mTo
    rw [if_pos ⟨by omega,by rw [show i + 1 = (bg 0 e1).length + 1 by omega,b1]⟩]
   rw [hf,ht,show i + 2 - (bg 0 e1).length = 2 by omega]
   refine ⟨by rw [show (bg 0 e1).length = (bg 0 e1).length + 0 by omega,b0]; simp only; omega,?_⟩
   simp only [sumTo,b0,b1]; omega
  ·have gl2 : gapB (x.1 + x.2.1) (startX words e2) = [] := by unfold gapB; rw [if_neg g2]
   rw [gl2] at a1 hlen
   have b1 : bkAt L ((bg 0 e1).length + 1) = bkAt (tailB words e2) 0 := a1
   simp only [qmR] at hlen
   have ht : mTo L i = i + 1 := by
    unfold mTo
    rw [if_neg]
    intro ⟨c1,c2⟩
    rw [show i + 1 = (bg 0 e1).length + 1 by omega,b1] at c2
    have := tl c2; omega
   rw [hf,ht,show i + 1 - (bg 0 e1).length = 1 by omega]
   refine ⟨by rw [show (bg 0 e1).length = (bg 0 e1).length + 0 by omega,b0]; simp only; omega,?_⟩
   simp only [sumTo,b0]; omega
theorem MR.free {e1 e2 : List Ex} {x : Ex} (h : MR words (e1 ++ x :: e2) ws) : MR words (e1 ++ e2) (applyE ws [(endX 0 e1,wordN (startX words e2 - endX 0 e1) false)]) := by
 have hok := h.ok
 obtain ⟨hp1,hok2⟩ := qdg.1 hok
 obtain ⟨h1,h2,h3,h4⟩ := qdD hok2
 have hs := qed h4
 have hst := qfS h4
 have hge := (qc0 hp1).1
 have hrange := h.range
 obtain ⟨p,hp⟩ := qma hge
 have hget : ∀ w,(applyE ws [(endX 0 e1,wordN (startX words e2 - endX 0 e1) false)]).getD w 0 = if w = p then wordN (startX words e2 - endX 0 e1) false else ws.getD w 0 := by
  intro w
  have hlen := h.len
  rw [hp]
  exact qeE w (by omega)
 have hmS : mayS (startX words e2 - endX 0 e1) := by unfold mayS; omega
 refine ⟨by rw [qac]; exact h.len,h.mw,qgt _ _ h.u fun e he => ?_,qdg.2 ⟨hp1,qhd h4 (by omega)⟩,?_,?_⟩
 ·simp only [ql6,List.not_mem_nil,or_false] at he
  subst he; exact wordN_u _ _
 ·intro b hb
  rw [qcM] at hb
  simp only [ql2] at hb
  rcases hb with hb | hb | hb
  ·have hm := bg_mem hp1 b hb
   rw [hget,if_neg (by omega)]
   exact h.hd b (by rw [qcM]; simp [hb])
  ·unfold gapB at hb
   split at hb
   ·simp only [ql6,List.not_mem_nil,or_false] at hb
    subst hb
    simp only
    rw [hget,hp,qlP,if_pos rfl,← hp]
    exact qeu (b := (endX 0 e1,startX words e2 - endX 0 e1,false)) hmS
   ·cases hb
  ·have hm := qeU h4 b hb
   rw [hget,if_neg (by omega)]
   refine h.hd b ?_
   rw [qcM]
   simp only [tailB,ql2,ql6]
   right; right; right
   have : b ∈ bg (x.1 + x.2.1) e2 ++ gapB (endX (x.1 + x.2.1) e2) words := by
    rw [qen]; simp [hb]
   simpa using this
 ·intro y hy
  have hym : y ∈ e1 ++ x :: e2 := by simp at hy ⊢; rcases hy with h | h <;> simp [h]
  rw [h.by8 y hym]
  have hy0 := h.mem hym
  symm
  refine qdw fun w w1 w2 => ?_
  rw [hget,if_neg]
  intro hw
  rw [ql2] at hy
  rcases hy with hy | hy
  ·have := ex_mem hp1 y hy; omega
  ·have := ex_mem h4.1 y hy; omega
def putL (l : List Int) (k : Nat) (bs : List Int) : List Int := l.take k ++ bs ++ l.drop (k + bs.length)
theorem qlb {l bs : List Int} {k : Nat} (h : k + bs.length ≤ l.length) : (putL l k bs).length = l.length := by unfold putL; simp; omega
theorem qhU {l bs : List Int} {k i : Nat} (h : k + bs.length ≤ l.length) : (putL l k bs)[i]? = if k ≤ i ∧ i < k + bs.length then bs[i - k]? else l[i]? := by
 unfold putL
 by_cases h1 : i < k
 ·rw [if_neg (by omega),qmV,qmd (by simp; omega),List.getElem?_take_of_lt h1]
 ·by_cases h2 : i < k + bs.length
  ·rw [if_pos ⟨by omega,h2⟩,qmV,ql8 (by simp; omega),qmd (by simp; omega)]
   congr 1; simp; omega
  ·rw [if_neg (by omega),ql8 (by simp; omega),qmo]
   congr 1; simp; omega
theorem MR.write {e1 e2 : List Ex} {x : Ex} {off : Nat} {bs : List Int} (h : MR words (e1 ++ x :: e2) ws) (h8 : qam bs) (h1 : (x.1.toNat + 1) * 8 ≤ off) (h2 : off + bs.length ≤ (x.1.toNat + x.2.1.toNat) * 8) :
  MR words (e1 ++ (x.1,x.2.1,putL x.2.2 (off - (x.1.toNat + 1) * 8) bs) :: e2) (putBs ws off bs) := by
 have hx := h.mem (x := x) (by simp)
 have hlen := h.len
 have hfit : off + bs.length ≤ ws.length * 8 := by omega
 have hbx : ∀ e : List Ex,bg 0 (e1 ++ (x.1,x.2.1,putL x.2.2 (off - (x.1.toNat + 1) * 8) bs) :: e2) = bg 0 (e1 ++ x :: e2) := fun _ => by rw [bg_app,bg_app]; rfl
 have hex : endX 0 (e1 ++ (x.1,x.2.1,putL x.2.2 (off - (x.1.toNat + 1) * 8) bs) :: e2) = endX 0 (e1 ++ x :: e2) := by rw [qep,qep]; rfl
 have hbl : blkX words (e1 ++ (x.1,x.2.1,putL x.2.2 (off - (x.1.toNat + 1) * 8) bs) :: e2) = blkX words (e1 ++ x :: e2) := by unfold blkX; rw [hbx [],hex]
 have hok := h.ok
 obtain ⟨hp1,hok2⟩ := qdg.1 hok
 obtain ⟨o1,o2,o3,o4⟩ := qdD hok2
 have hok' : ExOK words 0 (e1 ++ (x.1,x.2.1,putL x.2.2 (off - (x.1.toNat + 1) * 8) bs) :: e2) := qdg.2 ⟨hp1,qhj o1 o2 o3 o4⟩
 -- words out of the block are as they were
 have hfar : ∀ w,(w ≤ x.1.toNat ∨ x.1.toNat + x.2.1.toNat ≤ w) → (putBs ws off bs).getD w 0 = ws.getD w 0 := fun w hw => qfC _ _ _ _ (by omega) hfit
 have hbyte := fun p (hp : p / 8 < ws.length) => qhP bs ws off p h.u h8 hfit hp
 refine ⟨by rw [qcG]; exact h.len,h.mw,qd5 _ _ _ h.u,hok',?_,?_⟩
 ·rw [hbl]
  intro b hb
  rw [hfar b.1.toNat ?_]
  ·exact h.hd b hb
  ·have hm := h.may.mem hb
   rw [qcM] at hb
   simp only [ql2,startX,tailB,ql6] at hb
   rcases hb with hb | hb | rfl | hb
   ·have := bg_mem hp1 b hb; omega
   ·unfold gapB at hb
    split at hb
    ·simp only [ql6,List.not_mem_nil,or_false] at hb; subst hb; simp only; omega
    ·cases hb
   ·simp only; omega
   ·have : b ∈ gapB (x.1 + x.2.1) (startX words e2) ++ tailB words e2 := by rw [← qen]; simpa using hb
    rw [ql2] at this
    rcases this with hb | hb
    ·unfold gapB at hb
     split at hb
     ·simp only [ql6,List.not_mem_nil,or_false] at hb; subst hb; simp only; omega
     ·cases hb
    ·have := qeU o4 b hb
     have := qed o4; omega
 ·intro y hy
  rw [ql2,ql6] at hy
  have other : y ∈ e1 ++ x :: e2 → (y.1 + y.2.1 ≤ x.1 ∨ x.1 + x.2.1 ≤ y.1) → y.2.2 = bytesOf (putBs ws off bs) ((y.1.toNat + 1) * 8) ((y.2.1.toNat - 1) * 8) := by
   intro hy ho
   have hy0 := h.mem hy
   rw [h.by8 y hy]
   symm
   exact qdw fun w w1 w2 => hfar w (by omega)
  rcases hy with hy | rfl | hy
  ·refine other (by simp [hy]) (.inl ?_)
   have := ex_mem hp1 y hy; omega
  ·simp only
   have hb8 := h.by8 x (by simp)
   have hbl' := h.blen (x := x) (by simp)
   apply qmc
   intro i
   rw [qhU (by omega)]
   by_cases hi : i < (x.2.1.toNat - 1) * 8
   ·unfold bytesOf
    rw [qlW,qmh hi,qmi,hbyte _ (by omega)]
    by_cases hin : off - (x.1.toNat + 1) * 8 ≤ i ∧ i < off - (x.1.toNat + 1) * 8 + bs.length
    ·rw [if_pos hin,if_pos (by omega)]
     rw [show (x.1.toNat + 1) * 8 + i - off = i - (off - (x.1.toNat + 1) * 8) by omega]
     rw [qlM,qlK (by omega)]; rfl
    ·rw [if_neg hin,if_neg (by omega),hb8]
     unfold bytesOf
     rw [qlW,qmh hi]; rfl
   ·rw [if_neg (by omega),qlR (by omega),qlR (by rw [qeM]; omega)]
  ·refine other (by simp [hy]) (.inr ?_)
   have := ex_mem o4.1 y hy; omega
end
def exV (x : Ex × Nat) : List Value := [.int .i64 x.1.1,.int .i64 x.1.2.1,.slice (some ⟨x.2,0,none⟩) x.1.2.2.length 1]
theorem exV_len (x : Ex × Nat) : (exV x).length = 3 := rfl
theorem exV_ok (x : Ex × Nat) : (exV x).all qo = true := rfl
def Kp (F : Nat → Prop) (H H' : AH) : Prop := H.size ≤ H'.size ∧ ∀ b,b < H.size → ¬ F b → H'.get b = H.get b
def Up (F : Nat → Prop) (H : AH) (F' : Nat → Prop) (H' : AH) : Prop := Kp F H H' ∧ ∀ b,F' b → F b ∨ (H.size ≤ b ∧ b < H'.size)
def Dj (F G : Nat → Prop) : Prop := ∀ b,F b → G b → False
def Lt (F : Nat → Prop) (H : AH) : Prop := ∀ b,F b → b < H.size
theorem qa.kp {F : Nat → Prop} {H H' : AH} (h : qa H H') : Kp F H H' := ⟨h.1,fun b hb _ => h.2 b hb⟩
theorem Kp.refl {F : Nat → Prop} (H : AH) : Kp F H H := ⟨qlS _,fun _ _ _ => rfl⟩
theorem Up.refl {F : Nat → Prop} (H : AH) : Up F H F H := ⟨Kp.refl H,fun _ h => .inl h⟩
theorem Up.of_keeps {F F' : Nat → Prop} {H H' H'' : AH} (hk : qa H H') (h : Up F H' F' H'') : Up F H F' H'' := by
 have h1 := h.1.1
 have h2 := hk.1
 refine ⟨⟨by omega,fun b hb hn => by rw [h.1.2 b (by omega) hn,hk.2 b hb]⟩,fun b hb => ?_⟩
 rcases h.2 b hb with h0 | h0
 ·exact .inl h0
 ·exact .inr (by omega)
theorem Up.get {F F' G : Nat → Prop} {H H' : AH} (h : Up F H F' H') (hd : Dj F G) (hl : Lt G H) {b : Nat} (hb : G b) : H'.get b = H.get b := h.1.2 b (hl b hb) (fun hh => hd b hh hb)
structure MdAt (F : Nat → Prop) (H : AH) (p : Nat) (words : Int) (s : Sl) (E : List (Ex × Nat)) (root : Int) : Prop where
 obj : H.get p = ⟨[.int .i64 words,s.val,.int .i64 root],.rw,0⟩
 own : Own 0 H s 3 exV E
 bys : ∀ x ∈ E,H.get x.2 = ⟨x.1.2.2.flatMap bU,.rw,1⟩
 fp : F p
 fs : ∀ a,s.a = some a → F a.block
 fx : ∀ x ∈ E,F x.2
 lt : Lt F H
 np : ∀ a,s.a = some a → a.block ≠ p
 nx : ∀ x ∈ E,x.2 ≠ p ∧ ∀ a,s.a = some a → a.block ≠ x.2
 nd : (E.map (·.2)).Nodup
def MW (F : Nat → Prop) (H : AH) (p : Nat) (ws : List Int) (root : Int) : Prop := ∃ s E,MdAt F H p ws.length s E root ∧ MR ws.length (E.map (·.1)) ws
section
variable {F : Nat → Prop} {H : AH} {p : Nat} {words root : Int} {s : Sl} {E : List (Ex × Nat)}
theorem MdAt.rows (h : MdAt F H p words s E root) : ql5 H s 3 exV E := h.own.rows exV_len exV_ok
theorem MdAt.c0 (h : MdAt F H p words s E root) : AH.cell? H (qlL ⟨p,0,none⟩ 0) = some (.int .i64 words) := by simp [qk,AH.cell?,h.obj]
theorem MdAt.c1 (h : MdAt F H p words s E root) : AH.cell? H (qlL ⟨p,0,none⟩ 1) = some (.slice s.a s.n s.k) := by simp [qk,AH.cell?,h.obj,Sl.val]
theorem MdAt.c2 (h : MdAt F H p words s E root) : AH.cell? H (qlL ⟨p,0,none⟩ 2) = some (.int .i64 root) := by simp [qk,AH.cell?,h.obj]
theorem MdAt.congr {H' : AH} (h : MdAt F H p words s E root) (hs : H.size ≤ H'.size) (hg : ∀ b,F b → H'.get b = H.get b) : MdAt F H' p words s E root := by
 refine ⟨by rw [hg p h.fp]; exact h.obj,?_,fun x hx => by rw [hg _ (h.fx x hx)]; exact h.bys x hx,h.fp,h.fs,h.fx,fun b hb => by have := h.lt b hb; omega,h.np,h.nx,h.nd⟩
 rcases h.own with h0 | ⟨b,h1,h2,h3,h4⟩
 ·exact .inl h0
 ·refine .inr ⟨b,h1,h2,by omega,?_⟩
  rw [hg b (h.fs ⟨b,0,none⟩ (by rw [h1]))]; exact h4
theorem MW.congr {H' : AH} {ws : List Int} (h : MW F H p ws root) (hs : H.size ≤ H'.size) (hg : ∀ b,F b → H'.get b = H.get b) : MW F H' p ws root := by
 obtain ⟨s,E,h1,h2⟩ := h
 exact ⟨s,E,h1.congr hs hg,h2⟩
theorem MW.lt {ws : List Int} (h : MW F H p ws root) : Lt F H := by obtain ⟨s,E,h1,h2⟩ := h; exact h1.lt
theorem MW.keeps {H' : AH} {ws : List Int} (h : MW F H p ws root) (hk : qa H H') : MW F H' p ws root := h.congr hk.1 fun b hb => hk.2 b (h.lt b hb)
theorem MdAt.keeps {H' : AH} (h : MdAt F H p words s E root) (hk : qa H H') : MdAt F H' p words s E root := h.congr hk.1 fun b hb => hk.2 b (h.lt b hb)
def blkL (ws : List Int) : List Bk := (blocksN ws).getD []
def fitO (ws : List Int) (n : Int) : List Int := (fitsL (blkL ws) (needN n)).map fun i => offN (bkAt (blkL ws) i).1
theorem MW.blk {ws : List Int} (h : MR words (E.map (·.1)) ws) : blkL ws = blkX words (E.map (·.1)) := by unfold blkL; rw [h.blocks]; rfl
end
section
variable {H : AH}
theorem qal.s {x : Ex × Nat} {k : Int → AH → Prop} (hx : 0 ≤ x.1.1 ∧ x.1.1 ≤ 100000) (h : k ((x.1.1 + 1) * 8) H) : qal (exV x) H k := by
 refine gcI (j := .i64) ((x.1.1 + 1) * 8) (qal.link ?_) h
 unfold qal.b
 rw [qp]
 have hc : AH.cell? (H.push ⟨exV x,.rw,0⟩) (qlL ⟨H.size,0,none⟩ 0) = some (.int .i64 x.1.1) := by simp [qk,AH.cell?,qm,exV]
 rw [hc,qf,qg (n := x.1.1 + 1) (by omega) (by omega),qg (by omega) (by omega)]
 exact ⟨(qa.refl H).push _,rfl⟩
def toW (x : Ex × Nat) : Int × Int × Sl := (x.1.1,x.1.2.1,⟨some ⟨x.2,0,none⟩,x.1.2.2.length,1⟩)
def exW (x : Int × Int × Sl) : List Value := [.int .i64 x.1,.int .i64 x.2.1,x.2.2.val]
theorem qlc {α β : Type} {H : AH} {s : Sl} {z : Nat} {f : α → List Value} {g : β → List Value} {l : List α} (m : α → β) (hm : ∀ x,f x = g (m x)) (h : ql5 H s z f l) : ql5 H s z g (l.map m) := by
 refine ⟨by rw [qmt]; exact h.1,fun i x hi => ?_⟩
 rw [qlW,Option.map_eq_some_iff] at hi
 obtain ⟨y,hy,rfl⟩ := hi
 obtain ⟨a,h1,h2,h3,h4⟩ := h.2 i y hy
 exact ⟨a,h1,h2,h3,by rw [h4,hm]⟩
theorem qfU {x0 : Sl} {W : List (Int × Int × Sl)} {words : Int} {e : List Ex} {H : AH} {k : Sl → AH → Prop} (hr : ql5 H x0 3 exW W) (hw : mayW words) (hok : ExOK words 0 e)
  (hW : W.map (fun x => (x.1,x.2.1)) = e.map (fun x => (x.1,x.2.1)) ++ [(words,0)])
  (h : ∀ s H',qa H H' → Own H.size H' s 3 bkV (blkX words e) → k s H') : loopT (qx.l3 k x0) ((⟨none,0,0⟩,0,0) : Sl × Int × Int) H := by
 have hw' := hw
 unfold mayW at hw'
 have hWl : W.length = e.length + 1 := by have := congrArg qlY hW; simpa using this
 have hel : (e.length : Int) ≤ 512 := by
  have := (qgq hw hok).len
  have h2 : e.length ≤ (blkX words e).length := by
   have : ∀ (e : List Ex) (p : Int),e.length ≤ (bg p e).length := by
    intro e
    induction e with
    | nil => intro p; exact qmT _
    | cons x r ih => intro p; have := ih (x.1 + x.2.1); simp only [bg,ql0,ql7]; omega
   have := this e 0
   unfold blkX
   rw [ql7]; omega
  omega
 have hlen := (qgq hw hok).len
 refine qI (t := ((⟨none,0,0⟩,(0 : Int),(0 : Int)) : Sl × Int × Int)) (I := fun (t : Sl × Int × Int) H' => ∃ (i : Nat) (o : List Bk),t.2.2 = (i : Int) ∧ i ≤ e.length + 1 ∧ qa H H' ∧ Own H.size H' t.1 3 bkV o ∧ o.length ≤ 1000 ∧ (i ≤ e.length → o = bg 0 (e.take i) ∧ t.2.1 = endX 0 (e.take i)) ∧ (i = e.length + 1 → o = blkX words e)) (m := fun (t : Sl × Int × Int) _ => qlQ ((e.length : Int) + 1 - t.2.2)) ?_ ⟨0,[],rfl,by omega,qa.refl H,.inl ⟨rfl,rfl⟩,by simp,fun _ => ⟨rfl,rfl⟩,fun h => by omega⟩
 intro t H1 hI it hit
 obtain ⟨s,at',t2⟩ := t
 obtain ⟨i,o,e1,hi,hk,hO,hol,hA,hB⟩ := hI
 simp only at e1 hO hA
 subst e1
 unfold qx.l3
 simp only [qi,decide_eq_true_eq,hr.1,hWl]
 by_cases hlt : (i : Int) < ((e.length + 1 : Nat) : Int)
 rotate_left 1
 ·rw [if_neg hlt]
  have : i = e.length + 1 := by omega
  rw [hB this] at hO
  exact h _ _ hk hO
 rw [if_pos hlt]
 have hi' : i < W.length := by omega
 obtain ⟨b,ofs,ha,hb,hcells⟩ := qas (hr.keep hk) (by omega)
 refine ⟨by omega,?_⟩
 obtain ⟨hrow,_⟩ := hcells i W[i] (qlK hi')
 rw [ha,qd,qlP,ql hrow]
 obtain ⟨ho,hat⟩ := hA (by omega)
 -- the extent at hand
 have hx : (W[i].1,W[i].2.1) = ((e.map (fun x => (x.1,x.2.1)) ++ [(words,(0 : Int))])[i]'(by simp; omega)) := by
  have : (W.map (fun x => (x.1,x.2.1)))[i]? = some (W[i].1,W[i].2.1) := by rw [qlW,qlK hi']; rfl
  rw [hW,qlK (by simp; omega)] at this
  injection this with this
  exact this.symm
 generalize W[i] = q at *
 refine qbW (n := 3) rfl (by rfl) (by rfl) ?_
 have hq0 : AH.cell? (H1.push ⟨exW q,.rw,0⟩) (qlL ⟨H1.size,0,none⟩ 0) = some (.int .i64 q.1) := by simp [qk,AH.cell?,qm,exW]
 have hq1 : AH.cell? (H1.push ⟨exW q,.rw,0⟩) (qlL ⟨H1.size,0,none⟩ 1) = some (.int .i64 q.2.1) := by simp [qk,AH.cell?,qm,exW]
 have hqz : ((H1.push ⟨exW q,.rw,0⟩).get H1.size).esz = 0 := by simp [qm]
 have hk2 : qa H (H1.push ⟨exW q,.rw,0⟩) := hk.push _
 have hO2 : Own H.size (H1.push ⟨exW q,.rw,0⟩) s 3 bkV o := hO.keep (by simp [qe]) (fun b _ hb => qv (by omega))
 have hsz : H1.size < (H1.push ⟨exW q,.rw,0⟩).size := by simp [qe]
 have hh1 := hk.1
 generalize H1.push ⟨exW q,.rw,0⟩ = H2 at *
 -- bounds and what is to be
 have hmain : (0 ≤ at' ∧ at' ≤ q.1 ∧ q.1 ≤ 512 ∧ 0 ≤ q.2.1 ∧ q.2.1 ≤ 512) ∧ (∀ o',o' = (o ++ gapB at' q.1) ++ (if 0 < q.2.1 then [(q.1,q.2.1,true)] else []) → (i + 1 ≤ e.length → o' = bg 0 (e.take (i + 1)) ∧ q.1 + q.2.1 = endX 0 (e.take (i + 1))) ∧ (i + 1 = e.length + 1 → o' = blkX words e)) := by
  by_cases hie : i < e.length
  ·rw [List.getElem_append_left (by simpa using hie),List.getElem_map] at hx
   have hx1 : q.1 = e[i].1 := congrArg Prod.fst hx
   have hx2 : q.2.1 = e[i].2.1 := congrArg Prod.snd hx
   have hsp : e.take (i + 1) = e.take i ++ [e[i]] := by rw [qm6,qlK hie]; rfl
   have hp : ExPre words 0 (e.take (i + 1)) := by
    have := hok.1
    rw [← List.take_append_drop (i + 1) e] at this
    exact (qfs.1 this).1
   rw [hsp] at hp
   obtain ⟨hp1,hp2⟩ := qfs.1 hp
   obtain ⟨g1,g2,g3,_⟩ := hp2
   have := (qc0 hp1).1
   refine ⟨by omega,fun o' ho' => ⟨fun _ => ?_,fun h => by omega⟩⟩
   rw [hsp,bg_app,qep,ho',ho,hx1,hx2,hat,if_pos (by omega)]
   simp [bg,endX]
  ·have hie : i = e.length := by omega
   subst hie
   rw [List.getElem_append_right (by simp)] at hx
   simp only [qmt,Nat.sub_self,List.getElem_cons_zero] at hx
   have hx1 : q.1 = words := congrArg Prod.fst hx
   have hx2 : q.2.1 = 0 := congrArg Prod.snd hx
   rw [qmI] at ho hat
   have := (qc0 hok.1)
   have h2 := this.2 (by omega)
   refine ⟨by omega,fun o' ho' => ⟨fun h => by omega,fun _ => ?_⟩⟩
   rw [ho',ho,hx1,hx2,hat,if_neg (by omega),qm1]
   rfl
 obtain ⟨⟨r1,r2,r3,r4,r5⟩,hnext⟩ := hmain
 have hw1 : qlJ .i64 ((i : Int) + 1) = ((i + 1 : Nat) : Int) := by rw [qg (by omega) (by omega)]; omega
 -- j1
 have j1 : ∀ s' H',qa H H' → H2.size ≤ H'.size → Own H.size H' s' 3 bkV ((o ++ gapB at' q.1) ++ (if 0 < q.2.1 then [(q.1,q.2.1,true)] else [])) → H'.get H1.size = H2.get H1.size → qx.j1 (s,at',(i : Int)) it H1.size s' H' := by
  intro s' H' hk' hs' hO' hg
  unfold qx.j1
  have e0 : AH.cell? H' (qlL ⟨H1.size,0,none⟩ 0) = AH.cell? H2 (qlL ⟨H1.size,0,none⟩ 0) := by rw [qk]; simp only [AH.cell?,hg]
  have e1 : AH.cell? H' (qlL ⟨H1.size,0,none⟩ 1) = AH.cell? H2 (qlL ⟨H1.size,0,none⟩ 1) := by rw [qk]; simp only [AH.cell?,hg]
  rw [e0,hq0,qf,e1,hq1,qf,qg (n := q.1 + q.2.1) (by omega) (by omega)]
  show it (s',q.1 + q.2.1,qlJ .i64 ((i : Int) + 1)) H'
  rw [hw1]
  refine hit _ _ ⟨i + 1,_,rfl,by omega,hk',hO',?_,fun hle => ?_,fun hle => ?_⟩ (by simp only; omega)
  ·rcases Nat.lt_or_ge i e.length with hie | hie
   ·rw [((hnext _ rfl).1 (by omega)).1]
    have h2 : (bg 0 (e.take (i + 1))).length ≤ (blkX words e).length := by
     unfold blkX
     rw [ql7]
     have : bg 0 e = bg 0 (e.take (i + 1)) ++ bg (endX 0 (e.take (i + 1))) (e.drop (i + 1)) := by rw [← bg_app,List.take_append_drop]
     rw [this,ql7]; omega
    omega
   ·rw [(hnext _ rfl).2 (by omega)]; omega
  ·exact (hnext _ rfl).1 (by omega)
  ·exact (hnext _ rfl).2 (by omega)
 have j2 : ∀ s' H',qa H H' → H2.size ≤ H'.size → Own H.size H' s' 3 bkV (o ++ gapB at' q.1) → H'.get H1.size = H2.get H1.size → (∀ a,s'.a = some a → a.block ≠ H1.size) → qx.j2 (s,at',(i : Int)) it H1.size s' H' := by
  intro s' H' hk' hs' hO' hg hne
  unfold qx.j2
  have e0 : AH.cell? H' (qlL ⟨H1.size,0,none⟩ 0) = AH.cell? H2 (qlL ⟨H1.size,0,none⟩ 0) := by rw [qk]; simp only [AH.cell?,hg]
  have e1 : AH.cell? H' (qlL ⟨H1.size,0,none⟩ 1) = AH.cell? H2 (qlL ⟨H1.size,0,none⟩ 1) := by rw [qk]; simp only [AH.cell?,hg]
  rw [e1,hq1,qf]
  simp only [qi,decide_eq_true_eq]
  by_cases hz : q.2.1 > 0
  ·rw [if_pos hz,e0,hq0,qf,qf]
   refine ⟨rfl,?_⟩
   rw [qp]
   have hgl : (o ++ gapB at' q.1).length ≤ 1001 := by
    rw [ql7]
    have : (gapB at' q.1).length ≤ 1 := by unfold gapB; split <;> simp
    omega
   refine qbB (H0 := H) (B := H.size) (f := bkV) (x := (q.1,q.2.1,true)) bkV_len (bkV_ok _) hO' (qlS _) hk'.1 hk' (by simp only [lim]; omega) ?_
   intro s'' H'' hO'' hK' hs'' hfr
   refine j1 s'' H'' hK' (by omega) ?_ ?_
   ·rw [if_pos (show 0 < q.2.1 from hz)]; exact hO''
   ·rw [hfr H1.size (by omega) (fun a ha he => hne a ha he.symm)]; exact hg
  ·rw [if_neg hz]
   refine j1 s' H' hk' hs' ?_ hg
   rw [if_neg (show ¬ 0 < q.2.1 from hz),qm1]; exact hO'
 have hsne : ∀ a,s.a = some a → a.block ≠ H1.size := by
  intro a ha he
  rcases hO with ⟨h0,_⟩ | ⟨b',h0,_,hb',_⟩
  ·rw [h0] at ha; cases ha
  ·rw [h0] at ha
   injection ha with ha
   rw [← ha] at he
   simp only at he; omega
 rw [hq0,qf]
 by_cases hg : at' < q.1
 ·rw [if_pos hg,qf]
  refine ⟨rfl,?_⟩
  rw [qp,qg (n := q.1 - at') (by omega) (by omega)]
  refine qbB (H0 := H) (B := H.size) (f := bkV) (x := (at',q.1 - at',false)) bkV_len (bkV_ok _) hO2 (qlS _) hk2.1 hk2 (by simp only [lim]; omega) ?_
  intro s' H' hO' hK' hs' hfr
  refine j2 s' H' hK' hs' ?_ ?_ ?_
  ·unfold gapB; rw [if_pos hg]; exact hO'
  ·exact hfr H1.size hsz (fun a ha he => hsne a ha he.symm)
  ·intro a ha he
   rcases hO' with ⟨h0,_⟩ | ⟨b',h0,_,hb',hbg⟩
   ·rw [h0] at ha; cases ha
   ·rw [h0] at ha
    injection ha with ha
    rw [← ha] at he
    simp only at he
    subst he
    have h5 := hfr H1.size hsz (fun a ha he => hsne a ha he.symm)
    rw [hbg] at h5
    rw [← h5] at hqz
    simp at hqz
 ·rw [if_neg hg]
  refine j2 s H2 hk2 (qlS _) ?_ rfl hsne
  unfold gapB
  rw [if_neg hg,qm1]; exact hO2
end
def findX (off : Int) : List (Ex × Nat) → Nat → Int
 | [],_ => -1
 | x :: r,i => if (x.1.1 + 1) * 8 = off then (i : Int) else findX off r (i + 1)
theorem qf8 (off : Int) : ∀ (l : List (Ex × Nat)) (i : Nat),(findX off l i = -1 ∧ ∀ x ∈ l,(x.1.1 + 1) * 8 ≠ off) ∨
  ∃ e1 x e2,l = e1 ++ x :: e2 ∧ findX off l i = ((i + e1.length : Nat) : Int) ∧ (x.1.1 + 1) * 8 = off := by
 intro l
 induction l with
 | nil => intro i; exact .inl ⟨rfl,fun x hx => by cases hx⟩
 | cons x r ih =>
  intro i
  unfold findX
  split
  ·rename_i h; exact .inr ⟨[],x,r,rfl,rfl,h⟩
  ·rename_i h
   rcases ih (i + 1) with ⟨h1,h2⟩ | ⟨e1,y,e2,h1,h2,h3⟩
   ·refine .inl ⟨h1,fun y hy => ?_⟩
    rw [ql6] at hy
    rcases hy with rfl | hy
    ·exact h
    ·exact h2 y hy
   ·exact .inr ⟨x :: e1,y,e2,by rw [h1]; rfl,by rw [h2]; simp only [ql0]; omega,h3⟩
theorem qk6 {off : Int} : ∀ {l : List Bk} {i : Nat},isN off l i = -1 → ∀ b ∈ l,¬ (b.2.2 = true ∧ offN b.1 = off) := by
 intro l
 induction l with
 | nil => intro i _ b hb; cases hb
 | cons a r ih =>
  intro i h b hb
  unfold isN at h
  split at h
  ·omega
  ·rename_i hn
   rw [ql6] at hb
   rcases hb with rfl | hb
   ·exact hn
   ·exact ih h b hb
section
variable {words off : Int} {e e1 e2 : List Ex} {x : Ex} {ws : List Int}
theorem MR.offx (h : MR words e ws) (hx : x ∈ e) : offN x.1 = (x.1 + 1) * 8 := by
 have := h.mem hx
 have := h.range
 unfold offN; rw [if_pos (by omega)]
theorem MR.is_none (h : MR words e ws) (hn : ∀ x ∈ e,(x.1 + 1) * 8 ≠ off) : isN off (blkX words e) 0 = -1 := by
 rcases qd4 off (blkX words e) 0 with h0 | ⟨j,h1,h2,h3,h4⟩
 ·exact h0
 ·exfalso
  obtain ⟨x,hx,hb⟩ := qio (qlX (qaW h2)) h3
  rw [hb] at h4
  simp only at h4
  rw [h.offx hx] at h4
  exact hn x hx h4
theorem MR.is_at (h : MR words (e1 ++ x :: e2) ws) (ho : (x.1 + 1) * 8 = off) : isN off (blkX words (e1 ++ x :: e2)) 0 = (((bg 0 e1).length + (gapB (endX 0 e1) x.1).length : Nat) : Int) := by
 have hxm : x ∈ e1 ++ x :: e2 := by simp
 rcases qd4 off (blkX words (e1 ++ x :: e2)) 0 with h0 | ⟨j,h1,h2,h3,h4⟩
 ·exfalso
  exact qk6 h0 _ (qhX hxm) ⟨rfl,by simp only; rw [h.offx hxm]; exact ho⟩
 ·obtain ⟨e1',y,e2',hE,hj,hb⟩ := qgx (qaW h2) h3
  have hb' : bkAt (blkX words (e1 ++ x :: e2)) j = (y.1,y.2.1,true) := hb
  rw [hb'] at h4
  simp only at h4
  have hym : y ∈ e1 ++ x :: e2 := by rw [hE]; simp
  rw [h.offx hym] at h4
  obtain ⟨u1,u2,u3⟩ := ex_uniq h.ok.1 hE (show x.1 = y.1 by omega)
  rw [h1,hj,u1,u2]
  congr 1; omega
theorem MR.imgFree_none (h : MR words e ws) (hn : ∀ x ∈ e,(x.1 + 1) * 8 ≠ off) : imgFree ws off = ([],1) := by
 unfold imgFree
 rw [h.blocks]
 simp only
 rw [h.is_none hn,if_pos (by omega)]
theorem MR.imgFree_at (h : MR words (e1 ++ x :: e2) ws) (ho : (x.1 + 1) * 8 = off) : imgFree ws off = ([(endX 0 e1,wordN (startX words e2 - endX 0 e1) false)],0) := by
 unfold imgFree
 rw [h.blocks]
 simp only
 rw [h.is_at ho,if_neg (by omega),qlP]
 obtain ⟨m1,m2⟩ := qkl h.ok rfl
 rw [m1,m2]
theorem MR.within (h : MR words e ws) {n : Int} : withinN (blkX words e) off n ↔ 0 ≤ n ∧ n ≤ 448 ∧ ∃ x ∈ e,(x.1 + 1) * 8 ≤ off ∧ off + n ≤ (x.1 + x.2.1) * 8 := by
 unfold withinN inB
 constructor
 ·rintro ⟨h1,h2,b,hb,h3,h4,h5,h6⟩
  obtain ⟨x,hx,rfl⟩ := qio hb h3
  simp only at h4 h5 h6
  rw [h.offx hx] at h4
  exact ⟨h1,h2,x,hx,by omega⟩
 ·rintro ⟨h1,h2,x,hx,h3,h4⟩
  refine ⟨h1,h2,_,qhX hx,rfl,?_⟩
  simp only
  rw [h.offx hx]; omega
end
def aFree (ws : List Int) (root off : Int) : Int × List Int := if (imgFree ws off).2 ≠ 0 then ((imgFree ws off).2,ws) else if root = off then (5,ws) else (0,applyE ws (imgFree ws off).1)
def aWrite (ws : List Int) (off : Int) (bs : List Int) : Int × List Int := if (imgWrite ws off bs).2 = 0 then (0,applyE ws (imgWrite ws off bs).1) else ((imgWrite ws off bs).2,ws)
def aRoot (ws : List Int) (root off : Int) : Int × Int := if off ≠ 0 ∧ isN off (blkL ws) 0 < 0 then (1,root) else (0,off)
def aRead (ws : List Int) (off n : Int) : List Int × Int := if withinN (blkL ws) off n then (bytesOf ws off.toNat n.toNat,0) else ([],1)
section
variable {F : Nat → Prop} {H : AH} {p : Nat} {ws : List Int} {root : Int}
theorem qx.s {k : Sl → AH → Prop} (hM : MW F H p ws root) (h : ∀ s H',qa H H' → Own H.size H' s 3 bkV (blkL ws) → k s H') : qx (some ⟨p,0,none⟩) H k := by
 obtain ⟨s,E,hA,hR⟩ := hM
 refine qx.link ?_
 unfold qx.b
 have hrange := hR.range
 rw [qlZ,qc,qd,hA.c1,qag,qd,hA.c0,qf]
 refine ⟨rfl,?_⟩
 rw [qp]
 have hk1 := (qa.refl H).push ⟨[.int .i64 (ws.length : Int),.int .i64 0,.slice none 0 0],.rw,3⟩
 have hrows : ql5 H s 3 exW (E.map toW) := qlc toW (fun _ => rfl) hA.rows
 have hel : E.length ≤ 512 := by
  have h1 := hR.may.len
  have h2 : (E.map (·.1)).length ≤ (blkX ws.length (E.map (·.1))).length := by
   have : ∀ (e : List Ex) (p : Int),e.length ≤ (bg p e).length := by
    intro e
    induction e with
    | nil => intro p; exact qmT _
    | cons x r ih => intro p; have := ih (x.1 + x.2.1); simp only [bg,ql0,ql7]; omega
   have := this (E.map (·.1)) 0
   unfold blkX
   rw [ql7]; omega
  rw [qmt] at h2
  omega
 have hg1 : (H.push ⟨[.int .i64 (ws.length : Int),.int .i64 0,.slice none 0 0],.rw,3⟩).get H.size = ⟨exW ((ws.length : Int),0,⟨none,0,0⟩),.rw,3⟩ := by rw [qm,if_pos rfl]; rfl
 have hz1 : H.size < (H.push ⟨[.int .i64 (ws.length : Int),.int .i64 0,.slice none 0 0],.rw,3⟩).size := by simp [qe]
 generalize H.push ⟨[.int .i64 (ws.length : Int),.int .i64 0,.slice none 0 0],.rw,3⟩ = H1 at *
 refine qaT.s (f := exW) (l := E.map toW) (fun _ => rfl) (fun _ => rfl) (hrows.keep hk1) (by rw [qmt]; omega) ?_
 intro s13 H13 hk13 hO13
 have hk := hk1.trans hk13
 refine ⟨(hA.keeps hk).c0,?_⟩
 refine qfT (H0 := H) (B := H1.size) (l := E.map toW) (r := [((ws.length : Int),0,⟨none,0,0⟩)]) (f := exW) (fun _ => rfl) (fun _ => rfl) hO13 (qhK (fun _ => rfl) (fun _ => rfl) (by have := hk13.1; omega) (by rw [hk13.2 _ hz1,hg1])) (by have := hk1.1; omega) hk13.1 hk (qmM (by simp [lim]; omega) (limS_le 3)) ?_
 intro s20 H20 hO20 hk20 _ _
 refine qfU (hO20.rows (fun _ => rfl) (fun _ => rfl)) hR.mw hR.ok ?_ ?_
 ·simp [toW]
 ·intro s' H' hk' hO'
  refine h s' H' (hk20.trans hk') ?_
  rw [MW.blk hR]
  exact qbO hO' hk20.1
theorem MW.blen (hM : MW F H p ws root) : (blkL ws).length ≤ 256 ∧ ws.length ≤ 512 ∧ ∀ b ∈ blkL ws,0 ≤ b.1 ∧ b.1 + b.2.1 ≤ ws.length ∧ 2 ≤ b.2.1 := by
 obtain ⟨s,E,hA,hR⟩ := hM
 rw [MW.blk hR]
 have := hR.may.len
 refine ⟨by omega,by omega,fun b hb => ?_⟩
 have := hR.may.mem hb
 omega
theorem qhN {n : Int} : (fitO ws n).length ≤ (blkL ws).length := by
 unfold fitO fitsL
 rw [qmt]
 split
 ·exact qmT _
 ·exact qeW
theorem qae.s {n : Int} {k : Sl → AH → Prop} (hM : MW F H p ws root) (hn : isI n) (h : ∀ s H',qa H H' → Own H.size H' s 1 iV (fitO ws n) → k s H') : qae (some ⟨p,0,none⟩) n H k := by
 obtain ⟨hb1,hb2,hb3⟩ := hM.blen
 refine qae.link ?_
 unfold qae.b
 refine qx.s hM ?_
 intro s10 H10 hk10 hO10
 refine qbj.s hn ?_
 have hR10 := hO10.rows bkV_len bkV_ok
 refine qY.s hR10 (by omega) ?_
 intro s14 H14 hk14 hO14
 have hR14 := hO14.rows (fun _ => rfl) (fun _ => rfl)
 have hfl : (fitsL (blkL ws) (needN n)).length ≤ 256 := by
  have := qhN (ws := ws) (n := n)
  unfold fitO at this
  rw [qmt] at this; omega
 have hfm : ∀ i ∈ fitsL (blkL ws) (needN n),i < (blkL ws).length := by
  intro i hi
  unfold fitsL at hi
  split at hi
  ·cases hi
  ·exact (qdG hi).1
 unfold fitO at h
 generalize fitsL (blkL ws) (needN n) = fl at *
 refine qI (t := ((⟨none,0,0⟩,(0 : Int)) : Sl × Int)) (I := fun (t : Sl × Int) H' => ∃ i : Nat,t.2 = (i : Int) ∧ i ≤ fl.length ∧ qa H14 H' ∧ Own H14.size H' t.1 1 iV ((fl.take i).map fun i => offN (bkAt (blkL ws) i).1)) (m := fun (t : Sl × Int) _ => qlQ ((fl.length : Int) - t.2)) ?_ ⟨0,rfl,by omega,qa.refl H14,.inl ⟨rfl,rfl⟩⟩
 intro t H1 hI it hit
 obtain ⟨s,t2⟩ := t
 obtain ⟨i,e1,hi,hk,hO⟩ := hI
 simp only at e1 hO
 subst e1
 unfold qae.l1
 simp only [qi,decide_eq_true_eq,hR14.1]
 by_cases hlt : (i : Int) < (fl.length : Int)
 ·rw [if_pos hlt]
  have hi' : i < fl.length := by omega
  have hR14' := hR14.keep hk
  obtain ⟨b,o,ha,hb,hcells⟩ := qas hR14' (by omega)
  refine ⟨by omega,?_⟩
  have hc := (hcells i fl[i] (qlK hi')).2 0 _ rfl
  rw [qk,qk] at hc
  rw [ha,qd,qlP,qk,show AH.cell? H1 ⟨b,o + i * 1,none⟩ = _ from hc,qf]
  have hj := hfm fl[i] (ql1 hi')
  have hgj := qaW hj
  have hR10' := hR10.keep (hk14.trans hk)
  refine ⟨by rw [hR10.1]; omega,?_⟩
  obtain ⟨b2,o2,ha2,hb2',hcells2⟩ := qas hR10' (by omega)
  rw [ha2,qd,qlP,ql (hcells2 _ _ hgj).1]
  refine qba.s ?_
  rw [qp]
  refine qbB (H0 := H14) (B := H14.size) (f := iV) (x := offN (bkAt (blkL ws) fl[i]).1) (fun _ => rfl) rfl hO (qlS _) hk.1 hk (by rw [qmt,List.length_take]; simp only [lim]; omega) ?_
  intro s' H' hO' hk' _ _
  rw [qg (n := (i : Int) + 1) (by omega) (by omega)]
  refine hit _ _ ⟨i + 1,by simp,by omega,hk',?_⟩ (by simp only; omega)
  rw [qm6,qlK hi',qmz]
  exact hO'
 ·rw [if_neg hlt]
  have : i = fl.length := by omega
  subst this
  rw [qmI] at hO
  have hkk := (hk10.trans hk14)
  exact h _ _ (hkk.trans hk) (qbO hO hkk.1)
theorem qaF.s {x : Ex × Nat} {o : Nat} {off : Int} {k : Bool → AH → Prop} (hx : 0 ≤ x.1.1 ∧ x.1.1 ≤ 100000) (ho : o < H.size) (hc : AH.cell? H ⟨o,0,none⟩ = some (.int .i64 off)) (h : k ((x.1.1 + 1) * 8 == off) H) : qaF (exV x) (some ⟨o,0,none⟩) H k := by
 refine gcB ((x.1.1 + 1) * 8 == off) (qaF.link ?_) h
 unfold qaF.b
 rw [qp]
 have hk := (qa.refl H).push ⟨exV x,.rw,0⟩
 have hrow : AH.row? (H.push ⟨exV x,.rw,0⟩) ⟨H.size,0,none⟩ 3 = some (exV x) := row_new rfl rfl
 have hc' : AH.cell? (H.push ⟨exV x,.rw,0⟩) ⟨o,0,none⟩ = some (.int .i64 off) := by rw [← hc]; simp only [AH.cell?]; rw [qv (by omega)]
 generalize H.push ⟨exV x,.rw,0⟩ = H1 at *
 rw [ql hrow,qd,hc',qf]
 refine qal.s hx ?_
 exact ⟨hc',hk,rfl⟩
theorem qq.s {x0 : Sl} {E : List (Ex × Nat)} {o : Nat} {off : Int} {k : Int → AH → Prop} (hr : ql5 H x0 3 exV E) (hl : E.length ≤ 100000) (hE : ∀ x ∈ E,0 ≤ x.1.1 ∧ x.1.1 ≤ 100000) (ho : o < H.size) (hc : AH.cell? H ⟨o,0,none⟩ = some (.int .i64 off))
  (h : k (findX off E 0) H) : qq x0 (some ⟨o,0,none⟩) H k := by
 refine gcI (j := .i64) (findX off E 0) (qq.link ?_) h
 unfold qq.b
 refine qI (t := (((0 : Int),(0 : Int)) : Int × Int)) (I := fun (t : Int × Int) H' => ∃ i : Nat,t.2 = (i : Int) ∧ i ≤ E.length ∧ qa H H' ∧ findX off E 0 = findX off (E.drop i) i) (m := fun (t : Int × Int) _ => qlQ ((E.length : Int) - t.2)) ?_ ⟨0,rfl,by omega,qa.refl H,rfl⟩
 intro t H1 hI it hit
 obtain ⟨t1,t2⟩ := t
 obtain ⟨i,e1,hi,hk,he⟩ := hI
 simp only at e1
 subst e1
 unfold qq.l1
 simp only [qi,decide_eq_true_eq,hr.1]
 by_cases hlt : (i : Int) < (E.length : Int)
 ·rw [if_pos hlt]
  have hi' : i < E.length := by omega
  obtain ⟨b,ofs,ha,hb,hcells⟩ := qas (hr.keep hk) (by omega)
  refine ⟨by omega,?_⟩
  rw [ha,qd,qlP,ql (hcells i E[i] (qlK hi')).1]
  have hh1 := hk.1
  refine qaF.s (off := off) (hE _ (ql1 hi')) (by omega) (by rw [← hc]; simp only [AH.cell?]; rw [hk.2 o ho]) ?_
  rw [qdj hi'] at he
  simp only [findX] at he
  by_cases h1 : (E[i].1.1 + 1) * 8 = off
  ·rw [if_pos (by simpa using h1)]
   rw [if_pos h1] at he
   exact ⟨hk,he.symm⟩
  ·rw [if_neg (by simpa using h1)]
   rw [if_neg h1] at he
   rw [qg (n := (i : Int) + 1) (by omega) (by omega)]
   exact hit _ _ ⟨i + 1,by simp,by omega,hk,he⟩ (by simp only; omega)
 ·rw [if_neg hlt]
  have : i = E.length := by omega
  subst this
  rw [qm3] at he
  exact ⟨hk,he.symm⟩
theorem MdAt.elen {s : Sl} {E : List (Ex × Nat)} (hR : MR ws.length (E.map (·.1)) ws) : E.length ≤ 256 ∧ ∀ x ∈ E,0 ≤ x.1.1 ∧ x.1.1 + x.1.2.1 ≤ ws.length ∧ 2 ≤ x.1.2.1 ∧ ws.length ≤ 512 ∧ x.1.2.2.length = (x.1.2.1.toNat - 1) * 8 := by
 have h1 := hR.may.len
 have h2 : (E.map (·.1)).length ≤ (blkX ws.length (E.map (·.1))).length := by
  have : ∀ (e : List Ex) (p : Int),e.length ≤ (bg p e).length := by
   intro e
   induction e with
   | nil => intro p; exact qmT _
   | cons x r ih => intro p; have := ih (x.1 + x.2.1); simp only [bg,ql0,ql7]; omega
  have := this (E.map (·.1)) 0
  unfold blkX
  rw [ql7]; omega
 rw [qmt] at h2
 refine ⟨by omega,fun x hx => ?_⟩
 have hm : x.1 ∈ E.map (·.1) := qna hx
 have := hR.mem hm
 exact ⟨this.1,this.2.1,this.2.2,by omega,hR.blen hm⟩
theorem qaX.s {s : Sl} {E : List (Ex × Nat)} {off : Int} {k : Int → AH → Prop} (hA : MdAt F H p ws.length s E root) (hR : MR ws.length (E.map (·.1)) ws) (h : k (findX off E 0) H) : qaX (some ⟨p,0,none⟩) off H k := by
 refine gcI (j := .i64) (findX off E 0) (qaX.link ?_) h
 unfold qaX.b
 rw [qp]
 have hk := (qa.refl H).push ⟨[.int .i64 off],.rw,0⟩
 have hc : AH.cell? (H.push ⟨[.int .i64 off],.rw,0⟩) ⟨H.size,0,none⟩ = some (.int .i64 off) := by simp [AH.cell?,qm]
 have hz : H.size < (H.push ⟨[.int .i64 off],.rw,0⟩).size := by simp [qe]
 have hA' := hA.keeps hk
 generalize H.push ⟨[.int .i64 off],.rw,0⟩ = H1 at *
 rw [qlZ,qc,qd,hA'.c1,qag]
 obtain ⟨h1,h2⟩ := MdAt.elen (s := s) hR
 refine qq.s (E := E) hA'.rows (by omega) (fun x hx => by have := h2 x hx; omega) hz hc ?_
 exact ⟨hk,rfl⟩
theorem qh0 {E : List (Ex × Nat)} {off : Int} (hR : MR ws.length (E.map (·.1)) ws) : findX off E 0 < 0 ↔ isN off (blkL ws) 0 < 0 := by
 rw [MW.blk hR]
 rcases qf8 off E 0 with ⟨h1,h2⟩ | ⟨e1,x,e2,h1,h2,h3⟩
 ·rw [h1,hR.is_none (fun y hy => ?_)]
  rw [qml] at hy
  obtain ⟨z,hz,rfl⟩ := hy
  exact h2 z hz
 ·rw [h2]
  subst h1
  rw [qmz,qmv] at hR ⊢
  rw [hR.is_at h3]
  omega
theorem qbp.s {k : Int → AH → Prop} (hM : MW F H p ws root) (h : k root H) : qbp (some ⟨p,0,none⟩) H k := by
 obtain ⟨s,E,hA,hR⟩ := hM
 refine qbp.link ?_
 unfold qbp.b
 rw [qlZ,qc,qd,hA.c2,qf]
 exact h
theorem MdAt.put_root {s : Sl} {E : List (Ex × Nat)} {words r2 : Int} (hA : MdAt F H p words s E root) : H.canPut (qlL ⟨p,0,none⟩ 2) 1 ∧ MdAt F (H.put (qlL ⟨p,0,none⟩ 2) [.int .i64 r2]) p words s E r2 ∧ Up F H F (H.put (qlL ⟨p,0,none⟩ 2) [.int .i64 r2]) := by
 rw [qk]
 have hg : ∀ b,b ≠ p → (H.put ⟨p,0 + 2,none⟩ [.int .i64 r2]).get b = H.get b := fun b hb => by simp [AH.put,qu,hb]
 have hp : (H.put ⟨p,0 + 2,none⟩ [.int .i64 r2]).get p = ⟨[.int .i64 words,s.val,.int .i64 r2],.rw,0⟩ := by simp [AH.put,qu,hA.obj,setMany]
 refine ⟨⟨rfl,by simp [hA.obj],by simp [hA.obj]⟩,⟨hp,?_,fun x hx => by rw [hg _ (hA.nx x hx).1]; exact hA.bys x hx,hA.fp,hA.fs,hA.fx,hA.lt,hA.np,hA.nx,hA.nd⟩,⟨qlS _,fun b _ hn => hg b (fun hh => hn (hh ▸ hA.fp))⟩,fun _ hb => .inl hb⟩
 rcases hA.own with h0 | ⟨b,h1,h2,h3,h4⟩
 ·exact .inl h0
 ·refine .inr ⟨b,h1,h2,h3,?_⟩
  rw [hg b (hA.np ⟨b,0,none⟩ (by rw [h1]))]; exact h4
theorem qN.s {off : Int} {k : Int → AH → Prop} (hM : MW F H p ws root) (h : ∀ H',Up F H F H' → MW F H' p ws (aRoot ws root off).2 → k (aRoot ws root off).1 H') : qN (some ⟨p,0,none⟩) off H k := by
 obtain ⟨s,E,hA,hR⟩ := hM
 refine qN.link ?_
 unfold qN.b
 rw [qlZ,qc]
 have bad : off ≠ 0 ∧ isN off (blkL ws) 0 < 0 → qN.j1 (some ⟨p,0,none⟩) off k true H := by
  intro hb
  unfold qN.j1
  rw [qj]
  unfold aRoot at h
  rw [if_pos hb] at h
  exact h H (Up.refl H) ⟨s,E,hA,hR⟩
 have good : ¬ (off ≠ 0 ∧ isN off (blkL ws) 0 < 0) → qN.j1 (some ⟨p,0,none⟩) off k false H := by
  intro hb
  unfold qN.j1
  rw [qc,qd]
  unfold aRoot at h
  rw [if_neg hb] at h
  obtain ⟨h1,h2,h3⟩ := hA.put_root (r2 := off)
  exact ⟨h1,h _ h3 ⟨s,E,h2,hR⟩⟩
 rw [qi]
 by_cases h0 : off = 0
 ·rw [if_neg (by simpa using h0)]
  exact good (fun hh => hh.1 h0)
 ·rw [if_pos (by simpa using h0)]
  refine qaX.s hA hR ?_
  by_cases hf : findX off E 0 < 0
  ·rw [decide_eq_true hf]; exact bad ⟨h0,(qh0 hR).1 hf⟩
  ·rw [decide_eq_false hf]; exact good (fun hh => hf ((qh0 hR).2 hh.2))
end
def ExAt (H : AH) (o : Nat) (x : Ex × Nat) : Prop := ∃ e,H.get o = ⟨exV x,.rw,e⟩
section
variable {H : AH} {o : Nat} {x : Ex × Nat}
theorem ExAt.c2 (h : ExAt H o x) : AH.cell? H (qlL ⟨o,0,none⟩ 2) = some (.slice (some ⟨x.2,0,none⟩) x.1.2.2.length 1) := by obtain ⟨e,h⟩ := h; simp [qk,AH.cell?,h,exV]
theorem ExAt.row (h : ExAt H o x) : AH.row? H ⟨o,0,none⟩ 3 = some (exV x) := by
 obtain ⟨e,h⟩ := h
 simp only [AH.row?,h,ql4,qlU,if_false]
 rw [if_neg (by simp)]
 rfl
theorem ExAt.new {e : Nat} : ExAt (H.push ⟨exV x,.rw,e⟩) H.size x := ⟨e,by rw [qm,if_pos rfl]⟩
end
section
variable {F : Nat → Prop} {H : AH} {p : Nat} {ws : List Int} {root : Int}
def hitX (off n : Int) (x : Ex × Nat) : Prop := (x.1.1 + 1) * 8 ≤ off ∧ off + n ≤ (x.1.1 + x.1.2.1) * 8
instance {off n : Int} {x : Ex × Nat} : Decidable (hitX off n x) := by unfold hitX; infer_instance
theorem qeS {E : List (Ex × Nat)} {off n : Int} (hR : MR ws.length (E.map (·.1)) ws) : withinN (blkL ws) off n ↔ 0 ≤ n ∧ n ≤ 448 ∧ ∃ x ∈ E,hitX off n x := by
 rw [MW.blk hR,hR.within]
 constructor
 ·rintro ⟨h1,h2,x,hx,h3⟩
  rw [qml] at hx
  obtain ⟨y,hy,rfl⟩ := hx
  exact ⟨h1,h2,y,hy,h3⟩
 ·rintro ⟨h1,h2,x,hx,h3⟩
  exact ⟨h1,h2,x.1,qna hx,h3⟩
theorem qA.s {s : Sl} {E : List (Ex × Nat)} {off n : Int} {k : Sl → Int → AH → Prop} (hA : MdAt F H p ws.length s E root) (hR : MR ws.length (E.map (·.1)) ws) (hoff : isI off) (hn : isI n)
  (h0 : ¬ withinN (blkL ws) off n → ∀ H',qa H H' → k ⟨none,0,0⟩ 1 H')
  (h1 : ∀ e1 x e2,E = e1 ++ x :: e2 → 0 ≤ n → n ≤ 448 → hitX off n x → ∀ H',qa H H' → k ⟨some ⟨x.2,(off - (x.1.1 + 1) * 8).toNat,none⟩,n.toNat,0⟩ 0 H') : qA (some ⟨p,0,none⟩) off n H k := by
 rw [qeS hR] at h0
 unfold isI at hoff hn
 refine qA.link ?_
 unfold qA.b
 rw [qlZ,qc]
 have bad : ¬ (0 ≤ n ∧ n ≤ 448) → qA.j3 (some ⟨p,0,none⟩) off n H k true := by
  intro hb
  unfold qA.j3
  rw [qj]
  exact h0 (fun hh => hb ⟨hh.1,hh.2.1⟩) H (qa.refl H)
 by_cases hn0 : n < 0
 ·rw [decide_eq_true hn0,qj]; exact bad (by omega)
 rw [decide_eq_false hn0,qc]
 by_cases hn1 : n > 448
 ·rw [decide_eq_true hn1]; exact bad (by omega)
 rw [decide_eq_false hn1]
 unfold qA.j3
 rw [qc,qd,hA.c1,qag]
 obtain ⟨hel,hex⟩ := MdAt.elen (s := s) hR
 have hr := hA.rows
 show loopT (qA.l2 off n k s) ((⟨none,0,0⟩,0,0) : Sl × Int × Int) H
 refine qI (t := ((⟨none,0,0⟩,(0 : Int),(0 : Int)) : Sl × Int × Int)) (I := fun (t : Sl × Int × Int) H' => ∃ i : Nat,t.2.2 = (i : Int) ∧ i ≤ E.length ∧ qa H H' ∧ ∀ x ∈ E.take i,¬ hitX off n x) (m := fun (t : Sl × Int × Int) _ => qlQ ((E.length : Int) - t.2.2)) ?_ ⟨0,rfl,by omega,qa.refl H,fun x hx => by simp at hx⟩
 intro t H1 hI it hit
 obtain ⟨t0,t1,t2⟩ := t
 obtain ⟨i,e1,hi,hk,hno⟩ := hI
 simp only at e1
 subst e1
 unfold qA.l2
 simp only [qi,decide_eq_true_eq,hr.1]
 by_cases hlt : (i : Int) < (E.length : Int)
 rotate_left 1
 ·rw [if_neg hlt]
  have : i = E.length := by omega
  subst this
  rw [qmI] at hno
  exact h0 (fun ⟨_,_,x,hx,hh⟩ => hno x hx hh) H1 hk
 rw [if_pos hlt]
 have hi' : i < E.length := by omega
 obtain ⟨b,ofs,ha,hb,hcells⟩ := qas (hr.keep hk) (by omega)
 refine ⟨by omega,?_⟩
 rw [ha,qd,qlP,ql (hcells i E[i] (qlK hi')).1]
 have hq := hex E[i] (ql1 hi')
 have hsp : E = E.take i ++ E[i] :: E.drop (i + 1) := by rw [← qdj hi',List.take_append_drop]
 have hnext : ¬ hitX off n E[i] → ∀ x ∈ E.take (i + 1),¬ hitX off n x := by
  intro hh x hx
  rw [qm6,qlK hi'] at hx
  rw [ql2] at hx
  rcases hx with hx | hx
  ·exact hno x hx
  ·simp at hx; subst hx; exact hh
 generalize E[i] = q at *
 refine qbW (n := 3) rfl (exV_len q) (exV_ok q) ?_
 have hB : ExAt (H1.push ⟨exV q,.rw,0⟩) H1.size q := ExAt.new
 have hk2 : qa H (H1.push ⟨exV q,.rw,0⟩) := hk.push _
 generalize H1.push ⟨exV q,.rw,0⟩ = H2 at *
 rw [ql hB.row]
 refine qal.s (by omega) ?_
 have hw1 : qlJ .i64 ((i : Int) + 1) = ((i + 1 : Nat) : Int) := by rw [qg (by omega) (by omega)]; omega
 have j1f : ¬ hitX off n q → qA.j1 off n k (t0,t1,(i : Int)) it H1.size false H2 := by
  intro hh
  unfold qA.j1
  rw [qc]
  show it (t0,t1,qlJ .i64 ((i : Int) + 1)) H2
  rw [hw1]
  exact hit _ _ ⟨i + 1,rfl,by omega,hk2,hnext hh⟩ (by simp only; omega)
 by_cases hg : off ≥ (q.1.1 + 1) * 8
 rotate_left 1
 ·rw [if_neg hg]
  exact j1f (fun hh => hg hh.1)
 rw [if_pos hg,ql hB.row,hB.c2,qag]
 refine qal.s (by omega) ?_
 refine ⟨hB.c2,?_⟩
 have hln : (q.1.2.2.length : Int) = (q.1.2.1 - 1) * 8 := by omega
 rw [qg (n := (q.1.1 + 1) * 8 + ((q.1.2.2.length : Nat) : Int)) (by omega) (by omega),qg (by omega) (by omega)]
 by_cases hg2 : off ≤ (q.1.1 + 1) * 8 + (q.1.2.2.length : Int) - n
 rotate_left 1
 ·rw [decide_eq_false hg2]
  exact j1f (fun hh => hg2 (by have := hh.2; omega))
 rw [decide_eq_true hg2]
 unfold qA.j1
 rw [qj,ql hB.row]
 refine qal.s (by omega) ?_
 rw [hB.c2,qag]
 have hh : hitX off n q := ⟨hg,by omega⟩
 rw [qg (n := off - (q.1.1 + 1) * 8) (by omega) (by omega),qg (n := off - (q.1.1 + 1) * 8 + n) (by omega) (by omega)]
 refine ⟨by simp only; omega,?_⟩
 have := h1 _ q _ hsp (by omega) (by omega) hh H2 hk2
 simp only [qmi,qk,ql3,Nat.mul_one]
 rw [show (off - (q.1.1 + 1) * 8 + n).toNat - (off - (q.1.1 + 1) * 8).toNat = n.toNat by omega]
 exact this
theorem qgN {s : Sl} {E : List (Ex × Nat)} {words : Int} {x : Ex × Nat} {a n : Nat} (hA : MdAt F H p words s E root) (hx : x ∈ E) (hn : a + n ≤ x.1.2.2.length) : ql5 H ⟨some ⟨x.2,a,none⟩,n,0⟩ 1 bU ((x.1.2.2.drop a).take n) := by
 have hb := hA.bys x hx
 refine ⟨by simp; omega,fun i y hi => ⟨_,rfl,rfl,hA.lt _ (hA.fx x hx),?_⟩⟩
 rw [qmr] at hi
 split at hi
 ·rename_i hin
  rw [qmo] at hi
  have hr := qge (f := bU) (z := 1) (fun _ => rfl) x.1.2.2 (a + i) y hi
  rw [Nat.mul_one] at hr
  simp only [AH.row?,hb,ql4,qlU,if_false]
  have hl : (x.1.2.2.flatMap bU).length = x.1.2.2.length := by rw [qcQ (f := bU) (z := 1) (fun _ => rfl),Nat.mul_one]
  rw [if_neg (by simp),Nat.mul_one,hr,if_pos ⟨by rw [hl]; omega,rfl⟩]
 ·cases hi
theorem qh9 {ws : List Int} {o m a n : Nat} (h : a + n ≤ m) : ((bytesOf ws o m).drop a).take n = bytesOf ws (o + a) n := by
 unfold bytesOf
 apply qmc
 intro i
 rw [qmr]
 by_cases hi : i < n
 ·rw [if_pos hi,qmo,qlW,qlW,qmh (by omega),qmh hi,qmi,qmi]
  congr 2; omega
 ·rw [if_neg hi,qlR (by simp; omega)]
theorem qbm.s {off n : Int} {k : Sl → Int → AH → Prop} (hM : MW F H p ws root) (hoff : isI off) (hn : isI n)
  (h : ∀ s H',qa H H' → Own H.size H' s 1 bU (aRead ws off n).1 → k s (aRead ws off n).2 H') : qbm (some ⟨p,0,none⟩) off n H k := by
 obtain ⟨s,E,hA,hR⟩ := hM
 refine qbm.link ?_
 unfold qbm.b
 unfold aRead at h
 refine qA.s hA hR hoff hn ?_ ?_
 ·intro hw H' hk
  rw [if_neg hw] at h
  refine qad.s (bs := []) qbM (by simp) ?_
  intro s' H2 hk2 hO2
  exact h s' H2 (hk.trans hk2) (qbO hO2 hk.1)
 ·intro e1 x e2 hE hn0 hn1 hh H' hk
  have hxm : x ∈ E := by rw [hE]; simp
  rw [if_pos ((qeS hR).2 ⟨hn0,hn1,x,hxm,hh⟩)] at h
  obtain ⟨_,hex⟩ := MdAt.elen (s := s) hR
  have hq := hex x hxm
  have hh1 := hh.1
  have hh2 := hh.2
  refine qad.s (qgN (hA.keeps hk) hxm (a := (off - (x.1.1 + 1) * 8).toNat) (n := n.toNat) (by omega)) (by simp; omega) ?_
  intro s' H2 hk2 hO2
  refine h s' H2 (hk.trans hk2) (qbO ?_ hk.1)
  rw [hR.by8 x.1 (qna hxm),qh9 (by omega)] at hO2
  rw [show (x.1.1.toNat + 1) * 8 + (off - (x.1.1 + 1) * 8).toNat = off.toNat by omega] at hO2
  exact hO2
end
section
variable {F : Nat → Prop} {H : AH} {p : Nat} {ws : List Int} {root words : Int}
theorem MdAt.put_ext {H1 : AH} {s s' : Sl} {E' : List (Ex × Nat)} {G : Nat → Prop} (hobj : H1.get p = ⟨[.int .i64 words,s.val,.int .i64 root],.rw,0⟩) (hown : Own 0 H1 s' 3 exV E')
  (hbys : ∀ x ∈ E',H1.get x.2 = ⟨x.1.2.2.flatMap bU,.rw,1⟩) (hp : G p) (hs : ∀ a,s'.a = some a → G a.block) (hx : ∀ x ∈ E',G x.2) (hlt : Lt G H1) (hnd : (E'.map (·.2)).Nodup) :
  H1.canPut (qlL ⟨p,0,none⟩ 1) 1 ∧ MdAt G (H1.put (qlL ⟨p,0,none⟩ 1) [s'.val]) p words s' E' root ∧ ∀ b,b ≠ p → (H1.put (qlL ⟨p,0,none⟩ 1) [s'.val]).get b = H1.get b := by
 rw [qk]
 have hg : ∀ b,b ≠ p → (H1.put ⟨p,0 + 1,none⟩ [s'.val]).get b = H1.get b := fun b hb => by simp [AH.put,qu,hb]
 have hgp : (H1.put ⟨p,0 + 1,none⟩ [s'.val]).get p = ⟨[.int .i64 words,s'.val,.int .i64 root],.rw,0⟩ := by simp [AH.put,qu,hobj,setMany]
 have hnp : ∀ a,s'.a = some a → a.block ≠ p := by
  intro a ha he
  rcases hown with ⟨h0,_⟩ | ⟨b,h0,_,_,h4⟩
  ·rw [h0] at ha; cases ha
  ·rw [h0] at ha
   injection ha with ha
   subst ha
   simp only at he
   subst he
   rw [hobj] at h4
   simp at h4
 have hnx : ∀ x ∈ E',x.2 ≠ p ∧ ∀ a,s'.a = some a → a.block ≠ x.2 := by
  intro x hx
  refine ⟨fun he => ?_,fun a ha he => ?_⟩
  ·have := hbys x hx
   rw [he,hobj] at this
   simp at this
  ·rcases hown with ⟨h0,_⟩ | ⟨b,h0,_,_,h4⟩
   ·rw [h0] at ha; cases ha
   ·rw [h0] at ha
    injection ha with ha
    subst ha
    simp only at he
    subst he
    rw [hbys x hx] at h4
    simp at h4
 refine ⟨⟨rfl,by simp [hobj],by simp [hobj]⟩,⟨hgp,?_,fun x hx => by rw [hg _ (hnx x hx).1]; exact hbys x hx,hp,hs,hx,hlt,hnp,hnx,hnd⟩,hg⟩
 rcases hown with h0 | ⟨b,h1,h2,h3,h4⟩
 ·exact .inl h0
 ·refine .inr ⟨b,h1,h2,h3,?_⟩
  rw [hg b (hnp ⟨b,0,none⟩ (by rw [h1]))]; exact h4
theorem MdAt.pne {s : Sl} {E : List (Ex × Nat)} (hA : MdAt F H p words s E root) : ∀ a,s.a = some a → p ≠ a.block := fun a ha he => hA.np a ha he.symm
theorem qbo.s {off : Int} {k : Int → AH → Prop} (hM : MW F H p ws root) (h : ∀ F' H',Up F H F' H' → MW F' H' p (aFree ws root off).2 root → k (aFree ws root off).1 H') : qbo (some ⟨p,0,none⟩) off H k := by
 obtain ⟨s,E,hA,hR⟩ := hM
 refine qbo.link ?_
 unfold qbo.b
 refine qaX.s hA hR ?_
 obtain ⟨hel,hex⟩ := MdAt.elen (s := s) hR
 unfold aFree at h
 rcases qf8 off E 0 with ⟨h1,h2⟩ | ⟨e1,x,e2,hE,h2,h3⟩
 ·rw [h1,decide_eq_true (by omega),qj]
  have himg : imgFree ws off = ([],1) := hR.imgFree_none fun y hy => by
   rw [qml] at hy
   obtain ⟨z,hz,rfl⟩ := hy
   exact h2 z hz
  rw [himg] at h
  exact h F H (Up.refl H) ⟨s,E,hA,hR⟩
 ·rw [h2,decide_eq_false (by omega),qc,qd,hA.c2,qf,qi]
  have hR' := hR
  rw [hE,qmz,qmv] at hR'
  have himg := hR'.imgFree_at (off := off) h3
  rw [himg] at h
  simp only [ne_eq,not_true_eq_false,if_false] at h
  by_cases hr : root = off
  ·rw [if_pos (by simpa using hr)]
   rw [if_pos hr] at h
   exact h F H (Up.refl H) ⟨s,E,hA,hR⟩
  rw [if_neg (by simpa using hr)]
  rw [if_neg hr] at h
  rw [qd,hA.c1,qag,ql3]
  have hlen : e1.length < E.length := by rw [hE]; simp
  rw [qg (n := (e1.length : Int) + 1) (by omega) (by omega)]
  refine qcs.s (B := 0) exV_len exV_ok hA.own hlen (by omega) ?_
  intro s' H' hO' hs' hfr
  have hEr : E.eraseIdx e1.length = e1 ++ e2 := by
   rw [hE,List.eraseIdx_append_of_length_le (qlS _),Nat.sub_self]; rfl
  rw [hEr] at hO'
  have hsub : ∀ y ∈ e1 ++ e2,y ∈ E := by
   intro y hy
   rw [hE]; simp at hy ⊢
   rcases hy with hy | hy
   ·exact .inl hy
   ·exact .inr (.inr hy)
  rw [qd]
  have hplt := hA.lt p hA.fp
  obtain ⟨p1,p2,p3⟩ := MdAt.put_ext (G := fun b => F b ∨ (H.size ≤ b ∧ b < H'.size)) (root := root) (words := (ws.length : Int)) (p := p) (s := s) (H1 := H') (E' := e1 ++ e2) (s' := s') (by rw [hfr p hplt hA.pne]; exact hA.obj) (qbO hO' (by omega))
   (fun y hy => by rw [hfr y.2 (hA.lt _ (hA.fx y (hsub y hy))) (fun a ha he => (hA.nx y (hsub y hy)).2 a ha he.symm)]; exact hA.bys y (hsub y hy))
   (.inl hA.fp) (fun a ha => by
    rcases hO' with ⟨h0,_⟩ | ⟨b,h0,h5,h6,_⟩
    ·rw [h0] at ha; cases ha
    ·rw [h0] at ha
     injection ha with ha
     subst ha
     exact .inr ⟨h5,h6⟩) (fun y hy => .inl (hA.fx y (hsub y hy)))
   (fun b hb => by
    rcases hb with hb | hb
    ·have := hA.lt b hb; omega
    ·exact hb.2)
   (by
    have := hA.nd
    rw [hE,qmz,qmv] at this
    rw [qmz]
    exact this.sublist (List.Sublist.append (List.Sublist.refl _) (List.sublist_cons_self _ _)))
  refine ⟨p1,?_⟩
  refine h (fun b => F b ∨ (H.size ≤ b ∧ b < H'.size)) _ ⟨⟨hs',fun b hb hn => ?_⟩,fun b hb => hb⟩ ⟨s',e1 ++ e2,?_,?_⟩
  ·rw [p3 b (fun he => hn (he ▸ hA.fp)),hfr b hb (fun a ha he => hn (he ▸ hA.fs a ha))]
  ·rw [qac]; exact p2
  ·rw [qac,qmz]
   exact hR'.free
theorem flat_bU (l : List Int) : l.flatMap bU = l.map (fun v => qlI .u8 v) := by
 induction l with
 | nil => rfl
 | cons a r ih => rw [qmn,ih]; rfl
theorem qhG {l bs : List Int} {a : Nat} (h : a + bs.length ≤ l.length) : setMany (l.flatMap bU) a (bs.flatMap bU) = (putL l a bs).flatMap bU := by
 rw [flat_bU,flat_bU,flat_bU]
 apply qmc
 intro i
 rw [qb5 _ _ _ _ (by simp; omega),qlW,qlW,qlW,qhU h,qmt]
 split <;> rfl
theorem MdAt.put_bytes {s : Sl} {e1 e2 : List (Ex × Nat)} {x : Ex × Nat} {a : Nat} {bs : List Int} (hA : MdAt F H p words s (e1 ++ x :: e2) root) (h : a + bs.length ≤ x.1.2.2.length) :
  H.canPut ⟨x.2,a,none⟩ (bs.flatMap bU).length ∧ MdAt F (H.put ⟨x.2,a,none⟩ (bs.flatMap bU)) p words s (e1 ++ ((x.1.1,x.1.2.1,putL x.1.2.2 a bs),x.2) :: e2) root ∧ Up F H F (H.put ⟨x.2,a,none⟩ (bs.flatMap bU)) := by
 have hxm : x ∈ e1 ++ x :: e2 := by simp
 have hb := hA.bys x hxm
 have hl1 : ∀ l : List Int,(l.flatMap bU).length = l.length := fun l => by rw [flat_bU,qmt]
 have hg : ∀ b,b ≠ x.2 → (H.put ⟨x.2,a,none⟩ (bs.flatMap bU)).get b = H.get b := fun b hb => by simp [AH.put,qu,hb]
 have hgx : (H.put ⟨x.2,a,none⟩ (bs.flatMap bU)).get x.2 = ⟨(putL x.1.2.2 a bs).flatMap bU,.rw,1⟩ := by
  simp only [AH.put,qu,if_true,hb]
  rw [qhG h]
 have hnd := hA.nd
 rw [qmz,qmv,List.nodup_append,List.nodup_cons] at hnd
 obtain ⟨n1,⟨n2,n3⟩,n4⟩ := hnd
 have hmap : (e1 ++ ((x.1.1,x.1.2.1,putL x.1.2.2 a bs),x.2) :: e2).map (·.2) = (e1 ++ x :: e2).map (·.2) := by simp
 have hfl : (e1 ++ ((x.1.1,x.1.2.1,putL x.1.2.2 a bs),x.2) :: e2).flatMap exV = (e1 ++ x :: e2).flatMap exV := by
  simp only [qmP,qmn]
  congr 2
  simp only [exV,qlb h]
 have hmem : ∀ y ∈ e1 ++ ((x.1.1,x.1.2.1,putL x.1.2.2 a bs),x.2) :: e2,(y = ((x.1.1,x.1.2.1,putL x.1.2.2 a bs),x.2)) ∨ (y ∈ e1 ++ x :: e2 ∧ y.2 ≠ x.2) := by
  intro y hy
  rw [ql2,ql6] at hy
  rcases hy with hy | hy | hy
  ·refine .inr ⟨by simp [hy],fun he => ?_⟩
   exact n4 y.2 (qna hy) x.2 (by simp) he
  ·exact .inl hy
  ·refine .inr ⟨by simp [hy],fun he => n2 ?_⟩
   rw [← he]; exact qna hy
 refine ⟨⟨rfl,by simp [hb],by simp only [hb,hl1]; omega⟩,⟨by rw [hg p (fun he => (hA.nx x hxm).1 he.symm)]; exact hA.obj,?_,fun y hy => ?_,hA.fp,hA.fs,fun y hy => ?_,hA.lt,hA.np,fun y hy => ?_,by rw [hmap]; exact hA.nd⟩,⟨qlS _,fun b _ hn => hg b (fun he => hn (he ▸ hA.fx x hxm))⟩,fun b hb => .inl hb⟩
 ·rcases hA.own with ⟨_,h0⟩ | ⟨b,h1,h2,h3,h4⟩
  ·simp at h0
  ·refine .inr ⟨b,by rw [h1]; simp,h2,h3,?_⟩
   rw [hg b ((hA.nx x hxm).2 ⟨b,0,none⟩ (by rw [h1])),h4,hfl]
 ·rcases hmem y hy with rfl | ⟨h1,h2⟩
  ·exact hgx
  ·rw [hg _ h2]; exact hA.bys y h1
 ·rcases hmem y hy with rfl | ⟨h1,h2⟩
  ·exact hA.fx x hxm
  ·exact hA.fx y h1
 ·rcases hmem y hy with rfl | ⟨h1,h2⟩
  ·exact hA.nx x hxm
  ·exact hA.nx y h1
theorem qhv {off : Int} {bs : List Int} {E : List (Ex × Nat)} (hR : MR ws.length (E.map (·.1)) ws) (hw : withinN (blkL ws) off bs.length) : aWrite ws off bs = (0,putBs ws off.toNat bs) := by
 unfold aWrite imgWrite
 have hb := hR.blocks
 have he : blkL ws = blkX ws.length (E.map (·.1)) := MW.blk hR
 rw [hb]
 rw [he] at hw
 simp only
 rw [if_pos hw]
 simp only [if_true]
 have hin := qc7 hR.may hw
 unfold inside at hin
 rw [qit (by omega)]
theorem qg0 {off : Int} {bs : List Int} {E : List (Ex × Nat)} (hR : MR ws.length (E.map (·.1)) ws) (hw : ¬ withinN (blkL ws) off bs.length) : aWrite ws off bs = (1,ws) := by
 unfold aWrite imgWrite
 have hb := hR.blocks
 have he : blkL ws = blkX ws.length (E.map (·.1)) := MW.blk hR
 rw [hb]
 rw [he] at hw
 simp only
 rw [if_neg hw]
 simp
theorem qbd.s {off : Int} {x2 : Sl} {bs : List Int} {k : Int → AH → Prop} (hM : MW F H p ws root) (hoff : isI off) (hb : ql5 H x2 1 bU bs) (h8 : qam bs) (hbl : bs.length ≤ 1000000000000000)
  (h : ∀ F' H',Up F H F' H' → MW F' H' p (aWrite ws off bs).2 root → k (aWrite ws off bs).1 H') : qbd (some ⟨p,0,none⟩) off x2 H k := by
 obtain ⟨s,E,hA,hR⟩ := hM
 refine qbd.link ?_
 unfold qbd.b
 rw [hb.1]
 refine qA.s hA hR hoff (by unfold isI; omega) ?_ ?_
 ·intro hw H' hk
  rw [qg0 hR hw] at h
  show copyC 1 H' ⟨none,0,0⟩ x2 _
  unfold copyC
  rw [if_pos (by simp only [Nat.min_def]; split <;> omega)]
  exact h F H' ⟨qa.kp hk,fun b hb => .inl hb⟩ ⟨s,E,hA.keeps hk,hR⟩
 ·intro e1 x e2 hE hn0 hn1 hh H' hk
  have hxm : x ∈ E := by rw [hE]; simp
  rw [qhv hR ((qeS hR).2 ⟨hn0,hn1,x,hxm,hh⟩)] at h
  obtain ⟨_,hex⟩ := MdAt.elen (s := s) hR
  have hq := hex x hxm
  have hh1 := hh.1
  have hh2 := hh.2
  have hA' := hA.keeps hk
  unfold copyC
  have hmin : Nat.min x2.n (((bs.length : Nat) : Int)).toNat = bs.length := by rw [hb.1]; simp only [Nat.min_def,qlP]; split <;> omega
  simp only [hmin]
  by_cases h0 : bs.length = 0
  ·rw [if_pos h0]
   have : bs = [] := List.length_eq_zero_iff.1 h0
   subst this
   exact h F H' ⟨qa.kp hk,fun b hb => .inl hb⟩ ⟨s,E,hA',hR⟩
  rw [if_neg h0]
  have hrow := qeB (f := bU) (z := 1) (fun _ => rfl) (fun _ => rfl) (s := ⟨x2.a,bs.length,x2.k⟩) (l := bs) ⟨rfl,(hb.keep hk).2⟩
  refine ⟨_,hrow,?_⟩
  rw [qd]
  have hEE := hE
  subst hE
  obtain ⟨c1,c2,c3⟩ := hA'.put_bytes (a := (off - (x.1.1 + 1) * 8).toNat) (bs := bs) (by omega)
  refine ⟨c1,?_⟩
  rw [qmz,qmv] at hR
  have hw := hR.write (off := off.toNat) h8 (by omega) (by omega)
  refine h F _ (Up.of_keeps hk c3) ⟨s,_,by rw [qcG]; exact c2,?_⟩
  rw [qcG,qmz,qmv]
  rw [show off.toNat - (x.1.1.toNat + 1) * 8 = (off - (x.1.1 + 1) * 8).toNat by omega] at hw
  exact hw
end
def fitI (ws : List Int) (n : Int) : List Nat := fitsL (blkL ws) (needN n)
def aAlloc (ws : List Int) (n off : Int) : Bool × List Int :=
 match (fitI ws n).find? (fun i => offN (bkAt (blkL ws) i).1 == off) with
 | some i => (true,applyE ws (carveE (bkAt (blkL ws) i) (needN n)))
 | none => (false,ws)
theorem qek (ws : List Int) (n off : Int) : (off ∉ fitO ws n ∧ aAlloc ws n off = (false,ws)) ∨
  (off ∈ fitO ws n ∧ ∃ i,i ∈ fitI ws n ∧ offN (bkAt (blkL ws) i).1 = off ∧ aAlloc ws n off = (true,applyE ws (carveE (bkAt (blkL ws) i) (needN n)))) := by
 unfold aAlloc
 cases hf : (fitI ws n).find? (fun i => offN (bkAt (blkL ws) i).1 == off) with
 | none =>
  refine .inl ⟨fun hm => ?_,rfl⟩
  unfold fitO at hm
  rw [qml] at hm
  obtain ⟨i,hi,he⟩ := hm
  have := List.find?_eq_none.1 hf i hi
  exact this (by simpa using he)
 | some i =>
  have h1 := List.mem_of_find?_eq_some hf
  have h2 := List.find?_some hf
  have h2 : offN (bkAt (blkL ws) i).1 = off := by simpa using h2
  refine .inr ⟨?_,i,h1,h2,rfl⟩
  unfold fitO
  rw [qml]
  exact ⟨i,h1,h2⟩
theorem qgi {ws : List Int} {n : Int} {i : Nat} (h : i ∈ fitI ws n) : i < (blkL ws).length ∧ (bkAt (blkL ws) i).2.2 = false ∧ needN n ≤ (bkAt (blkL ws) i).2.1 ∧ 2 ≤ needN n := by
 unfold fitI fitsL at h
 split at h
 ·cases h
 ·have := qdG h
  exact ⟨this.1,this.2.1,this.2.2,by omega⟩
theorem qll (n : Int) : 0 ≤ needN n ∧ needN n ≤ 57 := by unfold needN; split <;> omega
theorem atN_at {words : Int} : ∀ {l : List Bk} {pt : Int} {pu : Bool} {i j : Nat},chainB words pt pu l → i < l.length → atN (bkAt l i).1 l j = ((j + i : Nat) : Int) := by
 intro l
 induction l with
 | nil => intro pt pu i j _ h; simp at h
 | cons b r ih =>
  intro pt pu i j h hi
  have hm := chainB.mem h
  have hb := hm b (by simp)
  obtain ⟨h1,h2,h3,h4,h5⟩ := h
  unfold mayS at h2
  cases i with
  | zero =>
   show atN b.1 (b :: r) j = _
   unfold atN
   rw [if_pos (by omega)]; rfl
  | succ i =>
   show atN (bkAt r i).1 (b :: r) j = _
   have hi' : i < r.length := by simpa using hi
   have hm2 := chainB.mem h5 _ (qlX (qaW hi'))
   unfold atN
   rw [if_neg (by omega),ih h5 hi']
   congr 1; omega
theorem qlk (n : Nat) : zerosOf n [qlI .u8 0] = (qlN n (0 : Int)).flatMap bU := by
 unfold zerosOf
 rw [List.flatMap_def,List.map_replicate]; rfl
section
variable {F : Nat → Prop} {H : AH} {p : Nat} {ws : List Int} {root : Int}
theorem qa1.s0 {n : Int} {k : Sl → AH → Prop} (hm : ¬ mayW n) (h : k ⟨none,0,0⟩ H) : qa1 n H k := by
 refine qa1.link ?_
 unfold qa1.b
 refine qa4.s ?_
 rw [decide_eq_false hm,Bool.not_false,qj]
 exact h
theorem qcO.s {n : Int} {k : Option Addr → AH → Prop} (h0 : ¬ mayW n → k none H) (h1 : mayW n → ∀ F' p' H',qa H H' → Up (fun _ => False) H F' H' → MW F' H' p' (firstN n) 0 → k (some ⟨p',0,none⟩) H') : qcO n H k := by
 refine qcO.link ?_
 unfold qcO.b
 by_cases hm : mayW n
 rotate_left 1
 ·refine qa1.s0 hm ?_
  show bcase (Option.isNone none) _ _
  rw [qm8,qj]
  exact h0 hm
 refine qa1.s ?_
 intro s4 H4 hk4 hO4
 have hne : firstN n ≠ [] := by unfold firstN; rw [if_pos hm]; simp
 rcases hO4 with ⟨_,h5⟩ | ⟨b,rfl,h5,h6,h7⟩
 ·exact absurd h5 hne
 rw [qi,if_neg (by simp),qp]
 have hw := hm
 unfold mayW at hw
 have hl : ((firstN n).length : Int) = n := by unfold firstN; rw [if_pos hm]; simp; omega
 have hk := hk4.push ⟨[.int .i64 n,.slice none 0 0,.int .i64 0],.rw,0⟩
 refine h1 hm (fun b => b = H4.size) H4.size _ hk ⟨qa.kp hk,fun b hb => .inr ⟨by rw [hb]; exact hk4.1,by rw [hb]; simp [qe]⟩⟩ ?_
 refine ⟨⟨none,0,0⟩,[],⟨by rw [qm,if_pos rfl,hl],.inl ⟨rfl,rfl⟩,fun x hx => (by cases hx),rfl,fun a ha => (by cases ha),fun x hx => (by cases hx),fun b hb => (by rw [hb]; simp [qe]),fun a ha => (by cases ha),fun x hx => (by cases hx),List.nodup_nil⟩,?_⟩
 rw [hl]
 exact MR.first hm
theorem qH.s {n off : Int} {k : Bool → AH → Prop} (hM : MW F H p ws root) (hn : isI n) (hoff : isI off) (h : ∀ F' H',Up F H F' H' → MW F' H' p (aAlloc ws n off).2 root → k (aAlloc ws n off).1 H') : qH (some ⟨p,0,none⟩) n off H k := by
 obtain ⟨hb1,hb2,hb3⟩ := hM.blen
 unfold isI at hoff
 refine qH.link ?_
 unfold qH.b
 refine qae.s hM hn ?_
 intro s14 H14 hk14 hO14
 have hfl := qhN (ws := ws) (n := n)
 refine qaA.s (hO14.rows (fun _ => rfl) (fun _ => rfl)) (by omega) ?_
 rcases qek ws n off with ⟨hno,hA⟩ | ⟨hyes,i,hi,hio,hA⟩
 ·rw [decide_eq_false hno,Bool.not_false,qj]
  rw [hA] at h
  exact h F H14 ⟨qa.kp hk14,fun b hb => .inl hb⟩ (hM.keeps hk14)
 rw [decide_eq_true hyes,qmm,qc]
 rw [hA] at h
 obtain ⟨hil,hiu,hin,hn2⟩ := qgi hi
 have hgi := qaW hil
 have hbi := hb3 _ (qlX hgi)
 have hoi : off = ((bkAt (blkL ws) i).1 + 1) * 8 := by rw [← hio]; unfold offN; rw [if_pos (by omega)]
 refine qx.s (hM.keeps hk14) ?_
 intro s19 H19 hk19 hO19
 refine ⟨by decide,?_⟩
 have hat : qlJ .i64 ((qlJ .i64 (Int.tdiv off 8)) - 1) = (bkAt (blkL ws) i).1 := by
  rw [Int.tdiv_eq_ediv_of_nonneg (by omega),qg (n := off / 8) (by omega) (by omega),qg (by omega) (by omega)]
  omega
 have hM19 := hM.keeps (hk14.trans hk19)
 have hk := hk14.trans hk19
 have hR19 := hO19.rows bkV_len bkV_ok
 have hmay : MayB (blkL ws) ws.length := by
  obtain ⟨s,E,_,hR⟩ := hM
  rw [MW.blk hR]; exact hR.may
 rw [hat]
 refine qch.s hR19 (by omega) (fun b hb => by have := hb3 b hb; omega) (by unfold isI; omega) ?_
 rw [atN_at hmay.2 hil,ql3]
 refine ⟨by rw [hR19.1]; omega,?_⟩
 obtain ⟨b,o,ha,hb,hcells⟩ := qas hR19 (by omega)
 have hc1 := (hcells i _ hgi).2 1 _ rfl
 rw [ha,qd,qlP,hc1,qf]
 refine qbj.s hn ?_
 have hnl := qll n
 refine qbL.s (by omega) (by omega) ?_
 obtain ⟨t1,t2,t3,t4⟩ := qeq (sz := (bkAt (blkL ws) i).2.1) (need := needN n) ⟨hn2,hin⟩
 obtain ⟨s,E,hAt,hR⟩ := hM19
 have hbe : (blkX ws.length (E.map (·.1)))[i]? = some (bkAt (blkL ws) i) := by rw [← MW.blk hR]; exact hgi
 obtain ⟨e1,e2,hE,he1,he2,hMR⟩ := hR.alloc (need := needN n) hbe hiu ⟨hn2,hin⟩
 generalize hbk : bkAt (blkL ws) i = bk at *
 generalize htk : takesN bk.2.1 (needN n) = tk at *
 -- the new extent
 refine qbW (n := 3) rfl rfl rfl ?_
 have hm1 : ((tk.toNat - 1) * 8 : Nat) = (((tk - 1) * 8).toNat) := by omega
 have hc : AH.cell? (H19.push ⟨[.int .i64 bk.1,.int .i64 tk,.slice none 0 0],.rw,0⟩) (qlL ⟨H19.size,0,none⟩ 1) = some (.int .i64 tk) := by simp [qk,AH.cell?,qm]
 rw [hc,qf,qg (n := tk - 1) (by omega) (by omega),qg (n := (tk - 1) * 8) (by omega) (by omega)]
 refine ⟨by simp only [lim]; omega,?_⟩
 rw [qp,← hm1,qlk]
 obtain ⟨m,hm⟩ : ∃ m,m = (tk.toNat - 1) * 8 := ⟨_,rfl⟩
 rw [← hm] at hMR ⊢
 obtain ⟨H2,hH2⟩ : ∃ H2,H2 = H19.push ⟨[.int .i64 bk.1,.int .i64 tk,.slice none 0 0],.rw,0⟩ := ⟨_,rfl⟩
 have hz2 : H2.size = H19.size + 1 := by rw [hH2]; rfl
 have hg2 : H2.get H19.size = ⟨[.int .i64 bk.1,.int .i64 tk,.slice none 0 0],.rw,0⟩ := by rw [hH2,qm,if_pos rfl]
 have hk2 : qa H19 H2 := by rw [hH2]; exact (qa.refl H19).push _
 rw [← hH2]
 clear hH2 hc
 obtain ⟨H3,hH3⟩ : ∃ H3,H3 = H2.push ⟨(qlN m (0 : Int)).flatMap bU,.rw,1⟩ := ⟨_,rfl⟩
 have hz3 : H3.size = H19.size + 2 := by rw [hH3,qe,hz2]
 have hg3 : H3.get H19.size = ⟨[.int .i64 bk.1,.int .i64 tk,.slice none 0 0],.rw,0⟩ := by rw [hH3,qv (by omega),hg2]
 have hg3' : H3.get H2.size = ⟨(qlN m (0 : Int)).flatMap bU,.rw,1⟩ := by rw [hH3,qm,if_pos rfl]
 have hk3 : qa H19 H3 := by rw [hH3]; exact hk2.push _
 rw [← hH3]
 clear hH3
 rw [hz2] at hg3' ⊢
 rw [qk]
 refine ⟨⟨rfl,by simp [hg3],by simp [hg3]⟩,?_⟩
 have hX : ExAt (H3.put ⟨H19.size,0 + 2,none⟩ [.slice (some ⟨H19.size + 1,0,none⟩) m 1]) H19.size ((bk.1,tk,qlN m 0),H19.size + 1) := ⟨0,by simp [AH.put,qu,hg3,setMany,exV]⟩
 have hg4 : (H3.put ⟨H19.size,0 + 2,none⟩ [.slice (some ⟨H19.size + 1,0,none⟩) m 1]).get (H19.size + 1) = ⟨(qlN m (0 : Int)).flatMap bU,.rw,1⟩ := by simp [AH.put,qu,hg3']
 have hk4 : qa H19 (H3.put ⟨H19.size,0 + 2,none⟩ [.slice (some ⟨H19.size + 1,0,none⟩) m 1]) := hk3.put (qlS _) _
 have hz4 : (H3.put ⟨H19.size,0 + 2,none⟩ [.slice (some ⟨H19.size + 1,0,none⟩) m 1]).size = H19.size + 2 := hz3
 generalize H3.put ⟨H19.size,0 + 2,none⟩ [.slice (some ⟨H19.size + 1,0,none⟩) m 1] = H4 at *
 clear hg3 hg3' hk3 hz3 hg2 hk2 hz2
 have hA4 := hAt.keeps hk4
 have hr4 := hA4.rows
 obtain ⟨hel,hex⟩ := MdAt.elen (s := s) hR
 -- the place
 have place : ∀ j,j ≤ E.length → (∀ x ∈ E.take j,x.1.1 < bk.1) → (∀ x,E[j]? = some x → ¬ x.1.1 < bk.1) → qH.j1 (some ⟨p,0,none⟩) k H19.size (j : Int) H4 := by
  intro j hj hlow hhigh
  have hjl : j = e1.length := by
   have hlenE : E.length = e1.length + e2.length := by have := congrArg qlY hE; simpa using this
   rcases Nat.lt_trichotomy j e1.length with hlt | heq | hgt
   ·exfalso
    have hjE : j < E.length := by omega
    refine hhigh _ (qlK hjE) ?_
    have : E[j].1 ∈ e1 := by
     have h9 : (E.map (·.1))[j]? = some E[j].1 := by rw [qlW,qlK hjE]; rfl
     rw [hE,qmd hlt] at h9
     exact qlX h9
    exact he1 _ this
   ·exact heq
   ·exfalso
    have hjE : e1.length < E.length := by omega
    have h9 : (E.map (·.1))[e1.length]? = some E[e1.length].1 := by rw [qlW,qlK hjE]; rfl
    rw [hE,ql8 (qlS _)] at h9
    have := he2 _ (qlX h9)
    have h8 := hlow E[e1.length] (by
     rw [List.mem_iff_getElem?]
     exact ⟨e1.length,by rw [List.getElem?_take_of_lt hgt,qlK hjE]⟩)
    omega
  unfold qH.j1
  rw [qd,hA4.c1,qag,ql hX.row]
  refine ⟨rfl,?_⟩
  rw [qp]
  have hk5 := hk4.push ⟨exV ((bk.1,tk,qlN m 0),H19.size + 1),.rw,3⟩
  have hA5 := hAt.keeps hk5
  have hO5 := hA5.own
  have hsb : ∀ a,s.a = some a → a.block < H19.size := fun a ha => hAt.lt _ (hAt.fs a ha)
  have hm5 : setMany [qlI .i64 0,.int .i64 0,.slice none 0 0] 0 (exV ((bk.1,tk,qlN m 0),H19.size + 1)) = exV ((bk.1,tk,qlN m 0),H19.size + 1) := rfl
  rw [hm5]
  refine qct.s (B := 0) (x := ((bk.1,tk,qlN m 0),H19.size + 1)) exV_len exV_ok hO5 hj (by omega) (by simp [qe]) (by omega) (by rw [qm,if_pos rfl]) (fun a ha => by have := hsb a ha; omega) ?_
  intro s' H6 hO6 hz6 hfr
  have hz5 : (H4.push ⟨exV ((bk.1,tk,qlN m 0),H19.size + 1),.rw,3⟩).size = H19.size + 3 := by rw [qe,hz4]
  rw [hz5] at hz6 hfr hO6
  rw [qd]
  have hge := hk.1
  have hmem : ∀ y ∈ E.take j ++ ((bk.1,tk,qlN m 0),H19.size + 1) :: E.drop j,y = ((bk.1,tk,qlN m 0),H19.size + 1) ∨ y ∈ E := by
   intro y hy
   rw [ql2,ql6] at hy
   rcases hy with hy | hy | hy
   ·exact .inr (List.mem_of_mem_take hy)
   ·exact .inl hy
   ·exact .inr (List.mem_of_mem_drop hy)
  have hold : ∀ b,F b → (∀ a,s.a = some a → b ≠ a.block) → H6.get b = H19.get b := fun b hb hne => by
   have := hAt.lt b hb
   rw [hfr b (by omega) hne,qv (by omega),hk4.2 b this]
  obtain ⟨p1,p2,p3⟩ := MdAt.put_ext (G := fun b => F b ∨ (H.size ≤ b ∧ b < H6.size)) (root := root) (words := (ws.length : Int)) (p := p) (s := s) (H1 := H6) (E' := E.take j ++ ((bk.1,tk,qlN m 0),H19.size + 1) :: E.drop j) (s' := s') (by rw [hold p hAt.fp hAt.pne]; exact hAt.obj) (qbO hO6 (by omega))
   (fun y hy => by
    rcases hmem y hy with rfl | hy
    ·rw [hfr _ (by simp only; omega) (fun a ha he => by have := hsb a ha; simp only at he; omega),qv (by simp only; omega)]
     exact hg4
    ·rw [hold y.2 (hAt.fx y hy) (fun a ha he => (hAt.nx y hy).2 a ha he.symm)]; exact hAt.bys y hy)
   (.inl hAt.fp) (fun a ha => by
    rcases hO6 with ⟨h0,_⟩ | ⟨b,h0,h5,h6,_⟩
    ·rw [h0] at ha; cases ha
    ·rw [h0] at ha
     injection ha with ha
     subst ha
     exact .inr ⟨by simp only; omega,h6⟩)
   (fun y hy => by
    rcases hmem y hy with rfl | hy
    ·exact .inr ⟨by simp only; omega,by simp only; omega⟩
    ·exact .inl (hAt.fx y hy))
   (fun b hb => by
    rcases hb with hb | hb
    ·have := hAt.lt b hb; omega
    ·exact hb.2)
   (by
    have hp : ((E.take j ++ ((bk.1,tk,qlN m 0),H19.size + 1) :: E.drop j).map (·.2)).Perm ((((bk.1,tk,qlN m 0),H19.size + 1) :: (E.take j ++ E.drop j)).map (·.2)) := List.Perm.map _ List.perm_middle
    rw [hp.nodup_iff,List.take_append_drop,qmv,List.nodup_cons]
    refine ⟨fun hm => ?_,hAt.nd⟩
    rw [qml] at hm
    obtain ⟨y,hy,he⟩ := hm
    have := hAt.lt _ (hAt.fx y hy)
    omega)
  refine ⟨p1,?_⟩
  refine h (fun b => F b ∨ (H.size ≤ b ∧ b < H6.size)) _ ⟨⟨show H.size ≤ H6.size by omega,fun b hb hn => ?_⟩,fun b hb => hb⟩ ⟨s',E.take j ++ ((bk.1,tk,qlN m 0),H19.size + 1) :: E.drop j,?_,?_⟩
  ·rw [p3 b (fun he => hn (he ▸ hAt.fp)),hfr b (by omega) (fun a ha he => hn (he ▸ hAt.fs a ha)),qv (by omega),hk4.2 b (by omega),hk.2 b hb]
  ·rw [qac]; exact p2
  ·rw [qac,qmz,qmv,List.map_take,List.map_drop,hE,hjl,List.take_left,List.drop_left]
   exact hMR
 refine qI (t := (0 : Int)) (I := fun (t : Int) H' => H' = H4 ∧ ∃ j : Nat,t = (j : Int) ∧ j ≤ E.length ∧ ∀ x ∈ E.take j,x.1.1 < bk.1) (m := fun (t : Int) _ => qlQ ((E.length : Int) - t)) ?_ ⟨rfl,0,rfl,by omega,fun x hx => (by simp at hx)⟩
 rintro t _ ⟨rfl,j,rfl,hj,hlow⟩ it hit
 unfold qH.l3
 rw [qd,hA4.c1,qag]
 simp only [qi,decide_eq_true_eq]
 rw [hr4.1]
 by_cases hlt : (j : Int) < (E.length : Int)
 ·rw [if_pos hlt]
  have hj' : j < E.length := by omega
  rw [qd,hA4.c1,qag]
  refine ⟨by rw [hr4.1]; omega,?_⟩
  obtain ⟨b2,o2,ha2,hb2',hcells2⟩ := qas hr4 (by omega)
  have hc2 := (hcells2 j E[j] (qlK hj')).2 0 _ rfl
  rw [ha2,qd,qlP,hc2,qf,hat]
  unfold qH.j2
  rw [qi]
  by_cases hl2 : E[j].1.1 < bk.1
  ·rw [if_pos (by simpa using hl2),qg (n := (j : Int) + 1) (by omega) (by omega)]
   refine hit _ _ ⟨rfl,j + 1,by simp,by omega,fun x hx => ?_⟩ (by omega)
   rw [qm6,qlK hj',ql2] at hx
   rcases hx with hx | hx
   ·exact hlow x hx
   ·simp at hx; subst hx; exact hl2
  ·rw [if_neg (by simpa using hl2)]
   refine place j hj hlow (fun x hx => ?_)
   rw [qlK hj'] at hx
   injection hx with hx
   subst hx
   exact hl2
 ·rw [if_neg hlt]
  unfold qH.j2
  rw [qc]
  refine place j hj hlow (fun x hx => ?_)
  rw [qlR (by omega)] at hx
  cases hx
end
def Ok (ws : List Int) : Prop := ∃ e,MR ws.length e ws
theorem Ok.len {ws : List Int} (h : Ok ws) : 8 ≤ ws.length ∧ ws.length ≤ 512 ∧ qaI ws := by obtain ⟨e,h⟩ := h; have := h.range; exact ⟨by omega,by omega,h.u⟩
theorem Ok.blocks {ws : List Int} (h : Ok ws) : blocksN ws = some (blkL ws) := by obtain ⟨e,h⟩ := h; unfold blkL; rw [h.blocks]; rfl
theorem Ok.may {ws : List Int} (h : Ok ws) : MayB (blkL ws) ws.length := qbu h.blocks
theorem Ok.blen {ws : List Int} (h : Ok ws) : (blkL ws).length ≤ 256 ∧ ∀ b ∈ blkL ws,0 ≤ b.1 ∧ b.1 + b.2.1 ≤ ws.length ∧ 2 ≤ b.2.1 := by
 have h1 := h.may.len
 have h2 := h.len
 refine ⟨by omega,fun b hb => ?_⟩
 have := h.may.mem hb
 omega
structure CP (pd : Int) (M : Mem) (now kept : List Int) (cb : Int) : Prop where
 kl : kept.length = now.length
 ok : ∀ i,i < now.length → 0 ≤ kept.getD i 0 ∧ kept.getD i 0 ≤ now.getD i 0 ∧ now.getD i 0 ≤ cb
 lag : M.down = false → ∀ i,i < now.length → now.getD i 0 - kept.getD i 0 < pd ∧ M.regs.getD (19 + i) 0 = kept.getD i 0
 rg : ∀ i,i < now.length → M.regs.getD (19 + i) 0 ≤ cb
def bump (now : List Int) (ls : List Int) : List Int := ls.foldl (fun c ln => c.set (ln / 4).toNat (c.getD (ln / 4).toNat 0 + 1)) now
theorem CP.mono {pd : Int} {M : Mem} {now kept : List Int} {cb cb' : Int} (h : CP pd M now kept cb) (hc : cb ≤ cb') : CP pd M now kept cb' :=
 ⟨h.kl,fun i hi => by have := h.ok i hi; omega,h.lag,fun i hi => by have := h.rg i hi; omega⟩
theorem qja (pd : Int) (ln : Int) (r : List Int) (M : Mem) (now kept : List Int) : notesN pd (ln :: r) M now kept =
  if (noteN pd now kept (ln / 4).toNat).2.2.2 = true then
   if (M.set (19 + ln / 4) (noteN pd now kept (ln / 4).toNat).2.2.1).2 = 0 then notesN pd r (M.set (19 + ln / 4) (noteN pd now kept (ln / 4).toNat).2.2.1).1 (noteN pd now kept (ln / 4).toNat).1 (noteN pd now kept (ln / 4).toNat).2.1
   else ((M.set (19 + ln / 4) (noteN pd now kept (ln / 4).toNat).2.2.1).1,(noteN pd now kept (ln / 4).toNat).1,(noteN pd now kept (ln / 4).toNat).2.1,(M.set (19 + ln / 4) (noteN pd now kept (ln / 4).toNat).2.2.1).2)
  else notesN pd r M (noteN pd now kept (ln / 4).toNat).1 (noteN pd now kept (ln / 4).toNat).2.1 := rfl
theorem qhz {pd : Int} (hpd : 1 ≤ pd) : ∀ {ls : List Int} {M : Mem} {now kept : List Int} {cb : Int},CP pd M now kept cb → M.down = false → M.ok → (∀ ln ∈ ls,0 ≤ ln ∧ (ln / 4).toNat < now.length) → now.length ≤ 16 → 0 ≤ cb → cb + ls.length < 4611686018427387904 →
  (notesN pd ls M now kept).1.cs = M.cs ∧ (∀ r,r < 19 → (notesN pd ls M now kept).1.regs.getD r 0 = M.regs.getD r 0) ∧ (notesN pd ls M now kept).1.ok ∧ CP pd (notesN pd ls M now kept).1 (notesN pd ls M now kept).2.1 (notesN pd ls M now kept).2.2.1 (cb + ls.length) ∧
  (M.cut = -1 → (notesN pd ls M now kept).1.cut = -1) ∧ (notesN pd ls M now kept).2.1.length = now.length ∧
  (((notesN pd ls M now kept).2.2.2 = 0 ∧ (notesN pd ls M now kept).1.down = false ∧ (notesN pd ls M now kept).2.1 = bump now ls) ∨ ((notesN pd ls M now kept).2.2.2 = 2 ∧ (notesN pd ls M now kept).1.down = true ∧ M.cut ≠ -1)) := by
 intro ls
 induction ls with
 | nil => intro M now kept cb h hup hok _ _ _ _; exact ⟨rfl,fun _ _ => rfl,hok,h.mono (by simp),fun h => h,rfl,.inl ⟨rfl,hup,rfl⟩⟩
 | cons ln r ih =>
  intro M now kept cb h hup hok hls h16 hcb0 hcb
  obtain ⟨hl0,hli⟩ := hls ln (by simp)
  simp only [ql0] at hcb
  have hb : bump now (ln :: r) = bump (now.set (ln / 4).toNat (now.getD (ln / 4).toNat 0 + 1)) r := rfl
  have hlr : ∀ l ∈ r,0 ≤ l ∧ (l / 4).toNat < (now.set (ln / 4).toNat (now.getD (ln / 4).toNat 0 + 1)).length := fun l hl => by rw [qmj]; exact hls l (by simp [hl])
  rw [qja,hb]
  have hidx : (19 + ln / 4 : Int) = ((19 + (ln / 4).toNat : Nat) : Int) := by omega
  rw [hidx]
  generalize (ln / 4).toNat = i at *
  have hoi := h.ok i hli
  have hlag := h.lag hup
  unfold noteN
  simp only
  have hnow : ∀ j,(now.set i (now.getD i 0 + 1)).getD j 0 = if j = i then now.getD i 0 + 1 else now.getD j 0 := fun j => qcw hli
  by_cases hk : now.getD i 0 + 1 - kept.getD i 0 ≥ pd
  ·rw [if_pos (by simpa using hk),if_pos hk]
   have hkept : ∀ j,(kept.set i (now.getD i 0 + 1)).getD j 0 = if j = i then now.getD i 0 + 1 else kept.getD j 0 := fun j => qcw (by rw [h.kl]; exact hli)
   have hS := Mem.set_any (M := M) (i := 19 + i) (v := now.getD i 0 + 1) hup (by omega) hok.cut.1
   have hSo := Mem.set_ok (M := M) (i := ((19 + i : Nat) : Int)) (v := now.getD i 0 + 1) hok (by unfold isU; omega)
   have hrl := hok.regs
   have hlow : ∀ r,r < 19 → (M.set ((19 + i : Nat) : Int) (now.getD i 0 + 1)).1.regs.getD r 0 = M.regs.getD r 0 := fun r hr => qcP (by omega)
   generalize M.set ((19 + i : Nat) : Int) (now.getD i 0 + 1) = S at *
   have hcp : CP pd S.1 (now.set i (now.getD i 0 + 1)) (kept.set i (now.getD i 0 + 1)) (cb + 1) := by
    refine ⟨by rw [qmj,qmj,h.kl],fun j hj => ?_,fun hd j hj => ?_,fun j hj => ?_⟩
    rotate_left 2
    ·rw [qmj] at hj
     have := h.rg j hj
     have h2 := h.ok i hli
     have hrr : S.1.regs = M.regs ∨ S.1.regs = M.regs.set (19 + i) (now.getD i 0 + 1) := by
      rcases hS.res with ⟨_,_,h⟩ | ⟨_,_,_,h⟩
      ·exact .inr h
      ·exact h
     rcases hrr with hrr | hrr
     ·rw [hrr]; omega
     ·rw [hrr,qcw (by omega)]
      split <;> omega
    ·rw [qmj] at hj
     rw [hnow j,hkept j]
     have := h.ok j hj
     split <;> omega
    ·rw [qmj] at hj
     rw [hnow j,hkept j]
     have hr : S.1.regs = M.regs.set (19 + i) (now.getD i 0 + 1) := by
      rcases hS.res with ⟨_,_,h⟩ | ⟨_,h,_⟩
      ·exact h
      ·rw [hd] at h; cases h
     rw [hr,qcw (by omega)]
     have := hlag j hj
     by_cases hji : j = i
     ·subst hji
      rw [if_pos rfl,if_pos rfl,if_pos rfl]
      exact ⟨by omega,rfl⟩
     ·rw [if_neg hji,if_neg hji,if_neg (by omega)]
      exact this
   by_cases he : S.2 = 0
   ·rw [if_pos he]
    have hup' : S.1.down = false := by
     rcases hS.res with ⟨_,h,_⟩ | ⟨e',_⟩
     ·exact h
     ·omega
    obtain ⟨a1,a2,a3,a4,a5,a6,a7⟩ := ih hcp hup' hSo hlr (by rw [qmj]; exact h16) (by omega) (by omega)
    refine ⟨a1.trans hS.cs,fun r hr => (a2 r hr).trans (hlow r hr),a3,by have := a4; simp only [ql0]; exact this.mono (by omega),fun hc => a5 (hS.cut hc),by rw [a6,qmj],?_⟩
    rcases a7 with a7 | ⟨a,b,c⟩
    ·exact .inl a7
    ·exact .inr ⟨a,b,fun hc => c (hS.cut hc)⟩
   ·rw [if_neg he]
    refine ⟨hS.cs,hlow,hSo,hcp.mono (by simp only [ql0]; omega),hS.cut,by simp,?_⟩
    rcases hS.res with ⟨h,_⟩ | ⟨a,b,c,_⟩
    ·exact absurd h he
    ·exact .inr ⟨a,b,c⟩
  ·rw [if_neg (by simpa using hk),if_neg hk]
   have hcp : CP pd M (now.set i (now.getD i 0 + 1)) kept (cb + 1) := by
    refine ⟨by rw [qmj,h.kl],fun j hj => ?_,fun hd j hj => ?_,fun j hj => by rw [qmj] at hj; have := h.rg j hj; omega⟩
    ·rw [qmj] at hj
     rw [hnow j]
     have := h.ok j hj
     by_cases hji : j = i
     ·subst hji; rw [if_pos rfl]; omega
     ·rw [if_neg hji]; omega
    ·rw [qmj] at hj
     rw [hnow j]
     have := hlag j hj
     by_cases hji : j = i
     ·subst hji; rw [if_pos rfl]; exact ⟨by omega,this.2⟩
     ·rw [if_neg hji]; exact this
   obtain ⟨a1,a2,a3,a4,a5,a6,a7⟩ := ih hcp hup hok hlr (by rw [qmj]; exact h16) (by omega) (by omega)
   exact ⟨a1,a2,a3,by simp only [ql0]; exact a4.mono (by omega),a5,by rw [a6,qmj],a7⟩
section
variable {n sp per : Nat} {M M' : Mem} {mvb len pt : Nat} {ws : List (List Int)}
theorem qkE (hc : M'.cs = M.cs) (hr : ∀ r,r < 19 → r ≠ 2 → M'.regs.getD r 0 = M.regs.getD r 0) (hsp : sp ≤ 16) (s : Nat) : M'.tview n sp s = M.tview n sp s := by
 unfold Mem.tview Mem.view
 have hw : ∀ i,i < sp → M'.whose i = M.whose i := fun i hi => hr _ (by omega) (by omega)
 rw [mv_same (hr 0 (by omega) (by omega)),qdc (M' := M') (M := M) fun j hj => by rw [hw j hj]]
 have : ∀ i,M'.cl i = M.cl i := fun i => by unfold Mem.cl; rw [hc]
 rw [this]
theorem Sd.low (h : Sd n sp M ws) (hn : 16 < n) (hc : M'.cs = M.cs) (hr : ∀ r,r < 19 → r ≠ 2 → M'.regs.getD r 0 = M.regs.getD r 0) (hsp : sp ≤ 16) : Sd n sp M' ws :=
 h.congr hn (hr 1 (by omega) (by omega)) fun s _ => qkE hc hr hsp s
theorem PSt.low (h : PSt n sp per M pt mvb len) (hc : M'.cs = M.cs) (hr : ∀ r,r < 19 → r ≠ 2 → M'.regs.getD r 0 = M.regs.getD r 0) (hok : M'.ok) : PSt n sp per M' pt mvb len := by
 obtain ⟨k,hlv⟩ := h.lv
 exact ⟨⟨k,hlv.low (by rw [hc]) fun r _ h => hr r h (by omega)⟩,hok,h.pl,by rw [mv_same (hr 0 (by omega) (by omega))]; exact h.mv,by rw [hc]; exact h.len⟩
end
structure HP (pa pb pc pd : Int) (s : HS) (ws : List Int) (root : Int) (mvb : Nat) (cb : Int) : Prop where
 may : mayP pa pb pc pd = true
 ps : PSt (16 + pa.toNat) pb.toNat pc.toNat s.M s.pt mvb (16 + pa.toNat + 1 + pb.toNat)
 sd : Sd (16 + pa.toNat) pb.toNat s.M (linesOf pa.toNat ws)
 ok : Ok ws
 len : (ws.length : Int) = 8 * pa
 rt : s.M.regs.getD 2 0 = root
 ru : root = 0 ∨ isUsed ws root = true
 pg : (s.now.length : Int) = pagesP pa pb pc pd
 cp : CP pd s.M s.now s.kept cb
 wl : s.stuck → LV s.M (16 + pa.toNat + 1) pb.toNat pb.toNat
 c0 : 0 ≤ cb
section
variable {pa pb pc pd : Int} {s : HS} {ws : List Int} {root : Int} {mvb : Nat} {cb : Int}
theorem HP.mono (h : HP pa pb pc pd s ws root mvb cb) {mvb' : Nat} {cb' : Int} (h1 : mvb ≤ mvb') (h2 : cb ≤ cb') : HP pa pb pc pd s ws root mvb' cb' :=
 ⟨h.may,h.ps.mono h1,h.sd,h.ok,h.len,h.rt,h.ru,h.pg,h.cp.mono h2,h.wl,by have := h.c0; omega⟩
theorem HP.words (h : HP pa pb pc pd s ws root mvb cb) (hup : s.M.down = false) : wordsH pa pb s.M = ws := by
 have hm := qV.1 h.may
 exact qhw (by omega) hup h.len h.sd
theorem HP.now16 (h : HP pa pb pc pd s ws root mvb cb) : s.now.length ≤ 16 ∧ (s.now.length : Int) = (pa + 3) / 4 := by
 have hm := qV.1 h.may
 have := h.pg
 unfold pagesP at this
 rw [if_pos h.may] at this
 omega
theorem qgT {E : List (Int × Int)} (h : HP pa pb pc pd s ws root mvb cb) (hup : s.M.down = false) (hst : ¬ s.stuck) (hin : EdIn E ws.length) (h1 : 1 ≤ (eLines E).length) (h14 : (eLines E).length ≤ 14)
    (hok' : Ok (applyE ws E)) (hru' : root = 0 ∨ isUsed (applyE ws E) root = true) (hb : mvb + 2000 < 4611686018427387904) (hcb : cb + 100 < 4611686018427387904) :
    (s.M.cut = -1 → (commitH pa pb pc pd ws E s).1.M.cut = -1) ∧
    (((commitH pa pb pc pd ws E s).2 = 0 ∧ (commitH pa pb pc pd ws E s).1.M.down = false ∧ HP pa pb pc pd (commitH pa pb pc pd ws E s).1 (applyE ws E) root (mvb + 40) (cb + 14) ∧ (commitH pa pb pc pd ws E s).1.worn = false ∧ (commitH pa pb pc pd ws E s).1.now = bump s.now (eLines E)) ∨
     ((commitH pa pb pc pd ws E s).2 = 3 ∧ (commitH pa pb pc pd ws E s).1.M.down = false ∧ HP pa pb pc pd (commitH pa pb pc pd ws E s).1 ws root (mvb + 40) (cb + 14) ∧ (commitH pa pb pc pd ws E s).1.worn = true ∧ (commitH pa pb pc pd ws E s).1.now = s.now) ∨
     ((commitH pa pb pc pd ws E s).2 = 2 ∧ (commitH pa pb pc pd ws E s).1.M.down = true ∧ s.M.cut ≠ -1 ∧ (HP pa pb pc pd (commitH pa pb pc pd ws E s).1 ws root (mvb + 40) (cb + 14) ∨ HP pa pb pc pd (commitH pa pb pc pd ws E s).1 (applyE ws E) root (mvb + 40) (cb + 14)))) ∧
    (∀ k,LV s.M (16 + pa.toNat + 1) pb.toNat k → ∃ k',k ≤ k' ∧ LV (commitH pa pb pc pd ws E s).1.M (16 + pa.toNat + 1) pb.toNat k') := by
  have hm := qV.1 h.may
  obtain ⟨hn16,hpg⟩ := h.now16
  have hlen := h.len
  have hc0 := h.c0
  obtain ⟨l8,l512,h64⟩ := hok'.len
  have hlenA : (applyE ws E).length = ws.length := qac E ws
  have hwf : s.worn = false := by cases hw : s.worn with | false => rfl | true => exact absurd (.inl hw) hst
  have hcm : commits s.M = 0 := by
    by_cases hc : commits s.M = 0
    · exact hc
    · exact absurd (.inr ⟨hup,hc⟩) hst
  have hls : ∀ ln ∈ eLines E,0 ≤ ln ∧ ln < ((pa.toNat : Nat) : Int) := by
    intro ln hln
    obtain ⟨e,he,h0,rfl⟩ := qcV.1 hln
    have := hin.mem e he
    omega
  have hmay := qgU (m := pa.toNat) (W := applyE ws E) hls h1 h14
  have hhok := qhf (m := pa.toNat) (W := applyE ws E) h64 (by omega) (by omega) hls
  obtain ⟨c1,c2⟩ := com_any h.ps (by omega) hup (by omega) hhok (by rw [qcX]; omega) h.sd
  obtain ⟨d1,d2,d3,d4⟩ := qij h.ps (by omega) hup (by omega) hhok
  have hps := h.ps.com (by omega) (by omega) hhok
  rw [qj4 (by omega) (fun e he => by have := hin.mem e he; omega)] at c1
  have hd2 := d2 hmay hcm
  have hd4 := d4 hmay hcm
  unfold commitH
  simp only
  generalize comN (16 + pa.toNat) pb.toNat pc.toNat (homesC (applyE ws E) (eLines E)) s.M s.pt = C at *
  have hrt : C.1.regs.getD 2 0 = root := (d1 2 (.inl rfl)).trans h.rt
  have cp0 : (C.1.down = false ∨ True) → CP pd C.1 s.now s.kept cb := fun _ => ⟨h.cp.kl,h.cp.ok,fun _ i hi => by rw [d1 (19 + i) (.inr (by omega))]; exact h.cp.lag hup i hi,fun i hi => by rw [d1 (19 + i) (.inr (by omega))]; exact h.cp.rg i hi⟩
  by_cases he : C.2.2 = 0
  rotate_left 1
  · rw [if_pos he]
    have mk : ∀ (w : Bool) (ws' : List Int),(ws' = ws ∨ ws' = applyE ws E) → Sd (16 + pa.toNat) pb.toNat C.1 (linesOf pa.toNat ws') → ((⟨C.1,C.2.1,s.now,s.kept,w⟩ : HS).stuck → LV C.1 (16 + pa.toNat + 1) pb.toNat pb.toNat) → HP pa pb pc pd ⟨C.1,C.2.1,s.now,s.kept,w⟩ ws' root (mvb + 40) (cb + 14) := by
      intro w ws' hw hsd hwl
      refine ⟨h.may,hps,hsd,?_,?_,hrt,?_,h.pg,(cp0 (.inr trivial)).mono (by omega),hwl,by omega⟩
      · rcases hw with rfl | rfl; exact h.ok; exact hok'
      · rcases hw with rfl | rfl; exact hlen; rw [hlenA]; exact hlen
      · rcases hw with rfl | rfl; exact h.ru; exact hru'
    refine ⟨fun hc => c2 hc,?_,d3⟩
    have case2 : C.2.2 = 2 → C.1.down = true → s.M.cut ≠ -1 → ∀ ws',(ws' = ws ∨ ws' = applyE ws E) → Sd (16 + pa.toNat) pb.toNat C.1 (linesOf pa.toNat ws') →
        HP pa pb pc pd ⟨C.1,C.2.1,s.now,s.kept,s.worn || (C.2.2 == 3)⟩ ws' root (mvb + 40) (cb + 14) := by
      intro h2 hd hcut ws' hw hsd
      refine mk _ ws' hw hsd ?_
      intro hs
      rcases hs with hs | ⟨hs,_⟩
      · rw [hwf,h2] at hs; simp at hs
      · simp only at hs; rw [hd] at hs; cases hs
    rcases c1 with ⟨hsd,⟨e0,e2,hd⟩ | ⟨e2,hd,hcut⟩⟩ | ⟨_,_,hsd,⟨e0,_⟩ | ⟨e2,hd,hcut⟩⟩
    · have e3 : C.2.2 = 3 := by omega
      refine .inr (.inl ⟨e3,hd,?_,by rw [e3]; simp,rfl⟩)
      exact mk _ ws (.inl rfl) hsd (fun _ => hd2 hd (.inl e3))
    · exact .inr (.inr ⟨e2,hd,hcut,.inl (case2 e2 hd hcut ws (.inl rfl) hsd)⟩)
    · exact absurd e0 he
    · exact .inr (.inr ⟨e2,hd,hcut,.inr (case2 e2 hd hcut _ (.inr rfl) hsd)⟩)
  rw [if_neg (by simpa using he)]
  have c1' : Sd (16 + pa.toNat) pb.toNat C.1 (linesOf pa.toNat (applyE ws E)) ∧ C.1.down = false := by
    rcases c1 with ⟨_,⟨e0,_⟩ | ⟨e2,_⟩⟩ | ⟨_,_,hsd,⟨_,hd⟩ | ⟨e2,_⟩⟩
    · exact absurd he e0
    · omega
    · exact ⟨hsd,hd⟩
    · omega
  obtain ⟨hsd,hCup⟩ := c1'
  obtain ⟨n1,n2,n3,n4,n5,n6,n7⟩ := qhz (pd := pd) (by omega) (ls := eLines E) (cp0 (.inl hCup)) hCup hps.ok (fun ln hln => by have := hls ln hln; omega) hn16 hc0 (by omega)
  generalize notesN pd (eLines E) C.1 s.now s.kept = N at *
  have hP : HP pa pb pc pd ⟨N.1,C.2.1,N.2.1,N.2.2.1,s.worn⟩ (applyE ws E) root (mvb + 40) (cb + 14) := by
    refine ⟨h.may,hps.low n1 (fun r hr _ => n2 r hr) n3,hsd.low (by omega) n1 (fun r hr _ => n2 r hr) (by omega),hok',by rw [hlenA]; exact hlen,(n2 2 (by omega)).trans hrt,hru',by show (N.2.1.length : Int) = _; rw [n6]; exact h.pg,n4.mono (by omega),fun hs => ?_,by omega⟩
    rcases hs with hs | ⟨hs,hc⟩
    · simp only at hs; rw [hwf] at hs; cases hs
    · have hcC : commits C.1 ≠ 0 := fun hx => hc (by show N.1.regs.getD 1 0 = 0; rw [n2 1 (by omega)]; exact hx)
      exact (hd2 hCup (.inr hcC)).low (by rw [n1]) fun r _ hr => n2 r hr
  refine ⟨fun hc => n5 (c2 hc),?_,fun k hk => ?_⟩
  · rcases n7 with ⟨a,b,c⟩ | ⟨a,b,c⟩
    · exact .inl ⟨a,b,hP,hwf,c⟩
    · exact .inr (.inr ⟨a,b,fun hc => c (c2 hc),.inr hP⟩)
  · obtain ⟨k',hk',hlv'⟩ := d3 k hk
    exact ⟨k',hk',hlv'.low (by rw [n1]) fun r _ hr => n2 r hr⟩
end
section
variable {F : Nat → Prop} {H : AH} {p : Nat} {ws : List Int} {root : Int}
theorem qau.s {k : Option Addr → AH → Prop} (hM : MW F H p ws root) (h : ∀ F' p' H',qa H H' → Up (fun _ => False) H F' H' → MW F' H' p' ws root → k (some ⟨p',0,none⟩) H') : qau (some ⟨p,0,none⟩) H k := by
 obtain ⟨s,E,hA,hR⟩ := hM
 obtain ⟨hel,hex⟩ := MdAt.elen (s := s) hR
 refine qau.link ?_
 unfold qau.b
 rw [qlZ,qc,qd,hA.c0,qf,qd,hA.c2,qf,qp,qd]
 have hk0 := (qa.refl H).push ⟨[.int .i64 (ws.length : Int),.slice none 0 0,.int .i64 root],.rw,0⟩
 have hg0 : (H.push ⟨[.int .i64 (ws.length : Int),.slice none 0 0,.int .i64 root],.rw,0⟩).get H.size = ⟨[.int .i64 (ws.length : Int),.slice none 0 0,.int .i64 root],.rw,0⟩ := by rw [qm,if_pos rfl]
 have hz0 : (H.push ⟨[.int .i64 (ws.length : Int),.slice none 0 0,.int .i64 root],.rw,0⟩).size = H.size + 1 := rfl
 generalize H.push ⟨[.int .i64 (ws.length : Int),.slice none 0 0,.int .i64 root],.rw,0⟩ = H0 at *
 rw [(hA.keeps hk0).c1,qag]
 refine qI (t := (0 : Int)) (I := fun (t : Int) H' => ∃ (i : Nat) (s' : Sl) (E' : List (Ex × Nat)),t = (i : Int) ∧ i ≤ E.length ∧ qa H H' ∧ H0.size ≤ H'.size ∧ MdAt (fun b => H.size ≤ b ∧ b < H'.size) H' H.size ws.length s' E' root ∧ E'.map (·.1) = (E.map (·.1)).take i) (m := fun (t : Int) _ => qlQ ((E.length : Int) - t)) ?_ ?_
 rotate_left 1
 ·refine ⟨0,⟨none,0,0⟩,[],rfl,by omega,hk0,qlS _,⟨hg0,.inl ⟨rfl,rfl⟩,fun x hx => (by cases hx),⟨qlS _,by omega⟩,fun a ha => (by cases ha),fun x hx => (by cases hx),fun b hb => hb.2,fun a ha => (by cases ha),fun x hx => (by cases hx),List.nodup_nil⟩,rfl⟩
 rintro t H1 ⟨i,s',E',rfl,hi,hk,hz,hB,hE'⟩ it hit
 unfold qau.l1
 have hA1 := hA.keeps hk
 have hr1 := hA1.rows
 simp only [qi,decide_eq_true_eq]
 rw [hr1.1]
 by_cases hlt : (i : Int) < (E.length : Int)
 rotate_left 1
 ·rw [if_neg hlt]
  have : i = E.length := by omega
  subst this
  refine h _ H.size H1 hk ⟨qa.kp hk,fun b hb => .inr hb⟩ ⟨s',E',hB,?_⟩
  rw [hE',qmx (by simp)]
  exact hR
 rw [if_pos hlt]
 have hi' : i < E.length := by omega
 obtain ⟨b,ofs,ha,hb,hcells⟩ := qas hr1 (by omega)
 refine ⟨by omega,?_⟩
 rw [ha,qd,qlP,ql (hcells i E[i] (qlK hi')).1]
 have hxm : E[i] ∈ E := ql1 hi'
 have hq := hex _ hxm
 have hEi : (E.map (·.1)).take (i + 1) = E'.map (·.1) ++ [E[i].1] := by
  rw [qm6,qlW,qlK hi',hE']; rfl
 generalize hqe : E[i] = q at *
 refine qbW (n := 3) rfl (exV_len q) (exV_ok q) ?_
 obtain ⟨H2,hH2⟩ : ∃ H2,H2 = H1.push ⟨exV q,.rw,0⟩ := ⟨_,rfl⟩
 have hX : ExAt H2 H1.size q := by rw [hH2]; exact ExAt.new
 have hk2 : qa H1 H2 := by rw [hH2]; exact (qa.refl H1).push _
 have hz2 : H2.size = H1.size + 1 := by rw [hH2]; rfl
 have hg2 : H2.get H1.size = ⟨exV q,.rw,0⟩ := by rw [hH2,qm,if_pos rfl]
 rw [← hH2]
 clear hH2
 rw [hX.c2,qag]
 have hbr := qgN (hA1.keeps hk2) hxm (a := 0) (n := q.1.2.2.length) (by omega)
 rw [List.drop_zero,qmI] at hbr
 refine qad.s (bs := q.1.2.2) ⟨hbr.1,hbr.2⟩ (by omega) ?_
 intro s29 H3 hk3 hO3
 have hn3 : q.1.2.2 ≠ [] := fun h0 => by rw [h0] at hq; simp at hq; omega
 rcases hO3 with ⟨_,h0⟩ | ⟨nb,rfl,hnb1,hnb2,hnbg⟩
 ·exact absurd h0 hn3
 rw [qk]
 have hg3 : H3.get H1.size = ⟨exV q,.rw,0⟩ := by rw [hk3.2 _ (by omega),hg2]
 refine ⟨⟨rfl,by simp [hg3],by simp [hg3,exV]⟩,?_⟩
 have hz3 := hk3.1
 have hX4 : ExAt (H3.put ⟨H1.size,0 + 2,none⟩ [Sl.val ⟨some ⟨nb,0,none⟩,q.1.2.2.length,1⟩]) H1.size (q.1,nb) := ⟨0,by simp [AH.put,qu,hg3,setMany,exV,Sl.val]⟩
 have hg4 : (H3.put ⟨H1.size,0 + 2,none⟩ [Sl.val ⟨some ⟨nb,0,none⟩,q.1.2.2.length,1⟩]).get nb = ⟨q.1.2.2.flatMap bU,.rw,1⟩ := by
  have : nb ≠ H1.size := by omega
  simp [AH.put,qu,this,hnbg]
 have hk4 : qa H1 (H3.put ⟨H1.size,0 + 2,none⟩ [Sl.val ⟨some ⟨nb,0,none⟩,q.1.2.2.length,1⟩]) := (hk2.trans hk3).put (qlS _) _
 have hz4 : (H3.put ⟨H1.size,0 + 2,none⟩ [Sl.val ⟨some ⟨nb,0,none⟩,q.1.2.2.length,1⟩]).size = H3.size := rfl
 generalize H3.put ⟨H1.size,0 + 2,none⟩ [Sl.val ⟨some ⟨nb,0,none⟩,q.1.2.2.length,1⟩] = H4 at *
 have hB4 := hB.keeps hk4
 show elL (AH.cell? H4 (qlL ⟨H.size,0,none⟩ 1)) _
 rw [hB4.c1,qag,ql hX4.row]
 refine ⟨rfl,?_⟩
 rw [qp]
 have hm5 : setMany [qlI .i64 0,.int .i64 0,.slice none 0 0] 0 (exV (q.1,nb)) = exV (q.1,nb) := rfl
 rw [hm5]
 obtain ⟨H5,hH5⟩ : ∃ H5,H5 = H4.push ⟨exV (q.1,nb),.rw,3⟩ := ⟨_,rfl⟩
 have hk5 : qa H4 H5 := by rw [hH5]; exact (qa.refl H4).push _
 have hz5 : H5.size = H4.size + 1 := by rw [hH5]; rfl
 have hg5 : H5.get H4.size = ⟨exV (q.1,nb),.rw,3⟩ := by rw [hH5,qm,if_pos rfl]
 rw [← hH5]
 clear hH5
 have hB5 := hB4.keeps hk5
 have hE'l : E'.length = i := by have := congrArg qlY hE'; simp at this; omega
 refine qfG exV_len exV_ok hB5.own (qhK (x := (q.1,nb)) exV_len exV_ok (by omega) hg5) (by simp) (qmM (by simp [lim]; omega) (limS_le 3)) ?_
 intro s6 H6 hO6 hz6 hfr
 have hge := hk.1
 have hold : ∀ b,(H.size ≤ b ∧ b < H1.size) → (∀ a,s'.a = some a → b ≠ a.block) → H6.get b = H1.get b := fun b hb hne => by
  rw [hfr b (by omega) hne,hk5.2 b (by omega),hk4.2 b hb.2]
 have hsb : ∀ a,s'.a = some a → a.block < H1.size := fun a ha => (hB.fs a ha).2
 have hnbN : nb < H3.size := hnb2
 obtain ⟨p1,p2,p3⟩ := MdAt.put_ext (G := fun b => H.size ≤ b ∧ b < H6.size) (root := root) (words := (ws.length : Int)) (p := H.size) (s := s') (H1 := H6) (E' := E' ++ [(q.1,nb)]) (s' := s6) (by rw [hold H.size ⟨qlS _,by omega⟩ hB.pne]; exact hB.obj) (qbO hO6 (by omega))
  (fun y hy => by
   rw [ql2] at hy
   rcases hy with hy | hy
   ·rw [hold y.2 (hB.fx y hy) (fun a ha he => (hB.nx y hy).2 a ha he.symm)]; exact hB.bys y hy
   ·simp at hy
    subst hy
    rw [hfr nb (by omega) (fun a ha he => by have := hsb a ha; omega),hk5.2 nb (by omega)]
    exact hg4)
  ⟨qlS _,by omega⟩
  (fun a ha => by
   rcases hO6 with ⟨h0,_⟩ | ⟨b,h0,h5,h6,_⟩
   ·rw [h0] at ha; cases ha
   ·rw [h0] at ha
    injection ha with ha
    subst ha
    exact ⟨by simp only; omega,h6⟩)
  (fun y hy => by
   rw [ql2] at hy
   rcases hy with hy | hy
   ·have := hB.fx y hy; exact ⟨this.1,by omega⟩
   ·simp at hy
    subst hy
    exact ⟨by simp only; omega,by simp only; omega⟩)
  (fun b hb => hb.2)
  (by
   rw [qmz,List.nodup_append]
   refine ⟨hB.nd,by simp,fun a ha c hc he => ?_⟩
   rw [qml] at ha
   obtain ⟨y,hy,rfl⟩ := ha
   simp at hc
   have := (hB.fx y hy).2
   omega)
 refine ⟨p1,?_⟩
 rw [qg (n := (i : Int) + 1) (by omega) (by omega)]
 refine hit _ _ ⟨i + 1,s6,E' ++ [(q.1,nb)],by simp,by omega,?_,show H0.size ≤ H6.size by omega,p2,?_⟩ (by omega)
 ·refine ⟨show H.size ≤ H6.size by omega,fun b hb => ?_⟩
  rw [p3 b (by omega),hfr b (by omega) (fun a ha he => by have := (hB.fs a ha).1; omega),hk5.2 b (by omega),hk4.2 b (by omega),hk.2 b hb]
 ·rw [hEi,qmz]; rfl
theorem qjk (b : Bk) : eqCells [(K.int .i64),(K.int .i64),K.bool] (bkV b) (bkV b) = some true := by
 simp [eqCells,bkV]
theorem qR.s {x0 x1 : Sl} {l : List Bk} {k : Bool → AH → Prop} (h0 : ql5 H x0 3 bkV l) (h1 : ql5 H x1 3 bkV l) (hl : l.length ≤ 100000) (h : k true H) : qR x0 x1 H k := by
 refine gcB true (qR.link ?_) h
 unfold qR.b
 rw [h0.1,h1.1,qi,if_neg (by simp)]
 refine qI (t := ((false,(0 : Int)) : Bool × Int)) (I := fun (t : Bool × Int) H' => H' = H ∧ ∃ i : Nat,t.2 = (i : Int) ∧ i ≤ l.length) (m := fun (t : Bool × Int) _ => qlQ ((l.length : Int) - t.2)) ?_ ⟨rfl,0,rfl,by omega⟩
 rintro ⟨t0,t2⟩ H1 ⟨rfl,i,e1,hi⟩ it hit
 simp only at e1
 subst e1
 unfold qR.l1
 simp only [qi,decide_eq_true_eq]
 rw [h0.1]
 by_cases hlt : (i : Int) < (l.length : Int)
 rotate_left 1
 ·rw [if_neg hlt]; exact ⟨qa.refl _,trivial⟩
 rw [if_pos hlt]
 have hi' : i < l.length := by omega
 obtain ⟨b,o,ha,hb,hcells⟩ := qas h0 (by omega)
 obtain ⟨b2,o2,ha2,hb2,hcells2⟩ := qas h1 (by omega)
 refine ⟨by omega,?_⟩
 rw [ha,qd,qlP,ql (hcells i _ (qlK hi')).1]
 refine ⟨by rw [h1.1]; omega,?_⟩
 rw [ha2,qd,ql (hcells2 i _ (qlK hi')).1,qjk]
 refine ⟨true,rfl,?_⟩
 show ite _ _ _
 rw [if_neg (by simp),qg (n := (i : Int) + 1) (by omega) (by omega)]
 exact hit _ _ ⟨rfl,i + 1,by simp,by omega⟩ (by simp only; omega)
end
theorem qjP (v : Int) (j : Nat) : 0 ≤ getB v j ∧ getB v j ≤ 255 := by unfold getB; omega
theorem qkn (ws : List Int) (o n : Nat) : qam (bytesOf ws o n) := by
 intro v hv
 unfold bytesOf at hv
 rw [qml] at hv
 obtain ⟨j,_,rfl⟩ := hv
 exact qjP _ _
theorem aRead_8 (ws : List Int) (off n : Int) : qam (aRead ws off n).1 := by
 unfold aRead
 split
 ·exact qkn _ _ _
 ·intro v hv; cases hv
section
variable {H : AH}
theorem MR.blk' {words : Int} {e : List Ex} {ws : List Int} (h : MR words e ws) : blkL ws = blkX words e := by unfold blkL; rw [h.blocks]; rfl
theorem qjg {n words : Int} (hw : mayW words) (hn : 1 ≤ n ∧ n ≤ 448) (hfit : needN n ≤ words) :
  fitO (firstN words) n = [8] ∧ ∃ tk,takesN words (needN n) = tk ∧ (aAlloc (firstN words) n 8).1 = true ∧ MR words [(0,tk,qlN ((tk.toNat - 1) * 8) 0)] (aAlloc (firstN words) n 8).2 := by
 have hm := MR.first hw
 have hw' := hw
 unfold mayW at hw'
 have hb : blkL (firstN words) = [(0,words,false)] := by
  rw [hm.blk']
  show gapB 0 words = _
  unfold gapB
  rw [if_pos (by omega),Int.sub_zero]
 have hneed : 2 ≤ needN n := by unfold needN; rw [if_pos hn]; omega
 have hf : fitI (firstN words) n = [0] := by
  unfold fitI fitsL
  rw [if_neg (by omega),hb]
  show fitStep _ _ [] 0 = [0]
  unfold fitStep
  have h1 : bkAt [((0 : Int),words,false)] 0 = (0,words,false) := rfl
  rw [h1,if_neg (by simp; omega)]
  rfl
 have hfo : fitO (firstN words) n = [8] := by
  show (fitI (firstN words) n).map _ = _
  rw [hf,hb]; rfl
 refine ⟨hfo,takesN words (needN n),rfl,?_⟩
 rcases qek (firstN words) n 8 with ⟨h0,_⟩ | ⟨_,i,hi,_,hA⟩
 ·rw [hfo] at h0; simp at h0
 ·rw [hf] at hi
  have hi0 : i = 0 := by simpa using hi
  subst hi0
  rw [hA]
  refine ⟨rfl,?_⟩
  have hbk : bkAt (blkL (firstN words)) 0 = (0,words,false) := by rw [hb]; rfl
  rw [hbk]
  obtain ⟨e1,e2,hE,_,_,hMR⟩ := hm.alloc (i := 0) (b := (0,words,false)) (need := needN n) (by rw [← hm.blk',hb]; rfl) rfl ⟨hneed,hfit⟩
  have h2 : e1 = [] ∧ e2 = [] := by
   cases e1 <;> cases e2 <;> simp at hE ⊢
  rw [h2.1,h2.2] at hMR
  exact hMR
end
section
variable {words root off : Int} {e : List Ex} {ws : List Int}
theorem emap (e : List Ex) : (e.map fun x => ((x,0) : Ex × Nat)).map (·.1) = e := by
 induction e with
 | nil => rfl
 | cons a r ih => simp only [qmv,ih]
theorem MR.wr (h : MR words e ws) {bs : List Int} (hw : 0 ≤ (bs.length : Int) ∧ (bs.length : Int) ≤ 448 ∧ ∃ x ∈ e,(x.1 + 1) * 8 ≤ off ∧ off + bs.length ≤ (x.1 + x.2.1) * 8) : aWrite ws off bs = (0,putBs ws off.toNat bs) := by
 have hl := h.len
 refine qhv (E := e.map fun x => (x,0)) (by rw [emap,hl]; exact h) ?_
 rw [h.blk',h.within]; exact hw
theorem MR.wr0 (h : MR words e ws) {bs : List Int} (hw : ¬ (0 ≤ (bs.length : Int) ∧ (bs.length : Int) ≤ 448 ∧ ∃ x ∈ e,(x.1 + 1) * 8 ≤ off ∧ off + bs.length ≤ (x.1 + x.2.1) * 8)) : aWrite ws off bs = (1,ws) := by
 have hl := h.len
 refine qg0 (E := e.map fun x => (x,0)) (by rw [emap,hl]; exact h) ?_
 rw [h.blk',h.within]; exact hw
theorem MR.rd (h : MR words e ws) {n : Int} (hw : 0 ≤ n ∧ n ≤ 448 ∧ ∃ x ∈ e,(x.1 + 1) * 8 ≤ off ∧ off + n ≤ (x.1 + x.2.1) * 8) : aRead ws off n = (bytesOf ws off.toNat n.toNat,0) := by
 unfold aRead
 rw [if_pos]
 rw [h.blk',h.within]; exact hw
end
section
variable {ws : List Int} {e : List Ex} {off root : Int}
theorem MR.self {words : Int} {ext : List Ex} {W : List Int} (h : MR words ext W) (hl : (W.length : Int) = words) : MR W.length ext W := by rw [hl]; exact h
theorem MR.used (h : MR ws.length e ws) : isUsed ws off = true ↔ ∃ x ∈ e,(x.1 + 1) * 8 = off := by
 unfold isUsed
 rw [h.blocks]
 simp only [decide_eq_true_eq]
 constructor
 ·intro hh
  by_cases hx : ∃ x ∈ e,(x.1 + 1) * 8 = off
  ·exact hx
  ·have := h.is_none (off := off) (fun x hx' ho => hx ⟨x,hx',ho⟩)
   omega
 ·rintro ⟨x,hx,ho⟩
  obtain ⟨e1,e2,rfl⟩ := qm9 hx
  rw [h.is_at ho]; omega
theorem Ok.used_range (h : Ok ws) (hu : isUsed ws off = true) : 8 ≤ off ∧ off ≤ 8 * (ws.length : Int) := by
 obtain ⟨e,h⟩ := h
 obtain ⟨x,hx,ho⟩ := h.used.1 hu
 have := h.mem hx
 omega
theorem qd8 {E : List (Int × Int)} (h : ∃ e ∈ E,0 ≤ e.1) : 1 ≤ (eLines E).length := by
 obtain ⟨e,he,h0⟩ := h
 exact List.length_pos_of_mem (qcV.2 ⟨e,he,h0,rfl⟩)
theorem qdn (K b : Int) (n : Nat) : linesP K b n ≤ 14 := by
 unfold linesP
 split
 ·split <;> omega
 ·split
  ·split <;> omega
  ·split <;> omega
theorem qk5 {i j : Nat} (hok : Ok ws) (hi : i < (blkL ws).length) (hj : j < (blkL ws).length) (h : (bkAt (blkL ws) i).1 = (bkAt (blkL ws) j).1) : i = j := by
 have hc := hok.may.2
 have h1 := atN_at (j := 0) hc hi
 have h2 := atN_at (j := 0) hc hj
 rw [h,h2] at h1
 omega
theorem qdo {n : Int} {cs : List Int} (hok : Ok ws) (hE : (imgAlloc ws n cs).2.2 = 0) :
  Ok (applyE ws (imgAlloc ws n cs).1) ∧ (∀ root,isUsed ws root = true → isUsed (applyE ws (imgAlloc ws n cs).1) root = true) ∧ 1 ≤ (eLines (imgAlloc ws n cs).1).length ∧ aAlloc ws n (imgAlloc ws n cs).2.1 = (true,applyE ws (imgAlloc ws n cs).1) ∧
  (∀ root,isUsed ws root = true → root ≠ (imgAlloc ws n cs).2.1) ∧ isUsed (applyE ws (imgAlloc ws n cs).1) (imgAlloc ws n cs).2.1 = true := by
 have hok0 := hok
 have hbl := hok.blocks
 have hlen := hok.len
 obtain ⟨e,h⟩ := hok
 unfold imgAlloc at hE ⊢
 rw [hbl] at hE ⊢
 by_cases hn0 : needN n = 0
 ·rw [if_pos hn0] at hE; simp at hE
 rw [if_neg hn0] at hE ⊢
 simp only at hE ⊢
 by_cases hc : chooseN (blkL ws) (needN n) cs < 0
 ·rw [if_pos hc] at hE; simp at hE
 rw [if_neg hc] at hE ⊢
 have hch : ∃ i : Nat,chooseN (blkL ws) (needN n) cs = (i : Int) ∧ i ∈ fitsL (blkL ws) (needN n) := by
  unfold chooseN at hc ⊢
  rcases qeV (l := blkL ws) (cs := cs) (f := fitsL (blkL ws) (needN n)) (b := -1) with h | ⟨i,hi,h⟩
  ·omega
  ·exact ⟨i,h,hi⟩
 obtain ⟨i,hx,hin⟩ := hch
 obtain ⟨hi,hu,hn1,hn2⟩ := qgi (ws := ws) (n := n) hin
 rw [hx,qlP]
 simp only
 have hgi := qaW hi
 have hbx : blkL ws = blkX ws.length e := h.blk'
 have hbm := hok0.blen.2 _ (qlX hgi)
 obtain ⟨e1,e2,he,hl1,hl2,hMR⟩ := h.alloc (by rw [← hbx]; exact hgi) hu ⟨hn2,hn1⟩
 have hlen' : (applyE ws (carveE (bkAt (blkL ws) i) (needN n))).length = ws.length := qac _ _
 have hMR' := MR.self hMR (by rw [hlen'])
 have hoff : offN (bkAt (blkL ws) i).1 = ((bkAt (blkL ws) i).1 + 1) * 8 := by unfold offN; rw [if_pos (by omega)]
 refine ⟨⟨_,hMR'⟩,fun root hr => ?_,?_,?_,fun root hr => ?_,?_⟩
 ·obtain ⟨x,hx,ho⟩ := h.used.1 hr
  refine hMR'.used.2 ⟨x,?_,ho⟩
  rw [he,ql2] at hx
  rw [ql2,ql6]
  rcases hx with hx | hx
  ·exact .inl hx
  ·exact .inr (.inr hx)
 ·refine qd8 ⟨_,List.mem_cons_self ..,by simp only; omega⟩
 ·have hmem : offN (bkAt (blkL ws) i).1 ∈ fitO ws n := by
   unfold fitO
   exact qna (f := fun i => offN (bkAt (blkL ws) i).1) hin
  rcases qek ws n (offN (bkAt (blkL ws) i).1) with ⟨hno,_⟩ | ⟨_,j,hj,ho,hA⟩
  ·exact absurd hmem hno
  ·obtain ⟨hjl,hju,_,_⟩ := qgi hj
   have hbj := hok0.blen.2 _ (qlX (qaW hjl))
   have hij : j = i := qk5 hok0 hjl hi (by
    rw [hoff] at ho
    unfold offN at ho
    rw [if_pos (by omega)] at ho
    omega)
   rw [hA,hij]
 ·obtain ⟨x,hx,ho⟩ := h.used.1 hr
  intro hc
  rw [hoff] at hc
  rw [he,ql2] at hx
  rcases hx with hx | hx
  ·have := hl1 x hx; omega
  ·have := hl2 x hx; omega
 ·exact hMR'.used.2 ⟨_,List.mem_append_right _ (List.mem_cons_self ..),hoff.symm⟩
theorem qew (hok : Ok ws) (hE : (imgFree ws off).2 = 0) :
  Ok (applyE ws (imgFree ws off).1) ∧ (∀ root,isUsed ws root = true → root ≠ off → isUsed (applyE ws (imgFree ws off).1) root = true) ∧ 1 ≤ (eLines (imgFree ws off).1).length ∧ isUsed ws off = true := by
 obtain ⟨e,h⟩ := hok
 by_cases hx : ∃ x ∈ e,(x.1 + 1) * 8 = off
 rotate_left 1
 ·rw [h.imgFree_none (fun x hx' ho => hx ⟨x,hx',ho⟩)] at hE; simp at hE
 have hus := h.used.2 hx
 obtain ⟨x,hx,ho⟩ := hx
 obtain ⟨e1,e2,rfl⟩ := qm9 hx
 rw [h.imgFree_at ho]
 simp only
 have hMR := h.free
 have hlen' : (applyE ws [(endX 0 e1,wordN (startX (ws.length : Int) e2 - endX 0 e1) false)]).length = ws.length := qac _ _
 have hMR' := MR.self hMR (by rw [hlen'])
 refine ⟨⟨_,hMR'⟩,fun root hr hne => ?_,?_,hus⟩
 ·obtain ⟨y,hy,hyo⟩ := h.used.1 hr
  refine hMR'.used.2 ⟨y,?_,hyo⟩
  rw [ql2,ql6] at hy
  rw [ql2]
  rcases hy with hy | hy | hy
  ·exact .inl hy
  ·subst hy; exact absurd (hyo.symm.trans ho) hne
  ·exact .inr hy
 ·have := (qc0 (qdg.1 h.ok).1).1
  exact qd8 ⟨_,List.mem_cons_self ..,by simp only; omega⟩
theorem qfl {bs : List Int} {E : List (Int × Int)} (hE : imgWrite ws off bs = (E,0)) : (E.length = 0 ↔ bs.length = 0) ∧ (0 < bs.length → ∃ e ∈ E,0 ≤ e.1) := by
 unfold imgWrite at hE
 split at hE
 ·simp at hE
 split at hE
 rotate_left 1
 ·simp at hE
 injection hE with h1 h2
 subst h1
 unfold editsOf touched
 refine ⟨?_,fun hb => ?_⟩
 ·rw [qmt,List.length_range]
  split <;> omega
 ·rw [if_neg (by omega)]
  exact ⟨_,qna (List.mem_range.2 (show 0 < _ by omega)),by simp only; omega⟩
theorem qgV {bs : List Int} (hok : Ok ws) (h8 : qam bs) (hE : (imgWrite ws off bs).2 = 0) :
  Ok (applyE ws (imgWrite ws off bs).1) ∧ (∀ root,isUsed ws root = true → isUsed (applyE ws (imgWrite ws off bs).1) root = true) := by
 have hA : aWrite ws off bs = (0,applyE ws (imgWrite ws off bs).1) := by unfold aWrite; rw [if_pos hE]
 obtain ⟨e,h⟩ := hok
 by_cases hw : 0 ≤ (bs.length : Int) ∧ (bs.length : Int) ≤ 448 ∧ ∃ x ∈ e,(x.1 + 1) * 8 ≤ off ∧ off + bs.length ≤ (x.1 + x.2.1) * 8
 rotate_left 1
 ·rw [h.wr0 hw] at hA; simp at hA
 rw [h.wr hw] at hA
 injection hA with _ hA
 rw [← hA]
 obtain ⟨_,_,x,hx,ho1,ho2⟩ := hw
 have hxm := h.mem hx
 obtain ⟨e1,e2,rfl⟩ := qm9 hx
 have hMR := h.write (off := off.toNat) (bs := bs) h8 (by omega) (by omega)
 have hlen' : (putBs ws off.toNat bs).length = ws.length := qcG _ _ _
 have hMR' := MR.self hMR (by rw [hlen'])
 refine ⟨⟨_,hMR'⟩,fun root hr => ?_⟩
 obtain ⟨y,hy,hyo⟩ := h.used.1 hr
 rw [ql2,ql6] at hy
 rcases hy with hy | hy | hy
 ·exact hMR'.used.2 ⟨y,by simp [hy],hyo⟩
 ·subst hy; exact hMR'.used.2 ⟨_,List.mem_append_right _ (List.mem_cons_self ..),hyo⟩
 ·exact hMR'.used.2 ⟨y,by simp [hy],hyo⟩
end
def ChOut (pa pb pc pd : Int) (s : HS) (ws : List Int) (root : Int) (mvb : Nat) (cb : Int) (err : Int) (E : List (Int × Int)) (s' : HS) (e : Int) : Prop :=
 (e = 0 ∧ err = 0 ∧ ¬ s.stuck ∧ s'.M.down = false ∧ HP pa pb pc pd s' (applyE ws E) root (mvb + 40) (cb + 14) ∧ s'.worn = false ∧ s'.now = bump s.now (eLines E)) ∨
 (e = 3 ∧ s'.M.down = false ∧ HP pa pb pc pd s' ws root (mvb + 40) (cb + 14) ∧ s'.stuck ∧ s'.now = s.now ∧ (s.stuck → s' = s) ∧ (¬ s.stuck → err = 0 ∧ s'.worn = true)) ∨
 (e = err ∧ s' = s ∧ (err = 0 → E = [])) ∨
 (e = 2 ∧ err = 0 ∧ ¬ s.stuck ∧ s'.M.down = true ∧ s.M.cut ≠ -1 ∧ (HP pa pb pc pd s' ws root (mvb + 40) (cb + 14) ∨ HP pa pb pc pd s' (applyE ws E) root (mvb + 40) (cb + 14)))
structure Side (pa pb : Int) (s s' : HS) : Prop where
 cut : s.M.cut = -1 → s'.M.cut = -1
 lv : ∀ k,LV s.M (16 + pa.toNat + 1) pb.toNat k → ∃ k',k ≤ k' ∧ LV s'.M (16 + pa.toNat + 1) pb.toNat k'
theorem Side.refl {pa pb : Int} (s : HS) : Side pa pb s s := ⟨fun h => h,fun k h => ⟨k,qlS _,h⟩⟩
def errFree (ws : List Int) (root off : Int) : Int := if (imgFree ws off).2 ≠ 0 then (imgFree ws off).2 else if root = off then 5 else 0
section
variable {pa pb pc pd : Int} {s : HS} {ws : List Int} {root : Int} {mvb : Nat} {cb : Int}
theorem HP.rootN (h : HP pa pb pc pd s ws root mvb cb) : rootN s.M = root ∧ 0 ≤ root ∧ root ≤ 4096 := by
 have hr : 0 ≤ root ∧ root ≤ 4096 := by
  rcases h.ru with h0 | hu
  ·omega
  ·have := h.ok.used_range hu
   have := h.ok.len
   omega
 unfold Go.Proofs.YtdcbkjgoaknmkaaGreat.rootN
 rw [h.rt,qg (by omega) (by omega)]
 exact ⟨rfl,hr⟩
theorem qe4 {E : List (Int × Int)} (h : HP pa pb pc pd s ws root mvb cb) (hup : s.M.down = false) (hst : ¬ s.stuck) (hin : EdIn E ws.length) (h1 : 1 ≤ (eLines E).length) (h14 : (eLines E).length ≤ 14)
  (hok' : Ok (applyE ws E)) (hru' : root = 0 ∨ isUsed (applyE ws E) root = true) (hb : mvb + 2000 < 4611686018427387904) (hcb : cb + 100 < 4611686018427387904) :
  ChOut pa pb pc pd s ws root mvb cb 0 E (commitH pa pb pc pd ws E s).1 (commitH pa pb pc pd ws E s).2 ∧ Side pa pb s (commitH pa pb pc pd ws E s).1 := by
 obtain ⟨c1,c2,c3⟩ := qgT h hup hst hin h1 h14 hok' hru' hb hcb
 refine ⟨?_,c1,c3⟩
 rcases c2 with ⟨a,b,c,d,e⟩ | ⟨a,b,c,d,e⟩ | ⟨a,b,c,d⟩
 ·exact .inl ⟨a,rfl,hst,b,c,d,e⟩
 ·exact .inr (.inl ⟨a,b,c,.inl d,e,fun h => absurd h hst,fun _ => ⟨rfl,d⟩⟩)
 ·exact .inr (.inr (.inr ⟨a,rfl,hst,b,c,d⟩))
theorem ChOut.stuck3 {E : List (Int × Int)} {err : Int} (h : HP pa pb pc pd s ws root mvb cb) (hup : s.M.down = false) (hs : s.stuck) : ChOut pa pb pc pd s ws root mvb cb err E s 3 :=
 .inr (.inl ⟨rfl,hup,h.mono (by omega) (by omega),hs,rfl,fun _ => rfl,fun hn => absurd hs hn⟩)
theorem qd1 {n : Int} (h : HP pa pb pc pd s ws root mvb cb) (hup : s.M.down = false) (hb : mvb + 2000 < 4611686018427387904) (hcb : cb + 100 < 4611686018427387904) :
  ChOut pa pb pc pd s ws root mvb cb (imgAlloc ws n s.now).2.2 (imgAlloc ws n s.now).1 (allocH pa pb pc pd s n).1 (allocH pa pb pc pd s n).2.1 ∧ Side pa pb s (allocH pa pb pc pd s n).1 ∧
  ((allocH pa pb pc pd s n).2.1 = 3 → (imgAlloc ws n s.now).2.2 ≠ 1) ∧ (s.stuck → (allocH pa pb pc pd s n).2.1 ≠ 3 → (imgAlloc ws n s.now).2.2 = 1) ∧ ((allocH pa pb pc pd s n).2.1 = 0 → (imgAlloc ws n s.now).2.2 = 0 ∧ ¬ s.stuck ∧ (allocH pa pb pc pd s n).2.2 = (imgAlloc ws n s.now).2.1) := by
 have hE6 : (imgAlloc ws n s.now).2.2 = 0 ∨ (imgAlloc ws n s.now).2.2 = 4 ∨ (imgAlloc ws n s.now).2.2 = 6 ∨ ((imgAlloc ws n s.now).2.2 = 1 ∧ needN n = 0) := by
  unfold imgAlloc
  by_cases h0 : needN n = 0
  ·rw [if_pos h0]; exact .inr (.inr (.inr ⟨rfl,h0⟩))
  ·rw [if_neg h0]
   split
   ·exact .inr (.inr (.inl rfl))
   ·split
    ·exact .inr (.inl rfl)
    ·exact .inl rfl
 unfold allocH
 rw [if_neg (by simp [hup]),h.words hup]
 by_cases h0 : needN n = 0
 ·rw [if_pos h0]
  have e1 : (imgAlloc ws n s.now).2.2 = 1 := by unfold imgAlloc; rw [if_pos h0]
  rw [e1]
  exact ⟨.inr (.inr (.inl ⟨rfl,rfl,fun hh => by omega⟩)),Side.refl s,fun hh => by simp at hh,fun _ _ => rfl,fun hh => by simp at hh⟩
 rw [if_neg h0]
 by_cases hs : s.stuck
 ·rw [if_pos hs]
  exact ⟨ChOut.stuck3 h hup hs,Side.refl s,fun _ hh => by omega,fun _ hh => by simp at hh,fun hh => by simp at hh⟩
 rw [if_neg hs]
 by_cases he : (imgAlloc ws n s.now).2.2 = 0
 rotate_left 1
 ·rw [if_pos he]
  refine ⟨.inr (.inr (.inl ⟨rfl,rfl,fun hh => absurd hh he⟩)),Side.refl s,fun hh => by simp only at hh; omega,fun hh => absurd hh hs,fun hh => absurd hh he⟩
 rw [if_neg (by simpa using he)]
 obtain ⟨k1,k2,k3,_,_,_⟩ := qdo h.ok he
 have hml := (qfY (ws := ws) (n := n) (cs := s.now)).most
 have := qdn 1 n 0
 obtain ⟨c1,c2⟩ := qe4 (E := (imgAlloc ws n s.now).1) h hup hs qeG k3 (by omega) k1 (h.ru.imp id (k2 root)) hb hcb
 rw [he]
 exact ⟨c1,c2,fun _ => by omega,fun hh => absurd hh hs,fun _ => ⟨rfl,hs,rfl⟩⟩
theorem qgj {off : Int} (h : HP pa pb pc pd s ws root mvb cb) (hup : s.M.down = false) (hb : mvb + 2000 < 4611686018427387904) (hcb : cb + 100 < 4611686018427387904) :
  ChOut pa pb pc pd s ws root mvb cb (errFree ws root off) (imgFree ws off).1 (freeH pa pb pc pd s off).1 (freeH pa pb pc pd s off).2 ∧ Side pa pb s (freeH pa pb pc pd s off).1 ∧
  ((freeH pa pb pc pd s off).2 = 3 → errFree ws root off = 0) := by
 have hE6 : (imgFree ws off).2 = 0 ∨ (imgFree ws off).2 = 1 ∨ (imgFree ws off).2 = 6 := by
  unfold imgFree
  split
  ·exact .inr (.inr rfl)
  ·split
   ·exact .inr (.inl rfl)
   ·exact .inl rfl
 have hF : freeH pa pb pc pd s off = if (imgFree ws off).2 ≠ 0 then (s,(imgFree ws off).2) else if root = off then (s,5) else if s.stuck then (s,3) else commitH pa pb pc pd ws (imgFree ws off).1 s := by
  unfold freeH
  rw [if_neg (by simp [hup]),h.words hup,h.rootN.1]
 rw [hF]
 by_cases he : (imgFree ws off).2 = 0
 rotate_left 1
 ·have eF : errFree ws root off = (imgFree ws off).2 := by unfold errFree; rw [if_pos he]
  rw [if_pos he,eF]
  exact ⟨.inr (.inr (.inl ⟨rfl,rfl,fun hh => absurd hh he⟩)),Side.refl s,fun hh => by simp only at hh; omega⟩
 rw [if_neg (by simpa using he)]
 by_cases hr : root = off
 ·have eF : errFree ws root off = 5 := by unfold errFree; rw [if_neg (by simpa using he),if_pos hr]
  rw [if_pos hr,eF]
  exact ⟨.inr (.inr (.inl ⟨rfl,rfl,fun hh => by omega⟩)),Side.refl s,fun hh => by simp at hh⟩
 have eF : errFree ws root off = 0 := by unfold errFree; rw [if_neg (by simpa using he),if_neg hr]
 rw [if_neg hr,eF]
 by_cases hs : s.stuck
 ·rw [if_pos hs]
  exact ⟨ChOut.stuck3 h hup hs,Side.refl s,fun _ => rfl⟩
 rw [if_neg hs]
 obtain ⟨k1,k2,k3,_⟩ := qew h.ok he
 have hml := (qeR (ws := ws) (off := off)).most
 have := qdn 2 0 0
 obtain ⟨c1,c2⟩ := qe4 (E := (imgFree ws off).1) h hup hs qeb k3 (by omega) k1 (h.ru.imp id (fun hu => k2 root hu (fun e => hr e))) hb hcb
 exact ⟨c1,c2,fun _ => rfl⟩
theorem qfR {off : Int} {bs : List Int} (h8 : qam bs) (h : HP pa pb pc pd s ws root mvb cb) (hup : s.M.down = false) (hb : mvb + 2000 < 4611686018427387904) (hcb : cb + 100 < 4611686018427387904) :
  ChOut pa pb pc pd s ws root mvb cb (imgWrite ws off bs).2 (imgWrite ws off bs).1 (writeH pa pb pc pd s off bs).1 (writeH pa pb pc pd s off bs).2 ∧ Side pa pb s (writeH pa pb pc pd s off bs).1 ∧
  ((writeH pa pb pc pd s off bs).2 = 3 → (imgWrite ws off bs).2 = 0 ∧ 0 < bs.length) ∧ ((imgWrite ws off bs).2 = 0 → bs.length = 0 → writeH pa pb pc pd s off bs = (s,0)) ∧ ((imgWrite ws off bs).2 = 0 → 0 < bs.length → s.stuck → writeH pa pb pc pd s off bs = (s,3)) := by
 have hE6 : (imgWrite ws off bs).2 = 0 ∨ (imgWrite ws off bs).2 = 1 ∨ (imgWrite ws off bs).2 = 6 := by
  unfold imgWrite
  split
  ·exact .inr (.inr rfl)
  ·split
   ·exact .inl rfl
   ·exact .inr (.inl rfl)
 unfold writeH
 rw [if_neg (by simp [hup]),h.words hup]
 by_cases he : (imgWrite ws off bs).2 = 0
 rotate_left 1
 ·rw [if_pos he]
  exact ⟨.inr (.inr (.inl ⟨rfl,rfl,fun hh => absurd hh he⟩)),Side.refl s,fun hh => by simp only at hh; omega,fun hh => absurd hh he,fun hh => absurd hh he⟩
 rw [if_neg (by simpa using he)]
 obtain ⟨l1,l2⟩ := qfl (E := (imgWrite ws off bs).1) (ws := ws) (off := off) (bs := bs) (Prod.ext rfl he)
 by_cases hz : (imgWrite ws off bs).1.length = 0
 ·rw [if_pos hz,he]
  have hb0 := l1.1 hz
  exact ⟨.inr (.inr (.inl ⟨rfl,rfl,fun _ => List.length_eq_zero_iff.1 hz⟩)),Side.refl s,fun hh => by simp at hh,fun _ _ => rfl,fun _ hh => by omega⟩
 rw [if_neg hz]
 have hb0 : 0 < bs.length := by
  rcases Nat.eq_zero_or_pos bs.length with h0 | h0
  ·exact absurd (l1.2 h0) hz
  ·exact h0
 by_cases hs : s.stuck
 ·rw [if_pos hs]
  exact ⟨ChOut.stuck3 h hup hs,Side.refl s,fun _ => ⟨he,hb0⟩,fun _ hh => by omega,fun _ _ _ => rfl⟩
 rw [if_neg hs]
 obtain ⟨k1,k2⟩ := qgV h.ok h8 he
 have hml := (qf2 (ws := ws) h.ok.len.2.2 (off := off) (bs := bs)).most
 have := qdn 4 0 bs.length
 obtain ⟨c1,c2⟩ := qe4 (E := (imgWrite ws off bs).1) h hup hs (qeO h.ok.len.2.2 (by have := h.ok.len; omega)) (qd8 (l2 hb0)) (by omega) k1 (h.ru.imp id (k2 root)) hb hcb
 rw [he]
 exact ⟨c1,c2,fun _ => ⟨rfl,hb0⟩,fun _ hh => by omega,fun _ _ hh => absurd hh hs⟩
theorem qeZ {off : Int} (hoff : isI off) (h : HP pa pb pc pd s ws root mvb cb) (hup : s.M.down = false) :
    Side pa pb s (setRootH pa pb s off).1 ∧ (setRootH pa pb s off).1.now = s.now ∧ (setRootH pa pb s off).1.worn = s.worn ∧
    ((off ≠ 0 ∧ isUsed ws off = false ∧ setRootH pa pb s off = (s,1)) ∨
     ((off = 0 ∨ isUsed ws off = true) ∧ s.stuck ∧ setRootH pa pb s off = (s,3)) ∨
     ((off = 0 ∨ isUsed ws off = true) ∧ ¬ s.stuck ∧ (setRootH pa pb s off).2 = 0 ∧ (setRootH pa pb s off).1.M.down = false ∧ ¬ (setRootH pa pb s off).1.stuck ∧ HP pa pb pc pd (setRootH pa pb s off).1 ws off mvb cb) ∨
     ((off = 0 ∨ isUsed ws off = true) ∧ ¬ s.stuck ∧ (setRootH pa pb s off).2 = 2 ∧ (setRootH pa pb s off).1.M.down = true ∧ s.M.cut ≠ -1 ∧ (HP pa pb pc pd (setRootH pa pb s off).1 ws root mvb cb ∨ HP pa pb pc pd (setRootH pa pb s off).1 ws off mvb cb))) := by
  have hm := qV.1 h.may
  unfold setRootH
  rw [if_neg (by simp [hup]),h.words hup]
  by_cases hu : off ≠ 0 ∧ isUsed ws off = false
  · rw [if_pos hu]
    exact ⟨Side.refl s,rfl,rfl,.inl ⟨hu.1,hu.2,rfl⟩⟩
  rw [if_neg hu]
  have hu' : off = 0 ∨ isUsed ws off = true := by
    by_cases h0 : off = 0
    · exact .inl h0
    · right
      cases hx : isUsed ws off with
      | true => rfl
      | false => exact absurd ⟨h0,hx⟩ hu
  by_cases hs : s.stuck
  · rw [if_pos hs]
    exact ⟨Side.refl s,rfl,rfl,.inr (.inl ⟨hu',hs,rfl⟩)⟩
  rw [if_neg hs]
  have hr : 0 ≤ off ∧ off ≤ 4096 := by
    rcases hu' with h0 | hu'
    · omega
    · have := h.ok.used_range hu'
      have := h.ok.len
      omega
  rw [qbE (by omega) (by omega)]
  have hS := Mem.set_any (M := s.M) (i := 2) (v := off) hup (by omega) h.ps.ok.cut.1
  have hSo := Mem.set_ok (M := s.M) (i := 2) (v := off) h.ps.ok (by unfold isU; omega)
  have hlow : ∀ r : Nat,r ≠ 2 → (s.M.set 2 off).1.regs.getD r 0 = s.M.regs.getD r 0 := fun r hr => qcP (by omega)
  have hrl := h.ps.ok.regs
  rw [show ((2 : Nat) : Int) = 2 from rfl] at hS
  generalize s.M.set 2 off = S at *
  have hcm : commits S.1 = commits s.M := hlow 1 (by omega)
  have hlv : ∀ k,LV s.M (16 + pa.toNat + 1) pb.toNat k → LV S.1 (16 + pa.toNat + 1) pb.toNat k := fun k hk => hk.low (by rw [hS.cs]) fun r h1 _ => hlow r (by omega)
  have mk : ∀ root',(root' = root ∨ root' = off) → S.1.regs.getD 2 0 = root' → HP pa pb pc pd { s with M := S.1 } ws root' mvb cb := by
    intro root' hor hreg
    refine ⟨h.may,h.ps.low hS.cs (fun r _ hr => hlow r hr) hSo,h.sd.low (by omega) hS.cs (fun r _ hr => hlow r hr) (by omega),h.ok,h.len,hreg,?_,h.pg,⟨h.cp.kl,h.cp.ok,fun hd i hi => ?_,fun i hi => by show S.1.regs.getD (19 + i) 0 ≤ _; rw [hlow (19 + i) (by omega)]; exact h.cp.rg i hi⟩,fun hst => ?_,h.c0⟩
    · rcases hor with rfl | rfl
      · exact h.ru
      · exact hu'
    · show _ ∧ S.1.regs.getD (19 + i) 0 = _
      rw [hlow (19 + i) (by omega)]
      exact h.cp.lag hup i hi
    · refine absurd ?_ hs
      rcases hst with hst | ⟨hst,hc⟩
      · exact .inl hst
      · exact .inr ⟨hup,by rw [← hcm]; exact hc⟩
  refine ⟨⟨hS.cut,fun k hk => ⟨k,qlS _,hlv k hk⟩⟩,rfl,rfl,?_⟩
  rcases hS.res with ⟨a,b,c⟩ | ⟨a,b,c,d⟩
  · refine .inr (.inr (.inl ⟨hu',hs,a,b,?_,mk off (.inr rfl) (by rw [c,qcw (by omega),if_pos rfl])⟩))
    intro hst
    refine hs ?_
    rcases hst with hst | ⟨hst,hc⟩
    · exact .inl hst
    · exact .inr ⟨hup,by rw [← hcm]; exact hc⟩
  · refine .inr (.inr (.inr ⟨hu',hs,a,b,c,?_⟩))
    rcases d with d | d
    · left; exact mk root (.inl rfl) (by rw [d]; exact h.rt)
    · right; exact mk off (.inr rfl) (by rw [d,qcw (by omega),if_pos rfl])
theorem qgl {off n : Int} (h : HP pa pb pc pd s ws root mvb cb) (hup : s.M.down = false) : readH pa pb s off n = imgRead ws off n := by
 unfold readH
 rw [if_neg (by simp [hup]),h.words hup]
theorem HP.hok {H : AH} {L : Pl} (h : HP pa pb pc pd s ws root mvb cb) (ha : HA H L pa pb pc pd s) (hb : mvb + 2000 < 4611686018427387904) (hcb : cb + 1000 < 4611686018427387904) : HOK H L pa pb pc pd s mvb cb :=
 ⟨ha,h.ps,by omega,fun j hj => (h.cp.ok j hj).2.2,hcb⟩
end
section
variable {n sp per : Nat} {M : Mem} {mvb len pt : Nat}
theorem qlB {l : List (Int × List Int)} (h : PSt n sp per M pt mvb len) (hn : 16 < n ∧ n ≤ 1000) (hup : M.down = false) (hb : mvb + 100 < 4611686018427387904) (hok : ∀ q ∈ l,qcm q) (hm : MayL n l) :
  (∀ r,(r = 2 ∨ 19 ≤ r) → (finN n sp per l M pt).1.regs.getD r 0 = M.regs.getD r 0) ∧
  ((finN n sp per l M pt).1.down = false → commits (finN n sp per l M pt).1 ≠ 0 → LV (finN n sp per l M pt).1 (n + 1) sp sp) ∧
  (∀ k,LV M (n + 1) sp k → ∃ k',k ≤ k' ∧ LV (finN n sp per l M pt).1 (n + 1) sp k') := by
 have hl14 := hm.2.2.1
 have hlm : ∀ q ∈ l,0 ≤ q.1 ∧ q.1 < n ∧ isLine q.2 := fun q hq => by have := qcT hm hq; exact ⟨by omega,this.2,(hok q hq).line⟩
 obtain ⟨t1,t2,t3⟩ := qe0 (by omega) h hup (by omega) hlm
 obtain ⟨b1,_,_,b4⟩ := qcU (by omega) h hup (by omega) hlm (qdC hm)
 have hps3 := h.puts (by omega) (l := l) (by omega) hok
 unfold finN
 simp only
 generalize tputs n sp per l M pt = T at *
 by_cases e2 : T.2.2 = 0
 ·rw [if_pos e2]
  have hTup : T.1.down = false := by
   rcases b1 with ⟨_,h,_⟩ | ⟨e',_⟩ | ⟨e',_⟩
   ·exact h
   ·omega
   ·omega
  obtain ⟨z1,z2⟩ := qdB (v := 0) hps3 hTup
  refine ⟨fun r hr => by rw [qcP (by omega),t1 r (by omega)],fun hd hh => ?_,fun k hk => ?_⟩
  ·simp only at hd hh
   rcases z1 with ⟨_,_,c⟩ | ⟨_,hd',_⟩
   ·exact absurd c hh
   ·rw [hd'] at hd; cases hd
  ·obtain ⟨k',h1,h2⟩ := t3 k hk
   exact ⟨k',h1,h2.set1⟩
 rw [if_neg e2]
 by_cases e3 : T.2.2 = 3
 ·rw [if_pos e3]
  exact ⟨fun r hr => t1 r (by omega),fun _ _ => t2 e3,t3⟩
 rw [if_neg e3]
 refine ⟨fun r hr => t1 r (by omega),fun hd _ => ?_,t3⟩
 rcases b1 with ⟨e',_⟩ | ⟨e',_⟩ | ⟨_,hd',_⟩
 ·exact absurd e' e2
 ·exact absurd e' e3
 ·rw [hd'] at hd; cases hd
theorem qfB (hup : M.down = false) (hc : commits M = 0) : recN n sp per M pt = (M,pt,0) := by
 have hh : homesN n sp M = ([],0) := by unfold homesN; rw [if_neg (by simp [hup]),hc,if_neg (by omega)]; rfl
 unfold recN
 rw [hh,if_neg (by simp),if_pos (by rfl)]
theorem qhJ {ws : List (List Int)} (h : PSt n sp per M pt mvb len) (hn : 16 < n ∧ n ≤ 1000) (hup : M.down = false) (hb : mvb + 100 < 4611686018427387904) (hs : Sd n sp M ws) :
  PSt n sp per (recN n sp per M pt).1 (recN n sp per M pt).2.1 (mvb + 14) len ∧
  (∀ r,(r = 2 ∨ 19 ≤ r) → (recN n sp per M pt).1.regs.getD r 0 = M.regs.getD r 0) ∧
  ((recN n sp per M pt).1.down = false → commits (recN n sp per M pt).1 ≠ 0 → LV (recN n sp per M pt).1 (n + 1) sp sp) ∧
  (∀ k,LV M (n + 1) sp k → ∃ k',k ≤ k' ∧ LV (recN n sp per M pt).1 (n + 1) sp k') := by
 rcases hs with ⟨h1,h2⟩ | ⟨l,hp⟩
 ·rw [qfB hup h1]
  exact ⟨h.mono (by omega),fun _ _ => rfl,fun _ hc => absurd h1 hc,fun k hk => ⟨k,qlS _,hk⟩⟩
 ·have hl1 := hp.may.2.1
  have hl14 := hp.may.2.2.1
  have hh := qfa hp.may hn.2 hup hp.cm hp.rows
  have e : recN n sp per M pt = finN n sp per l M pt := by
   unfold recN
   rw [hh]
   simp only
   rw [if_neg (by simp),if_neg (by omega),if_neg (fun hx => hx hp.may)]
  rw [e]
  exact ⟨(h.fin (by omega) (by omega) hp.ok).mono (by omega),qlB h hn hup hb hp.ok hp.may⟩
end
structure MP (pa pb pc pd : Int) (M : Mem) (ws : List Int) (root : Int) (mvb : Nat) (cb : Int) : Prop where
 may : mayP pa pb pc pd = true
 lv : ∃ k,LV M (16 + pa.toNat + 1) pb.toNat k
 mok : M.ok
 mv : M.mv ≤ mvb
 mlen : M.cs.length = 16 + pa.toNat + 1 + pb.toNat
 sd : Sd (16 + pa.toNat) pb.toNat M (linesOf pa.toNat ws)
 ok : Ok ws
 len : (ws.length : Int) = 8 * pa
 rt : M.regs.getD 2 0 = root
 ru : root = 0 ∨ isUsed ws root = true
 rg : ∀ i : Nat,(i : Int) < pagesP pa pb pc pd → M.regs.getD (19 + i) 0 ≤ cb
 c0 : 0 ≤ cb
def keptOf (M : Mem) (m : Nat) : List Int := (qmA m).map fun i => M.regs.getD (19 + i) 0
theorem qc6 {M : Mem} {m : Nat} : (keptOf M m).length = m := by simp [keptOf]
theorem qf5 {M : Mem} {m i : Nat} (hi : i < m) : (keptOf M m).getD i 0 = M.regs.getD (19 + i) 0 := by
 unfold keptOf
 rw [qlM,qlW,qmh hi]; rfl
section
variable {pa pb pc pd : Int} {s : HS} {M : Mem} {ws : List Int} {root : Int} {mvb : Nat} {cb : Int}
theorem HP.mp (h : HP pa pb pc pd s ws root mvb cb) : MP pa pb pc pd s.M ws root mvb cb :=
 ⟨h.may,h.ps.lv,h.ps.ok,h.ps.mv,h.ps.len,h.sd,h.ok,h.len,h.rt,h.ru,fun i hi => h.cp.rg i (by rw [← h.pg] at hi; omega),h.c0⟩
theorem MP.mono (h : MP pa pb pc pd M ws root mvb cb) {mvb' : Nat} {cb' : Int} (h1 : mvb ≤ mvb') (h2 : cb ≤ cb') : MP pa pb pc pd M ws root mvb' cb' :=
 ⟨h.may,h.lv,h.mok,qmM h.mv h1,h.mlen,h.sd,h.ok,h.len,h.rt,h.ru,fun i hi => by have := h.rg i hi; omega,by have := h.c0; omega⟩
theorem MP.pst (h : MP pa pb pc pd M ws root mvb cb) : PSt (16 + pa.toNat) pb.toNat pc.toNat M 0 mvb (16 + pa.toNat + 1 + pb.toNat) := by
 have hm := qV.1 h.may
 exact ⟨h.lv,h.mok,by omega,h.mv,h.mlen⟩
theorem MP.pages (h : MP pa pb pc pd M ws root mvb cb) : pagesP pa pb pc pd = (pa + 3) / 4 ∧ 1 ≤ (pa + 3) / 4 ∧ (pa + 3) / 4 ≤ 16 := by
 have hm := qV.1 h.may
 unfold pagesP
 rw [if_pos h.may]
 exact ⟨rfl,by omega,by omega⟩
theorem MP.power (h : MP pa pb pc pd M ws root mvb cb) : MP pa pb pc pd M.power ws root mvb cb := by
 have hm := qV.1 h.may
 obtain ⟨k,hk⟩ := h.lv
 refine ⟨h.may,⟨k,hk.same rfl rfl⟩,?_,h.mv,h.mlen,h.sd.power (by omega),h.ok,h.len,h.rt,h.ru,h.rg,h.c0⟩
 exact Mem.power_ok h.mok
theorem MP.setCut (h : MP pa pb pc pd M ws root mvb cb) {a b : Int} (ha : a ≤ 9223372036854775807) : MP pa pb pc pd (M.setCut a b) ws root mvb cb := by
 have hm := qV.1 h.may
 obtain ⟨k,hk⟩ := h.lv
 refine ⟨h.may,⟨k,hk.same rfl rfl⟩,?_,h.mv,h.mlen,h.sd.setCut (by omega) a b,h.ok,h.len,h.rt,h.ru,h.rg,h.c0⟩
 exact Mem.setCut_ok h.mok ha
def openS (pa pb pc pd : Int) (M : Mem) : HS := ⟨(recN (16 + pa.toNat) pb.toNat pc.toNat M 0).1,(recN (16 + pa.toNat) pb.toNat pc.toNat M 0).2.1,keptOf (recN (16 + pa.toNat) pb.toNat pc.toNat M 0).1 (pagesP pa pb pc pd).toNat,keptOf (recN (16 + pa.toNat) pb.toNat pc.toNat M 0).1 (pagesP pa pb pc pd).toNat,false⟩
theorem MP.opened (h : MP pa pb pc pd M ws root mvb cb) (hup : M.down = false) (hb : mvb + 2000 < 4611686018427387904) :
    (M.cut = -1 → (openS pa pb pc pd M).M.cut = -1) ∧ (∀ k,LV M (16 + pa.toNat + 1) pb.toNat k → ∃ k',k ≤ k' ∧ LV (openS pa pb pc pd M).M (16 + pa.toNat + 1) pb.toNat k') ∧
    (((recN (16 + pa.toNat) pb.toNat pc.toNat M 0).2.2 = 0 ∧ (openS pa pb pc pd M).M.down = false ∧ HP pa pb pc pd (openS pa pb pc pd M) ws root (mvb + 14) cb) ∨
     ((recN (16 + pa.toNat) pb.toNat pc.toNat M 0).2.2 = 2 ∧ (openS pa pb pc pd M).M.down = true ∧ M.cut ≠ -1 ∧ MP pa pb pc pd (openS pa pb pc pd M).M ws root (mvb + 14) cb)) := by
  have hm := qV.1 h.may
  obtain ⟨hpg,hpg1,hpg16⟩ := h.pages
  obtain ⟨r1,r2,r3⟩ := rec_any h.pst (by omega) hup (by omega) h.sd
  obtain ⟨q1,q2,q3,q4⟩ := qhJ h.pst (by omega) hup (by omega) h.sd
  unfold openS
  generalize recN (16 + pa.toNat) pb.toNat pc.toNat M 0 = R at *
  refine ⟨r3,q4,?_⟩
  rcases r2 with ⟨a,b⟩ | ⟨a,b,c⟩
  · refine .inl ⟨a,b,h.may,q1,r1,h.ok,h.len,(q2 2 (.inl rfl)).trans h.rt,h.ru,by show ((keptOf R.1 _).length : Int) = _; rw [qc6]; omega,⟨rfl,fun i hi => ?_,fun _ i hi => ?_,fun i hi => ?_⟩,fun hs => ?_,h.c0⟩
    · simp only [qc6] at hi
      simp only
      rw [qf5 hi,q2 (19 + i) (.inr (by omega))]
      have := h.rg i (by omega)
      have := reg_U h.mok (i := 19 + i) (by omega)
      unfold isU at this
      omega
    · simp only [qc6] at hi
      simp only
      rw [qf5 hi]
      exact ⟨by omega,rfl⟩
    · simp only [qc6] at hi
      rw [q2 (19 + i) (.inr (by omega))]
      exact h.rg i (by omega)
    · rcases hs with hs | ⟨hs,hc⟩
      · cases hs
      · exact q3 hs hc
  · refine .inr ⟨a,b,c,⟨h.may,q1.lv,q1.ok,q1.mv,q1.len,r1,h.ok,h.len,(q2 2 (.inl rfl)).trans h.rt,h.ru,fun i hi => ?_,h.c0⟩⟩
    simp only
    rw [q2 (19 + i) (.inr (by omega))]
    exact h.rg i hi
end
structure FrO (H H' : AH) (p c : Nat) : Prop where
 size : H.size ≤ H'.size
 get : ∀ b,b < H.size → b ≠ p → b ≠ c → H'.get b = H.get b
theorem FrO.trans {H H' H2 : AH} {p c : Nat} (h : FrO H H' p c) (h' : FrO H' H2 p c) : FrO H H2 p c :=
 ⟨qmM h.size h'.size,fun b hb h1 h2 => (h'.get b (by have := h.size; omega) h1 h2).trans (h.get b hb h1 h2)⟩
theorem FrO.of_keeps {H H' : AH} {p c : Nat} (h : qa H H') : FrO H H' p c := ⟨h.1,fun b hb _ _ => h.2 b hb⟩
theorem FrO.keeps {H0 H H' : AH} {p c : Nat} (h : FrO H H' p c) (hk : qa H0 H) (hp : H0.size ≤ p) (hc : H0.size ≤ c) : qa H0 H' :=
 ⟨qmM hk.1 h.size,fun b hb => by rw [h.get b (by have := hk.1; omega) (by omega) (by omega)]; exact hk.2 b hb⟩
theorem FrO.own {α : Type} {B : Nat} {H H' : AH} {p c : Nat} {s : Sl} {z : Nat} {f : α → List Value} {l : List α} (h : FrO H H' p c) (hp : p < B) (hc : c < B) (hO : Own B H s z f l) : Own B H' s z f l :=
 hO.keep h.size (fun b h1 h2 => h.get b h2 (by omega) (by omega))
section
variable {H H' : AH} {o : Nat} {pa pb pc pd : Int} {e : Nat}
theorem plg_row (hg : H.get o = ⟨pl pa pb pc pd,.rw,e⟩) : AH.row? H ⟨o,0,none⟩ 4 = some (pl pa pb pc pd) := by
 simp [AH.row?,hg,pl,qo]
theorem qdS (hg : H.get o = ⟨pl pa pb pc pd,.rw,e⟩) (i : Nat) : AH.cell? H (qlL ⟨o,0,none⟩ i) = (pl pa pb pc pd)[i]? := by
 rw [qk,ql3]
 simp [AH.cell?,hg]
theorem MP.good {M : Mem} {ws : List Int} {root : Int} {mvb : Nat} {cb : Int} (h : MP pa pb pc pd M ws root mvb cb) (hup : M.down = false) (hb : mvb ≤ 1099511627776) : qcx M (16 + pa) pb pc := by
 have hm := qV.1 h.may
 obtain ⟨k,hk⟩ := h.lv
 have h1 := hk.may
 have h2 := h.mlen
 have h3 := h.mv
 refine ⟨by omega,by omega,by omega,by omega,by omega,by omega,hup,?_,by omega⟩
 rw [show (16 + pa + 1 : Int) = ((16 + pa.toNat + 1 : Nat) : Int) by omega]
 exact h1
theorem qiQ {k : Option Addr → Int → AH → Prop} {o3 o30 p c : Nat} {M : Mem} (hm : qC H p c M) (hup : M.down = false) (hmay : mayP pa pb pc pd = true) (h3 : H.get o3 = ⟨pl pa pb pc pd,.rw,e⟩) (hl3 : o3 < H.size) {cells : List Value} (h30 : H.get o30 = ⟨cells,.rw,0⟩) (hcl : cells.length = 9) (hl30 : o30 < H.size) (ho : o3 ≠ o30)
  (hrg : ∀ i : Nat,(i : Int) < pagesP pa pb pc pd → 0 ≤ M.regs.getD (19 + i) 0 ∧ M.regs.getD (19 + i) 0 ≤ 1099511627776)
  (hk : ∀ H' ct q1 q2,CAt H' ct q1 q2 pd (keptOf M (pagesP pa pb pc pd).toNat) (keptOf M (pagesP pa pb pc pd).toNat) → H.size ≤ H'.size → (∀ b,b < H.size → b ≠ o30 → H'.get b = H.get b) → H'.get o30 = ⟨cells.set 7 (.pointer (some ⟨ct,0,none⟩)),.rw,0⟩ → H.size ≤ ct → H.size ≤ q1 → H.size ≤ q2 → k (some ⟨o30,0,none⟩) 0 H') :
  qah.j3 (some ⟨p,0,none⟩) k o3 o30 false H := by
 have hmp := qV.1 hmay
 unfold qah.j3
 rw [qc,ql (plg_row h3)]
 refine qcz.s ?_
 have hpg : pagesP pa pb pc pd = (pa + 3) / 4 := by unfold pagesP; rw [if_pos hmay]
 obtain ⟨m,hmE⟩ : ∃ m : Nat,pagesP pa pb pc pd = (m : Int) := ⟨(pagesP pa pb pc pd).toNat,by omega⟩
 rw [hmE] at hrg hk ⊢
 have hm16 : 1 ≤ m ∧ m ≤ 16 := by omega
 rw [qlP] at hk
 refine qI (t := ((none,(0 : Int),⟨none,0,0⟩,(0 : Int)) : Option Addr × Int × Sl × Int)) (I := fun (t : Option Addr × Int × Sl × Int) H' => ∃ j : Nat,t.2.2.2 = (j : Int) ∧ j ≤ m ∧ qa H H' ∧ Own H.size H' t.2.2.1 1 iV (keptOf M j)) (m := fun (t : Option Addr × Int × Sl × Int) _ => qlQ ((m : Int) - t.2.2.2)) ?_ ⟨0,rfl,by omega,qa.refl H,.inl ⟨rfl,rfl⟩⟩
 intro t H1 hI it hit
 obtain ⟨t1,t2,s,t4⟩ := t
 obtain ⟨j,e1,hj,hk1,hO⟩ := hI
 simp only at e1 hO
 subst e1
 unfold qah.l2
 simp only [qi,decide_eq_true_eq]
 by_cases hlt : (j : Int) < (m : Int)
 ·rw [if_pos hlt,qg (n := 19 + (j : Int)) (by omega) (by omega)]
  refine qJ.s (hm.keeps hk1) ?_
  have hreg : M.reg (19 + (j : Int)) = (M.regs.getD (19 + j) 0,0) := by
   unfold Mem.reg
   rw [if_pos ⟨by omega,by omega⟩,if_neg (by simp [hup]),show (19 + (j : Int)).toNat = 19 + j by omega]
  rw [hreg,if_neg (by simp)]
  have hrj := hrg j hlt
  rw [qp]
  simp only
  rw [if_neg (show ¬ (1099511627776 : Int) < M.regs.getD (19 + j) 0 by omega),qg (by omega) (by omega)]
  refine qbB (H0 := H) (B := H.size) (f := iV) (fun _ => rfl) rfl hO (qlS _) hk1.1 hk1 (by rw [qc6]; simp only [lim]; omega) ?_
  intro s' H' hO' hk' _ _
  rw [qg (n := (j : Int) + 1) (by omega) (by omega)]
  refine hit _ _ ⟨j + 1,by simp,by omega,hk',?_⟩ (by simp only; omega)
  have : keptOf M (j + 1) = keptOf M j ++ [M.regs.getD (19 + j) 0] := by unfold keptOf; rw [qm0,qmz]; rfl
  rw [this]; exact hO'
 ·rw [if_neg hlt]
  have : j = m := by omega
  subst this
  unfold qah.j1
  rw [qdS (by rw [hk1.2 _ hl3]; exact h3) 3]
  show elI .i64 (some (.int .i64 pd)) _
  rw [qf]
  refine qbc.s (hO.rows (fun _ => rfl) (fun _ => rfl)) (by omega) (by rw [qc6]; exact hm16) (fun v hv => ?_) ?_
  ·unfold keptOf at hv
   rw [qml] at hv
   obtain ⟨i,hi,rfl⟩ := hv
   rw [qmJ] at hi
   exact hrg i (by omega)
  intro H2 ct q1 q2 hC hk2 hct hq1 hq2
  have h30' : H2.get o30 = ⟨cells,.rw,0⟩ := by rw [hk2.2 _ (by have := hk1.1; omega),hk1.2 _ hl30]; exact h30
  have hs1 := hk1.1
  have hs2 := hk2.1
  rw [qk,ql3,qaQ]
  refine ⟨⟨rfl,by rw [h30'],by rw [h30']; simp only [ql0,qmR]; omega⟩,?_⟩
  have eput : AH.put H2 ⟨o30,7,none⟩ [.pointer (some ⟨ct,0,none⟩)] = H2.upd o30 ⟨cells.set 7 (.pointer (some ⟨ct,0,none⟩)),.rw,0⟩ := by
   simp only [AH.put,h30',setMany]
  rw [eput]
  have hg : ∀ b,b ≠ o30 → (H2.upd o30 ⟨cells.set 7 (.pointer (some ⟨ct,0,none⟩)),.rw,0⟩).get b = H2.get b := fun b hb => by rw [qu,if_neg hb]
  refine hk _ ct q1 q2 ⟨by rw [hg _ (by omega)]; exact hC.hct,by rw [hg _ (by omega)]; exact hC.h1,by rw [hg _ (by omega)]; exact hC.h2,hC.len,hC.l16,hC.lc,hC.l1,hC.l2,hC.ne,hC.ok⟩ (by show H.size ≤ H2.size; omega)
   (fun b hb hne => by rw [hg b hne,hk2.2 _ (by omega),hk1.2 _ hb]) (by rw [qu,if_pos rfl]) (by omega) (by omega) (by omega)
end
section
variable {H : AH} {p c : Nat} {M : Mem} {pa pb pc pd : Int}
theorem qjp {k : Option Addr → Int → AH → Prop} {ws : List Int} {mvb : Nat} (hm : qC H p c M) (hmay : mayP pa pb pc pd = true) (hup : M.down = false)
  (hps : PSt (16 + pa.toNat) pb.toNat pc.toNat M 0 mvb (16 + pa.toNat + 1 + pb.toNat)) (hg : qcx M (16 + pa) pb pc) (hb : mvb + 100 < 4611686018427387904) (hsd : Sd (16 + pa.toNat) pb.toNat M (linesOf pa.toNat ws)) (hwl : (ws.length : Int) = 8 * pa)
  (hbad : (recN (16 + pa.toNat) pb.toNat pc.toNat M 0).2.2 ≠ 0 → ∀ H',qC H' p c (recN (16 + pa.toNat) pb.toNat pc.toNat M 0).1 → FrO H H' p c → k none (recN (16 + pa.toNat) pb.toNat pc.toNat M 0).2.2 H')
  (hgo : (recN (16 + pa.toNat) pb.toNat pc.toNat M 0).2.2 = 0 → ∀ H' o3 o30 g t x s',qC H' p c (recN (16 + pa.toNat) pb.toNat pc.toNat M 0).1 → FrO H H' p c → H'.get o3 = ⟨pl pa pb pc pd,.rw,0⟩ → H.size ≤ o3 → o3 < o30 → o30 < H'.size → H.size ≤ t → t < o30 → H.size ≤ x → x < o30 → o30 < g →
   H'.get o30 = ⟨[.pointer (some ⟨p,0,none⟩),.int .i64 pa,.int .i64 pb,.int .i64 pc,.int .i64 pd,.pointer (some ⟨t,0,none⟩),.pointer (some ⟨g,0,none⟩),.pointer none,.bool false],.rw,0⟩ →
   GAt H' g t x p c (16 + pa.toNat) pb.toNat pc.toNat (recN (16 + pa.toNat) pb.toNat pc.toNat M 0).2.1 (recN (16 + pa.toNat) pb.toNat pc.toNat M 0).1 → Own H.size H' s' 1 wU ws →
   qO s' H' fun s71a b71b H71 => bcase (!b71b) (qah.j3 (some ⟨p,0,none⟩) k o3 o30 true H71) (bcase (((recN (16 + pa.toNat) pb.toNat pc.toNat M 0).1.regs.getD 2 0 : Int) != (0 : Int)) (bcase (decide (((recN (16 + pa.toNat) pb.toNat pc.toNat M 0).1.regs.getD 2 0 : Int) > (1048576 : Int))) (qah.j3 (some ⟨p,0,none⟩) k o3 o30 true H71) (qcv s' (qlJ .i64 ((recN (16 + pa.toNat) pb.toNat pc.toNat M 0).1.regs.getD 2 0)) H71 fun b86 H86 => qah.j3 (some ⟨p,0,none⟩) k o3 o30 (!b86) H86)) (qah.j3 (some ⟨p,0,none⟩) k o3 o30 false H71))) :
  qah (some ⟨p,0,none⟩) (pl pa pb pc pd) H k := by
 have hmp := qV.1 hmay
 have hdev : (M.cs.length : Int) = deviceP pa pb pc pd := by
  have := hps.len
  unfold deviceP; rw [if_pos hmay]; omega
 obtain ⟨r1,r2,r3⟩ := rec_any hps (by omega) hup (by omega) hsd
 refine qah.link ?_
 unfold qah.b
 rw [qp,pl_ld]
 have hk3 : qa H (H.push ⟨pl pa pb pc pd,.rw,0⟩) := (qa.refl H).push _
 have g3 : (H.push ⟨pl pa pb pc pd,.rw,0⟩).get H.size = ⟨pl pa pb pc pd,.rw,0⟩ := by rw [qm,if_pos rfl]
 have hl3 : H.size < (H.push ⟨pl pa pb pc pd,.rw,0⟩).size := by simp [qe]
 generalize H.push ⟨pl pa pb pc pd,.rw,0⟩ = H3 at *
 have hm3 := hm.keeps hk3
 refine qbN.s hm3 ?_
 rw [if_pos ⟨hmay,hdev⟩,if_neg (by simp [hup]),show ((0 : Int) != 0) = false from rfl,qc,ql (plg_row g3),ql (plg_row g3)]
 refine qbT.s hm3 hmay (fun hn => absurd hg hn) ?_
 intro _ H28 t x hT hk28 ht hx
 have g28 : H28.get H.size = ⟨pl pa pb pc pd,.rw,0⟩ := by rw [hk28.2 _ hl3]; exact g3
 have hkk28 := hk3.trans hk28
 have hs28 := hk28.1
 refine ⟨plg_row g28,rfl,?_⟩
 rw [qp]
 have ecell : (List.set (setMany [(qlO (some ⟨p,0,none⟩)),(qlI .i64 (0 : Int)),(qlI .i64 (0 : Int)),(qlI .i64 (0 : Int)),(qlI .i64 (0 : Int)),(qlO none),(qlO none),(qlO none),(Value.bool false)] 1 (pl pa pb pc pd)) 5 (qlO (some ⟨t,0,none⟩))) = [.pointer (some ⟨p,0,none⟩),.int .i64 pa,.int .i64 pb,.int .i64 pc,.int .i64 pd,.pointer (some ⟨t,0,none⟩),.pointer none,.pointer none,.bool false] := rfl
 rw [ecell]
 have htl := hT.lt
 have hxl := hT.l.lx
 have hn1 : (16 + pa).toNat = 16 + pa.toNat := by omega
 rw [hn1] at hT
 obtain ⟨H30,hH30⟩ : ∃ H30,H30 = H28.push ⟨[.pointer (some ⟨p,0,none⟩),.int .i64 pa,.int .i64 pb,.int .i64 pc,.int .i64 pd,.pointer (some ⟨t,0,none⟩),.pointer none,.pointer none,.bool false],.rw,0⟩ := ⟨_,rfl⟩
 rw [← hH30]
 have g30 : H30.get H28.size = ⟨[.pointer (some ⟨p,0,none⟩),.int .i64 pa,.int .i64 pb,.int .i64 pc,.int .i64 pd,.pointer (some ⟨t,0,none⟩),.pointer none,.pointer none,.bool false],.rw,0⟩ := by rw [hH30,qm,if_pos rfl]
 have hk30 : qa H28 H30 := by rw [hH30]; exact (qa.refl H28).push _
 have hl30 : H28.size < H30.size := by rw [hH30]; simp [qe]
 have hT30 := hT.keeps hk30
 clear hH30
 have cellw : ∀ {H' : AH} {vs : List Value} (i : Nat),H'.get H28.size = ⟨vs,.rw,0⟩ → AH.cell? H' (qlL ⟨H28.size,0,none⟩ i) = vs[i]? := fun i hg => by
  rw [qk,ql3]; simp [AH.cell?,hg]
 rw [cellw 5 g30]
 show elP (some (.pointer (some ⟨t,0,none⟩))) _
 rw [qE]
 refine log_New.s (q := 0) (u := 0) hT30 (fun hh => by omega) ?_
 intro _ H37 g hG hk37 hgl
 have hs37 := hk37.1
 have g37 : H37.get H28.size = ⟨[.pointer (some ⟨p,0,none⟩),.int .i64 pa,.int .i64 pb,.int .i64 pc,.int .i64 pd,.pointer (some ⟨t,0,none⟩),.pointer none,.pointer none,.bool false],.rw,0⟩ := by rw [hk37.2 _ hl30]; exact g30
 rw [qk,ql3,qaQ]
 refine ⟨⟨rfl,by rw [g37],by rw [g37]; simp⟩,?_⟩
 have eput : AH.put H37 ⟨H28.size,6,none⟩ [.pointer (some ⟨g,0,none⟩)] = H37.upd H28.size ⟨[.pointer (some ⟨p,0,none⟩),.int .i64 pa,.int .i64 pb,.int .i64 pc,.int .i64 pd,.pointer (some ⟨t,0,none⟩),.pointer (some ⟨g,0,none⟩),.pointer none,.bool false],.rw,0⟩ := by
  simp only [AH.put,g37,setMany]; rfl
 rw [eput]
 obtain ⟨H38,hH38⟩ : ∃ H38,H38 = H37.upd H28.size ⟨[.pointer (some ⟨p,0,none⟩),.int .i64 pa,.int .i64 pb,.int .i64 pc,.int .i64 pd,.pointer (some ⟨t,0,none⟩),.pointer (some ⟨g,0,none⟩),.pointer none,.bool false],.rw,0⟩ := ⟨_,rfl⟩
 rw [← hH38]
 have g38 : H38.get H28.size = ⟨[.pointer (some ⟨p,0,none⟩),.int .i64 pa,.int .i64 pb,.int .i64 pc,.int .i64 pd,.pointer (some ⟨t,0,none⟩),.pointer (some ⟨g,0,none⟩),.pointer none,.bool false],.rw,0⟩ := by rw [hH38,qu,if_pos rfl]
 have ne38 : ∀ b,b ≠ H28.size → H38.get b = H37.get b := fun b hb => by rw [hH38,qu,if_neg hb]
 have sz38 : H38.size = H37.size := by rw [hH38]; rfl
 clear hH38
 have lp := hm3.lp
 have lc := hm3.lc
 have hG38 : GAt H38 g t x p c (16 + pa.toNat) pb.toNat pc.toNat 0 M := hG.other (o := H28.size) ⟨by omega,by omega,by omega,by omega,by omega⟩ ne38 sz38
 have hk38 : qa H3 H38 := ⟨by omega,fun b hb => by rw [ne38 b (by omega),hk37.2 b (by omega),hk30.2 b (by omega),hk28.2 b hb]⟩
 have hk38' : qa H H38 := hk3.trans hk38
 have c6 : AH.cell? H38 ⟨H28.size,6,none⟩ = some (.pointer (some ⟨g,0,none⟩)) := by simp [AH.cell?,g38]
 rw [c6,qE,qlZ,qc,qE]
 refine qiT.s hG38 hps (by omega) ?_
 intro H49 hG49 f49 z49
 have rps := (qhJ hps (by omega) hup (by omega) hsd).1
 have hfro : FrO H H49 p c := ⟨by have := hk38'.1; omega,fun b hb h1 h2 => by rw [f49.get b (by have := hk38'.1; omega) (by omega) h1 h2,hk38'.2 b hb]⟩
 generalize recN (16 + pa.toNat) pb.toNat pc.toNat M 0 = R at *
 rcases r2 with ⟨he,hRup⟩ | ⟨he,hRd,_⟩
 rotate_left 1
 ·rw [he,show ((2 : Int) != 0) = true from rfl,qj]
  have := hbad (by omega) H49 hG49.tn.l.m hfro
  rw [he] at this
  exact this
 rw [he,show ((0 : Int) != 0) = false from rfl,qc]
 have g49 : H49.get H28.size = ⟨[.pointer (some ⟨p,0,none⟩),.int .i64 pa,.int .i64 pb,.int .i64 pc,.int .i64 pd,.pointer (some ⟨t,0,none⟩),.pointer (some ⟨g,0,none⟩),.pointer none,.bool false],.rw,0⟩ := by
  rw [f49.get _ (by omega) (by omega) (by omega) (by omega),g38]
 have g49o : H49.get H.size = ⟨pl pa pb pc pd,.rw,0⟩ := by
  rw [f49.get _ (by omega) (by omega) (by have := hm.lp; omega) (by have := hm.lc; omega),hk38.2 _ (by omega),g3]
 have hW : HW H49 H28.size g t x p c pa pb pc pd R.2.1 R.1 := ⟨⟨_,_,rfl,g49⟩,by omega,hmay,hG49⟩
 refine qea.w hW (fun hd => by rw [hRup] at hd; cases hd) ?_
 intro _ s' H55 hk55 hO55
 rw [show ((0 : Int) != 0) = false from rfl,qc,qhw (by omega) hRup hwl r1] at *
 have hm55 := hG49.tn.l.m.keeps hk55
 refine qJ.s hm55 ?_
 have hreg : R.1.reg 2 = (R.1.regs.getD 2 0,0) := by
  unfold Mem.reg
  rw [if_pos ⟨by omega,by omega⟩,if_neg (by simp [hRup])]; rfl
 rw [hreg]
 simp only
 rw [show ((0 : Int) != 0) = false from rfl,qc]
 have hs55 := hk55.1
 have hs38 := hk38'.1
 exact hgo he H55 H.size H28.size g t x s' hm55 (hfro.trans (FrO.of_keeps hk55)) (by rw [hk55.2 _ (by omega)]; exact g49o) (qlS _) (by omega) (by omega) (by omega) htl (by omega) hxl (by omega)
  (by rw [hk55.2 _ (by omega)]; exact g49) (hG49.keeps hk55) (qbO hO55 (by omega))
end
section
variable {H : AH} {p c : Nat} {M : Mem} {pa pb pc pd : Int} {ws : List Int} {root : Int} {mvb : Nat} {cb : Int}
theorem qah.s {k : Option Addr → Int → AH → Prop} (h : MP pa pb pc pd M ws root mvb cb) (hm : qC H p c M) (hup : M.down = false) (hb : mvb ≤ 1000000000) (hcb : cb ≤ 1000000000)
  (hbad : (recN (16 + pa.toNat) pb.toNat pc.toNat M 0).2.2 ≠ 0 → ∀ H',qC H' p c (openS pa pb pc pd M).M → FrO H H' p c → k none (recN (16 + pa.toNat) pb.toNat pc.toNat M 0).2.2 H')
  (hgo : (recN (16 + pa.toNat) pb.toNat pc.toNat M 0).2.2 = 0 → ∀ H' L,HA H' L pa pb pc pd (openS pa pb pc pd M) → L.p = p → L.c = c → H.size ≤ L.h → H.size ≤ L.g → H.size ≤ L.t → H.size ≤ L.x → H.size ≤ L.ct → H.size ≤ L.q1 → H.size ≤ L.q2 → FrO H H' p c → k (some ⟨L.h,0,none⟩) 0 H') :
  qah (some ⟨p,0,none⟩) (pl pa pb pc pd) H k := by
 have hmp := qV.1 h.may
 obtain ⟨hpg,hpg1,hpg16⟩ := h.pages
 refine qjp hm h.may hup h.pst (h.good hup (by omega)) (by omega) h.sd h.len hbad ?_
 intro he H1 o3 o30 g t x s' hm1 hfro g3 ho3 ho330 hl30 ht ht30 hx hx30 hg30 g30 hG hO
 obtain ⟨_,_,hop⟩ := h.opened hup (by omega)
 have hP : HP pa pb pc pd (openS pa pb pc pd M) ws root (mvb + 14) cb := by
  rcases hop with ⟨_,_,hP⟩ | ⟨e2,_⟩
  ·exact hP
  ·omega
 have hRup : (openS pa pb pc pd M).M.down = false := by
  rcases hop with ⟨_,hd,_⟩ | ⟨e2,_⟩
  ·exact hd
  ·omega
 have hlen := h.ok.len
 have hroot := hP.rt
 have hrr := hP.rootN.2
 have hreg : ∀ i : Nat,(i : Int) < pagesP pa pb pc pd → 0 ≤ (openS pa pb pc pd M).M.regs.getD (19 + i) 0 ∧ (openS pa pb pc pd M).M.regs.getD (19 + i) 0 ≤ 1099511627776 := by
  intro i hi
  have h1 := reg_U hP.ps.ok (i := 19 + i) (by omega)
  have h2 := hP.mp.rg i hi
  unfold isU at h1
  omega
 have hSdef : openS pa pb pc pd M = ⟨(recN (16 + pa.toNat) pb.toNat pc.toNat M 0).1,(recN (16 + pa.toNat) pb.toNat pc.toNat M 0).2.1,keptOf (recN (16 + pa.toNat) pb.toNat pc.toNat M 0).1 (pagesP pa pb pc pd).toNat,keptOf (recN (16 + pa.toNat) pb.toNat pc.toNat M 0).1 (pagesP pa pb pc pd).toNat,false⟩ := rfl
 have eM : (openS pa pb pc pd M).M = (recN (16 + pa.toNat) pb.toNat pc.toNat M 0).1 := rfl
 rw [eM] at hroot hRup hreg
 generalize recN (16 + pa.toNat) pb.toNat pc.toNat M 0 = R at *
 rw [hroot]
 have fin : ∀ H',qa H1 H' → qah.j3 (some ⟨p,0,none⟩) k o3 o30 false H' := by
  intro H' hk
  have hs1 := hfro.size
  have hs' := hk.1
  refine qiQ (hm1.keeps hk) hRup h.may (by rw [hk.2 _ (by omega)]; exact g3) (by omega) (by rw [hk.2 _ hl30]; exact g30) rfl (by omega) (by omega) hreg ?_
  intro H2 ct q1 q2 hC hs2 hfr hg30' hct hq1 hq2
  have hG' := hG.keeps hk
  have lg := hG'.lg; have lt := hG'.tn.lt; have lx := hG'.tn.l.lx; have lp := hm1.lp; have lc := hm1.lc
  have hnp := hm.lp; have hnc := hm.lc
  have hG2 : GAt H2 g t x p c (16 + pa.toNat) pb.toNat pc.toNat R.2.1 R.1 := by
   have hl := hG'.tn.l
   have n1 := hG'.ne
   refine ⟨by rw [hfr g lg (by omega),hG'.hg],by omega,hG'.ne,⟨by rw [hfr t lt (by omega),hG'.tn.ht],by omega,hG'.tn.tp,hG'.tn.tc,hG'.tn.tx,
    ⟨by rw [hfr x lx (by omega),hl.hx],by omega,hl.xp,hl.xc,hl.m.keep (by omega) (hfr p hl.m.lp (by omega)) (hfr c hl.m.lc (by omega)),hl.len,hl.n1,hl.sp16⟩,hG'.tn.n1,hG'.tn.per,hG'.tn.pl,hG'.tn.mv⟩,hG'.n16⟩
  refine hgo he H2 ⟨o30,g,t,x,p,c,ct,q1,q2⟩ ?_ rfl rfl (by simp only; omega) (by simp only; omega) ht hx (by simp only; omega) (by simp only; omega) (by simp only; omega)
   ⟨by omega,fun b hb h1 h2 => by rw [hfr b (by omega) (by omega),hk.2 b (by omega),hfro.get b hb h1 h2]⟩
  rw [hSdef]
  refine ⟨hg30',by simp only; omega,h.may,hG2,hC,⟨by simp only; omega,by simp only; omega,by simp only; omega,by simp only; omega,by simp only; omega,by simp only; omega,by simp only; omega,by simp only; omega⟩,?_,?_⟩
  ·intro b hb
   simp only at hb ⊢
   refine ⟨by omega,by omega,by omega,by omega,by omega⟩
  ·show ((keptOf R.1 _).length : Int) = _
   rw [qc6]; omega
 refine qO.s (hO.rows (fun _ => rfl) (fun _ => rfl)) hlen.2.2 (by omega) ?_ (fun hbn => by rw [h.ok.blocks] at hbn; cases hbn)
 intro l hl s2 H2 hk2 hO2
 rw [qmm,qc]
 rcases h.ru with h0 | hu
 ·rw [h0,show ((0 : Int) != 0) = false from rfl,qc]
  exact fin H2 hk2
 ·have hur := h.ok.used_range hu
  rw [show (root != 0) = true by simp; omega,qj,decide_eq_false (show ¬ root > 1048576 by omega),qc,qg (n := root) (by omega) (by omega)]
  refine qcv.s ((hO.rows (fun _ => rfl) (fun _ => rfl)).keep hk2) hlen.2.2 (by omega) ?_
  rw [hu,qmm]
  exact fin H2 hk2
end
def formN (pa pb pc : Int) (limits : List Int) : Mem × Nat × Int :=
 tput (16 + pa.toNat) pb.toNat pc.toNat (Mem.new (16 + pa.toNat + 1 + pb.toNat) limits) 0 16 (lineOf (firstN (8 * pa)) 0)
theorem qcS {n : Int} (h : mayW n) : (firstN n).length = n.toNat := by
 have h' := h
 unfold mayW at h'
 unfold firstN
 rw [if_pos h]
 simp
 omega
theorem qf6 {pa : Int} (h : 1 ≤ pa ∧ pa ≤ 64) {i : Nat} (h0 : 1 ≤ i) (hi : (i : Int) < pa) : lineOf (firstN (8 * pa)) i = qlN 8 0 := by
 have hm : mayW (8 * pa) := by unfold mayW; omega
 have hl := qcS hm
 unfold lineOf
 apply qmc
 intro j
 rw [qmr,qmo,qnm]
 by_cases hj : j < 8
 ·rw [if_pos hj,if_pos hj]
  unfold firstN
  rw [if_pos hm,show 8 * i + j = (8 * i + j - 1) + 1 by omega,qmC,qnm,if_pos (by omega)]
 ·rw [if_neg hj,if_neg hj]
theorem qft {pa : Int} (h : 1 ≤ pa ∧ pa ≤ 64) : lineOf (firstN (8 * pa)) 0 ≠ qlN 8 0 ∧ isLine (lineOf (firstN (8 * pa)) 0) := by
 have hm : mayW (8 * pa) := by unfold mayW; omega
 have hl := qcS hm
 refine ⟨fun he => ?_,qdb (qel _) (by omega)⟩
 have : (lineOf (firstN (8 * pa)) 0)[0]? = (qlN 8 (0 : Int))[0]? := by rw [he]
 unfold lineOf at this
 rw [qmr,if_pos (by omega),qmo] at this
 unfold firstN at this
 rw [if_pos hm] at this
 simp [wordN,mayS] at this
 omega
section
variable {pa pb pc pd : Int} {limits : List Int}
theorem new_lv (h : 1 ≤ pa ∧ pa ≤ 64 ∧ 0 ≤ pb ∧ pb ≤ 16) : LV (Mem.new (16 + pa.toNat + 1 + pb.toNat) limits) (16 + pa.toNat + 1) pb.toNat 0 := LV.zero (by simp [Mem.new]) (by omega) (by omega) fun i hi => qhx (by omega)
theorem new_pst (h : 1 ≤ pa ∧ pa ≤ 64 ∧ 0 ≤ pb ∧ pb ≤ 16 ∧ 1 ≤ pc ∧ pc ≤ 1000) : PSt (16 + pa.toNat) pb.toNat pc.toNat (Mem.new (16 + pa.toNat + 1 + pb.toNat) limits) 0 0 (16 + pa.toNat + 1 + pb.toNat) :=
 ⟨⟨0,new_lv (by omega)⟩,Mem.new_ok (by omega),by omega,qlS _,by simp [Mem.new]⟩
theorem qhg (h : 1 ≤ pa ∧ pa ≤ 64 ∧ 0 ≤ pb ∧ pb ≤ 16) {s : Nat} (hs : s < 16 + pa.toNat) : (Mem.new (16 + pa.toNat + 1 + pb.toNat) limits).tview (16 + pa.toNat) pb.toNat s = qlN 8 0 := by
 have hzero : ∀ i,i < pb.toNat → (Mem.new (16 + pa.toNat + 1 + pb.toNat) limits).whose i = 0 := fun i hi => qhx (by omega)
 unfold Mem.tview
 have hsl := qdz (mv := (Mem.new (16 + pa.toNat + 1 + pb.toNat) limits).mv) (line := s) (n := 16 + pa.toNat) (by omega)
 rw [qkh hzero,Mem.new_cl (by omega)]
theorem reg_new {n r : Nat} : (Mem.new n limits).regs.getD r 0 = 0 := by
 show (qlN 35 (0 : Int)).getD r 0 = 0
 rw [qlM,qnm]
 split <;> rfl
theorem formed (hmay : mayP pa pb pc pd = true) :
  (formN pa pb pc limits).1.down = false ∧ (formN pa pb pc limits).1.cut = -1 ∧ (limits = [] → (formN pa pb pc limits).2.2 = 0 ∧ NL (formN pa pb pc limits).1) ∧ (∀ s : Nat,s < 16 + pa.toNat → s ≠ 16 → (formN pa pb pc limits).1.tview (16 + pa.toNat) pb.toNat s = qlN 8 0) ∧
  PSt (16 + pa.toNat) pb.toNat pc.toNat (formN pa pb pc limits).1 (formN pa pb pc limits).2.1 1 (16 + pa.toNat + 1 + pb.toNat) ∧
  (((formN pa pb pc limits).2.2 = 0 ∧ MP pa pb pc pd (formN pa pb pc limits).1 (firstN (8 * pa)) 0 1 0 ∧ commits (formN pa pb pc limits).1 = 0) ∨ (formN pa pb pc limits).2.2 = 3) := by
 have hm := qV.1 hmay
 have hmw : mayW (8 * pa) := by unfold mayW; omega
 obtain ⟨l0,l1⟩ := qft (pa := pa) (by omega)
 have hps := new_pst (pa := pa) (pb := pb) (pc := pc) (limits := limits) (by omega)
 have hT := (qem (line := 16) (period := pc.toNat) (puts := 0) (d := lineOf (firstN (8 * pa)) 0) (new_lv (limits := limits) (pa := pa) (pb := pb) (by omega)) (by omega) hps.ok (by rw [mv_new]; omega) rfl (by omega) l1.1).1
 have hps1 := hps.tput (by omega) (by omega) (line := 16) l1
 have hnl : limits = [] → (formN pa pb pc limits).2.2 ≠ 3 ∧ NL (formN pa pb pc limits).1 := fun h => by
  subst h
  exact NL.tput NL.new
 unfold formN at hnl ⊢
 rw [show ((16 : Nat) : Int) = 16 from rfl] at hT
 generalize tput (16 + pa.toNat) pb.toNat pc.toNat (Mem.new (16 + pa.toNat + 1 + pb.toNat) limits) 0 16 (lineOf (firstN (8 * pa)) 0) = F at *
 have hcut : F.1.cut = -1 := hT.cut rfl
 have hother : ∀ s : Nat,s < 16 + pa.toNat → s ≠ 16 → F.1.tview (16 + pa.toNat) pb.toNat s = qlN 8 0 := fun s hs hne => by
  rw [hT.other s hs (by simpa using fun h => hne h.symm),qhg (by omega) hs]
 have hreg : ∀ r,(r = 1 ∨ r = 2 ∨ 19 ≤ r) → F.1.regs.getD r 0 = 0 := fun r hr => by rw [hT.regs r hr,reg_new]
 rcases hT.res with ⟨e,hd,hv⟩ | ⟨e,hd,hv⟩ | ⟨e,hd,hc,_⟩
 ·refine ⟨hd,hcut,fun h => ⟨e,(hnl h).2⟩,hother,hps1,.inl ⟨e,⟨hmay,hps1.lv,hps1.ok,hps1.mv,hps1.len,.inl ⟨hreg 1 (.inl rfl),fun s h1 h2 => ?_⟩,⟨[],?_⟩,?_,hreg 2 (.inr (.inl rfl)),.inl rfl,fun i hi => by rw [hreg (19 + i) (by omega)]; omega,by omega⟩,hreg 1 (.inl rfl)⟩⟩
  ·rw [qdN (by omega)]
   by_cases hs : s = 16
   ·subst hs; rw [hv 16 rfl]
   ·rw [hother s h2 hs,qf6 (by omega) (by omega) (by omega)]
  ·exact MR.self (MR.first hmw) (by rw [qcS hmw]; omega)
  ·rw [qcS hmw]; omega
 ·exact ⟨hd,hcut,fun h => absurd e (hnl h).1,hother,hps1,.inr e⟩
 ·exact absurd rfl hc
end
section
variable {H : AH} {p c : Nat} {M : Mem} {pa pb pc pd : Int} {limits : List Int}
theorem reg_up {i : Nat} (hup : M.down = false) (hi : i < 35) : M.reg (i : Int) = (M.regs.getD i 0,0) := by
 unfold Mem.reg
 rw [if_pos ⟨by omega,by omega⟩,if_neg (by simp [hup]),qlP]
theorem qL.s {k : Int → AH → Prop} (hm : qC H p c (Mem.new (16 + pa.toNat + 1 + pb.toNat) limits)) (hmay : mayP pa pb pc pd = true)
  (hk : ∀ H',qC H' p c (formN pa pb pc limits).1 → FrO H H' p c → k (formN pa pb pc limits).2.2 H') : qL (some ⟨p,0,none⟩) (pl pa pb pc pd) H k := by
 have hmp := qV.1 hmay
 have hmw : mayW (8 * pa) := by unfold mayW; omega
 obtain ⟨hFd,_,_,hFo,hFp,hF⟩ := formed (limits := limits) hmay
 obtain ⟨l0,l1⟩ := qft (pa := pa) (by omega)
 have hNup : (Mem.new (16 + pa.toNat + 1 + pb.toNat) limits).down = false := rfl
 have hcl : ((Mem.new (16 + pa.toNat + 1 + pb.toNat) limits).cs.length : Int) = deviceP pa pb pc pd := by
  unfold deviceP; rw [if_pos hmay]; simp [Mem.new]; omega
 have hlv := new_lv (pa := pa) (pb := pb) (limits := limits) (by omega)
 have hmv : (Mem.new (16 + pa.toNat + 1 + pb.toNat) limits).mv = 0 := rfl
 have hregs : ∀ r,(Mem.new (16 + pa.toNat + 1 + pb.toNat) limits).regs.getD r 0 = 0 := fun r => reg_new
 have htv := fun s hs => qhg (pa := pa) (pb := pb) (limits := limits) (s := s) (by omega) hs
 have hgood : qcx (Mem.new (16 + pa.toNat + 1 + pb.toNat) limits) (16 + pa) pb pc := by
  have h1 := hlv.may
  refine ⟨by omega,by omega,by omega,by omega,by omega,by simp [Mem.new]; omega,rfl,?_,by rw [hmv]; omega⟩
  rw [show (16 + pa + 1 : Int) = ((16 + pa.toNat + 1 : Nat) : Int) by omega]
  exact h1
 have hFdef : formN pa pb pc limits = tput (16 + pa.toNat) pb.toNat pc.toNat (Mem.new (16 + pa.toNat + 1 + pb.toNat) limits) 0 16 (lineOf (firstN (8 * pa)) 0) := rfl
 refine qL.link ?_
 unfold qL.b
 rw [qp,pl_ld]
 have hk3 : qa H (H.push ⟨pl pa pb pc pd,.rw,0⟩) := (qa.refl H).push _
 have g3 : (H.push ⟨pl pa pb pc pd,.rw,0⟩).get H.size = ⟨pl pa pb pc pd,.rw,0⟩ := by rw [qm,if_pos rfl]
 have hl3 : H.size < (H.push ⟨pl pa pb pc pd,.rw,0⟩).size := by simp [qe]
 generalize H.push ⟨pl pa pb pc pd,.rw,0⟩ = H3 at *
 have hm3 := hm.keeps hk3
 refine qbN.s hm3 ?_
 rw [if_pos ⟨hmay,hcl⟩,if_neg (by simp [hNup]),show ((0 : Int) != 0) = false from rfl,qc]
 generalize Mem.new (16 + pa.toNat + 1 + pb.toNat) limits = M0 at *
 refine qI (t := (((0 : Int),(0 : Int)) : Int × Int)) (I := fun (t : Int × Int) H' => ∃ i : Nat,t.2 = (i : Int) ∧ i ≤ 35 ∧ H' = H3) (m := fun (t : Int × Int) _ => qlQ (35 - t.2)) ?_ ⟨0,rfl,by omega,rfl⟩
 rintro ⟨t1,t2⟩ H1 ⟨i,e1,hi,rfl⟩ it hit
 simp only at e1
 subst e1
 unfold qL.l5
 by_cases hlt : (i : Int) < 35
 ·rw [decide_eq_true hlt,qj]
  refine qJ.s hm3 ?_
  rw [reg_up hNup (by omega),hregs i,show ((0 : Int) != 0) = false from rfl,qc,qg (n := (i : Int) + 1) (by omega) (by omega)]
  exact hit _ _ ⟨i + 1,by simp,by omega,rfl⟩ (by simp only; omega)
 rw [decide_eq_false hlt,qc]
 clear hit it
 unfold qL.j4
 rw [ql (plg_row g3)]
 refine qbT.s hm3 hmay (fun hn => absurd hgood hn) ?_
 intro _ H34 t x hT hk34 ht hx
 have hn1 : (16 + pa).toNat = 16 + pa.toNat := by omega
 rw [hn1] at hT
 have g34 : H34.get H.size = ⟨pl pa pb pc pd,.rw,0⟩ := by rw [hk34.2 _ hl3]; exact g3
 rw [ql (plg_row g34)]
 refine qb6.s ?_
 rw [show wordsP pa pb pc pd = 8 * pa by unfold wordsP; rw [if_pos hmay]]
 refine qa1.s ?_
 intro s37 H37 hk37 hO37
 have hk37' := hk34.trans hk37
 rw [qdS (by rw [hk37'.2 _ hl3]; exact g3) 0]
 show elI .i64 (some (.int .i64 pa)) _
 rw [qf]
 have hs3 := hk3.1
 have hs34 := hk34.1
 have hs37 := hk37.1
 have hfl := qcS hmw
 have lp := hm.lp
 have lc := hm.lc
 refine qI (t := ((t1,(0 : Int)) : Int × Int)) (I := fun (t' : Int × Int) H' => ∃ j : Nat,t'.2 = (j : Int) ∧ (j : Int) ≤ pa ∧ FrO H H' p c ∧ H'.get H.size = ⟨pl pa pb pc pd,.rw,0⟩ ∧ H37.size ≤ H'.size ∧ Own H34.size H' s37 1 wU (firstN (8 * pa)) ∧
   ((j = 0 ∧ TAt H' t x p c (16 + pa.toNat) pb.toNat pc.toNat 0 M0) ∨ (1 ≤ j ∧ (formN pa pb pc limits).2.2 = 0 ∧ TAt H' t x p c (16 + pa.toNat) pb.toNat pc.toNat (formN pa pb pc limits).2.1 (formN pa pb pc limits).1))) (m := fun (t' : Int × Int) _ => qlQ (pa - t'.2)) ?_
  ⟨0,rfl,by omega,FrO.of_keeps (hk3.trans hk37'),by rw [hk37'.2 _ hl3]; exact g3,qlS _,hO37,.inl ⟨rfl,hT.keeps hk37⟩⟩
 rintro ⟨u1,u2⟩ H5 ⟨j,e1,hj,f5,g5,hsz5,hO5,hst⟩ it hit
 simp only at e1
 subst e1
 unfold qL.l3
 by_cases hlt : (j : Int) < pa
 rotate_left 1
 ·rw [decide_eq_false hlt,qc]
  rcases hst with ⟨h0,_⟩ | ⟨_,e0,hT5⟩
  ·omega
  ·rw [e0] at hk
   exact hk H5 hT5.l.m f5
 rw [decide_eq_true hlt,qj,ql (plg_row g5)]
 refine qbA.s ?_
 have hh : homeP pa pb pc pd (j : Int) = ((16 + j : Nat) : Int) := by unfold homeP; rw [if_pos ⟨hmay,by omega,hlt⟩]; omega
 rw [hh]
 have hO5r := hO5.rows (fun _ => rfl) (fun _ => rfl)
 -- one line
 have go : ∀ (Mj : Mem) (pj : Nat),TAt H5 t x p c (16 + pa.toNat) pb.toNat pc.toNat pj Mj → Mj.down = false → Mj.tview (16 + pa.toNat) pb.toNat (16 + j) = qlN 8 0 ∨ Mj.tview (16 + pa.toNat) pb.toNat (16 + j) = lineOf (firstN (8 * pa)) j → isLine (Mj.tview (16 + pa.toNat) pb.toNat (16 + j)) →
   (∀ H6,TAt H6 t x p c (16 + pa.toNat) pb.toNat pc.toNat pj Mj → FrO H5 H6 p c → H5.size ≤ H6.size → qL.j2 k H.size (some ⟨t,0,none⟩) s37 (u1,(j : Int)) it 0 (!(Mj.tview (16 + pa.toNat) pb.toNat (16 + j) == lineOf (firstN (8 * pa)) j)) H6) →
   qa5 (some ⟨t,0,none⟩) ((16 + j : Nat) : Int) H5 fun c48a n48b H48 => newC H48 ⟨[(qlI .u64 (0 : Int)),(qlI .u64 (0 : Int)),(qlI .u64 (0 : Int)),(qlI .u64 (0 : Int)),(qlI .u64 (0 : Int)),(qlI .u64 (0 : Int)),(qlI .u64 (0 : Int)),(qlI .u64 (0 : Int))],.rw,0⟩ fun o12 H12 => (qlY c48a = 8 ∧ List.all c48a qo = true) ∧ stC H12 ⟨o12,0,none⟩ c48a fun Hs2 => bcase ((n48b : Int) == (0 : Int)) (ldA Hs2 ⟨o12,0,none⟩ 8 fun c54 => qbr s37 (j : Int) Hs2 fun c57 H57 => AH.row? H57 ⟨o12,0,none⟩ 8 = some c54 ∧ elO (eqCells (qlN 8 (K.int .u64)) c54 c57) fun e58 => qL.j2 k H.size (some ⟨t,0,none⟩) s37 (u1,(j : Int)) it n48b (!e58) H57) (qL.j2 k H.size (some ⟨t,0,none⟩) s37 (u1,(j : Int)) it n48b false Hs2) := by
  intro Mj pj hTj hup _ hln hgo
  refine qe5.s hTj ?_
  have hget : tget (16 + pa.toNat) pb.toNat Mj ((16 + j : Nat) : Int) = (Mj.tview (16 + pa.toNat) pb.toNat (16 + j),0) := by
   unfold tget
   rw [if_pos ⟨by omega,by omega⟩,if_neg (by simp [hup]),qlP]
  rw [hget]
  generalize Mj.tview (16 + pa.toNat) pb.toNat (16 + j) = v at *
  rw [qp]
  refine ⟨⟨qr hln.1,qaD _⟩,?_⟩
  rw [qaQ]
  have hz : [(qlI .u64 (0 : Int)),(qlI .u64 (0 : Int)),(qlI .u64 (0 : Int)),(qlI .u64 (0 : Int)),(qlI .u64 (0 : Int)),(qlI .u64 (0 : Int)),(qlI .u64 (0 : Int)),(qlI .u64 (0 : Int))] = lineV (qlN 8 0) := rfl
  rw [hz]
  have gN : (H5.push ⟨lineV (qlN 8 0),.rw,0⟩).get H5.size = ⟨lineV (qlN 8 0),.rw,0⟩ := by rw [qm,if_pos rfl]
  refine ⟨⟨rfl,by rw [gN],by rw [gN]; simp [lineV]; exact Nat.le_of_eq hln.1⟩,?_⟩
  rw [qdE (by simp) hln.1 gN]
  have hkN : qa H5 ((H5.push ⟨lineV (qlN 8 0),.rw,0⟩).upd H5.size ⟨lineV v,.rw,0⟩) := ((qa.refl H5).push _).upd (qlS _) _
  have gU : ((H5.push ⟨lineV (qlN 8 0),.rw,0⟩).upd H5.size ⟨lineV v,.rw,0⟩).get H5.size = ⟨lineV v,.rw,0⟩ := by rw [qu,if_pos rfl]
  generalize (H5.push ⟨lineV (qlN 8 0),.rw,0⟩).upd H5.size ⟨lineV v,.rw,0⟩ = H6 at *
  have hrow : AH.row? H6 ⟨H5.size,0,none⟩ 8 = some (lineV v) := by
   have := qr hln.1
   simp only [AH.row?,gU,ql4,qlU,if_false,List.drop_zero]
   rw [if_neg (by simp),qmx (by omega),if_pos ⟨by omega,qaD _⟩]
  simp only
  rw [show ((0 : Int) == 0) = true from rfl,qj,ql hrow]
  refine qbr.s (hO5r.keep hkN) (qel _) (by omega) (by omega) ?_
  refine ⟨hrow,?_⟩
  rw [eq_line hln (qdb (qel _) (by omega))]
  exact hgo H6 (hTj.keeps hkN) (FrO.of_keeps hkN) hkN.1
 rcases hst with ⟨h0,hT5⟩ | ⟨h1,e0,hT5⟩
 ·subst h0
  refine go M0 0 hT5 hNup (.inl (htv _ (by omega))) (by rw [htv _ (by omega)]; exact qbb) ?_
  intro H6 hT6 f6 hs6
  rw [htv _ (by omega),show (!(qlN 8 (0 : Int) == lineOf (firstN (8 * pa)) 0)) = true by simp; exact fun h => l0 h.symm]
  unfold qL.j2
  have g6 : H6.get H.size = ⟨pl pa pb pc pd,.rw,0⟩ := by rw [f6.get _ (by omega) (by omega) (by omega)]; exact g5
  rw [qj,ql (plg_row g6)]
  refine qbA.s ?_
  rw [hh]
  have hO6 : Own H34.size H6 s37 1 wU (firstN (8 * pa)) := f6.own (by omega) (by omega) hO5
  refine qbr.s (hO6.rows (fun _ => rfl) (fun _ => rfl)) (qel _) (by omega) (by omega) ?_
  refine qgu.s hT6 hlv (by rw [hmv]; omega) l1 ?_
  intro H7 hT7 f7 z7
  have e16 : ((16 + 0 : Nat) : Int) = 16 := rfl
  rw [e16,← hFdef] at hT7 ⊢
  have f56 := f5.trans f6
  have htl := hT.lt
  have f67 : FrO H H7 p c := ⟨qmM f56.size f7.size,fun b hb h1 h2 => by
   rw [f7.get b (by have := f56.size; omega) (by omega) h1 h2,f56.get b hb h1 h2]⟩
  unfold qL.j1
  rcases hF with ⟨e,_⟩ | e
  ·rw [e,show ((0 : Int) != 0) = false from rfl,qc,qg (n := ((0 : Nat) : Int) + 1) (by omega) (by omega)]
   refine hit _ _ ⟨1,by simp,by omega,f67,by rw [f7.get _ (by omega) (by omega) (by omega) (by omega)]; exact g6,by omega,?_,.inr ⟨by omega,e,hT7⟩⟩ (by simp only; omega)
   rcases hO6 with h0 | ⟨b,h1,h2,h3,h4⟩
   ·exact .inl h0
   ·exact .inr ⟨b,h1,h2,by omega,by rw [f7.get b h3 (by omega) (by omega) (by omega)]; exact h4⟩
  ·rw [e,show ((3 : Int) != 0) = true from rfl,qj]
   rw [e] at hk
   exact hk H7 hT7.l.m f67
 ·have hv : (formN pa pb pc limits).1.tview (16 + pa.toNat) pb.toNat (16 + j) = qlN 8 0 := hFo _ (by omega) (by omega)
  refine go _ _ hT5 hFd (.inl hv) (by rw [hv]; exact qbb) ?_
  intro H6 hT6 f6 hs6
  rw [hv,qf6 (by omega) h1 hlt,show (!(qlN 8 (0 : Int) == qlN 8 0)) = false by simp]
  unfold qL.j2 qL.j1
  rw [qc,show ((0 : Int) != 0) = false from rfl,qc,qg (n := (j : Int) + 1) (by omega) (by omega)]
  exact hit _ _ ⟨j + 1,by simp,by omega,f5.trans f6,by rw [f6.get _ (by omega) (by omega) (by omega)]; exact g5,by omega,f6.own (by omega) (by omega) hO5,.inr ⟨by omega,e0,hT6⟩⟩ (by simp only; omega)
end
def ansl (cd m : Int) (sl : Sl) : List Value := [.int .i64 cd,.int .i64 m,sl.val]
def AnAt (H : AH) (o : Nat) (cd m : Int) (sl : Sl) : Prop := ∃ e,H.get o = ⟨ansl cd m sl,.rw,e⟩
section
variable {H : AH} {o : Nat} {cd m : Int} {sl : Sl}
theorem AnAt.c0 (h : AnAt H o cd m sl) : AH.cell? H (qlL ⟨o,0,none⟩ 0) = some (.int .i64 cd) := by obtain ⟨e,h⟩ := h; simp [qk,AH.cell?,h,ansl]
theorem AnAt.c1 (h : AnAt H o cd m sl) : AH.cell? H (qlL ⟨o,0,none⟩ 1) = some (.int .i64 m) := by obtain ⟨e,h⟩ := h; simp [qk,AH.cell?,h,ansl]
theorem AnAt.c2 (h : AnAt H o cd m sl) : AH.cell? H (qlL ⟨o,0,none⟩ 2) = some (.slice sl.a sl.n sl.k) := by obtain ⟨e,h⟩ := h; simp [qk,AH.cell?,h,ansl,Sl.val]
theorem AnAt.row (h : AnAt H o cd m sl) : AH.row? H ⟨o,0,none⟩ 3 = some (ansl cd m sl) := by
 obtain ⟨e,h⟩ := h
 simp only [AH.row?,h,ql4,qlU,if_false]
 rw [if_neg (by simp)]
 rfl
theorem AnAt.keep {H' : AH} (h : AnAt H o cd m sl) (hg : H'.get o = H.get o) : AnAt H' o cd m sl := by obtain ⟨e,h⟩ := h; exact ⟨e,hg.trans h⟩
theorem AnAt.new {e : Nat} : AnAt (H.push ⟨ansl cd m sl,.rw,e⟩) H.size cd m sl := ⟨e,by rw [qm,if_pos rfl]⟩
end
theorem opc4 {H : AH} {o : Nat} {K a b c : Int} {sl : Sl} (h : OpAt H o K a b c sl) : AH.cell? H (qlL ⟨o,0,none⟩ 4) = some (.slice sl.a sl.n sl.k) := h.c4
theorem qk0 {l1 l2 : List Int} (h1 : qam l1) (h2 : qam l2) : ((l1.map fun v => UInt8.ofNat v.toNat) == (l2.map fun v => UInt8.ofNat v.toNat)) = decide (l1 = l2) := by
 by_cases he : l1 = l2
 ·subst he; simp
 ·rw [decide_eq_false he]
  have : (l1.map fun v => UInt8.ofNat v.toNat) ≠ (l2.map fun v => UInt8.ofNat v.toNat) := by
   intro hh
   apply he
   clear he
   induction l1 generalizing l2 with
   | nil =>
    cases l2 with
    | nil => rfl
    | cons b r => simp at hh
   | cons a r ih =>
    cases l2 with
    | nil => simp at hh
    | cons b s =>
     simp only [qmv,qnb] at hh
     have ha := h1 a (by simp)
     have hb := h2 b (by simp)
     have h9 := congrArg UInt8.toNat hh.1
     simp only [UInt8.toNat_ofNat'] at h9
     rw [ih (fun v hv => h1 v (by simp [hv])) (fun v hv => h2 v (by simp [hv])) hh.2]
     congr 1
     omega
  simpa using this
section
variable {H : AH}
theorem qho {s : Sl} {l : List Int} {k : List UInt8 → Prop} (hr : ql5 H s 1 bU l) (h8 : qam l) (hk : k (l.map fun v => UInt8.ofNat v.toNat)) : strC H s k := by
 have hm : (l.map fun v => UInt8.ofNat v.toNat).map byteV = l.flatMap bU := by
  clear hk hr
  induction l with
  | nil => rfl
  | cons a l ih =>
   have ha := h8 a (by simp)
   have := ih (fun v hv => h8 v (by simp [hv]))
   simp only [qmv,qmn,bU,List.singleton_append] at this ⊢
   rw [this]
   congr 1
   simp only [byteV,UInt8.toNat_ofNat']
   congr 1
   omega
 exact ⟨_,by rw [hm]; exact qeB (fun _ => rfl) (fun _ => rfl) hr,hk⟩
theorem qcn.s {s1 s2 : Sl} {l1 l2 : List Int} {k : Bool → AH → Prop} (h1 : ql5 H s1 1 bU l1) (h2 : ql5 H s2 1 bU l2) (h81 : qam l1) (h82 : qam l2) (h : k (decide (l1 = l2)) H) : qcn s1 s2 H k := by
 refine qcn.link ?_
 unfold qcn.b
 refine qho h1 h81 ?_
 refine qho h2 h82 ?_
 rw [← qk0 h81 h82] at h
 simpa using h
theorem qaa.s {cd m cd2 m2 : Int} {s1 s2 : Sl} {l1 l2 : List Int} {k : Bool → AH → Prop} (h1 : ql5 H s1 1 bU l1) (h2 : ql5 H s2 1 bU l2) (h81 : qam l1) (h82 : qam l2)
  (h : k (decide (cd = cd2 ∧ m = m2 ∧ l1 = l2)) H) : qaa (ansl cd m s1) (ansl cd2 m2 s2) H k := by
 refine gcB _ (qaa.link ?_) h
 unfold qaa.b
 rw [qp,qp]
 have hk := ((qa.refl H).push ⟨ansl cd m s1,.rw,0⟩).push ⟨ansl cd2 m2 s2,.rw,0⟩
 have hA : AnAt ((H.push ⟨ansl cd m s1,.rw,0⟩).push ⟨ansl cd2 m2 s2,.rw,0⟩) H.size cd m s1 := (AnAt.new (H := H) (e := 0)).keep (qv (by simp [qe]))
 have hB : AnAt ((H.push ⟨ansl cd m s1,.rw,0⟩).push ⟨ansl cd2 m2 s2,.rw,0⟩) (H.push ⟨ansl cd m s1,.rw,0⟩).size cd2 m2 s2 := AnAt.new
 generalize (H.push ⟨ansl cd m s1,.rw,0⟩).size = o2 at *
 generalize (H.push ⟨ansl cd m s1,.rw,0⟩).push ⟨ansl cd2 m2 s2,.rw,0⟩ = H2 at *
 rw [hA.c0,qf,hB.c0,qf,qi]
 by_cases e0 : cd = cd2
 rotate_left 1
 ·rw [if_neg (by simpa using e0)]
  exact ⟨hk,by rw [decide_eq_false]; exact fun hh => e0 hh.1⟩
 rw [if_pos (by simpa using e0),hA.c1,qf,hB.c1,qf,qi]
 by_cases e1 : m = m2
 rotate_left 1
 ·rw [if_neg (by simpa using e1)]
  exact ⟨hk,by rw [decide_eq_false]; exact fun hh => e1 hh.2.1⟩
 rw [if_pos (by simpa using e1),hA.c2,qag,hB.c2,qag]
 refine qcn.s (h1.keep hk) (h2.keep hk) h81 h82 ?_
 refine ⟨hk,?_⟩
 by_cases e2 : l1 = l2
 ·rw [decide_eq_true e2,decide_eq_true ⟨e0,e1,e2⟩]
 ·rw [decide_eq_false e2,decide_eq_false (fun hh => e2 hh.2.2)]
end
def doP (ws : List Int) (root K off : Int) (bs : List Int) : Int × List Int × Int :=
 if K = 2 then ((aFree ws root off).1,(aFree ws root off).2,root) else if K = 4 then ((aWrite ws off bs).1,(aWrite ws off bs).2,root) else ((aRoot ws root off).1,ws,(aRoot ws root off).2)
def seeP (ws : List Int) (root : Int) (worn : Bool) (K off n : Int) (bs : List Int) (cd m : Int) (av : List Int) : Bool × List Int × Int × Bool :=
 if K = 1 then
  if needN n = 0 then (decide (cd = 1 ∧ m = 0 ∧ av = []),ws,root,worn)
  else if cd = 3 then (decide (m = 0 ∧ av = []),ws,root,worn || decide (m = 0 ∧ av = []))
  else if worn = true then (false,ws,root,worn)
  else if cd = 4 then (decide ((m = 0 ∧ av = []) ∧ (fitO ws n).length = 0),ws,root,worn)
  else if cd ≠ 0 ∨ av ≠ [] then (false,ws,root,worn)
  else ((aAlloc ws n m).1,(aAlloc ws n m).2,root,worn)
 else if K = 2 ∨ K = 4 ∨ K = 5 then
  if ¬ (m = 0 ∧ av = []) then (false,ws,root,worn)
  else if (doP ws root K off bs).1 = 0 ∧ ¬ (K = 4 ∧ bs = []) ∧ (worn = true ∨ cd = 3) then (decide (cd = 3),ws,root,worn || decide (cd = 3))
  else if cd ≠ (doP ws root K off bs).1 then (false,ws,root,worn)
  else (true,(doP ws root K off bs).2.1,(doP ws root K off bs).2.2,worn)
 else if K = 3 then (decide (cd = (aRead ws off n).2 ∧ m = 0 ∧ av = (aRead ws off n).1),ws,root,worn)
 else if K = 6 then (decide (cd = 0 ∧ m = root ∧ av = []),ws,root,worn)
 else (decide (cd = 1 ∧ m = 0 ∧ av = []),ws,root,worn)
theorem seeP_eq (ws : List Int) (root : Int) (worn : Bool) (K off n : Int) (bs : List Int) (cd m : Int) (av : List Int) : seeP ws root worn K off n bs cd m av =
 (  if K = 1 then
  if needN n = 0 then (decide (cd = 1 ∧ m = 0 ∧ av = []),ws,root,worn)
  else if cd = 3 then (decide (m = 0 ∧ av = []),ws,root,worn || decide (m = 0 ∧ av = []))
  else if worn = true then (false,ws,root,worn)
  else if cd = 4 then (decide ((m = 0 ∧ av = []) ∧ (fitO ws n).length = 0),ws,root,worn)
  else if cd ≠ 0 ∨ av ≠ [] then (false,ws,root,worn)
  else ((aAlloc ws n m).1,(aAlloc ws n m).2,root,worn)
 else if K = 2 ∨ K = 4 ∨ K = 5 then
  if ¬ (m = 0 ∧ av = []) then (false,ws,root,worn)
  else if (doP ws root K off bs).1 = 0 ∧ ¬ (K = 4 ∧ bs = []) ∧ (worn = true ∨ cd = 3) then (decide (cd = 3),ws,root,worn || decide (cd = 3))
  else if cd ≠ (doP ws root K off bs).1 then (false,ws,root,worn)
  else (true,(doP ws root K off bs).2.1,(doP ws root K off bs).2.2,worn)
 else if K = 3 then (decide (cd = (aRead ws off n).2 ∧ m = 0 ∧ av = (aRead ws off n).1),ws,root,worn)
 else if K = 6 then (decide (cd = 0 ∧ m = root ∧ av = []),ws,root,worn)
 else (decide (cd = 1 ∧ m = 0 ∧ av = []),ws,root,worn)) := rfl
theorem qlq {ws : List Int} {root K off : Int} {bs : List Int} (h : (doP ws root K off bs).1 ≠ 0) : (doP ws root K off bs).2 = (ws,root) := by
 revert h
 unfold doP aFree aWrite aRoot
 split
 ·split
  ·intro _; rfl
  ·split
   ·intro _; rfl
   ·intro h; exact absurd rfl h
 ·split
  ·split
   ·intro h; exact absurd rfl h
   ·intro _; rfl
  ·split
   ·intro _; rfl
   ·intro h; exact absurd rfl h
structure JWs (F : Nat → Prop) (H : AH) (j : Nat) (ws : List Int) (root : Int) (worn : Bool) (p : Nat) (G : Nat → Prop) : Prop where
 obj : H.get j = ⟨[.pointer (some ⟨p,0,none⟩),.bool worn],.rw,0⟩
 m : MW G H p ws root
 fj : F j
 fg : ∀ b,G b → F b
 nj : ¬ G j
 lt : Lt F H
def JW (F : Nat → Prop) (H : AH) (j : Nat) (ws : List Int) (root : Int) (worn : Bool) : Prop := ∃ p G,JWs F H j ws root worn p G
section
variable {F : Nat → Prop} {H : AH} {j : Nat} {ws : List Int} {root : Int} {worn : Bool} {p : Nat} {G : Nat → Prop}
theorem JWs.c0 (h : JWs F H j ws root worn p G) : AH.cell? H (qlL ⟨j,0,none⟩ 0) = some (.pointer (some ⟨p,0,none⟩)) := by simp [qk,AH.cell?,h.obj]
theorem JWs.c1 (h : JWs F H j ws root worn p G) : AH.cell? H (qlL ⟨j,0,none⟩ 1) = some (.bool worn) := by simp [qk,AH.cell?,h.obj]
theorem JWs.congr {H' : AH} (h : JWs F H j ws root worn p G) (hs : H.size ≤ H'.size) (hg : ∀ b,F b → H'.get b = H.get b) : JWs F H' j ws root worn p G :=
 ⟨by rw [hg j h.fj]; exact h.obj,h.m.congr hs (fun b hb => hg b (h.fg b hb)),h.fj,h.fg,h.nj,fun b hb => by have := h.lt b hb; omega⟩
theorem JWs.keeps {H' : AH} (h : JWs F H j ws root worn p G) (hk : qa H H') : JWs F H' j ws root worn p G := h.congr hk.1 fun b hb => hk.2 b (h.lt b hb)
theorem JW.lt (h : JW F H j ws root worn) : Lt F H := by obtain ⟨p,G,h⟩ := h; exact h.lt
theorem JW.keeps {H' : AH} (h : JW F H j ws root worn) (hk : qa H H') : JW F H' j ws root worn := by obtain ⟨p,G,h⟩ := h; exact ⟨p,G,h.keeps hk⟩
theorem JW.up {F1 F1' : Nat → Prop} {H' : AH} (h : JW F H j ws root worn) (hu : Up F1 H F1' H') (hd : Dj F1 F) : JW F H' j ws root worn := by
 obtain ⟨p,G,h0⟩ := h
 exact ⟨p,G,h0.congr hu.1.1 fun b hb => hu.get hd h0.lt hb⟩
theorem JWs.put_worn {w2 : Bool} (h : JWs F H j ws root worn p G) : H.canPut (qlL ⟨j,0,none⟩ 1) 1 ∧ JW F (H.put (qlL ⟨j,0,none⟩ 1) [.bool w2]) j ws root w2 ∧ Up F H F (H.put (qlL ⟨j,0,none⟩ 1) [.bool w2]) := by
 rw [qk]
 have hg : ∀ b,b ≠ j → (H.put ⟨j,0 + 1,none⟩ [.bool w2]).get b = H.get b := fun b hb => by simp [AH.put,qu,hb]
 refine ⟨⟨rfl,by simp [h.obj],by simp [h.obj]⟩,⟨p,G,by simp [AH.put,qu,h.obj,setMany],h.m.congr (qlS _) (fun b hb => hg b (fun he => h.nj (he ▸ hb))),h.fj,h.fg,h.nj,h.lt⟩,⟨qlS _,fun b _ hn => hg b (fun he => hn (he ▸ h.fj))⟩,fun b hb => .inl hb⟩
theorem JWs.put_ptr {H1 : AH} {p2 : Nat} {G2 : Nat → Prop} {ws2 : List Int} {root2 : Int} (h : JWs F H j ws root worn p G) (hk : qa H H1) (hm : MW G2 H1 p2 ws2 root2) (hge : ∀ b,G2 b → H.size ≤ b) :
  H1.canPut (qlL ⟨j,0,none⟩ 0) 1 ∧ ∀ F' H',F' = (fun b => F b ∨ (H.size ≤ b ∧ b < H1.size)) → H' = H1.put (qlL ⟨j,0,none⟩ 0) [.pointer (some ⟨p2,0,none⟩)] → JW F' H' j ws2 root2 worn ∧ Up F H F' H' := by
 have hj := h.lt j h.fj
 have hobj : H1.get j = ⟨[.pointer (some ⟨p,0,none⟩),.bool worn],.rw,0⟩ := by rw [hk.2 j hj]; exact h.obj
 rw [qk]
 have hg : ∀ b,b ≠ j → (H1.put ⟨j,0 + 0,none⟩ [.pointer (some ⟨p2,0,none⟩)]).get b = H1.get b := fun b hb => by simp [AH.put,qu,hb]
 refine ⟨⟨rfl,by simp [hobj],by simp [hobj]⟩,?_⟩
 rintro F' H' rfl rfl
 refine ⟨⟨p2,G2,by simp [AH.put,qu,hobj,setMany],hm.congr (qlS _) (fun b hb => hg b (fun he => by have := hge b hb; omega)),.inl h.fj,fun b hb => .inr ⟨hge b hb,hm.lt b hb⟩,fun hb => by have := hge j hb; omega,fun b hb => ?_⟩,⟨hk.1,fun b hb hn => by rw [hg b (fun he => hn (he ▸ h.fj)),hk.2 b hb]⟩,fun b hb => hb⟩
 rcases hb with hb | hb
 ·have := h.lt b hb; have := hk.1; show b < H1.size; omega
 ·exact hb.2
theorem JWs.step {H1 : AH} {G2 : Nat → Prop} {ws2 : List Int} {root2 : Int} (h : JWs F H j ws root worn p G) (hu : Up G H G2 H1) (hm : MW G2 H1 p ws2 root2) :
  ∃ F',JW F' H1 j ws2 root2 worn ∧ Up F H F' H1 := by
 have hj := h.lt j h.fj
 refine ⟨fun b => F b ∨ (H.size ≤ b ∧ b < H1.size),⟨p,G2,by rw [hu.1.2 j hj h.nj]; exact h.obj,hm,.inl h.fj,fun b hb => ?_,fun hb => ?_,fun b hb => ?_⟩,⟨hu.1.1,fun b hb hn => hu.1.2 b hb (fun hh => hn (h.fg b hh))⟩,fun b hb => hb⟩
 ·rcases hu.2 b hb with h0 | h0
  ·exact .inl (h.fg b h0)
  ·exact .inr h0
 ·rcases hu.2 j hb with h0 | h0
  ·exact h.nj h0
  ·omega
 ·rcases hb with hb | hb
  ·have := h.lt b hb; have := hu.1.1; omega
  ·exact hb.2
end
structure OpR where
 K : Int
 off : Int
 n : Int
 c : Int
 sl : Sl
 bs : List Int
def opRV (d : OpR) : List Value := opl d.K d.off d.n d.c d.sl
section
variable {H : AH}
theorem umod5 {x m : Int} (hm : 0 < m ∧ m ≤ 1000000) : ∃ r,0 ≤ r ∧ r < m ∧ qlJ .i64 (Int.tmod (qlJ .u64 x) m) = r := by
 obtain ⟨h1,h2⟩ := umod hm.1 x
 exact ⟨_,h1,h2,qg (by omega) (by omega)⟩
theorem qbe.s {x0 x1 x2 x3 : Int} {k : List Value → AH → Prop} (h : ∀ pa pb pc pd,1 ≤ pa ∧ pa ≤ 24 → 0 ≤ pb ∧ pb ≤ 16 → 1 ≤ pc ∧ pc ≤ 30 → 1 ≤ pd ∧ pd ≤ 10 → k (pl pa pb pc pd) H) : qbe x0 x1 x2 x3 H k := by
 obtain ⟨a,a0,a1,ea⟩ := umod5 (x := x0) (m := 24) (by omega)
 obtain ⟨b,b0,b1,eb⟩ := umod5 (x := x1) (m := 17) (by omega)
 obtain ⟨c,c0,c1,ec⟩ := umod5 (x := x2) (m := 30) (by omega)
 obtain ⟨d,d0,d1,ed⟩ := umod5 (x := x3) (m := 10) (by omega)
 refine qcZ (κ := .agg) (v := pl (1 + a) b (1 + c) (1 + d)) (H2 := H) (by simp) rfl (qbe.link ?_) (h _ _ _ _ (by omega) (by omega) (by omega) (by omega))
 unfold qbe.b
 rw [ea,eb,ec,ed,qg (n := 1 + a) (by omega) (by omega),qg (n := 1 + c) (by omega) (by omega),qg (n := 1 + d) (by omega) (by omega),qp]
 refine ⟨by decide,by decide,by decide,by decide,⟨rfl,rfl⟩,?_⟩
 rw [qaQ]
 refine ⟨qcC.2 (by simp),?_⟩
 have e2 : AH.put (H.push ⟨[(qlI .i64 (0 : Int)),(qlI .i64 (0 : Int)),(qlI .i64 (0 : Int)),(qlI .i64 (0 : Int))],.rw,0⟩) ⟨H.size,0,none⟩ (pl (1 + a) b (1 + c) (1 + d)) = H.push ⟨pl (1 + a) b (1 + c) (1 + d),.rw,0⟩ := by
  rw [qdq]; rfl
 show ldA (AH.put _ _ (pl (1 + a) b (1 + c) (1 + d))) _ _ _
 refine ql (cs := pl (1 + a) b (1 + c) (1 + d)) (by rw [e2]; exact pl_row) |>.mpr ?_
 exact ⟨At.of_keeps (((qa.refl H).push _).upd (qlS _) _),rfl⟩
end
def Pl.has (L : Pl) (b : Nat) : Prop := b = L.h ∨ b = L.g ∨ b = L.t ∨ b = L.x ∨ b = L.p ∨ b = L.c ∨ b = L.ct ∨ b = L.q1 ∨ b = L.q2
section
variable {H H' H0 : AH} {L : Pl} {F F' : Nat → Prop} {w : Nat} {pa pb pc pd : Int} {s : HS} {ws : List Int} {root : Int} {mvb : Nat} {cb : Int}
theorem HA.lt (h : HA H L pa pb pc pd s) {b : Nat} (hb : L.has b) : b < H.size := by
 have hbl := HAt.below h
 have hga := HAt.ga h
 have hca := HAt.ca h
 rcases hb with rfl | rfl | rfl | rfl | rfl | rfl | rfl | rfl | rfl
 ·exact hbl.h
 ·exact hga.lg
 ·exact hbl.t
 ·exact hga.tn.l.lx
 ·exact hbl.p
 ·exact hbl.c
 ·exact hca.lc
 ·exact hbl.q1
 ·exact hbl.q2
theorem HA.congr (h : HA H L pa pb pc pd s) (hs : H.size ≤ H'.size) (hg : ∀ b,L.has b → H'.get b = H.get b) : HA H' L pa pb pc pd s := by
 have hga := HAt.ga h
 have hl := hga.tn.l
 have lt := fun b hb => HA.lt h (b := b) hb
 have l1 := lt L.h (by simp [Pl.has]); have l2 := lt L.g (by simp [Pl.has]); have l3 := lt L.t (by simp [Pl.has]); have l4 := lt L.x (by simp [Pl.has]); have l5 := lt L.p (by simp [Pl.has]); have l6 := lt L.c (by simp [Pl.has])
 exact ⟨by rw [hg _ (by simp [Pl.has]),HAt.hh h],by omega,HAt.may h,
  ⟨by rw [hg _ (by simp [Pl.has]),hga.hg],by omega,hga.ne,⟨by rw [hg _ (by simp [Pl.has]),hga.tn.ht],by omega,hga.tn.tp,hga.tn.tc,hga.tn.tx,
   ⟨by rw [hg _ (by simp [Pl.has]),hl.hx],by omega,hl.xp,hl.xc,hl.m.keep hs (hg _ (by simp [Pl.has])) (hg _ (by simp [Pl.has])),hl.len,hl.n1,hl.sp16⟩,hga.tn.n1,hga.tn.per,hga.tn.pl,hga.tn.mv⟩,hga.n16⟩,
  HAt.ca_keep h hs (fun b hb => hg b (by rcases hb with rfl | rfl | rfl <;> simp [Pl.has])),HAt.ne h,HAt.nc h,HAt.pages h⟩
theorem qe8 (h : Ok ws) (off n : Int) : imgRead ws off n = aRead ws off n := by
 unfold imgRead aRead
 rw [h.blocks]
theorem do_get (h : HP pa pb pc pd s ws root mvb cb) (hup : s.M.down = false) {off n : Int} {bs : List Int} : doH pa pb pc pd s 6 off n bs = (s,0,root,[]) := by
 unfold doH
 rw [if_neg (by omega),if_neg (by omega),if_neg (by omega),if_neg (by omega),if_neg (by omega),if_pos rfl,if_neg (by simp [hup]),h.rootN.1]
theorem do_read (h : HP pa pb pc pd s ws root mvb cb) (hup : s.M.down = false) {off n : Int} {bs : List Int} : doH pa pb pc pd s 3 off n bs = (s,(aRead ws off n).2,0,if (aRead ws off n).2 = 0 then (aRead ws off n).1 else []) := by
 unfold doH
 rw [if_neg (by omega),if_neg (by omega),if_pos rfl,qgl h hup,qe8 h.ok]
end
theorem rootChk {ws : List Int} (h : Ok ws) {off : Int} : isUsed ws off = true ↔ ¬ isN off (blkL ws) 0 < 0 := by
 unfold isUsed
 rw [h.blocks]
 simp
structure FreeS (s : HS) : Prop where
 up : s.M.down = false
 cut : s.M.cut = -1
 nl : NL s.M
 ns : ¬ s.stuck
section
variable {pa pb pc pd : Int} {s : HS} {ws : List Int} {root : Int} {mvb : Nat} {cb : Int}
theorem qfI {E : List (Int × Int)} (h : HP pa pb pc pd s ws root mvb cb) (hf : FreeS s) (hin : EdIn E ws.length) (h1 : 1 ≤ (eLines E).length) (h14 : (eLines E).length ≤ 14)
  (hok' : Ok (applyE ws E)) (hb : mvb + 2000 < 4611686018427387904) (hcb : cb + 100 < 4611686018427387904) : (commitH pa pb pc pd ws E s).2 = 0 ∧ FreeS (commitH pa pb pc pd ws E s).1 := by
 have hm := qV.1 h.may
 obtain ⟨hn16,hpg⟩ := h.now16
 have hlen := h.len
 have hc0 := h.c0
 obtain ⟨l8,l512,h64⟩ := hok'.len
 have hlenA : (applyE ws E).length = ws.length := qac E ws
 have hup := hf.up
 have hst := hf.ns
 have hwf : s.worn = false := by cases hw : s.worn with | false => rfl | true => exact absurd (.inl hw) hst
 have hcm : commits s.M = 0 := by
  by_cases hc : commits s.M = 0
  ·exact hc
  ·exact absurd (.inr ⟨hup,hc⟩) hst
 have hls : ∀ ln ∈ eLines E,0 ≤ ln ∧ ln < ((pa.toNat : Nat) : Int) := by
  intro ln hln
  obtain ⟨e,he,h0,rfl⟩ := qcV.1 hln
  have := hin.mem e he
  omega
 have hmay := qgU (m := pa.toNat) (W := applyE ws E) hls h1 h14
 have hhok := qhf (m := pa.toNat) (W := applyE ws E) h64 (by omega) (by omega) hls
 obtain ⟨c1,c2⟩ := com_any h.ps (by omega) hup (by omega) hhok (by rw [qcX]; omega) h.sd
 obtain ⟨d1,d2,d3,d4⟩ := qij h.ps (by omega) hup (by omega) hhok
 obtain ⟨n1,n2⟩ := com_nl h.ps hf.nl (by omega) hup hf.cut (by omega) hhok hmay hcm
 have n3 := (hf.nl.com (n := 16 + pa.toNat) (sp := pb.toNat) (per := pc.toNat) (pt := s.pt) (l := homesC (applyE ws E) (eLines E))).2
 have hps := h.ps.com (by omega) (by omega) hhok
 unfold commitH
 simp only
 generalize comN (16 + pa.toNat) pb.toNat pc.toNat (homesC (applyE ws E) (eLines E)) s.M s.pt = C at *
 rw [if_neg (by simpa using n1)]
 have hCup : C.1.down = false := by
  rcases c1 with ⟨_,⟨e0,_⟩ | ⟨e2,_⟩⟩ | ⟨_,_,_,⟨_,hd⟩ | ⟨e2,_⟩⟩
  ·exact absurd n1 e0
  ·omega
  ·exact hd
  ·omega
 have cp0 : CP pd C.1 s.now s.kept cb := ⟨h.cp.kl,h.cp.ok,fun _ i hi => by rw [d1 (19 + i) (.inr (by omega))]; exact h.cp.lag hup i hi,fun i hi => by rw [d1 (19 + i) (.inr (by omega))]; exact h.cp.rg i hi⟩
 obtain ⟨m1,m2,m3,m4,m5,m6,m7⟩ := qhz (pd := pd) (by omega) (ls := eLines E) cp0 hCup hps.ok (fun ln hln => by have := hls ln hln; omega) hn16 hc0 (by omega)
 generalize notesN pd (eLines E) C.1 s.now s.kept = N at *
 rcases m7 with ⟨a,b,c⟩ | ⟨a,b,c⟩
 ·refine ⟨a,b,m5 (c2 hf.cut),n3.cs m1,fun hs => ?_⟩
  rcases hs with hs | ⟨_,hs⟩
  ·simp only at hs; rw [hwf] at hs; cases hs
  ·exact hs (by show N.1.regs.getD 1 0 = 0; rw [m2 1 (by omega)]; exact n2)
 ·exact absurd (c2 hf.cut) c
theorem do_free {K off n : Int} {bs : List Int} (hio : isI off) (h8 : qam bs) (h : HP pa pb pc pd s ws root mvb cb) (hf : FreeS s) (hb : mvb + 2000 < 4611686018427387904) (hcb : cb + 100 < 4611686018427387904) :
  FreeS (doH pa pb pc pd s K off n bs).1 ∧ (doH pa pb pc pd s K off n bs).2.1 ≠ 3 ∧ (doH pa pb pc pd s K off n bs).2.1 ≠ 2 := by
 have hup := hf.up
 have hst := hf.ns
 unfold doH
 by_cases k1 : K = 1
 ·rw [if_pos k1]
  simp only
  unfold allocH
  rw [if_neg (by simp [hup]),h.words hup]
  by_cases h0 : needN n = 0
  ·rw [if_pos h0]; exact ⟨hf,by simp,by simp⟩
  rw [if_neg h0,if_neg hst]
  have hE6 : (imgAlloc ws n s.now).2.2 = 0 ∨ (imgAlloc ws n s.now).2.2 = 4 ∨ (imgAlloc ws n s.now).2.2 = 6 := by
   unfold imgAlloc
   rw [if_neg h0]
   split
   ·exact .inr (.inr rfl)
   ·split
    ·exact .inr (.inl rfl)
    ·exact .inl rfl
  by_cases he : (imgAlloc ws n s.now).2.2 = 0
  rotate_left 1
  ·rw [if_pos he]; exact ⟨hf,by simp only; omega,by simp only; omega⟩
  rw [if_neg (by simpa using he)]
  obtain ⟨q1,q2,q3,_,_,_⟩ := qdo h.ok he
  have hml := (qfY (ws := ws) (n := n) (cs := s.now)).most
  have := qdn 1 n 0
  obtain ⟨c1,c2⟩ := qfI (E := (imgAlloc ws n s.now).1) h hf qeG q3 (by omega) q1 hb hcb
  exact ⟨c2,by simp only; omega,by simp only; omega⟩
 rw [if_neg k1]
 by_cases k2 : K = 2
 ·rw [if_pos k2]
  simp only
  have hE6 : (imgFree ws off).2 = 0 ∨ (imgFree ws off).2 = 1 ∨ (imgFree ws off).2 = 6 := by
   unfold imgFree
   split
   ·exact .inr (.inr rfl)
   ·split
    ·exact .inr (.inl rfl)
    ·exact .inl rfl
  unfold freeH
  rw [if_neg (by simp [hup]),h.words hup,h.rootN.1]
  by_cases he : (imgFree ws off).2 = 0
  rotate_left 1
  ·rw [if_pos he]; exact ⟨hf,by simp only; omega,by simp only; omega⟩
  rw [if_neg (by simpa using he)]
  by_cases hr : root = off
  ·rw [if_pos hr]; exact ⟨hf,by simp,by simp⟩
  rw [if_neg hr,if_neg hst]
  obtain ⟨q1,q2,q3,_⟩ := qew h.ok he
  have hml := (qeR (ws := ws) (off := off)).most
  have := qdn 2 0 0
  obtain ⟨c1,c2⟩ := qfI (E := (imgFree ws off).1) h hf qeb q3 (by omega) q1 hb hcb
  exact ⟨c2,by omega,by omega⟩
 rw [if_neg k2]
 by_cases k3 : K = 3
 ·rw [if_pos k3,qgl h hup,qe8 h.ok]
  simp only
  refine ⟨hf,?_,?_⟩ <;> (unfold aRead; split <;> simp)
 rw [if_neg k3]
 by_cases k4 : K = 4
 ·rw [if_pos k4]
  simp only
  have hE6 : (imgWrite ws off bs).2 = 0 ∨ (imgWrite ws off bs).2 = 1 ∨ (imgWrite ws off bs).2 = 6 := by
   unfold imgWrite
   split
   ·exact .inr (.inr rfl)
   ·split
    ·exact .inl rfl
    ·exact .inr (.inl rfl)
  unfold writeH
  rw [if_neg (by simp [hup]),h.words hup]
  by_cases he : (imgWrite ws off bs).2 = 0
  rotate_left 1
  ·rw [if_pos he]; exact ⟨hf,by simp only; omega,by simp only; omega⟩
  rw [if_neg (by simpa using he)]
  obtain ⟨l1,l2⟩ := qfl (E := (imgWrite ws off bs).1) (ws := ws) (off := off) (bs := bs) (Prod.ext rfl he)
  by_cases hz : (imgWrite ws off bs).1.length = 0
  ·rw [if_pos hz]; exact ⟨hf,by simp,by simp⟩
  rw [if_neg hz,if_neg hst]
  obtain ⟨q1,q2⟩ := qgV h.ok h8 he
  have hml := (qf2 (ws := ws) h.ok.len.2.2 (off := off) (bs := bs)).most
  have := qdn 4 0 bs.length
  have hb0 : 0 < bs.length := by
   rcases Nat.eq_zero_or_pos bs.length with h0 | h0
   ·exact absurd (l1.2 h0) hz
   ·exact h0
  obtain ⟨c1,c2⟩ := qfI (E := (imgWrite ws off bs).1) h hf (qeO h.ok.len.2.2 (by have := h.ok.len; omega)) (qd8 (l2 hb0)) (by omega) q1 hb hcb
  exact ⟨c2,by omega,by omega⟩
 rw [if_neg k4]
 by_cases k5 : K = 5
 ·rw [if_pos k5]
  simp only
  obtain ⟨c2,c3,c4,c1⟩ := qeZ (off := off) hio h hup
  have hnl : NL (setRootH pa pb s off).1.M := by
   unfold setRootH
   repeat' split
   all_goals first
    | exact hf.nl
    | exact (hf.nl.set).2
  rcases c1 with ⟨_,_,u2⟩ | ⟨_,u1,_⟩ | ⟨_,u1,u2,u3,u4,u5⟩ | ⟨_,_,_,_,u,_⟩
  ·rw [u2]; exact ⟨hf,by simp,by simp⟩
  ·exact absurd u1 hst
  ·exact ⟨⟨u3,c2.cut hf.cut,hnl,u4⟩,by omega,by omega⟩
  ·exact absurd hf.cut u
 rw [if_neg k5]
 by_cases k6 : K = 6
 ·rw [if_pos k6,if_neg (by simp [hup])]; exact ⟨hf,by simp,by simp⟩
 ·rw [if_neg k6]; exact ⟨hf,by simp,by simp⟩
theorem qiv {n words : Int} {cs : List Int} (hw : mayW words) (hn : 1 ≤ n ∧ n ≤ 448) (hfit : needN n ≤ words) :
  (imgAlloc (firstN words) n cs).2.2 = 0 ∧ (imgAlloc (firstN words) n cs).2.1 = 8 ∧ ∃ tk,takesN words (needN n) = tk ∧ MR words [(0,tk,qlN ((tk.toNat - 1) * 8) 0)] (applyE (firstN words) (imgAlloc (firstN words) n cs).1) := by
 obtain ⟨h1,tk,h2,h3,h4⟩ := qjg hw hn hfit
 have hok : Ok (firstN words) := ⟨[],MR.self (MR.first hw) (by rw [qcS hw]; unfold mayW at hw; omega)⟩
 have hneed : needN n ≠ 0 := by unfold needN; rw [if_pos hn]; omega
 have hE : (imgAlloc (firstN words) n cs).2.2 = 0 ∧ (imgAlloc (firstN words) n cs).2.1 = 8 := by
  unfold fitO at h1
  unfold imgAlloc
  rw [if_neg hneed,hok.blocks]
  simp only
  obtain ⟨i,hi⟩ : ∃ i,fitsL (blkL (firstN words)) (needN n) = [i] := by
   have := congrArg qlY h1
   rw [qmt] at this
   exact List.length_eq_one_iff.1 this
  rw [hi] at h1
  simp only [qmv,List.map_nil,qnb,and_true] at h1
  have hch : chooseN (blkL (firstN words)) (needN n) cs = (i : Int) := by
   unfold chooseN
   rw [hi]
   simp [chStep]
  rw [hch,if_neg (by omega),qlP]
  exact ⟨rfl,h1⟩
 have hA := (qdo (cs := cs) hok hE.1).2.2.2.1
 rw [hE.2] at hA
 rw [hA] at h4
 exact ⟨hE.1,hE.2,tk,h2,h4⟩
end
end Go.Proofs.YtdcbkjgoaknmkaaGreat
