/- Lemmas for the law: an abstract machine, and what the functions do on it. No condition. -/
import Derived.Test.YtemeclnpdpkfdaaGreatGT12
import Derived.Test.YtemeclnpdpkfdaaGreatProg
import Derived.WalkKit
import Derived.Defers
import Derived.Recover
set_option linter.all false
open Go.Value renaming int → qlk, pointer → qls, agg → qms
open Go.IntKind renaming wrap → qll
open Go.Addr renaming add → qlm
open List renaming getElem?_eq_getElem → qln, getD_eq_getElem?_getD → qlo, replicate → qlq, getElem?_eq_none → qlt, mem_of_getElem? → qlx, getElem?_map → qlz, getElem_mem → qlB, mem_append → qlD, length_cons → qlE, mem_cons → qlL, ext_getElem? → qlM, getElem?_append_right → qlN, getElem?_range → qlP, getElem?_set_ne → qlQ, length_set → qlT, toArray → qlU, getElem?_append_left → qlX, mem_map → ql2, cons_append → ql3, length_append → ql5, flatMap_cons → ql7, nil_append → ql8, take_of_length_le → ql9, range → qma, getElem?_cons_succ → qmb, getElem?_take → qmd, getElem?_drop → qme, map_cons → qmj, mem_range → qml, length_map → qmm, range_succ → qmq, length_nil → qmv, take_succ → qmB, flatMap_append → qmC, append_of_mem → qmF, getElem?_replicate → qmK, append_assoc → qmL
open Int renaming toNat_natCast → qlp, toNat → qlr, eq_ofNat_of_zero_le → qlI
open Nat renaming le_refl → qlu, zero_add → qlJ, le_trans → qmr
open Bool renaming false_eq_true → qlw, not_true → qlA, not_false → qlK
open Go.Abs renaming Rows → qlC
open Option renaming isSome_none → qlF, isNone_some → qlG, map_some → qlO
open Array renaming getD_eq_getD_getElem? → qlH, replicate → qmU
open Go.World renaming cell?_setCell_other → qmi
open List.cons renaming injEq → qmG
open ByteArray renaming toList → qmJ
set_option linter.all false
namespace Go.Proofs.YtemeclnpdpkfdaaGreat
open Go
theorem qkA (p : Addr) (w : World) : CallsD Tryz.prog 48 #[.pointer (some p)] .returning w fun e u' w' => e = .returned (.tuple #[]) ∧ u' = .returning ∧ w' = w := by
 refine callsD_of_wpS Tryz.func48 rfl fun c₀ cs hu => ?_
 apply wpS_seq
 apply wpS_region
 simp [wpOpsS, go_sem, recoverD, hu, Tryz.ntmps48, Exit.thenS]
 apply wpS_seq
 apply wpS_region
 simp [wpOpsS, go_sem, Exit.thenS]
 refine wpS_cond (t := false) (by simp [Act.eval, qmU]) ?_
 refine wpS_of_wp (wp_skip ?_)
 cases c₀
 simp_all [bodyPostS, results, Tryz.results48, Exit.thenS]
theorem do1_pan (b : Nat) (e0 : Int) (older : List PanicEntry) (w : World) (h0 : ∃ v, w.cell? ⟨b, 0, none⟩ = some v) (h1 : ∃ v, w.cell? ⟨b, 1, none⟩ = some v) (h2 : ∃ v, w.cell? ⟨b, 2, none⟩ = some v) (hf : ∀ i, w.frozen? ⟨b, i, none⟩ = false) :
  CallsD Tryz.prog 48 #[.pointer (some ⟨b, 0, none⟩)] (.panicking ({ v := .iface 37 (.int .i64 e0), recovered := false } :: older)) w fun e u' w' =>
   e = .returned (.tuple #[]) ∧ u' = .panicking ({ v := .iface 37 (.int .i64 e0), recovered := true } :: older) ∧ w' = w.setCells b 0 [.int .i64 e0, .int .i64 0, .slice none 0 0] := by
 obtain ⟨v0, h0⟩ := h0
 obtain ⟨v1, h1⟩ := h1
 obtain ⟨v2, h2⟩ := h2
 have fz : ∀ (w : World) (a : Addr) (v : Value) (c : Addr), (w.setCell a v).frozen? c = w.frozen? c := fun w a v c => World.frozen?_setCell w a c v
 have g1 : (w.setCell ⟨b, 0, none⟩ (.int .i64 e0)).cell? ⟨b, 1, none⟩ = some v1 := by rw [qmi _ _ _ _ (by simp)]; exact h1
 have g2 : ((w.setCell ⟨b, 0, none⟩ (.int .i64 e0)).setCell ⟨b, 1, none⟩ (.int .i64 0)).cell? ⟨b, 2, none⟩ = some v2 := by
  rw [qmi _ _ _ _ (by simp), qmi _ _ _ _ (by simp)]; exact h2
 refine callsD_of_wpS Tryz.func48 rfl fun c₀ cs hu => ?_
 apply wpS_seq
 apply wpS_region
 simp [wpOpsS, go_sem, recoverD, hu, Tryz.ntmps48, Exit.thenS]
 apply wpS_seq
 apply wpS_region
 simp [wpOpsS, go_sem, Exit.thenS]
 refine wpS_cond (t := true) (by simp [Act.eval, qmU]) ?_
 simp only [if_true]
 apply wpS_seq
 apply wpS_region
 have hta : ∀ w : World, Sem.run Tryz.prog (Instr.typeAssert (.iface 37 (.int .i64 e0)) 20 37 true) w = .ok (.tuple #[.int .i64 e0, .bool true]) w := fun _ => by kernel_rfl
 have hta2 : ∀ w : World, (Instr.typeAssert (.iface 37 (.int .i64 e0)) 20 37 true).run Tryz.prog w = .ok (.tuple #[.int .i64 e0, .bool true]) w := fun _ => by kernel_rfl
 simp [wpOpsS, go_sem, Exit.thenS, hta, hta2]
 apply wpS_seq
 apply wpS_seq
 apply wpS_region
 simp [wpOpsS, go_sem, Exit.thenS]
 refine wpS_cond (t := false) (by simp [Act.eval, qmU]) ?_
 refine wpS_of_wp (wp_skip ?_)
 simp only [Exit.thenS]
 apply wpS_region
 simp [wpOpsS, go_sem, Exit.thenS, h0, g1, g2, hf, fz]
 cases c₀
 simp_all [bodyPostS, results, Tryz.results48, Exit.thenS, World.setCells]
end Go.Proofs.YtemeclnpdpkfdaaGreat
set_option linter.all false
namespace Go.Proofs.YtemeclnpdpkfdaaGreat
open Go Go.Abs
theorem qlg {Q : Exit → Act → World → Prop} {a : Act} {w : World} {p : Addr} (hs : a.tmps.size = Tryz.f17.ntmps) (hd : a.defers = []) (h4 : a.tmps.getD 4 undef = .pointer (some p))
  (h : ∀ a' d, a'.tmps.size = a.tmps.size → (∀ s, s ≠ 8 → a'.tmps.getD s undef = a.tmps.getD s undef) → a'.defers = [d] → (∃ fv cap, d.target = .fn fv cap ∧ ∀ w, (invoke d.target d.args).run Tryz.prog w = .ok (.enter 48 #[.pointer (some p)]) w) → Q .normal a' w) :
  (deferOf Tryz.f17.body).wp Tryz.prog Q a w := by
 have hs' : a.tmps.size = 54 := hs
 show Code.wp Tryz.prog (Code.region 3 _ _) Q a w
 apply wp_region
 have h4' : a.tmps[4]?.getD undef = .pointer (some p) := by simpa [qlH] using h4
 simp [wpOps, go_sem, h4, h4', hs', hd]
 left; left
 refine h _ ⟨Target.fn (Fn.func 48) #[qls (some p)], #[]⟩ ?_ ?_ rfl ⟨_, _, rfl, fun w => ?_⟩
 ·simp
 ·intro s hs
  simp [qlH, Array.getElem?_setIfInBounds_ne (Ne.symm hs)]
 ·simp [go_sem, invoke]
theorem _root_.Go.Abs.ARel.weaken {Ds Ds' : List Deferred} {φ : Emb} {n : Nat} {fr fr' : Fr} {a a' : Act} (r : ARel Ds φ n fr a) (hd : a'.defers = Ds') (hs : a'.tmps.size = a.tmps.size) (ht : ∀ s, fr' s = undef ∨ (fr' s = fr s ∧ a'.tmps.getD s undef = a.tmps.getD s undef)) : ARel Ds' φ n fr' a' := by
 refine ⟨hd, hs.trans r.size, fun s => ?_⟩
 rcases ht s with h | ⟨h, e⟩
 ·rw [h]; exact .undef _
 ·rw [h, e]; exact r.tmp s
def doFr (x0 : Option Addr) (o3 o4 : Nat) : Fr := argFr [.pointer x0, undef, undef, .pointer (some ⟨o3, 0, none⟩), .pointer (some ⟨o4, 0, none⟩)]
theorem qgz {x0 : Option Addr} {o3 o4 : Nat} {fr : Fr} (h0 : fr 0 = .pointer x0) (h3 : fr 3 = .pointer (some ⟨o3, 0, none⟩)) (h4 : fr 4 = .pointer (some ⟨o4, 0, none⟩)) (s : Nat) : doFr x0 o3 o4 s = undef ∨ (doFr x0 o3 o4 s = fr s ∧ (s = 0 ∨ s = 3 ∨ s = 4)) := by
 match s with
 | 0 => exact .inr ⟨h0.symm, .inl rfl⟩
 | 1 => exact .inl rfl
 | 2 => exact .inl rfl
 | 3 => exact .inr ⟨h3.symm, .inr (.inl rfl)⟩
 | 4 => exact .inr ⟨h4.symm, .inr (.inr rfl)⟩
 | n + 5 => exact .inl rfl
theorem qit {φ : Emb} {e : Int} {v : Value} (h : VRel φ (.iface 37 (.int .i64 e)) v) : v = .iface 37 (.int .i64 e) := by
 cases h with
 | iface _ _ v' hv => cases hv; rfl
section
variable {x0 : Option Addr} {x1 : List Value} {H : AH}
theorem heap_Do.walk {k : List Value → AH → Prop} 
  (hnil : x0 = none → ∀ o4 H4 z, H4.get o4 = anObj 1 0 ⟨none, 0, 0⟩ z → o4 < H4.size → qc H H4 → k (anObj 1 0 ⟨none, 0, 0⟩ 0).cells H4)
  (hrun : x0 ≠ none → qu.r x0 H.size (H.size + 1) ((H.push ⟨x1, .rw, 0⟩).push (anObj 0 0 ⟨none, 0, 0⟩ 0))
   (fun v H' => ∃ e, v = .iface 37 (.int .i64 e) ∧ H'.get (H.size + 1) = anObj 0 0 ⟨none, 0, 0⟩ 0 ∧ k (anObj e 0 ⟨none, 0, 0⟩ 0).cells (H'.upd (H.size + 1) (anObj e 0 ⟨none, 0, 0⟩ 0)))
   (fun H' => ∃ e off x z, H'.get (H.size + 1) = anObj e off x z ∧ k (anObj e off x 0).cells H')) : qu x0 x1 H k := by
 unfold qu
 have hent : enterable Tryz.prog 17 = true := by kernel_rfl
 have hres : Tryz.f17.results.toList = [.cell 4 39] := by kernel_rfl
 refine ⟨hent, fun W w φ args' hl R => ?_⟩
 have hsz : args'.size = 2 := by have := hl.1; simp at this; omega
 refine calls_of_wp_defers Tryz.func17 qu.body_eq ?_
 have hnt : Tryz.f17.ntmps = 54 := by kernel_rfl
 have A0 : ARel [] φ Tryz.f17.ntmps (argFr [.pointer x0, .agg (qlU x1)]) { tmps := args' ++ qmU (Tryz.f17.ntmps - args'.size) undef, defers := [] } := by
  refine ⟨rfl, by simp; omega, fun s => ?_⟩
  unfold argFr
  by_cases hs : s < 2
  ·have h1 : [qls x0, qms (qlU x1)].getD s undef = [qls x0, qms (qlU x1)][s]'(by simpa using hs) := by simp [qlo, hs]
   have h2 : (args' ++ qmU (Tryz.f17.ntmps - args'.size) undef).getD s undef = args'[s]'(by omega) := by
    simp [qlH, Array.getElem?_append, show s < args'.size by omega]
   rw [h1]
   simp only
   rw [h2]
   exact hl.2 s _ _ (qln (by simpa using hs)) (by simp [show s < args'.size by omega])
  ·have h1 : [qls x0, qms (qlU x1)].getD s undef = undef := by simp [qlo, qlt (show [qls x0, qms (qlU x1)].length ≤ s by simp; omega)]
   rw [h1]
   exact .undef _
 -- the answer is read off its cell
 have ending : ∀ (ds : List Deferred) (φ1 : Emb) (fr1 : Fr) (H1 : AH) (a1 : Act) (w1 : World) (o4 : Nat) (cs : List Value), ARel ds φ1 Tryz.f17.ntmps fr1 a1 → fr1 4 = .pointer (some ⟨o4, 0, none⟩) → Rel W φ1 H1 w1 → Hist φ H φ1 H1 → AH.row? H1 ⟨o4, 0, none⟩ 3 = some cs → k cs H1 →
   ∃ v, (results Tryz.f17 a1.tmps).run Tryz.prog w1 = .ok v w1 ∧ ∃ le φ' H', Hist φ H φ' H' ∧ qcX φ' le (.returned v) ∧ Rel W φ' H' w1 ∧ in1 .agg le qo (fun r0 => k r0 H') := by
  intro ds φ1 fr1 H1 a1 w1 o4 cs A1 h4 R1 hh hrow hk
  have A1' : ARel [] φ1 Tryz.f17.ntmps fr1 ⟨a1.tmps, []⟩ := ⟨rfl, A1.size, A1.tmp⟩
  have hv : resVals T fr1 H1 [.cell 4 39] (fun vs => vs = [.agg cs.toArray]) := by
   simp only [resVals, h4]
   exact ⟨cs, hrow, rfl⟩
  obtain ⟨vs, vs', hk1, hlv, hrunv⟩ := qfo (P := Tryz.prog) (T := T) hT A1' R1 _ _ hv
  subst hk1
  obtain ⟨v', rfl⟩ : ∃ v', vs' = [v'] := by
   have := hlv.1
   match vs', this with
   | [v'], _ => exact ⟨v', rfl⟩
  refine ⟨v', ?_, .ret (.agg cs.toArray), φ1, H1, hh, hlv.2 0 _ _ rfl rfl, R1, ⟨cs, rfl, hk⟩⟩
  rw [qgU, Array.mapM_eq_mapM_toList, hres]
  simp only [Sem.run_bind, Sem.run_map, hrunv, Result.andThen_ok, Sem.run_pure]
  rfl
 -- the box, the answer's cell
 refine wp_seq (qeN (W := W) (Ds := []) (A := qu.ann0) (QQ := fun _ _ _ => True) (T := T) (pan := pan) (n := Tryz.f17.ntmps) hT hm trivial _ _ H
  (qu.Q0 fun v0 v3 v4 H2 => v0 = .pointer x0 ∧ v3 = .pointer (some ⟨H.size, 0, none⟩) ∧ v4 = .pointer (some ⟨H.size + 1, 0, none⟩) ∧ H2 = (H.push ⟨x1, .rw, 0⟩).push (anObj 0 0 ⟨none, 0, 0⟩ 0)) φ _ w _ trivial ?_ A0 R ?_)
 ·rw [qu.box_link, qv, qv]
  exact ⟨rfl, rfl, rfl, rfl⟩
 intro le e φ1 fr1 H1 a1 w1 hh1 he1 hdf1 hA1 _ R1 hq1
 cases le with
 | ret => exact hq1.elim
 | exit i => exact hq1.elim
 | pan v => exact hq1.elim
 | normal =>
 cases e <;> simp only [ERel] at he1
 obtain ⟨A1, _⟩ := hA1 rfl
 obtain ⟨f0, f3, f4, hH1⟩ := hq1
 have hfr := qgz f0 f3 f4
 have A1' : ARel [] φ1 Tryz.f17.ntmps (doFr x0 H.size (H.size + 1)) a1 := A1.weaken hdf1 rfl fun s => (hfr s).imp id fun h => ⟨h.1, rfl⟩
 have h4get : H1.get (H.size + 1) = anObj 0 0 ⟨none, 0, 0⟩ 0 := by rw [hH1, qs, qm, if_pos rfl]
 have hkeep : qc H H1 := by rw [hH1]; exact ((qc.refl H).push _).push _
 have h4lt : H.size + 1 < H1.size := by rw [hH1]; simp [qm]
 -- is there a heap?
 show Code.wp Tryz.prog _ _ a1 w1
 refine wp_seq (qeN (W := W) (Ds := []) (A := qu.ann0) (QQ := fun _ _ _ => True) (T := T) (pan := pan) (n := Tryz.f17.ntmps) hT hm trivial _ _ H1
  (qu.Q1 (fun H2 => x0 = none ∧ H2 = H1.put ⟨H.size + 1, 0, none⟩ (anObj 1 0 ⟨none, 0, 0⟩ 0).cells) (fun H2 => x0 ≠ none ∧ H2 = H1)) φ1 _ w1 _ trivial ?_ A1' R1 ?_)
 ·rw [show doFr x0 H.size (H.size + 1) = argFr [.pointer x0, undef, undef, .pointer (some ⟨H.size, 0, none⟩), .pointer (some ⟨H.size + 1, 0, none⟩)] from rfl, qu.nil_link]
  cases hx : x0 with
  | none =>
   rw [Option.isNone_none, qf, qbu]
   exact ⟨⟨rfl, rfl⟩, ⟨rfl, by rw [h4get]; rfl, by rw [h4get]; simp [anObj]⟩, rfl, rfl⟩
  | some p =>
   rw [qlG, qa]
   exact ⟨by simp, rfl⟩
 intro le e φ2 fr2 H2 a2 w2 hh2 he2 hdf2 hA2 _ R2 hq2
 have hh12 := hh1.trans hh2
 cases le with
 | exit i => exact hq2.elim
 | pan v => exact hq2.elim
 | ret =>
  cases e <;> simp only [ERel] at he2
  obtain ⟨A2, hkp⟩ := hA2 rfl
  obtain ⟨hx0, hH2⟩ := hq2
  have g2 : H2.get (H.size + 1) = anObj 1 0 ⟨none, 0, 0⟩ 0 := by
   rw [hH2]; simp only [AH.put, qT, if_true, h4get, anObj, setMany]
   rfl
  have hkeep2 : qc H H2 := by rw [hH2]; exact hkeep.upd (b := H.size + 1) (by omega) _
  show Leaves Tryz.prog Tryz.f17 a2.tmps _ a2.defers .returning w2
  rw [hdf2]
  have h4' : fr2 4 = .pointer (some ⟨H.size + 1, 0, none⟩) := (hkp 4 (by decide)).trans rfl
  exact ending [] φ2 fr2 H2 a2 w2 (H.size + 1) _ A2 h4' R2 hh12 (an_row g2) (hnil hx0 _ H2 0 g2 (by show H.size + 1 < H2.size; rw [hH2]; exact h4lt) hkeep2)
 | normal =>
 cases e <;> simp only [ERel] at he2
 obtain ⟨A2, hkp⟩ := hA2 rfl
 obtain ⟨hx0, hH2⟩ := hq2
 subst hH2
 have k0 : fr2 0 = .pointer x0 := (hkp 0 (by decide)).trans rfl
 have k3 : fr2 3 = .pointer (some ⟨H.size, 0, none⟩) := (hkp 3 (by decide)).trans rfl
 have k4 : fr2 4 = .pointer (some ⟨H.size + 1, 0, none⟩) := (hkp 4 (by decide)).trans rfl
 have hfr2 := qgz k0 k3 k4
 obtain ⟨b4, B4, o, hbe, hb4, he4⟩ : ∃ b B o, (⟨H.size + 1, 0, none⟩ : Addr) = ⟨b, o, none⟩ ∧ φ2 b = some B ∧ a2.tmps.getD 4 undef = .pointer (some ⟨B.c, o, none⟩) := by
  have hx := A2.tmp 4
  rw [k4] at hx
  obtain ⟨b, B, o, h1, h2, h3⟩ := qc6 hx
  exact ⟨b, B, o, h1, h2, h3⟩
 injection hbe with hbe1 hbe2
 subst hbe1 hbe2
 show Code.wp Tryz.prog _ _ a2 w2
 refine wp_seq (qlg A2.size hdf2 he4 ?_)
 intro a3 d ht3 hs3 hd3 hinv
 obtain ⟨fv, cap, hdt, hinv⟩ := hinv
 show Code.wp Tryz.prog _ _ a3 w2
 have A3 : ARel [d] φ2 Tryz.f17.ntmps (doFr x0 H.size (H.size + 1)) a3 := A2.weaken hd3 ht3 fun s => (hfr2 s).imp id fun h => ⟨h.1, hs3 s (by omega)⟩
 refine qeN (W := W) (Ds := [d]) (A := qu.ann) (QQ := fun _ _ _ => True) (T := T) (pan := pan) (n := Tryz.f17.ntmps) hT hm trivial _ _ _ (qu.Q _ _) φ2 _ w2 _ trivial
  (by rw [show doFr x0 H.size (H.size + 1) = argFr [.pointer x0, undef, undef, .pointer (some ⟨H.size, 0, none⟩), .pointer (some ⟨H.size + 1, 0, none⟩)] from rfl, qu.r_link, hH1]; exact hrun hx0) A3 R2 ?_
 intro le e φ4 fr4 H4 a4 w4 hh4 he4' hdf4 hA4 hX4 R4 hq4
 have hh := hh12.trans hh4
 have ret : (∃ e off x z, H4.get (H.size + 1) = anObj e off x z ∧ k (anObj e off x 0).cells H4) → (ARel [d] φ4 Tryz.f17.ntmps fr4 a4 ∧ ∀ s, s ∉ writes (restOf Tryz.f17.body) → fr4 s = doFr x0 H.size (H.size + 1) s) → 
   Leaves Tryz.prog Tryz.f17 a4.tmps (fun e w' => ∃ le φ' H', Hist φ H φ' H' ∧ qcX φ' le e ∧ Rel W φ' H' w' ∧ in1 .agg le qo (fun r0 => k r0 H')) a4.defers .returning w4 := by
  rintro ⟨e, off, x, z, hg, hk⟩ ⟨A4, hkp4⟩
  rw [hdf4]
  refine ⟨by simp, fv, cap, 48, _, hdt, hinv w4, (qkA _ w4).mono ?_⟩
  rintro e' u' w' ⟨rfl, rfl, rfl⟩
  show Leaves Tryz.prog Tryz.f17 a4.tmps _ [] .returning w'
  have h4' : fr4 4 = .pointer (some ⟨H.size + 1, 0, none⟩) := (hkp4 4 (by decide)).trans rfl
  exact ending [d] φ4 fr4 H4 a4 w' (H.size + 1) _ A4 h4' R4 hh (an_row hg) hk
 cases le with
 | normal =>
  cases e <;> simp only [ERel] at he4'
  exact ret hq4 (hA4 rfl)
 | ret =>
  cases e <;> simp only [ERel] at he4'
  exact ret hq4 (hA4 rfl)
 | exit i => exact hq4.elim
 | pan v =>
  cases e <;> simp only [ERel] at he4'
  obtain ⟨v', rfl, hv⟩ := he4'
  obtain ⟨er, rfl, hg4, hk⟩ := hq4
  have hcan : H4.canPut ⟨H.size + 1, 0, none⟩ (anObj er 0 ⟨none, 0, 0⟩ 0).cells.length := ⟨rfl, by rw [hg4]; rfl, by rw [hg4]; simp [anObj]⟩
  have hput : H4.put ⟨H.size + 1, 0, none⟩ (anObj er 0 ⟨none, 0, 0⟩ 0).cells = H4.upd (H.size + 1) (anObj er 0 ⟨none, 0, 0⟩ 0) := by
   refine AH.ext' rfl fun b => ?_
   simp only [AH.put, qT, hg4]
   split
   ·rfl
   ·rfl
  have := qit hv
  subst this
  have hb4' : φ4 (H.size + 1) = some B4 := hh4.1 _ _ hb4
  obtain ⟨hW, _, _⟩ := R4.room _ _ hb4' hcan.2.1
  have hcell : ∀ i, i < 3 → ∃ u, w4.cell? ⟨B4.c, i, none⟩ = some u := fun i hi => by
   have hlt : i < (H4.get (H.size + 1)).cells.length := by rw [hg4]; exact hi
   obtain ⟨u, hu, _⟩ := R4.cell _ _ hb4' (by rw [hcan.2.1]; simp) i _ (qln hlt)
   exact ⟨u, hu⟩
  show Leaves Tryz.prog Tryz.f17 a4.tmps _ a4.defers (.panicking _) w4
  rw [hdf4]
  refine ⟨by simp, fv, cap, 48, _, hdt, hinv w4, (do1_pan B4.c er [] w4 (hcell 0 (by omega)) (hcell 1 (by omega)) (hcell 2 (by omega)) (fun i => R4.unfrozen hb4' hW i)).mono ?_⟩
  rintro e' u' w' ⟨rfl, rfl, rfl⟩
  show Leaves Tryz.prog Tryz.f17 a4.tmps _ [] .returning _
  have hlr : LRel φ4 (anObj er 0 ⟨none, 0, 0⟩ 0).cells [.int .i64 er, .int .i64 0, .slice none 0 0] := ⟨rfl, fun i x y hx hy => by
   match i with
   | 0 => cases hx; cases hy; exact .int _ _
   | 1 => cases hx; cases hy; exact .int _ _
   | 2 => cases hx; cases hy; exact .sl0
   | n + 3 => cases hx⟩
  obtain ⟨R5, _⟩ := Rel.put (P := Tryz.prog) R4 hb4' (o := 0) hcan hlr (by simp [Value.oneCell'])
  obtain ⟨frx, Ax, hkx⟩ := hX4
  have h4' : frx 4 = .pointer (some ⟨H.size + 1, 0, none⟩) := (hkx 4 (by decide)).trans rfl
  rw [hput] at R5
  have hh5 : Hist φ H φ4 (H4.upd (H.size + 1) (anObj er 0 ⟨none, 0, 0⟩ 0)) := hh.trans ⟨Emb.le_refl _, qlu _, fun _ _ h => h, fun b _ hn => by
   have : b ≠ H.size + 1 := fun hb => by rw [hb, hb4'] at hn; cases hn
   rw [qT, if_neg this]⟩
  exact ending [d] φ4 frx _ a4 _ (H.size + 1) _ Ax h4' R5 hh5 (an_row (by rw [qT, if_pos rfl])) hk
end
def anV (e off : Int) (x : Sl) : List Value := [.int .i64 e, .int .i64 off, x.val]
def opV (K off n mask : Int) (x : Sl) : List Value := [.int .i64 K, .int .i64 off, .int .i64 n, .int .i64 mask, x.val]
section
variable {H : AH} {L : Pl} {pa pb pc pd : Int} {s : HS} {mvb : Nat} {cb : Int}
theorem qdj {K off n mask : Int} {x : Sl} {bs : List Int} {k : List Value → AH → Prop} (h : HOK H L pa pb pc pd s mvb cb)
  (hio : isI off) (hin : isI n) (hb : K = 4 → qlC H x 1 bU bs ∧ qbB bs)
  (hk : ∀ H' x', HA H' L pa pb pc pd (doH pa pb pc pd s K off n bs).1 → Frh H H' L → Own H.size H' x' 1 bU (doH pa pb pc pd s K off n bs).2.2.2 →
   k (anV (doH pa pb pc pd s K off n bs).2.1 (doH pa pb pc pd s K off n bs).2.2.1 x') H') :
  qu (some ⟨L.h, 0, none⟩) (opV K off n mask x) H k := by
 refine heap_Do.walk (fun hh => by cases hh) fun _ => ?_
 have hk2 : qc H ((H.push ⟨opV K off n mask x, .rw, 0⟩).push (anObj 0 0 ⟨none, 0, 0⟩ 0)) := ((qc.refl H).push _).push _
 have h3 : ((H.push ⟨opV K off n mask x, .rw, 0⟩).push (anObj 0 0 ⟨none, 0, 0⟩ 0)).get H.size = opObj K off n mask x 0 := by
  rw [qs, qm, if_neg (by omega), qs, if_pos rfl]; rfl
 have h4 : ((H.push ⟨opV K off n mask x, .rw, 0⟩).push (anObj 0 0 ⟨none, 0, 0⟩ 0)).get (H.size + 1) = anObj 0 0 ⟨none, 0, 0⟩ 0 := by rw [qs, qm, if_pos rfl]
 have hsz : ((H.push ⟨opV K off n mask x, .rw, 0⟩).push (anObj 0 0 ⟨none, 0, 0⟩ 0)).size = H.size + 2 := by simp [qm]
 generalize (H.push ⟨opV K off n mask x, .rw, 0⟩).push (anObj 0 0 ⟨none, 0, 0⟩ 0) = H2 at *
 have hOK : HOK H2 L pa pb pc pd s mvb cb := ⟨HAt.keeps h.ha hk2, h.ps, h.mb, h.cl, h.cb'⟩
 have hbl := HAt.below h.ha
 have hga := HAt.ga h.ha
 have hca := HAt.ca h.ha
 have ho : H.size + 1 ≠ L.h ∧ H.size + 1 ≠ L.g ∧ H.size + 1 ≠ L.t ∧ H.size + 1 ≠ L.x ∧ H.size + 1 ≠ L.p ∧ H.size + 1 ≠ L.c ∧ H.size + 1 ≠ L.ct ∧ H.size + 1 ≠ L.q1 ∧ H.size + 1 ≠ L.q2 := by
  have a1 := hbl.h; have a2 := hga.lg; have a3 := hbl.t; have a4 := hga.tn.l.lx; have a5 := hbl.p; have a6 := hbl.c; have a7 := hca.lc; have a8 := hbl.q1; have a9 := hbl.q2
  exact ⟨by omega, by omega, by omega, by omega, by omega, by omega, by omega, by omega, by omega⟩
 refine qkl (x := x) (bs := bs) hOK ho (by omega) h3 h4 hio hin (fun hK => ⟨(hb hK).1.keep hk2, (hb hK).2⟩) ?_ ?_
 ·intro H' hH f he hz
  have hg4 : H'.get (H.size + 1) = anObj 0 0 ⟨none, 0, 0⟩ 0 := by
   rw [f.get _ (by omega) ho.1 ho.2.2.1 ho.2.2.2.2.1 ho.2.2.2.2.2.1 ho.2.2.2.2.2.2.2.1 ho.2.2.2.2.2.2.2.2, h4]
  refine ⟨_, rfl, hg4, ?_⟩
  have hs' := f.size
  have hk' := hk (H'.upd (H.size + 1) (anObj (doH pa pb pc pd s K off n bs).2.1 0 ⟨none, 0, 0⟩ 0)) ⟨none, 0, 0⟩ (HA.other hH ho (fun b hb => by rw [qT, if_neg hb]) rfl)
   ⟨by show H.size ≤ H'.size; omega, fun b hb h1 h2 h3 h4 h5 h6 => by rw [qT, if_neg (by omega), f.get b (by omega) h1 h2 h3 h4 h5 h6, hk2.2 b hb]⟩ (.inl ⟨rfl, by rw [hz]⟩)
  rw [hz] at hk'
  exact hk'
 ·intro H' x' hH hs' hfr hg4 hO
  refine ⟨_, _, x', 0, hg4, ?_⟩
  exact hk H' x' hH ⟨by omega, fun b hb h1 h2 h3 h4 h5 h6 => by rw [hfr b (by omega) h1 h2 h3 h4 h5 h6 (by omega), hk2.2 b hb]⟩ (qbT hO (by omega))
end
theorem qgJ {H : AH} {B : Nat} {s : Sl} {l : List Int} {v : Int} {o : Nat} {k : Sl → AH → Prop} (hO : Own B H s 1 iV l) (ho : H.get o = ⟨[.int .i64 v], .rw, 1⟩) (hl : l.length ≤ 1000)
  (h : ∀ H', H'.size = H.size + 1 → H'.get H.size = ⟨(l ++ [v]).flatMap iV, .rw, 1⟩ → (∀ b, b < H.size → (∀ a, s.a = some a → b ≠ a.block) → H'.get b = H.get b) → k ⟨some ⟨H.size, 0, none⟩, (l ++ [v]).length, 1⟩ H') :
  appendC 1 H s ⟨some ⟨o, 0, none⟩, 1, 1⟩ k := by
 have hrow : AH.rowS? H ⟨some ⟨o, 0, none⟩, 1, 1⟩ 1 = some [.int .i64 v] := by
  simp only [AH.rowS?, Nat.one_mul]
  rw [if_neg (by simp)]
  simp [AH.row?, ho, qq]
 rcases hO with ⟨rfl, rfl⟩ | ⟨b, rfl, hb1, hb2, hg⟩
 ·refine ⟨le_limS (by simp [lim]) _, ?_⟩
  rw [if_neg (by simp)]
  refine ⟨_, hrow, ?_⟩
  exact h _ (by simp [qm]) (by rw [qs, if_pos rfl]; rfl) (fun b hb _ => qO (by omega))
 ·refine ⟨le_limS (by simp only [lim]; omega) _, ?_⟩
  rw [if_neg (by simp)]
  refine ⟨_, hrow, ⟨rfl, rfl, rfl, by rw [hg], by rw [hg]; simp only; exact qd1 (f := iV) (z := 1) (fun _ => rfl) _, by rw [hg]⟩, ?_⟩
  have := h ((H.kill b).push ⟨(H.get b).cells ++ [.int .i64 v], .rw, 1⟩) (by simp [qm, qbA]) (by
   rw [qs, qbA, if_pos rfl, hg, qmC]; rfl) (fun b' hb' hne => by
   have hne' : b' ≠ b := hne _ rfl
   rw [qO (by simp only [qbA]; omega), qd5 hne'])
  rw [ql5] at this
  exact this
section
variable {H : AH}
theorem qbr.s {pd : Int} {x1 : Sl} {l : List Int} {k : Option Addr → AH → Prop} (hr : qlC H x1 1 iV l) (hpd : 1 ≤ pd ∧ pd ≤ 100) (hl : 1 ≤ l.length ∧ l.length ≤ 16) (hv : ∀ v ∈ l, 0 ≤ v ∧ v ≤ 1099511627776)
  (h : ∀ H' ct q1 q2, CAt H' ct q1 q2 pd l l → qc H H' → H.size ≤ ct → H.size ≤ q1 → H.size ≤ q2 → k (some ⟨ct, 0, none⟩) H') : qbr pd x1 H k := by
 refine qbr.link ?_
 unfold qbr.b
 rw [decide_eq_false (show ¬ pd < 1 by omega), qa, decide_eq_false (show ¬ pd > 100 by omega), qa, hr.1, decide_eq_false (show ¬ (l.length : Int) > 16 by omega)]
 unfold qbr.j2
 rw [qa, qv]
 have hk0 := (qc.refl H).push ⟨[(qlk .i64 pd), (Value.slice none 0 0), (Value.slice none 0 0)], .rw, 0⟩
 refine qE (t := ((0 : Int) : Int)) (I := fun (t : Int) H' => ∃ (j : Nat) (s1 s2 : Sl), t = (j : Int) ∧ j ≤ l.length ∧ qc H H' ∧ H.size < H'.size ∧ H'.get H.size = ⟨[.int .i64 pd, s1.val, s2.val], .rw, 0⟩ ∧ Own (H.size + 1) H' s1 1 iV (l.take j) ∧ Own (H.size + 1) H' s2 1 iV (l.take j) ∧ (∀ a b, s1.a = some a → s2.a = some b → a.block ≠ b.block)) (m := fun (t : Int) _ => qlr ((l.length : Int) - t)) ?_
  ⟨0, ⟨none, 0, 0⟩, ⟨none, 0, 0⟩, rfl, by omega, hk0, by simp [qm], by rw [qs, if_pos rfl], .inl ⟨rfl, rfl⟩, .inl ⟨rfl, rfl⟩, fun a b h => by cases h⟩
 intro t H1 hI it hit
 obtain ⟨j, s1, s2, rfl, hj, hk1, hsz, hg, hO1, hO2, hdj⟩ := hI
 unfold qbr.l1
 rw [hr.1]
 by_cases hlt : (j : Int) < (l.length : Int)
 rotate_left 1
 ·rw [decide_eq_false hlt, qa]
  have : j = l.length := by omega
  subst this
  rw [List.take_length] at hO1 hO2
  rcases hO1 with ⟨_, h0⟩ | ⟨b1, rfl, hb1, hb1', hg1⟩
  ·rw [h0] at hl; simp at hl
  rcases hO2 with ⟨_, h0⟩ | ⟨b2, rfl, hb2, hb2', hg2⟩
  ·rw [h0] at hl; simp at hl
  have hne := hdj _ _ rfl rfl
  simp only at hne
  refine h H1 H.size b1 b2 ⟨hg, hg1, hg2, rfl, hl.2, hsz, hb1', hb2', ⟨by omega, by omega, hne⟩, fun i hi => ?_⟩ hk1 (qlu _) (by omega) (by omega)
  have := hv (l.getD i 0) (by rw [qlo, qln hi]; exact qlB hi)
  omega
 rw [decide_eq_true hlt, qf]
 have hj' : j < l.length := by omega
 refine ⟨by omega, ?_⟩
 obtain ⟨b, o, ha, _, hc1⟩ := qbG (g := fun v => qlk .i64 v) (hr.keep hk1) (i := j) hj'
 rw [ha, qd, qlp, hc1, qe]
 have hvj := hv _ (qlB hj')
 have htk : l.take (j + 1) = l.take j ++ [l[j]] := by rw [qmB, qln hj']; rfl
 generalize l[j] = v at *
 have hcl : (if (1099511627776 : Int) < (if (0 : Int) > v then (0 : Int) else v) then (1099511627776 : Int) else (if (0 : Int) > v then (0 : Int) else v)) = v := by
  rw [if_neg (show ¬ (0 : Int) > v by omega), if_neg (by omega)]
 rw [hcl]
 have cell : ∀ {H' : AH} {s1 s2 : Sl} (i : Nat), H'.get H.size = ⟨[.int .i64 pd, s1.val, s2.val], .rw, 0⟩ → AH.cell? H' (qlm ⟨H.size, 0, none⟩ i) = [qlk .i64 pd, s1.val, s2.val][i]? := by
  intro H' s1 s2 i hg
  rw [qk, qlJ]
  simp [AH.cell?, hg]
 rw [cell 1 hg]
 show elL (some (Sl.val s1)) _
 rw [qat, qv, cell 2 (s1 := s1) (s2 := s2) (by rw [qO (by omega)]; exact hg)]
 show elL (some (Sl.val s2)) _
 rw [qat, qv]
 have hA : ((H1.push ⟨[.int .i64 v], .rw, 1⟩).push ⟨[.int .i64 v], .rw, 1⟩).get H1.size = ⟨[.int .i64 v], .rw, 1⟩ := by rw [qO (by simp [qm]), qs, if_pos rfl]
 have hB : ((H1.push ⟨[.int .i64 v], .rw, 1⟩).push ⟨[.int .i64 v], .rw, 1⟩).get (H1.size + 1) = ⟨[.int .i64 v], .rw, 1⟩ := by rw [qs, qm, if_pos rfl]
 have hlow : ∀ b, b < H1.size → ((H1.push ⟨[.int .i64 v], .rw, 1⟩).push ⟨[.int .i64 v], .rw, 1⟩).get b = H1.get b := fun b hb => by rw [qO (by simp [qm]; omega), qO (by omega)]
 have hsz2 : ((H1.push ⟨[.int .i64 v], .rw, 1⟩).push ⟨[.int .i64 v], .rw, 1⟩).size = H1.size + 2 := by simp [qm]
 rw [qm]
 generalize (H1.push ⟨[.int .i64 v], .rw, 1⟩).push ⟨[.int .i64 v], .rw, 1⟩ = H2 at *
 have hO1' : Own (H.size + 1) H2 s1 1 iV (l.take j) := hO1.keep (by omega) (fun b _ hb => hlow b hb)
 have hO2' : Own (H.size + 1) H2 s2 1 iV (l.take j) := hO2.keep (by omega) (fun b _ hb => hlow b hb)
 have hlen : (l.take j).length ≤ 1000 := by rw [List.length_take]; omega
 have bl1 : ∀ a, s1.a = some a → H.size < a.block ∧ a.block < H1.size := fun a ha => by
  rcases hO1 with ⟨rfl, _⟩ | ⟨b, rfl, h1, h2, _⟩
  ·cases ha
  ·cases ha; exact ⟨by simp only; omega, h2⟩
 have bl2 : ∀ a, s2.a = some a → H.size < a.block ∧ a.block < H1.size := fun a ha => by
  rcases hO2 with ⟨rfl, _⟩ | ⟨b, rfl, h1, h2, _⟩
  ·cases ha
  ·cases ha; exact ⟨by simp only; omega, h2⟩
 refine qgJ hO1' hA hlen ?_
 intro H3 z3 g3 f3
 rw [← htk] at g3 ⊢
 have o3 : H3.get H.size = ⟨[.int .i64 pd, s1.val, s2.val], .rw, 0⟩ := by rw [f3 _ (by omega) (fun a ha => by have := bl1 a ha; omega), hlow _ hsz]; exact hg
 refine ⟨cell 2 o3, ?_⟩
 have hO2'' : Own (H.size + 1) H3 s2 1 iV (l.take j) := by
  rcases hO2' with h0 | ⟨b, h1, h2, h3, h4⟩
  ·exact .inl h0
  ·refine .inr ⟨b, h1, h2, by omega, ?_⟩
   rw [f3 b h3 (fun a ha he => hdj a ⟨b, 0, none⟩ ha (by rw [h1]) he.symm)]
   exact h4
 refine qgJ hO2'' (o := H1.size + 1) (by rw [f3 _ (by omega) (fun a ha => by have := bl1 a ha; omega)]; exact hB) hlen ?_
 intro H4 z4 g4 f4
 rw [← htk] at g4 ⊢
 have o4 : H4.get H.size = ⟨[.int .i64 pd, s1.val, s2.val], .rw, 0⟩ := by rw [f4 _ (by omega) (fun a ha => by have := bl2 a ha; omega)]; exact o3
 have g3' : H4.get H2.size = ⟨(l.take (j + 1)).flatMap iV, .rw, 1⟩ := by rw [f4 _ (by omega) (fun a ha => by have := bl2 a ha; omega)]; exact g3
 have k4 : qc H H4 := ⟨by have := hk1.1; omega, fun b hb => by
  rw [f4 b (by omega) (fun a ha => by have := bl2 a ha; omega), f3 b (by omega) (fun a ha => by have := bl1 a ha; omega), hlow b (by omega), hk1.2 b hb]⟩
 rw [qk, qk, qbu]
 refine ⟨⟨rfl, by rw [o4], by rw [o4]; simp⟩, ?_⟩
 rw [qbu]
 have e5 : (AH.put H4 ⟨H.size, 0 + 1, none⟩ [(⟨some ⟨H2.size, 0, none⟩, (l.take (j + 1)).length, 1⟩ : Sl).val]) = H4.upd H.size ⟨[.int .i64 pd, (⟨some ⟨H2.size, 0, none⟩, (l.take (j + 1)).length, 1⟩ : Sl).val, s2.val], .rw, 0⟩ := by
  simp only [AH.put, o4, setMany]; rfl
 rw [e5]
 refine ⟨⟨rfl, by simp [qT], by simp [qT]⟩, ?_⟩
 have e6 : (AH.put (H4.upd H.size ⟨[.int .i64 pd, (⟨some ⟨H2.size, 0, none⟩, (l.take (j + 1)).length, 1⟩ : Sl).val, s2.val], .rw, 0⟩) ⟨H.size, 0 + 2, none⟩ [(⟨some ⟨H3.size, 0, none⟩, (l.take (j + 1)).length, 1⟩ : Sl).val]) = H4.upd H.size ⟨[.int .i64 pd, (⟨some ⟨H2.size, 0, none⟩, (l.take (j + 1)).length, 1⟩ : Sl).val, (⟨some ⟨H3.size, 0, none⟩, (l.take (j + 1)).length, 1⟩ : Sl).val], .rw, 0⟩ := by
  refine AH.ext' rfl fun b => ?_
  simp only [AH.put, qT, if_true, setMany]
  split <;> rfl
 rw [e6, qg (n := (j : Int) + 1) (by omega) (by omega)]
 refine hit _ _ ⟨j + 1, _, _, by simp, by omega, k4.upd (qlu _) _, by show H.size < H4.size; omega, by rw [qT, if_pos rfl], .inr ⟨H2.size, rfl, by omega, by show H2.size < H4.size; omega, by rw [qT, if_neg (by omega)]; exact g3'⟩,
  .inr ⟨H3.size, rfl, by omega, by show H3.size < H4.size; omega, by rw [qT, if_neg (by omega)]; exact g4⟩, fun a b ha hb => by cases ha; cases hb; simp only; omega⟩ (by omega)
end
structure HW (H : AH) (hb g t x p c : Nat) (pa pb pc pd : Int) (puts : Nat) (M : Mem) : Prop where
 hh : ∃ v8 w, qq v8 = true ∧ H.get hb = ⟨[.pointer (some ⟨p, 0, none⟩), .int .i64 pa, .int .i64 pb, .int .i64 pc, .int .i64 pd, .pointer (some ⟨t, 0, none⟩), .pointer (some ⟨g, 0, none⟩), v8, .bool w], .rw, 0⟩
 lh : hb < H.size
 may : mayP pa pb pc pd = true
 ga : GAt H g t x p c (16 + pa.toNat) pb.toNat pc.toNat puts M
section
variable {H H' : AH} {hb g t x p c : Nat} {pa pb pc pd : Int} {puts : Nat} {M : Mem}
theorem HW.keeps (h : HW H hb g t x p c pa pb pc pd puts M) (hk : qc H H') : HW H' hb g t x p c pa pb pc pd puts M := by
 obtain ⟨v8, w, h0, h1⟩ := h.hh
 exact ⟨⟨v8, w, h0, by rw [hk.2 _ h.lh, h1]⟩, by have := hk.1; have := h.lh; omega, h.may, h.ga.keeps hk⟩
theorem HW.push (h : HW H hb g t x p c pa pb pc pd puts M) (o : AObj) : HW (H.push o) hb g t x p c pa pb pc pd puts M := h.keeps ((qc.refl H).push o)
theorem HW.c6 (h : HW H hb g t x p c pa pb pc pd puts M) : AH.cell? H (qlm ⟨hb, 0, none⟩ 6) = some (.pointer (some ⟨g, 0, none⟩)) := by
 obtain ⟨v8, w, h0, h1⟩ := h.hh
 rw [qk, qlJ]
 simp [AH.cell?, h1]
theorem HW.c10 (h : HW H hb g t x p c pa pb pc pd puts M) : AH.cell? H (qlm (qlm ⟨hb, 0, none⟩ 1) 0) = some (.int .i64 pa) := by
 obtain ⟨v8, w, h0, h1⟩ := h.hh
 rw [qk, qk]
 simp [AH.cell?, h1]
theorem HW.row (h : HW H hb g t x p c pa pb pc pd puts M) : AH.row? H (qlm ⟨hb, 0, none⟩ 1) 4 = some (pl pa pb pc pd) := by
 obtain ⟨v8, w, h0, h1⟩ := h.hh
 rw [qk]
 simp [AH.row?, h1, pl, qq]
theorem HW.getN_range {i : Nat} (h : HW H hb g t x p c pa pb pc pd puts M) (hi : (i : Int) < pa) :
  isLine (getN (16 + pa.toNat) pb.toNat M (16 + (i : Int))).1 ∧ (getN (16 + pa.toNat) pb.toNat M (16 + (i : Int))).2 = if M.down then 2 else 0 := by
 have hm := qaf.1 h.may
 obtain ⟨ho, _⟩ := qe5 h.ga
 have ht := h.ga.tn.lineOf (16 + (i : Int)).toNat
 unfold getN
 rw [if_pos ⟨by omega, by omega⟩]
 by_cases hd : M.down = true
 ·rw [if_pos hd, if_pos hd]; exact ⟨⟨by simp, by simp [isU]⟩, rfl⟩
 ·rw [if_neg hd, if_neg hd]
  split
  ·rename_i q hq
   split at hq
   ·have := List.mem_of_find?_eq_some hq
    exact ⟨(ho q this).line, rfl⟩
   ·cases hq
  ·exact ⟨ht, rfl⟩
theorem qdu.w {k : Sl → Int → AH → Prop} (h : HW H hb g t x p c pa pb pc pd puts M) (hd : M.down = true → ∀ H', qc H H' → k ⟨none, 0, 0⟩ 2 H')
  (hu : M.down = false → ∀ s H', qc H H' → Own H.size H' s 1 wU (wordsH pa pb M) → k s 0 H') : qal (some ⟨hb, 0, none⟩) H k := by
 have hm := qaf.1 h.may
 refine qal.link ?_
 unfold qal.b
 rw [qlG, qa, qd, h.c10, qe]
 have hll : ∀ i : Nat, (i : Int) < pa → (lineH pa pb M i).length = 8 := fun i hi => (HW.getN_range h hi).1.1
 have hfl : ∀ i : Nat, (i : Int) ≤ pa → ((qma i).flatMap (lineH pa pb M)).length = 8 * i := by
  intro i
  induction i with
  | zero => intro _; rfl
  | succ i ih =>
   intro hi
   rw [qmq, qmC, ql5, ih (by omega)]
   simp only [ql7, List.flatMap_nil, List.append_nil]
   rw [hll i (by omega)]; omega
 refine qE (t := ((⟨none, 0, 0⟩, (0 : Int), ⟨none, 0, 0⟩, (0 : Int)) : Sl × Int × Sl × Int)) (I := fun (t : Sl × Int × Sl × Int) H' => ∃ i : Nat, t.2.2.2 = (i : Int) ∧ (i : Int) ≤ pa ∧ (0 < i → M.down = false) ∧ qc H H' ∧ Own H.size H' t.2.2.1 1 wU ((qma i).flatMap (lineH pa pb M))) (m := fun (t : Sl × Int × Sl × Int) _ => qlr (pa - t.2.2.2)) ?_ ⟨0, rfl, by omega, by omega, qc.refl H, .inl ⟨rfl, rfl⟩⟩
 intro t H1 hI it hit
 obtain ⟨t1, t2, s, t4⟩ := t
 obtain ⟨i, e1, hi, hup, hk, hO⟩ := hI
 simp only at e1 hO
 subst e1
 unfold qal.l1
 simp only [qi, decide_eq_true_eq]
 have h1 := h.keeps hk
 by_cases hlt : (i : Int) < pa
 ·rw [if_pos hlt, qd, h1.c6, qag, qd, qp h1.row, qv, zeroV]
  have h2 := h1.push ⟨lineV (qlq 8 0), .rw, 0⟩
  refine qbQ.s ⟨h2.c6, ?_⟩
  have hh : homeP pa pb pc pd (i : Int) = 16 + (i : Int) := by unfold homeP; rw [if_pos ⟨h.may, by omega, hlt⟩]
  rw [hh]
  refine log_Get.s h2.ga (by unfold isI; omega) ?_
  obtain ⟨hl, he⟩ := HW.getN_range h hlt
  rw [he]
  have hlH : (getN (16 + pa.toNat) pb.toNat M (16 + (i : Int))).1 = lineH pa pb M i := rfl
  rw [hlH] at hl ⊢
  refine ⟨⟨qt hl.1, qaY _⟩, ?_⟩
  rw [qbu]
  refine ⟨qcF.2 (by rw [qt hl.1]; simp [lineV]), ?_⟩
  have e2 : AH.put (H1.push ⟨lineV (qlq 8 0), .rw, 0⟩) ⟨H1.size, 0, none⟩ (lineV (lineH pa pb M i)) = H1.push ⟨lineV (lineH pa pb M i), .rw, 0⟩ := by
   rw [qdr]
   congr 2
   apply qlM
   intro t
   rw [qcl _ _ _ _ (by rw [qt hl.1]; simp [lineV])]
   have := qt hl.1
   by_cases ht : t < (lineV (lineH pa pb M i)).length
   ·rw [if_pos (by omega)]; rfl
   ·rw [if_neg (by omega), qlt (by simp [lineV]; omega), qlt (by omega)]
  rw [e2]
  have hk3 : qc H (H1.push ⟨lineV (lineH pa pb M i), .rw, 0⟩) := hk.push _
  by_cases hdn : M.down = true
  ·rw [if_pos hdn, if_pos (by decide)]
   exact hd hdn _ hk3
  ·rw [if_neg hdn, if_neg (by decide)]
   have hR : qlC (H1.push ⟨lineV (lineH pa pb M i), .rw, 0⟩) ⟨some ⟨H1.size, 0, none⟩, 8, 0⟩ 1 wU (lineH pa pb M i) := qhs hl.1 (by simp [qm]) (by rw [qs, if_pos rfl])
   have hO3 : Own H.size (H1.push ⟨lineV (lineH pa pb M i), .rw, 0⟩) s 1 wU ((qma i).flatMap (lineH pa pb M)) := hO.keep (by simp [qm]) (fun b _ hb => qO (by omega))
   refine qct (H0 := H) (B := H.size) (fun _ => rfl) (fun _ => rfl) hO3 hR (qlu _) hk3.1 hk3 (by rw [hfl i hi, hl.1]; simp only [lim]; omega) ?_
   intro s' H' hO' hk' _ _
   rw [qg (n := (i : Int) + 1) (by omega) (by omega)]
   refine hit _ _ ⟨i + 1, by simp, by omega, fun _ => by simpa using hdn, hk', ?_⟩ (by simp only; omega)
   rw [qmq, qmC]
   simpa using hO'
 ·rw [if_neg hlt]
  have hia : pa.toNat = i := by omega
  refine hu (hup (by omega)) _ _ hk ?_
  unfold wordsH
  rw [hia]; exact hO
end
def linesOf (m : Nat) (ws : List Int) : List (List Int) := (qma m).map (lineOf ws)
theorem qcZ {m : Nat} {ws : List Int} : (linesOf m ws).length = m := by simp [linesOf]
theorem qdQ {m i : Nat} {ws : List Int} (hi : i < m) : (linesOf m ws).getD i [] = lineOf ws i := by
 unfold linesOf
 rw [qlo, qlz, qlP hi]; rfl
theorem qjM {ws : List Int} : ∀ {m : Nat}, (qma m).flatMap (lineOf ws) = ws.take (8 * m) := by
 intro m
 induction m with
 | zero => simp
 | succ m ih =>
  rw [qmq, qmC, ih]
  simp only [ql7, List.flatMap_nil, List.append_nil]
  rw [show 8 * (m + 1) = 8 * m + 8 by omega, List.take_add]; rfl
theorem qg6 {pa pb : Int} {M : Mem} {ws : List Int} (hp : 1 ≤ pa ∧ pa ≤ 64) (hup : M.down = false) (hl : (ws.length : Int) = 8 * pa) (hs : Sd (16 + pa.toNat) pb.toNat M (linesOf pa.toNat ws)) : wordsH pa pb M = ws := by
 have e : ∀ i, i < pa.toNat → lineH pa pb M i = lineOf ws i := fun i hi => by
  have := sd_get (nn := pa.toNat) rfl (by omega) hup hs hi
  unfold lineH
  rw [show (16 + (i : Int)) = ((16 + i : Nat) : Int) by omega, this, qdQ hi]
 unfold wordsH
 have e2 : (qma pa.toNat).flatMap (lineH pa pb M) = (qma pa.toNat).flatMap (lineOf ws) := by
  simp only [List.flatMap_def]
  rw [List.map_congr_left (fun i hi => e i (List.mem_range.1 hi))]
 rw [e2, qjM, ql9 (by omega)]
theorem qjm {ws : List Int} {e : Int × Int} {w : Nat} (h : e.1 ≠ (w : Int)) : (putE ws e).getD w 0 = ws.getD w 0 := by
 unfold putE
 split
 ·rw [qlo, qlQ (by omega), ← qlo]
 ·rfl
theorem qhI {w : Nat} : ∀ {l : List (Int × Int)} {ws : List Int}, (∀ e ∈ l, e.1 ≠ (w : Int)) → (applyE ws l).getD w 0 = ws.getD w 0 := by
 intro l
 induction l with
 | nil => intro ws _; rfl
 | cons a r ih =>
  intro ws h
  show (applyE (putE ws a) r).getD w 0 = _
  rw [ih (fun e he => h e (by simp [he])), qjm (h a (by simp))]
theorem qjP {ws ws' : List Int} {i : Nat} (hl : ws'.length = ws.length) (h : ∀ w, 8 * i ≤ w → w < 8 * i + 8 → ws'.getD w 0 = ws.getD w 0) : lineOf ws' i = lineOf ws i := by
 unfold lineOf
 apply qlM
 intro j
 rw [qmd, qmd, qme, qme]
 by_cases hj : j < 8
 ·rw [if_pos hj, if_pos hj]
  have := h (8 * i + j) (by omega) (by omega)
  by_cases hb : 8 * i + j < ws.length
  ·rw [qlo, qlo, qln (by omega), qln hb] at this
   rw [qln (by omega), qln hb]
   simpa using this
  ·rw [qlt (by omega), qlt (by omega)]
 ·rw [if_neg hj, if_neg hj]
theorem qfp (l : List (Int × Int)) : (eLines l).Pairwise (· < ·) := (eFold l [] List.Pairwise.nil).1
theorem qjl (W : List Int) (ls : List Int) : (homesC W ls).map (·.1) = ls.map fun ln => 16 + ln := by
 unfold homesC; rw [List.map_map]; rfl
theorem qih (W : List Int) (E : List (Int × Int)) : ((homesC W (eLines E)).map (·.1)).Nodup := by
 rw [qjl]
 unfold List.Nodup
 rw [List.pairwise_map]
 exact (qfp E).imp fun h => by omega
theorem qkt {m : Nat} {ws : List Int} {E : List (Int × Int)} (hl : ws.length = 8 * m) (hin : ∀ e ∈ E, 0 ≤ e.1 ∧ e.1 < 8 * (m : Int)) :
    upd (linesOf m ws) (homesC (applyE ws E) (eLines E)) = linesOf m (applyE ws E) := by
  have hlen : (applyE ws E).length = ws.length := qaz E ws
  have h0 : ∀ x ∈ eLines E, 0 ≤ x := fun x hx => by
    obtain ⟨e, he, h0, rfl⟩ := qc8.1 hx
    omega
  have h16 : ∀ q ∈ homesC (applyE ws E) (eLines E), 16 ≤ q.1 := by
    intro q hq
    unfold homesC at hq
    rw [ql2] at hq
    obtain ⟨ln, hln, rfl⟩ := hq
    have := h0 ln hln
    simp only; omega
  apply qlM
  intro i
  by_cases hi : i < m
  · have e1 : (upd (linesOf m ws) (homesC (applyE ws E) (eLines E))).length = m := by rw [upd_len, qcZ]
    have e2 : (linesOf m (applyE ws E)).length = m := qcZ
    have key : (upd (linesOf m ws) (homesC (applyE ws E) (eLines E))).getD i [] = (linesOf m (applyE ws E)).getD i [] := by
      rw [qdQ hi]
      by_cases hx : (i : Int) ∈ eLines E
      · have hq : ((16 + (i : Int), lineOf (applyE ws E) i) : Int × List Int) ∈ homesC (applyE ws E) (eLines E) := by
          unfold homesC
          rw [ql2]
          exact ⟨(i : Int), hx, by simp⟩
        rw [upd_in h16 (qih _ _) hq (by simp) (by rw [qcZ]; exact hi)]
      · have hne : ∀ q ∈ homesC (applyE ws E) (eLines E), q.1 ≠ ((16 + i : Nat) : Int) := by
          intro q hq he
          unfold homesC at hq
          rw [ql2] at hq
          obtain ⟨ln, hln, rfl⟩ := hq
          simp only at he
          exact hx (by have : ln = (i : Int) := by omega
                       rw [← this]; exact hln)
        rw [qfJ h16 hne, qdQ hi]
        refine (qjP hlen fun w h1 h2 => qhI fun e he hw => hx ?_).symm
        have := hin e he
        exact qc8.2 ⟨e, he, this.1, by omega⟩
    rw [qlo, qlo, qln (by omega), qln (by omega)] at key
    rw [qln (by omega), qln (by omega)]
    simpa using key
  · rw [qlt (by rw [upd_len, qcZ]; omega), qlt (by rw [qcZ]; omega)]
theorem qhx {m : Nat} {W : List Int} {ls : List Int} (h64 : qaE W) (hl : W.length = 8 * m) (hm : m ≤ 64) (hls : ∀ ln ∈ ls, 0 ≤ ln ∧ ln < (m : Int)) : ∀ q ∈ homesC W ls, qcr q := by
 intro q hq
 unfold homesC at hq
 rw [ql2] at hq
 obtain ⟨ln, hln, rfl⟩ := hq
 have := hls ln hln
 exact ⟨by unfold isI; simp only; omega, qdy h64 (by omega)⟩
theorem qgV {m : Nat} {W : List Int} {E : List (Int × Int)} (hls : ∀ ln ∈ eLines E, 0 ≤ ln ∧ ln < (m : Int)) (h1 : 1 ≤ (eLines E).length) (h14 : (eLines E).length ≤ 14) : MayL ((16 + m : Nat) : Int) (homesC W (eLines E)) := by
 have hlen : (homesC W (eLines E)).length = (eLines E).length := by simp [homesC]
 have hat : ∀ i (hi : i < (eLines E).length), lnAt (homesC W (eLines E)) i = 16 + (eLines E)[i] := fun i hi => by
  unfold lnAt homesC
  rw [qlo, qlz, qln hi]; rfl
 have hs := List.pairwise_iff_getElem.1 (qfp E)
 refine ⟨by omega, by omega, by omega, fun i hi => ?_⟩
 rw [hlen] at hi
 rw [hat i hi]
 have := hls _ (qlB hi)
 refine ⟨by omega, by omega, fun j hj => ?_⟩
 rw [hat j (by omega)]
 have := hs j i (by omega) hi hj
 omega
section
variable {n sp per : Nat} {M M' : Mem} {mvb len pt : Nat}
theorem qcT {i v : Int} {r : Nat} (h : (r : Int) ≠ i) : (M.set i v).1.regs.getD r 0 = M.regs.getD r 0 := by
 have hw : M.wr.regs = M.regs := Mem.wr_regs
 unfold Mem.set
 split
 ·rename_i hi
  split
  ·rfl
  ·simp only
   split
   ·unfold regIn at hi
    simp only [qlo]
    rw [qlQ (by omega)]
   ·rw [hw]
 ·rfl
theorem qfg (hn : 1 ≤ n) : ∀ {L : List (Int × List Int)} {M : Mem} {pt mvb : Nat}, PSt n sp per M pt mvb len → M.down = false → mvb + L.length < 4611686018427387904 → (∀ q ∈ L, 0 ≤ q.1 ∧ q.1 < n ∧ isLine q.2) →
  (∀ r, (r = 1 ∨ r = 2 ∨ 19 ≤ r) → (tputs n sp per L M pt).1.regs.getD r 0 = M.regs.getD r 0) ∧ ((tputs n sp per L M pt).2.2 = 3 → LV (tputs n sp per L M pt).1 (n + 1) sp sp) ∧ (∀ k, LV M (n + 1) sp k → ∃ k', k ≤ k' ∧ LV (tputs n sp per L M pt).1 (n + 1) sp k') := by
 intro L
 induction L with
 | nil => intro M pt mvb h hup _ _; exact ⟨fun r _ => rfl, fun h => by simp [tputs] at h, fun k hk => ⟨k, qlu _, hk⟩⟩
 | cons q r ih =>
  intro M pt mvb h hup hb hL
  simp only [qlE] at hb ⊢
  obtain ⟨hq0, hqn, hql⟩ := hL q (by simp)
  obtain ⟨k, hlv⟩ := h.lv
  have hmv := h.mv
  obtain ⟨ln, hln⟩ := qlI hq0
  have hP := fun (k : Nat) (hlv : LV M (n + 1) sp k) => (qex (sp := sp) (k := k) (line := ln) (period := per) (puts := pt) (d := q.2) hlv hn h.ok (by omega) hup (by omega) hql.1).1
  have hps := h.tput hn (by omega) (line := q.1) hql
  have hdef : tputs n sp per (q :: r) M pt = if (tput n sp per M pt q.1 q.2).2.2 = 0 then tputs n sp per r (tput n sp per M pt q.1 q.2).1 (tput n sp per M pt q.1 q.2).2.1 else tput n sp per M pt q.1 q.2 := rfl
  rw [hdef]
  rw [← hln] at hP
  generalize tput n sp per M pt q.1 q.2 = R at *
  have hP0 := hP k hlv
  by_cases e : R.2.2 = 0
  ·rw [if_pos e]
   have hup' : R.1.down = false := by
    rcases hP0.res with ⟨_, h, _⟩ | ⟨e', _⟩ | ⟨e', _⟩
    ·exact h
    ·omega
    ·omega
   obtain ⟨i1, i2, i3⟩ := ih hps hup' (by omega) (fun q' hq' => hL q' (by simp [hq']))
   refine ⟨fun rr hrr => by rw [i1 rr hrr, hP0.regs rr hrr], i2, fun k0 hk0 => ?_⟩
   obtain ⟨k1, hk1, hlv1, _⟩ := (hP k0 hk0).lv
   obtain ⟨k2, hk2, hlv2⟩ := i3 k1 hlv1
   exact ⟨k2, by omega, hlv2⟩
  ·rw [if_neg e]
   refine ⟨hP0.regs, fun h3 => ?_, fun k0 hk0 => ?_⟩
   ·obtain ⟨k1, hk1, hlv1, h2⟩ := hP0.lv
    have := h2 h3
    subst this
    exact hlv1
   ·obtain ⟨k1, hk1, hlv1, _⟩ := (hP k0 hk0).lv
    exact ⟨k1, hk1, hlv1⟩
theorem LV.low {k : Nat} (h : LV M n sp k) (hc : M'.cs.length = M.cs.length) (hr : ∀ r, 3 ≤ r → r < 19 → M'.regs.getD r 0 = M.regs.getD r 0) : LV M' n sp k := by
 have h16 := h.sp16
 have hk := h.kle
 have hw : ∀ i, i < sp → M'.whose i = M.whose i := fun i hi => hr _ (by omega) (by omega)
 exact ⟨by rw [hc]; exact h.len, h.n1, h.sp16, h.kle, fun i hi => by rw [hw i (by omega)]; exact h.used i hi, fun i hi hi' => by rw [hw i hi']; exact h.free i hi hi'⟩
theorem LV.set1 {k : Nat} {v : Int} (h : LV M n sp k) : LV (M.set 1 v).1 n sp k := h.low Mem.set_len fun r h1 h2 => qcT (by omega)
theorem qiy {l : List (Int × List Int)} (h : PSt n sp per M pt mvb len) (hn : 16 < n ∧ n ≤ 1000) (hup : M.down = false) (hb : mvb + 1000 < 4611686018427387904) (hok : ∀ q ∈ l, qcr q) :
  (∀ r, (r = 2 ∨ 19 ≤ r) → (comN n sp per l M pt).1.regs.getD r 0 = M.regs.getD r 0) ∧
  (MayL n l → commits M = 0 → (comN n sp per l M pt).1.down = false → (comN n sp per l M pt).2.2 = 3 ∨ commits (comN n sp per l M pt).1 ≠ 0 → LV (comN n sp per l M pt).1 (n + 1) sp sp) ∧
  (∀ k, LV M (n + 1) sp k → ∃ k', k ≤ k' ∧ LV (comN n sp per l M pt).1 (n + 1) sp k') ∧
  (MayL n l → commits M = 0 → (comN n sp per l M pt).2.2 = 0 ∨ (comN n sp per l M pt).2.2 = 2 ∨ (comN n sp per l M pt).2.2 = 3) := by
 by_cases hm : MayL n l
 rotate_left 1
 ·have e : comN n sp per l M pt = (M, pt, 1) := by unfold comN; rw [if_pos hm]
  rw [e]
  exact ⟨fun _ _ => rfl, fun h => absurd h hm, fun k hk => ⟨k, qlu _, hk⟩, fun h => absurd h hm⟩
 by_cases hc : commits M = 0
 rotate_left 1
 ·have e : comN n sp per l M pt = (M, pt, 5) := by unfold comN; rw [if_neg (fun hh => hh hm), if_neg (by simp [hup]), if_pos hc]
  rw [e]
  exact ⟨fun _ _ => rfl, fun _ h => absurd h hc, fun k hk => ⟨k, qlu _, hk⟩, fun _ h => absurd h hc⟩
 have hl14 := hm.2.2.1
 have hl1 := hm.2.1
 have hidx : idxN l.length ≤ 2 := by unfold idxN; omega
 have hlen : (rowsN l).length = idxN l.length + l.length := qcv l (qlu _)
 have hrl := qdz l
 have hro := qdO hok (by omega)
 have hrm : ∀ q ∈ rowPuts l, 0 ≤ q.1 ∧ q.1 < n ∧ isLine q.2 := by
  intro q hq
  have h2 := (hro q hq).line
  obtain ⟨i, hi, rfl⟩ := qeQ hq
  exact ⟨by simp only; omega, by simp only; omega, h2⟩
 obtain ⟨r1, r2, r3⟩ := qfg (by omega) h hup (by omega) hrm
 obtain ⟨a1, a2, a3, a4⟩ := qc9 (by omega) h hup (by omega) hrm (qef l)
 have hps := h.puts (by omega) (l := rowPuts l) (by omega) hro
 unfold comN
 rw [if_neg (fun hh => hh hm), if_neg (by simp [hup]), if_neg (by simp [hc])]
 generalize tputs n sp per (rowPuts l) M pt = R at *
 have hcR : commits R.1 = commits M := by unfold commits; exact a4 1 (.inl rfl)
 by_cases e0 : R.2.2 = 0
 rotate_left 1
 ·rw [if_pos e0]
  refine ⟨fun r hr => r1 r (by omega), fun _ _ _ hh => ?_, r3, fun _ _ => ?_⟩
  ·rcases hh with hh | hh
   ·exact r2 hh
   ·exact absurd (hcR.trans hc) hh
  ·rcases a1 with ⟨h, _⟩ | ⟨h, _⟩ | ⟨h, _⟩
   ·exact .inl h
   ·exact .inr (.inr h)
   ·exact .inr (.inl h)
 rw [if_neg (by omega)]
 have hRup : R.1.down = false := by
  rcases a1 with ⟨_, h, _⟩ | ⟨e', _⟩ | ⟨e', _⟩
  ·exact h
  ·omega
  ·omega
 obtain ⟨s1, s2⟩ := qdC (v := (l.length : Int)) hps hRup
 have hps2 := hps.set1 (v := (l.length : Int)) (by unfold isU; omega)
 have g1 : ∀ r, (r = 2 ∨ 19 ≤ r) → (R.1.set 1 (l.length : Int)).1.regs.getD r 0 = M.regs.getD r 0 := fun r hr => by rw [qcT (by omega), r1 r (by omega)]
 have g3 : ∀ k, LV M (n + 1) sp k → ∃ k', k ≤ k' ∧ LV (R.1.set 1 (l.length : Int)).1 (n + 1) sp k' := fun k hk => by
  obtain ⟨k', h1, h2⟩ := r3 k hk
  exact ⟨k', h1, h2.set1⟩
 generalize R.1.set 1 (l.length : Int) = S at *
 by_cases e1 : S.2 = 0
 rotate_left 1
 ·rw [if_pos e1]
  refine ⟨g1, fun _ _ hd _ => ?_, g3, fun _ _ => ?_⟩
  ·rcases s1 with ⟨e', _⟩ | ⟨_, hd', _⟩
   ·exact absurd e' e1
   ·simp only at hd; rw [hd'] at hd; cases hd
  ·rcases s1 with ⟨e', _⟩ | ⟨e', _⟩
   ·exact .inl e'
   ·exact .inr (.inl e')
 rw [if_neg (by omega)]
 have hSup : S.1.down = false := by
  rcases s1 with ⟨_, h, _⟩ | ⟨e', _⟩
  ·exact h
  ·omega
 have hlm : ∀ q ∈ l, 0 ≤ q.1 ∧ q.1 < n ∧ isLine q.2 := fun q hq => by have := qcW hm hq; exact ⟨by omega, this.2, (hok q hq).line⟩
 obtain ⟨t1, t2, t3⟩ := qfg (pt := R.2.1) (by omega) hps2 hSup (by omega) hlm
 obtain ⟨b1, _, _, b4⟩ := qc9 (pt := R.2.1) (by omega) hps2 hSup (by omega) hlm (qdK hm)
 have hps3 := hps2.puts (by omega) (l := l) (by omega) hok
 unfold finN
 simp only
 generalize tputs n sp per l S.1 R.2.1 = T at *
 have u3 : ∀ k, LV M (n + 1) sp k → ∃ k', k ≤ k' ∧ LV T.1 (n + 1) sp k' := fun k hk => by
  obtain ⟨k', h1, h2⟩ := g3 k hk
  obtain ⟨k2, h3, h4⟩ := t3 k' h2
  exact ⟨k2, by omega, h4⟩
 have u1 : ∀ r, (r = 2 ∨ 19 ≤ r) → T.1.regs.getD r 0 = M.regs.getD r 0 := fun r hr => by rw [t1 r (by omega), g1 r hr]
 by_cases e2 : T.2.2 = 0
 ·rw [if_pos e2]
  have hTup : T.1.down = false := by
   rcases b1 with ⟨_, h, _⟩ | ⟨e', _⟩ | ⟨e', _⟩
   ·exact h
   ·omega
   ·omega
  obtain ⟨z1, z2⟩ := qdC (v := 0) hps3 hTup
  refine ⟨fun r hr => by rw [qcT (by omega), u1 r hr], fun _ _ hd hh => ?_, fun k hk => ?_, fun _ _ => ?_⟩
  ·simp only at hd hh
   rcases z1 with ⟨e', _, c⟩ | ⟨_, hd', _⟩
   ·rcases hh with hh | hh
    ·omega
    ·exact absurd c hh
   ·rw [hd'] at hd; cases hd
  ·obtain ⟨k', h1, h2⟩ := u3 k hk
   exact ⟨k', h1, h2.set1⟩
  ·rcases z1 with ⟨e', _⟩ | ⟨e', _⟩
   ·exact .inl e'
   ·exact .inr (.inl e')
 rw [if_neg e2]
 by_cases e3 : T.2.2 = 3
 ·rw [if_pos e3]
  exact ⟨u1, fun _ _ _ _ => t2 e3, u3, fun _ _ => .inl rfl⟩
 rw [if_neg e3]
 refine ⟨u1, fun _ _ hd hh => ?_, u3, fun _ _ => ?_⟩
 ·rcases b1 with ⟨e', _⟩ | ⟨e', _⟩ | ⟨_, hd', _⟩
  ·exact absurd e' e2
  ·exact absurd e' e3
  ·rw [hd'] at hd; cases hd
 ·rcases b1 with ⟨e', _⟩ | ⟨e', _⟩ | ⟨e', _⟩
  ·exact .inl e'
  ·exact .inr (.inr e')
  ·exact .inr (.inl e')
end
def hdr (b : Bk) : Int := 2 * b.2.1 + (if b.2.2 = true then 1 else 0)
theorem qhJ (b : Bk) : hdr b / 2 = b.2.1 := by unfold hdr; split <;> omega
theorem qkO (b : Bk) : (hdr b % 2 == 1) = b.2.2 := by
 obtain ⟨p, z, u⟩ := b
 unfold hdr
 cases u
 ·simp only [qlw, if_false]
  rw [show (2 * z + 0) % 2 = 0 by omega]; rfl
 ·simp only [if_true]
  rw [show (2 * z + 1) % 2 = 1 by omega]; rfl
theorem qeD {b : Bk} (h : mayS b.2.1) : wordN b.2.1 b.2.2 = hdr b := by unfold wordN hdr; rw [if_pos h]
theorem qjk {ws : List Int} : ∀ {l : List Bk} {pt : Nat} {pu : Bool}, chainB ws.length pt pu l → (∀ b ∈ l, ws.getD b.1.toNat 0 = hdr b) → blkFrom ws pt = some l := by
 intro l
 induction l with
 | nil =>
  intro pt pu h _
  simp only [chainB] at h
  rw [qc4, dif_neg (by omega)]
 | cons b r ih =>
  intro pt pu h hh
  obtain ⟨h1, h2, h3, h4, h5⟩ := h
  have hs := h2
  unfold mayS at hs
  have hb := hh b (by simp)
  rw [h1, qlp] at hb
  have hm : mayS (ws.getD pt 0 / 2) := by rw [hb, qhJ]; exact h2
  rw [qc4, dif_pos (by omega), dif_pos hm]
  rw [hb, qhJ, qkO]
  have e : ((pt + b.2.1.toNat : Nat) : Int) = (pt : Int) + b.2.1 := by omega
  rw [ih (pt := pt + b.2.1.toNat) (pu := b.2.2) (by rw [e]; exact h5) fun b' hb' => hh b' (by simp [hb'])]
  simp only [qlO, Option.some.injEq, qmG, and_true]
  obtain ⟨b1, b2, b3⟩ := b
  simp only at h1 ⊢
  rw [h1]
theorem qiZ {ws : List Int} (h64 : qaE ws) : ∀ {l : List Bk} {pt : Nat}, blkFrom ws pt = some l → ∀ b ∈ l, ws.getD b.1.toNat 0 = hdr b := by
 intro l
 induction l with
 | nil => intro pt _ b hb; cases hb
 | cons a r ih =>
  intro pt h b hb
  rw [qc4] at h
  split at h
  ·rename_i hlt
   split at h
   ·rename_i hm
    rw [Option.map_eq_some_iff] at h
    obtain ⟨r', h1, h2⟩ := h
    injection h2 with h2 h3
    subst h3
    rw [qlL] at hb
    rcases hb with rfl | hb
    ·rw [← h2]
     simp only [qlp]
     have hv : 0 ≤ ws.getD pt 0 := by
      rw [qlo, qln hlt]
      exact (h64 _ (qlB hlt)).1
     generalize ws.getD pt 0 = v at *
     unfold hdr
     simp only [beq_iff_eq]
     split <;> omega
    ·exact ih h1 b hb
   ·cases h
  ·injection h with h; cases h
theorem qiX {ws : List Int} {l : List Bk} (h64 : qaE ws) : blocksN ws = some l ↔ MayB l ws.length ∧ ∀ b ∈ l, ws.getD b.1.toNat 0 = hdr b := by
 constructor
 ·intro h
  refine ⟨qbl h, ?_⟩
  unfold blocksN at h
  rw [Option.bind_eq_some_iff] at h
  obtain ⟨l', h1, h2⟩ := h
  split at h2
  ·injection h2 with h2; subst h2; exact qiZ h64 h1
  ·cases h2
 ·intro ⟨h1, h2⟩
  unfold blocksN
  rw [qjk (pt := 0) h1.2 h2, Option.bind_some, if_pos h1]
abbrev Ex : Type := Int × Int × List Int
def gapB (p q : Int) : List Bk := if p < q then [(p, q - p, false)] else []
def bg : Int → List Ex → List Bk
 | _, [] => []
 | p, x :: r => gapB p x.1 ++ (x.1, x.2.1, true) :: bg (x.1 + x.2.1) r
def endX : Int → List Ex → Int
 | p, [] => p
 | _, x :: r => endX (x.1 + x.2.1) r
def blkX (words : Int) (ext : List Ex) : List Bk := bg 0 ext ++ gapB (endX 0 ext) words
def tailB (words : Int) : List Ex → List Bk
 | [] => []
 | x :: r => (x.1, x.2.1, true) :: (bg (x.1 + x.2.1) r ++ gapB (endX (x.1 + x.2.1) r) words)
def startX (words : Int) : List Ex → Int
 | [] => words
 | x :: _ => x.1
theorem qes (words p : Int) (e : List Ex) : bg p e ++ gapB (endX p e) words = gapB p (startX words e) ++ tailB words e := by
 cases e with
 | nil => simp [bg, endX, startX, tailB]
 | cons x r => simp [bg, endX, startX, tailB]
theorem bg_app : ∀ (e1 e2 : List Ex) (p : Int), bg p (e1 ++ e2) = bg p e1 ++ bg (endX p e1) e2 := by
 intro e1
 induction e1 with
 | nil => intro e2 p; rfl
 | cons x r ih => intro e2 p; simp [bg, endX, ih]
theorem qfl : ∀ (e1 e2 : List Ex) (p : Int), endX p (e1 ++ e2) = endX (endX p e1) e2 := by
 intro e1
 induction e1 with
 | nil => intro e2 p; rfl
 | cons x r ih => intro e2 p; simp [endX, ih]
theorem qcR (words : Int) (e1 e2 : List Ex) : blkX words (e1 ++ e2) = bg 0 e1 ++ (gapB (endX 0 e1) (startX words e2) ++ tailB words e2) := by
 unfold blkX
 rw [bg_app, qfl, qmL, qes]
def ExPre (words : Int) : Int → List Ex → Prop
 | _, [] => True
 | p, x :: r => (p = x.1 ∨ p + 2 ≤ x.1) ∧ 2 ≤ x.2.1 ∧ x.1 + x.2.1 ≤ words ∧ ExPre words (x.1 + x.2.1) r
def ExOK (words p : Int) (e : List Ex) : Prop := ExPre words p e ∧ (endX p e = words ∨ endX p e + 2 ≤ words)
theorem qkg {words : Int} : ∀ {e1 e2 : List Ex} {p : Int}, ExPre words p (e1 ++ e2) ↔ ExPre words p e1 ∧ ExPre words (endX p e1) e2 := by
 intro e1
 induction e1 with
 | nil => intro e2 p; simp [ExPre, endX]
 | cons x r ih => intro e2 p; simp only [ql3, ExPre, endX, ih]; constructor <;> (rintro h; simp_all)
theorem qdq {words p : Int} {e1 e2 : List Ex} : ExOK words p (e1 ++ e2) ↔ ExPre words p e1 ∧ ExOK words (endX p e1) e2 := by
 unfold ExOK
 rw [qkg, qfl, and_assoc]
theorem qdI {words : Int} : ∀ {e : List Ex} {p : Int}, ExPre words p e → p ≤ endX p e ∧ (p ≤ words → endX p e ≤ words) := by
 intro e
 induction e with
 | nil => intro p _; exact ⟨Int.le_refl _, fun h => h⟩
 | cons x r ih =>
  intro p h
  obtain ⟨h1, h2, h3, h4⟩ := h
  have := ih h4
  simp only [endX]
  exact ⟨by omega, fun _ => this.2 h3⟩
theorem qeo {words p : Int} {e : List Ex} (h : ExOK words p e) : p = startX words e ∨ p + 2 ≤ startX words e := by
 cases e with
 | nil => exact h.2
 | cons x r => exact h.1.1
theorem qfR {words p : Int} {e : List Ex} (h : ExOK words p e) : startX words e ≤ words := by
 cases e with
 | nil => exact Int.le_refl _
 | cons x r => have := h.1.2.1; have := h.1.2.2.1; simp only [startX]; omega
theorem qhz {words p q : Int} {e : List Ex} (h : ExOK words p e) (hq : q = startX words e ∨ q + 2 ≤ startX words e) : ExOK words q e := by
 cases e with
 | nil => exact ⟨trivial, hq⟩
 | cons x r => exact ⟨⟨hq, h.1.2⟩, h.2⟩
theorem qdG {words p : Int} {x : Ex} {e : List Ex} (h : ExOK words p (x :: e)) : (p = x.1 ∨ p + 2 ≤ x.1) ∧ 2 ≤ x.2.1 ∧ x.1 + x.2.1 ≤ words ∧ ExOK words (x.1 + x.2.1) e :=
 ⟨h.1.1, h.1.2.1, h.1.2.2.1, h.1.2.2.2, h.2⟩
theorem qhn {words p : Int} {x : Ex} {e : List Ex} (h1 : p = x.1 ∨ p + 2 ≤ x.1) (h2 : 2 ≤ x.2.1) (h3 : x.1 + x.2.1 ≤ words) (h : ExOK words (x.1 + x.2.1) e) : ExOK words p (x :: e) :=
 ⟨⟨h1, h2, h3, h.1⟩, h.2⟩
theorem qjA {words : Int} (hw : mayW words) : ∀ {e : List Ex} {p : Int}, 0 ≤ p → ExOK words p e → chainB words p true (bg p e ++ gapB (endX p e) words) := by
 have hw' := hw
 unfold mayW at hw'
 intro e
 induction e with
 | nil =>
  intro p hp h
  have h2 := h.2
  simp only [endX] at h2
  simp only [bg, endX, ql8]
  unfold gapB
  split
  ·simp only [chainB]
   refine ⟨trivial, ?_, Int.le_refl _, .inl trivial, by omega⟩
   unfold mayS; omega
  ·simp only [chainB]; omega
 | cons x r ih =>
  intro p hp h
  obtain ⟨h1, h2, h3, h4⟩ := qdG h
  have hc := ih (p := x.1 + x.2.1) (by omega) h4
  simp only [bg, endX, qmL, ql3]
  unfold gapB at *
  split
  ·simp only [ql3, ql8, chainB]
   refine ⟨trivial, by unfold mayS; omega, by omega, .inl trivial, by omega, by unfold mayS; omega, by omega, .inr trivial, ?_⟩
   rw [show p + (x.1 - p) + x.2.1 = x.1 + x.2.1 by omega]
   exact hc
  ·simp only [ql8, chainB]
   refine ⟨by omega, by unfold mayS; omega, by omega, .inl trivial, ?_⟩
   rw [show p + x.2.1 = x.1 + x.2.1 by omega]
   exact hc
theorem qlc {words : Int} (hw : mayW words) {e : List Ex} (h : ExOK words 0 e) : MayB (blkX words e) words := ⟨hw, qjA hw (Int.le_refl 0) h⟩
theorem bg_mem {words : Int} : ∀ {e : List Ex} {p : Int}, ExPre words p e → ∀ b ∈ bg p e, p ≤ b.1 ∧ b.1 + b.2.1 ≤ endX p e ∧ 2 ≤ b.2.1 := by
 intro e
 induction e with
 | nil => intro p _ b hb; cases hb
 | cons x r ih =>
  intro p h b hb
  obtain ⟨h1, h2, h3, h4⟩ := h
  have he := qdI h4
  simp only [bg, qlD, qlL] at hb
  simp only [endX]
  rcases hb with hb | rfl | hb
  ·unfold gapB at hb
   split at hb
   ·simp only [qlL, List.not_mem_nil, or_false] at hb; subst hb; simp only; omega
   ·cases hb
  ·simp only; omega
  ·have := ih h4 b hb; omega
theorem ex_mem {words : Int} : ∀ {e : List Ex} {p : Int}, ExPre words p e → ∀ x ∈ e, p ≤ x.1 ∧ x.1 + x.2.1 ≤ endX p e ∧ 2 ≤ x.2.1 := by
 intro e
 induction e with
 | nil => intro p _ b hb; cases hb
 | cons x r ih =>
  intro p h b hb
  obtain ⟨h1, h2, h3, h4⟩ := h
  have he := qdI h4
  simp only [endX]
  rw [qlL] at hb
  rcases hb with rfl | hb
  ·omega
  ·have := ih h4 b hb; omega
theorem qfh {words : Int} {e : List Ex} {p : Int} (h : ExOK words p e) : ∀ b ∈ tailB words e, startX words e ≤ b.1 := by
 cases e with
 | nil => intro b hb; cases hb
 | cons x r =>
  obtain ⟨h1, h2, h3, h4⟩ := qdG h
  intro b hb
  simp only [tailB, qlL, qlD] at hb
  simp only [startX]
  have he := qdI h4.1
  rcases hb with rfl | hb | hb
  ·exact Int.le_refl _
  ·have := bg_mem h4.1 b hb; omega
  ·unfold gapB at hb
   split at hb
   ·simp only [qlL, List.not_mem_nil, or_false] at hb; subst hb; simp only; omega
   ·cases hb
theorem qje {words : Int} : ∀ {e : List Ex} {p : Int} {i : Nat} {b : Bk}, (bg p e ++ gapB (endX p e) words)[i]? = some b → b.2.2 = false →
  ∃ e1 e2, e = e1 ++ e2 ∧ i = (bg p e1).length ∧ b = (endX p e1, startX words e2 - endX p e1, false) ∧ endX p e1 < startX words e2 := by
 intro e
 induction e with
 | nil =>
  intro p i b h hu
  simp only [bg, endX, ql8] at h
  unfold gapB at h
  split at h
  ·cases i with
   | zero => simp at h; subst h; exact ⟨[], [], rfl, rfl, rfl, by simpa [endX, startX]⟩
   | succ i => simp at h
  ·simp at h
 | cons x r ih =>
  intro p i b h hu
  simp only [bg, endX, qmL, ql3] at h
  unfold gapB at h
  split at h
  ·rename_i hlt
   cases i with
   | zero => simp at h; subst h; exact ⟨[], x :: r, rfl, rfl, rfl, by simpa [endX, startX]⟩
   | succ i =>
    cases i with
    | zero => simp at h; subst h; simp at hu
    | succ i =>
     simp only [ql3, ql8, qmb] at h
     obtain ⟨e1, e2, h1, h2, h3, h4⟩ := ih (i := i) h hu
     refine ⟨x :: e1, e2, by rw [h1]; rfl, ?_, by simpa [endX] using h3, by simpa [endX] using h4⟩
     simp only [bg, ql5, qlE]
     unfold gapB
     rw [if_pos hlt]; simp; omega
  ·rename_i hlt
   cases i with
   | zero => simp at h; subst h; simp at hu
   | succ i =>
    simp only [ql8, qmb] at h
    obtain ⟨e1, e2, h1, h2, h3, h4⟩ := ih (i := i) h hu
    refine ⟨x :: e1, e2, by rw [h1]; rfl, ?_, by simpa [endX] using h3, by simpa [endX] using h4⟩
    simp only [bg, ql5, qlE]
    unfold gapB
    rw [if_neg hlt]; simp; omega
theorem qgE {words : Int} : ∀ {e : List Ex} {p : Int} {i : Nat} {b : Bk}, (bg p e ++ gapB (endX p e) words)[i]? = some b → b.2.2 = true →
  ∃ e1 x e2, e = e1 ++ x :: e2 ∧ i = (bg p e1).length + (gapB (endX p e1) x.1).length ∧ b = (x.1, x.2.1, true) := by
 intro e
 induction e with
 | nil =>
  intro p i b h hu
  simp only [bg, endX, ql8] at h
  unfold gapB at h
  split at h
  ·cases i with
   | zero => simp at h; subst h; simp at hu
   | succ i => simp at h
  ·simp at h
 | cons x r ih =>
  intro p i b h hu
  simp only [bg, endX, qmL, ql3] at h
  unfold gapB at h
  split at h
  ·rename_i hlt
   cases i with
   | zero => simp at h; subst h; simp at hu
   | succ i =>
    cases i with
    | zero =>
     simp at h; subst h
     refine ⟨[], x, r, rfl, ?_, rfl⟩
     have e0 : (gapB p x.1).length = 1 := by unfold gapB; rw [if_pos hlt]; rfl
     show 0 + 1 = 0 + (gapB p x.1).length
     omega
    | succ i =>
     simp only [ql3, ql8, qmb] at h
     obtain ⟨e1, y, e2, h1, h2, h3⟩ := ih (i := i) h hu
     refine ⟨x :: e1, y, e2, by rw [h1]; rfl, ?_, h3⟩
     simp only [bg, endX, ql5, qlE]
     have e0 : (gapB p x.1).length = 1 := by unfold gapB; rw [if_pos hlt]; rfl
     omega
  ·rename_i hlt
   cases i with
   | zero =>
    simp at h; subst h
    refine ⟨[], x, r, rfl, ?_, rfl⟩
    have e0 : (gapB p x.1).length = 0 := by unfold gapB; rw [if_neg hlt]; rfl
    show 0 = 0 + (gapB p x.1).length
    omega
   | succ i =>
    simp only [ql8, qmb] at h
    obtain ⟨e1, y, e2, h1, h2, h3⟩ := ih (i := i) h hu
    refine ⟨x :: e1, y, e2, by rw [h1]; rfl, ?_, h3⟩
    simp only [bg, endX, ql5, qlE]
    have e0 : (gapB p x.1).length = 0 := by unfold gapB; rw [if_neg hlt]; rfl
    omega
theorem qiw {words : Int} {e : List Ex} {b : Bk} (hb : b ∈ blkX words e) (hu : b.2.2 = true) : ∃ x ∈ e, b = (x.1, x.2.1, true) := by
 obtain ⟨i, hi⟩ := List.mem_iff_getElem?.1 hb
 obtain ⟨e1, x, e2, h1, _, h3⟩ := qgE hi hu
 exact ⟨x, by rw [h1]; simp, h3⟩
theorem ex_used {words : Int} {e1 e2 : List Ex} {x : Ex} : (blkX words (e1 ++ x :: e2))[(bg 0 e1).length + (gapB (endX 0 e1) x.1).length]? = some (x.1, x.2.1, true) := by
 rw [qcR, qlN (by omega), qlN (by simp [startX])]
 simp [startX, tailB]
theorem qiC {words : Int} {e : List Ex} {x : Ex} (hx : x ∈ e) : (x.1, x.2.1, true) ∈ blkX words e := by
 obtain ⟨e1, e2, rfl⟩ := qmF hx
 exact qlx ex_used
theorem ex_uniq {words : Int} : ∀ {e1 e2 e1' e2' : List Ex} {x x' : Ex} {p : Int}, ExPre words p (e1 ++ x :: e2) → e1 ++ x :: e2 = e1' ++ x' :: e2' → x.1 = x'.1 → e1 = e1' ∧ x = x' ∧ e2 = e2' := by
 intro e1
 induction e1 with
 | nil =>
  intro e2 e1' e2' x x' p h he hx
  cases e1' with
  | nil => simp only [ql8, qmG] at he; exact ⟨rfl, he.1, he.2⟩
  | cons y r =>
   simp only [ql8, ql3, qmG] at he
   obtain ⟨rfl, rfl⟩ := he
   obtain ⟨h1, h2, h3, h4⟩ := h
   have := ex_mem h4 x' (by simp)
   omega
 | cons y r ih =>
  intro e2 e1' e2' x x' p h he hx
  cases e1' with
  | nil =>
   simp only [ql8, ql3, qmG] at he
   obtain ⟨rfl, rfl⟩ := he
   obtain ⟨h1, h2, h3, h4⟩ := h
   have := ex_mem h4 x (by simp)
   omega
  | cons y' r' =>
   simp only [ql3, qmG] at he
   obtain ⟨rfl, he⟩ := he
   obtain ⟨h1, h2, h3, h4⟩ := h
   obtain ⟨a, b, c⟩ := ih h4 he hx
   exact ⟨by rw [a], b, c⟩
theorem qgA (ws : List Int) (a b : List (Int × Int)) : applyE ws (a ++ b) = applyE (applyE ws a) b := List.foldl_append ..
theorem qeM {ws : List Int} {i : Nat} {v : Int} (w : Nat) (hi : i < ws.length) : (putE ws ((i : Int), v)).getD w 0 = if w = i then v else ws.getD w 0 := by
 unfold putE
 rw [if_pos ⟨by simp only; omega, by simp only; omega⟩]
 simp only [qlp, qlo]
 by_cases h : w = i
 ·subst h; rw [if_pos rfl, List.getElem?_set_self hi]; rfl
 ·rw [if_neg h, qlQ (by omega)]
theorem qgY {ws : List Int} {p : Nat} {tk : Int} : ∀ {j : Nat}, 1 ≤ j → p + j ≤ ws.length → ∀ w, (applyE ws (carveTo (p : Int) tk j)).getD w 0 = if w = p then wordN tk true else if p < w ∧ w < p + j then 0 else ws.getD w 0 := by
 intro j
 induction j with
 | zero => intro h; omega
 | succ j ih =>
  intro _ hp w
  by_cases hj : j = 0
  ·subst hj
   have e : applyE ws (carveTo (p : Int) tk (0 + 1)) = putE ws ((p : Int), wordN tk true) := rfl
   rw [e, qeM w (by omega)]
   by_cases hw : w = p
   ·rw [if_pos hw, if_pos hw]
   ·rw [if_neg hw, if_neg hw, if_neg (by omega)]
  ·rw [qeA _ _ (by omega), qgA]
   have e : ∀ v : List Int, applyE v [((p : Int) + (j : Int), (0 : Int))] = putE v (((p + j : Nat) : Int), 0) := fun v => by
    show putE v _ = _
    rw [show (p : Int) + (j : Int) = ((p + j : Nat) : Int) by omega]
   rw [e, qeM w (by rw [qaz]; omega), ih (by omega) (by omega) w]
   by_cases hw : w = p + j
   ·rw [if_pos hw, if_neg (by omega), if_pos (by omega)]
   ·rw [if_neg hw]
    by_cases h1 : w = p
    ·rw [if_pos h1, if_pos h1]
    ·rw [if_neg h1, if_neg h1]
     by_cases h2 : p < w ∧ w < p + j
     ·rw [if_pos h2, if_pos (by omega)]
     ·rw [if_neg h2, if_neg (by omega)]
theorem qft {sz need : Int} (hn : 2 ≤ need ∧ need ≤ sz) : 2 ≤ takesN sz need ∧ takesN sz need ≤ sz ∧ need ≤ takesN sz need ∧ (takesN sz need = sz ∨ takesN sz need + 2 ≤ sz) := by
 unfold takesN
 rw [if_pos hn]
 split <;> omega
theorem qjh {ws : List Int} {b : Bk} {need : Int} {p : Nat} (hp : b.1 = (p : Int)) (hn : 2 ≤ need ∧ need ≤ b.2.1) (hfit : b.1 + b.2.1 ≤ ws.length) (w : Nat) :
  (applyE ws (carveE b need)).getD w 0 = if w = p then wordN (takesN b.2.1 need) true else if p < w ∧ w < p + (takesN b.2.1 need).toNat then 0 else
   if w = p + (takesN b.2.1 need).toNat ∧ takesN b.2.1 need < b.2.1 then wordN (b.2.1 - takesN b.2.1 need) false else ws.getD w 0 := by
 obtain ⟨t1, t2, _, _⟩ := qft hn
 unfold carveE
 rw [qgA, hp]
 generalize takesN b.2.1 need = tk at *
 have hto := qgY (ws := ws) (p := p) (tk := tk) (j := tk.toNat) (by omega) (by omega)
 by_cases hlt : tk < b.2.1
 ·rw [if_pos hlt]
  have e : ∀ v : List Int, applyE v [((p : Int) + tk, wordN (b.2.1 - tk) false)] = putE v (((p + tk.toNat : Nat) : Int), wordN (b.2.1 - tk) false) := fun v => by
   show putE v _ = _
   rw [show (p : Int) + tk = ((p + tk.toNat : Nat) : Int) by omega]
  rw [e, qeM w (by rw [qaz]; omega), hto]
  by_cases h1 : w = p + tk.toNat
  ·rw [if_pos h1, if_neg (by omega), if_neg (by omega), if_pos ⟨h1, hlt⟩]
  ·rw [if_neg h1]
   by_cases h2 : w = p
   ·rw [if_pos h2, if_pos h2]
   ·rw [if_neg h2, if_neg h2]
    split
    ·rfl
    ·rw [if_neg (by omega)]
 ·rw [if_neg hlt]
  show (applyE ws _).getD w 0 = _
  rw [hto]
  by_cases h2 : w = p
  ·rw [if_pos h2, if_pos h2]
  ·rw [if_neg h2, if_neg h2]
   split
   ·rfl
   ·rw [if_neg (by omega)]
theorem qdA {ws ws' : List Int} {a n : Nat} (h : ∀ w, a / 8 ≤ w → w * 8 < a + n → ws'.getD w 0 = ws.getD w 0) : bytesOf ws' a n = bytesOf ws a n := by
 unfold bytesOf
 refine List.map_congr_left fun j hj => ?_
 rw [qml] at hj
 unfold byteAt
 rw [h ((a + j) / 8) (by omega) (by omega)]
theorem qhU {ws : List Int} {a n : Nat} (h : ∀ w, a / 8 ≤ w → w * 8 < a + n → ws.getD w 0 = 0) : bytesOf ws a n = qlq n 0 := by
 unfold bytesOf
 apply qlM
 intro i
 by_cases hi : i < n
 ·rw [qlz, qlP hi, qmK, if_pos hi, qlO]
  unfold byteAt
  rw [h ((a + i) / 8) (by omega) (by omega)]
  simp [getB]
 ·rw [qlt (by simp; omega), qlt (by simp; omega)]
theorem qeT (ws : List Int) (a n : Nat) : (bytesOf ws a n).length = n := by simp [bytesOf]
structure MR (words : Int) (ext : List Ex) (ws : List Int) : Prop where
 len : (ws.length : Int) = words
 mw : mayW words
 u : qaE ws
 ok : ExOK words 0 ext
 hd : ∀ b ∈ blkX words ext, ws.getD b.1.toNat 0 = hdr b
 by8 : ∀ x ∈ ext, x.2.2 = bytesOf ws ((x.1.toNat + 1) * 8) ((x.2.1.toNat - 1) * 8)
section
variable {words : Int} {ext : List Ex} {ws : List Int}
theorem MR.may (h : MR words ext ws) : MayB (blkX words ext) words := qlc h.mw h.ok
theorem MR.blocks (h : MR words ext ws) : blocksN ws = some (blkX words ext) := (qiX h.u).2 ⟨by rw [h.len]; exact h.may, h.hd⟩
theorem MR.range (h : MR words ext ws) : 8 ≤ words ∧ words ≤ 512 := ⟨h.mw.1, h.mw.2.1⟩
theorem MR.mem (h : MR words ext ws) {x : Ex} (hx : x ∈ ext) : 0 ≤ x.1 ∧ x.1 + x.2.1 ≤ words ∧ 2 ≤ x.2.1 := by
 have h1 := ex_mem h.ok.1 x hx
 have h2 := (qdI h.ok.1).2 (by have := h.range; omega)
 omega
theorem MR.blen (h : MR words ext ws) {x : Ex} (hx : x ∈ ext) : x.2.2.length = (x.2.1.toNat - 1) * 8 := by rw [h.by8 x hx, qeT]
theorem MR.first (hw : mayW words) : MR words [] (firstN words) := by
 have hw' := hw
 unfold mayW at hw'
 have hl : (firstN words).length = words.toNat := by unfold firstN; rw [if_pos hw]; simp; omega
 refine ⟨by omega, hw, qeq _, ⟨trivial, .inr (by simp only [endX]; omega)⟩, ?_, fun x hx => (by cases hx)⟩
 intro b hb
 have e0 : blkX words [] = [((0 : Int), words - 0, false)] := by
  show gapB 0 words = _
  unfold gapB
  rw [if_pos (by omega)]
 rw [e0] at hb
 simp only [qlL, List.not_mem_nil, or_false] at hb
 subst hb
 unfold firstN
 rw [if_pos hw]
 simp only [Int.toNat_zero, List.getD_cons_zero, Int.sub_zero]
 exact qeD (b := (0, words, false)) (by unfold mayS; simp only; omega)
theorem MR.alloc (h : MR words ext ws) {i : Nat} {b : Bk} {need : Int} (hb : (blkX words ext)[i]? = some b) (hu : b.2.2 = false) (hn : 2 ≤ need ∧ need ≤ b.2.1) :
  ∃ e1 e2, ext = e1 ++ e2 ∧ (∀ x ∈ e1, x.1 < b.1) ∧ (∀ x ∈ e2, b.1 < x.1) ∧ MR words (e1 ++ (b.1, takesN b.2.1 need, qlq (((takesN b.2.1 need).toNat - 1) * 8) 0) :: e2) (applyE ws (carveE b need)) := by
 obtain ⟨e1, e2, he, hi, hbe, hlt⟩ := qje hb hu
 have hmb := h.may.mem (qlx hb)
 have hok := h.ok
 rw [he] at hok
 obtain ⟨hp1, hok2⟩ := qdq.1 hok
 have hst := qfR hok2
 have hs2 := qeo hok2
 obtain ⟨t1, t2, t3, t4⟩ := qft hn
 obtain ⟨p, hp⟩ := qlI hmb.1
 have hb1 : b.1 = endX 0 e1 := by rw [hbe]
 have hb2 : b.2.1 = startX words e2 - endX 0 e1 := by rw [hbe]
 have hget := qjh (ws := ws) (b := b) (need := need) (p := p) hp hn (by rw [h.len]; omega)
 have hcu := (qeZ (b := b) hn).1
 have hm1 := fun x hx => ex_mem hp1 x hx
 have hge2 : ∀ x ∈ e2, startX words e2 ≤ x.1 := by
  intro x hx
  have hmem := qfh (words := words) (e := e2) (p := endX 0 e1) hok2 (x.1, x.2.1, true) (by
   cases e2 with
   | nil => cases hx
   | cons y r =>
    have h3 := (qdG hok2).2.2.2
    rw [qlL] at hx
    simp only [tailB, qlL, qlD]
    rcases hx with hx | hx
    ·left; rw [hx]
    ·right
     obtain ⟨a1, a2, ha⟩ := qmF hx
     have := qlx (ex_used (words := words) (e1 := a1) (e2 := a2) (x := x))
     left
     rw [ha, bg_app]
     simp only [bg, qlD, qlL]
     exact .inr (.inr (.inl trivial)))
  exact hmem
 have hsplit := fun x (hx : x ∈ e1) => (by have := hm1 x hx; omega : x.1 < b.1)
 refine ⟨e1, e2, he, hsplit, fun x hx => by have := hge2 x hx; omega, ?_⟩
 generalize htk : takesN b.2.1 need = tk at *
 have hokn : ExOK words 0 (e1 ++ (b.1, tk, qlq ((tk.toNat - 1) * 8) 0) :: e2) := by
  refine qdq.2 ⟨hp1, qhn (.inl hb1.symm) t1 (by simp only; omega) (qhz hok2 (by simp only; omega))⟩
 refine ⟨by rw [qaz]; exact h.len, h.mw, qgw _ _ h.u fun e he => (hcu e he).2.2, hokn, ?_, ?_⟩
 ·intro b' hb'
  rw [qcR] at hb'
  simp only [qlD] at hb'
  have hold : b' ∈ blkX words ext → (b'.1 + b'.2.1 ≤ b.1 ∨ startX words e2 ≤ b'.1) → (applyE ws (carveE b need)).getD b'.1.toNat 0 = hdr b' := by
   intro hm hout
   have hmb' := h.may.mem hm
   rw [hget, if_neg (by omega), if_neg (by omega), if_neg (by omega)]
   exact h.hd b' hm
  rcases hb' with hb' | hb' | hb'
  ·have := bg_mem hp1 b' hb'
   exact hold (by rw [he, qcR]; simp [hb']) (.inl (by omega))
  ·simp only [startX] at hb'
   unfold gapB at hb'
   rw [if_neg (by omega)] at hb'
   cases hb'
  ·simp only [tailB, qlL] at hb'
   rcases hb' with rfl | hb'
   ·simp only
    rw [hget, hp, qlp, if_pos rfl]
    exact qeD (b := ((p : Int), tk, true)) (by unfold mayS; simp only; omega)
   ·rw [qes] at hb'
    simp only [qlD] at hb'
    rcases hb' with hb' | hb'
    ·unfold gapB at hb'
     split at hb'
     ·rename_i hg
      simp only [qlL, List.not_mem_nil, or_false] at hb'
      subst hb'
      simp only
      rw [hget, if_neg (by omega), if_neg (by omega), if_pos (by omega)]
      have e : startX words e2 - (b.1 + tk) = b.2.1 - tk := by omega
      rw [e]
      exact qeD (b := (b.1 + tk, b.2.1 - tk, false)) (by unfold mayS; simp only; omega)
     ·cases hb'
    ·have := qfh hok2 b' hb'
     exact hold (by rw [he, qcR]; simp [hb']) (.inr this)
 ·intro x hx
  rw [qlD, qlL] at hx
  rcases hx with hx | rfl | hx
  ·have hxm := hm1 x hx
   have hx0 := h.mem (x := x) (by rw [he]; simp [hx])
   rw [h.by8 x (by rw [he]; simp [hx])]
   symm
   refine qdA fun w h1 h2 => ?_
   rw [hget, if_neg (by omega), if_neg (by omega), if_neg (by omega)]
  ·simp only
   rw [hp, qlp]
   symm
   refine qhU fun w h1 h2 => ?_
   rw [hget, if_neg (by omega), if_pos (by omega)]
  ·have hxm := hge2 x hx
   have hx0 := h.mem (x := x) (by rw [he]; simp [hx])
   rw [h.by8 x (by rw [he]; simp [hx])]
   symm
   refine qdA fun w h1 h2 => ?_
   rw [hget, if_neg (by omega), if_neg (by omega), if_neg (by omega)]
theorem bg_last : ∀ {e : List Ex} {p : Int}, 0 < (bg p e).length → (bkAt (bg p e) ((bg p e).length - 1)).2.2 = true := by
 intro e
 induction e with
 | nil => intro p h; simp [bg] at h
 | cons x r ih =>
  intro p _
  by_cases hr : (bg (x.1 + x.2.1) r).length = 0
  ·simp only [bg, ql5, qlE, hr]
   unfold bkAt
   rw [qlo, qlN (by omega)]
   simp
  ·have := ih (p := x.1 + x.2.1) (by omega)
   simp only [bg, ql5, qlE]
   unfold bkAt at this ⊢
   rw [qlo] at this ⊢
   rw [qlN (by omega), show (gapB p x.1).length + ((bg (x.1 + x.2.1) r).length + 1) - 1 - (gapB p x.1).length = ((bg (x.1 + x.2.1) r).length - 1) + 1 by omega, qmb]
   exact this
theorem qkn {e1 e2 : List Ex} {x : Ex} (hok : ExOK words 0 (e1 ++ x :: e2)) {i : Nat} (hi : i = (bg 0 e1).length + (gapB (endX 0 e1) x.1).length) :
  (bkAt (blkX words (e1 ++ x :: e2)) (mFrom (blkX words (e1 ++ x :: e2)) i)).1 = endX 0 e1 ∧
  sumTo (blkX words (e1 ++ x :: e2)) (mFrom (blkX words (e1 ++ x :: e2)) i) (mTo (blkX words (e1 ++ x :: e2)) i - mFrom (blkX words (e1 ++ x :: e2)) i) = startX words e2 - endX 0 e1 := by
 obtain ⟨hp1, hok2⟩ := qdq.1 hok
 obtain ⟨h1, h2, h3, h4⟩ := qdG hok2
 have hs := qeo h4
 have hL : blkX words (e1 ++ x :: e2) = bg 0 e1 ++ (gapB (endX 0 e1) x.1 ++ ((x.1, x.2.1, true) :: (gapB (x.1 + x.2.1) (startX words e2) ++ tailB words e2))) := by
  rw [qcR]
  show bg 0 e1 ++ (gapB (endX 0 e1) x.1 ++ ((x.1, x.2.1, true) :: (bg (x.1 + x.2.1) e2 ++ gapB (endX (x.1 + x.2.1) e2) words))) = _
  rw [qes]
 have at0 : ∀ j, bkAt (blkX words (e1 ++ x :: e2)) ((bg 0 e1).length + j) = bkAt (gapB (endX 0 e1) x.1 ++ ((x.1, x.2.1, true) :: (gapB (x.1 + x.2.1) (startX words e2) ++ tailB words e2))) j := by
  intro j
  rw [hL]
  unfold bkAt
  rw [qlo, qlN (by omega), Nat.add_sub_cancel_left, ← qlo]
 have hlen : (blkX words (e1 ++ x :: e2)).length = (bg 0 e1).length + ((gapB (endX 0 e1) x.1).length + (1 + ((gapB (x.1 + x.2.1) (startX words e2)).length + (tailB words e2).length))) := by
  rw [hL]; simp; omega
 have tl : (bkAt (tailB words e2) 0).2.2 = false → (tailB words e2).length = 0 := by
  cases e2 with
  | nil => intro _; rfl
  | cons y r => intro h; simp [tailB, bkAt] at h
 have last : 0 < (bg 0 e1).length → (bkAt (blkX words (e1 ++ x :: e2)) ((bg 0 e1).length - 1)).2.2 = true := by
  intro h
  have := bg_last h
  rw [hL]
  unfold bkAt at this ⊢
  rw [qlo] at this ⊢
  rw [qlX (by omega)]
  exact this
 generalize blkX words (e1 ++ x :: e2) = L at *
 by_cases g1 : endX 0 e1 < x.1
 ·have gl : gapB (endX 0 e1) x.1 = [(endX 0 e1, x.1 - endX 0 e1, false)] := by unfold gapB; rw [if_pos g1]
  rw [gl] at at0 hlen hi
  simp only [qlE, qmv] at hi hlen
  have a0 := at0 0
  have a1 := at0 1
  have a2 := at0 2
  simp only [ql3, ql8] at a0 a1 a2
  have b0 : bkAt L ((bg 0 e1).length + 0) = (endX 0 e1, x.1 - endX 0 e1, false) := a0
  have b1 : bkAt L ((bg 0 e1).length + 1) = (x.1, x.2.1, true) := a1
  have hf : mFrom L i = (bg 0 e1).length := by
   unfold mFrom
   rw [if_pos ⟨by omega, by rw [show i - 1 = (bg 0 e1).length + 0 by omega, b0]⟩]; omega
  by_cases g2 : x.1 + x.2.1 < startX words e2
  ·have gl2 : gapB (x.1 + x.2.1) (startX words e2) = [(x.1 + x.2.1, startX words e2 - (x.1 + x.2.1), false)] := by unfold gapB; rw [if_pos g2]
   rw [gl2] at a2 hlen
   have b2 : bkAt L ((bg 0 e1).length + 2) = (x.1 + x.2.1, startX words e2 - (x.1 + x.2.1), false) := a2
   simp only [qlE, qmv] at hlen
   have ht : mTo L i = i + 2 := by
    unfold mTo
    rw [if_pos ⟨by omega, by rw [show i + 1 = (bg 0 e1).length + 2 by omega, b2]⟩]
   rw [hf, ht, show i + 2 - (bg 0 e1).length = 3 by omega]
   refine ⟨by rw [show (bg 0 e1).length = (bg 0 e1).length + 0 by omega, b0], ?_⟩
   simp only [sumTo, b0, b1, b2]; omega
  ·have gl2 : gapB (x.1 + x.2.1) (startX words e2) = [] := by unfold gapB; rw [if_neg g2]
   rw [gl2] at a2 hlen
   have b2 : bkAt L ((bg 0 e1).length + 2) = bkAt (tailB words e2) 0 := a2
   simp only [qmv] at hlen
   have ht : mTo L i = i + 1 := by
    unfold mTo
    rw [if_neg]
    intro ⟨c1, c2⟩
    rw [show i + 1 = (bg 0 e1).length + 2 by omega, b2] at c2
    have := tl c2; omega
   rw [hf, ht, show i + 1 - (bg 0 e1).length = 2 by omega]
   refine ⟨by rw [show (bg 0 e1).length = (bg 0 e1).length + 0 by omega, b0], ?_⟩
   simp only [sumTo, b0, b1]; omega
 ·have gl : gapB (endX 0 e1) x.1 = [] := by unfold gapB; rw [if_neg g1]
  rw [gl] at at0 hlen hi
  simp only [qmv] at hi hlen
  have a0 := at0 0
  have a1 := at0 1
  simp only [ql8] at a0 a1
  have b0 : bkAt L ((bg 0 e1).length + 0) = (x.1, x.2.1, true) := a0
  have hf : mFrom L i = (bg 0 e1).length := by
   unfold mFrom
   rw [if_neg]
   ·omega
   ·intro ⟨c1, c2⟩
    rw [show i - 1 = (bg 0 e1).length - 1 by omega, last (by omega)] at c2
    cases c2
  by_cases g2 : x.1 + x.2.1 < startX words e2
  ·have gl2 : gapB (x.1 + x.2.1) (startX words e2) = [(x.1 + x.2.1, startX words e2 - (x.1 + x.2.1), false)] := by unfold gapB; rw [if_pos g2]
   rw [gl2] at a1 hlen
   have b1 : bkAt L ((bg 0 e1).length + 1) = (x.1 + x.2.1, startX words e2 - (x.1 + x.2.1), false) := a1
   simp only [qlE, qmv] at hlen
   have ht : mTo L i = i + 2 := by
    unfold mTo
    rw [if_pos ⟨by omega, by rw [show i + 1 = (bg 0 e1).length + 1 by omega, b1]⟩]
   rw [hf, ht, show i + 2 - (bg 0 e1).length = 2 by omega]
   refine ⟨by rw [show (bg 0 e1).length = (bg 0 e1).length + 0 by omega, b0]; simp only; omega, ?_⟩
   simp only [sumTo, b0, b1]; omega
  ·have gl2 : gapB (x.1 + x.2.1) (startX words e2) = [] := by unfold gapB; rw [if_neg g2]
   rw [gl2] at a1 hlen
   have b1 : bkAt L ((bg 0 e1).length + 1) = bkAt (tailB words e2) 0 := a1
   simp only [qmv] at hlen
   have ht : mTo L i = i + 1 := by
    unfold mTo
    rw [if_neg]
    intro ⟨c1, c2⟩
    rw [show i + 1 = (bg 0 e1).length + 1 by omega, b1] at c2
    have := tl c2; omega
   rw [hf, ht, show i + 1 - (bg 0 e1).length = 1 by omega]
   refine ⟨by rw [show (bg 0 e1).length = (bg 0 e1).length + 0 by omega, b0]; simp only; omega, ?_⟩
   simp only [sumTo, b0]; omega
theorem MR.free {e1 e2 : List Ex} {x : Ex} (h : MR words (e1 ++ x :: e2) ws) : MR words (e1 ++ e2) (applyE ws [(endX 0 e1, wordN (startX words e2 - endX 0 e1) false)]) := by
 have hok := h.ok
 obtain ⟨hp1, hok2⟩ := qdq.1 hok
 obtain ⟨h1, h2, h3, h4⟩ := qdG hok2
 have hs := qeo h4
 have hst := qfR h4
 have hge := (qdI hp1).1
 have hrange := h.range
 obtain ⟨p, hp⟩ := qlI hge
 have hget : ∀ w, (applyE ws [(endX 0 e1, wordN (startX words e2 - endX 0 e1) false)]).getD w 0 = if w = p then wordN (startX words e2 - endX 0 e1) false else ws.getD w 0 := by
  intro w
  have hlen := h.len
  rw [hp]
  exact qeM w (by omega)
 have hmS : mayS (startX words e2 - endX 0 e1) := by unfold mayS; omega
 refine ⟨by rw [qaz]; exact h.len, h.mw, qgw _ _ h.u fun e he => ?_, qdq.2 ⟨hp1, qhz h4 (by omega)⟩, ?_, ?_⟩
 ·simp only [qlL, List.not_mem_nil, or_false] at he
  subst he; exact wordN_u _ _
 ·intro b hb
  rw [qcR] at hb
  simp only [qlD] at hb
  rcases hb with hb | hb | hb
  ·have hm := bg_mem hp1 b hb
   rw [hget, if_neg (by omega)]
   exact h.hd b (by rw [qcR]; simp [hb])
  ·unfold gapB at hb
   split at hb
   ·simp only [qlL, List.not_mem_nil, or_false] at hb
    subst hb
    simp only
    rw [hget, hp, qlp, if_pos rfl, ← hp]
    exact qeD (b := (endX 0 e1, startX words e2 - endX 0 e1, false)) hmS
   ·cases hb
  ·have hm := qfh h4 b hb
   rw [hget, if_neg (by omega)]
   refine h.hd b ?_
   rw [qcR]
   simp only [tailB, qlD, qlL]
   right; right; right
   have : b ∈ bg (x.1 + x.2.1) e2 ++ gapB (endX (x.1 + x.2.1) e2) words := by
    rw [qes]; simp [hb]
   simpa using this
 ·intro y hy
  have hym : y ∈ e1 ++ x :: e2 := by simp at hy ⊢; rcases hy with h | h <;> simp [h]
  rw [h.by8 y hym]
  have hy0 := h.mem hym
  symm
  refine qdA fun w w1 w2 => ?_
  rw [hget, if_neg]
  intro hw
  rw [qlD] at hy
  rcases hy with hy | hy
  ·have := ex_mem hp1 y hy; omega
  ·have := ex_mem h4.1 y hy; omega
def putL (l : List Int) (k : Nat) (bs : List Int) : List Int := l.take k ++ bs ++ l.drop (k + bs.length)
theorem qk1 {l bs : List Int} {k i : Nat} (h : k + bs.length ≤ l.length) : (putL l k bs)[i]? = if k ≤ i ∧ i < k + bs.length then bs[i - k]? else l[i]? := by
 unfold putL
 by_cases h1 : i < k
 ·rw [if_neg (by omega), qmL, qlX (by simp; omega), List.getElem?_take_of_lt h1]
 ·by_cases h2 : i < k + bs.length
  ·rw [if_pos ⟨by omega, h2⟩, qmL, qlN (by simp; omega), qlX (by simp; omega)]
   congr 1; simp; omega
  ·rw [if_neg (by omega), qlN (by simp; omega), qme]
   congr 1; simp; omega
theorem MR.write {e1 e2 : List Ex} {x : Ex} {off : Nat} {bs : List Int} (h : MR words (e1 ++ x :: e2) ws) (h8 : qbB bs) (h1 : (x.1.toNat + 1) * 8 ≤ off) (h2 : off + bs.length ≤ (x.1.toNat + x.2.1.toNat) * 8) :
  MR words (e1 ++ (x.1, x.2.1, putL x.2.2 (off - (x.1.toNat + 1) * 8) bs) :: e2) (putBs ws off bs) := by
 have hx := h.mem (x := x) (by simp)
 have hlen := h.len
 have hfit : off + bs.length ≤ ws.length * 8 := by omega
 have hbx : ∀ e : List Ex, bg 0 (e1 ++ (x.1, x.2.1, putL x.2.2 (off - (x.1.toNat + 1) * 8) bs) :: e2) = bg 0 (e1 ++ x :: e2) := fun _ => by rw [bg_app, bg_app]; rfl
 have hex : endX 0 (e1 ++ (x.1, x.2.1, putL x.2.2 (off - (x.1.toNat + 1) * 8) bs) :: e2) = endX 0 (e1 ++ x :: e2) := by rw [qfl, qfl]; rfl
 have hbl : blkX words (e1 ++ (x.1, x.2.1, putL x.2.2 (off - (x.1.toNat + 1) * 8) bs) :: e2) = blkX words (e1 ++ x :: e2) := by unfold blkX; rw [hbx [], hex]
 have hok := h.ok
 obtain ⟨hp1, hok2⟩ := qdq.1 hok
 obtain ⟨o1, o2, o3, o4⟩ := qdG hok2
 have hok' : ExOK words 0 (e1 ++ (x.1, x.2.1, putL x.2.2 (off - (x.1.toNat + 1) * 8) bs) :: e2) := qdq.2 ⟨hp1, qhn o1 o2 o3 o4⟩
 -- words out of the block are as they were
 have hfar : ∀ w, (w ≤ x.1.toNat ∨ x.1.toNat + x.2.1.toNat ≤ w) → (putBs ws off bs).getD w 0 = ws.getD w 0 := fun w hw => qeO _ _ _ _ (by omega) hfit
 have hbyte := fun p (hp : p / 8 < ws.length) => qif bs ws off p h.u h8 hfit hp
 refine ⟨by rw [qcK]; exact h.len, h.mw, qee _ _ _ h.u, hok', ?_, ?_⟩
 ·rw [hbl]
  intro b hb
  rw [hfar b.1.toNat ?_]
  ·exact h.hd b hb
  ·have hm := h.may.mem hb
   rw [qcR] at hb
   simp only [qlD, startX, tailB, qlL] at hb
   rcases hb with hb | hb | rfl | hb
   ·have := bg_mem hp1 b hb; omega
   ·unfold gapB at hb
    split at hb
    ·simp only [qlL, List.not_mem_nil, or_false] at hb; subst hb; simp only; omega
    ·cases hb
   ·simp only; omega
   ·have : b ∈ gapB (x.1 + x.2.1) (startX words e2) ++ tailB words e2 := by rw [← qes]; simpa using hb
    rw [qlD] at this
    rcases this with hb | hb
    ·unfold gapB at hb
     split at hb
     ·simp only [qlL, List.not_mem_nil, or_false] at hb; subst hb; simp only; omega
     ·cases hb
    ·have := qfh o4 b hb
     have := qeo o4; omega
 ·intro y hy
  rw [qlD, qlL] at hy
  have other : y ∈ e1 ++ x :: e2 → (y.1 + y.2.1 ≤ x.1 ∨ x.1 + x.2.1 ≤ y.1) → y.2.2 = bytesOf (putBs ws off bs) ((y.1.toNat + 1) * 8) ((y.2.1.toNat - 1) * 8) := by
   intro hy ho
   have hy0 := h.mem hy
   rw [h.by8 y hy]
   symm
   exact qdA fun w w1 w2 => hfar w (by omega)
  rcases hy with hy | rfl | hy
  ·refine other (by simp [hy]) (.inl ?_)
   have := ex_mem hp1 y hy; omega
  ·simp only
   have hb8 := h.by8 x (by simp)
   have hbl' := h.blen (x := x) (by simp)
   apply qlM
   intro i
   rw [qk1 (by omega)]
   by_cases hi : i < (x.2.1.toNat - 1) * 8
   ·unfold bytesOf
    rw [qlz, qlP hi, qlO, hbyte _ (by omega)]
    by_cases hin : off - (x.1.toNat + 1) * 8 ≤ i ∧ i < off - (x.1.toNat + 1) * 8 + bs.length
    ·rw [if_pos hin, if_pos (by omega)]
     rw [show (x.1.toNat + 1) * 8 + i - off = i - (off - (x.1.toNat + 1) * 8) by omega]
     rw [qlo, qln (by omega)]; rfl
    ·rw [if_neg hin, if_neg (by omega), hb8]
     unfold bytesOf
     rw [qlz, qlP hi]; rfl
   ·rw [if_neg (by omega), qlt (by omega), qlt (by rw [qeT]; omega)]
  ·refine other (by simp [hy]) (.inr ?_)
   have := ex_mem o4.1 y hy; omega
end
def exV (x : Ex × Nat) : List Value := [.int .i64 x.1.1, .int .i64 x.1.2.1, .slice (some ⟨x.2, 0, none⟩) x.1.2.2.length 1]
def Kp (F : Nat → Prop) (H H' : AH) : Prop := H.size ≤ H'.size ∧ ∀ b, b < H.size → ¬ F b → H'.get b = H.get b
def Up (F : Nat → Prop) (H : AH) (F' : Nat → Prop) (H' : AH) : Prop := Kp F H H' ∧ ∀ b, F' b → F b ∨ (H.size ≤ b ∧ b < H'.size)
def Dj (F G : Nat → Prop) : Prop := ∀ b, F b → G b → False
def Lt (F : Nat → Prop) (H : AH) : Prop := ∀ b, F b → b < H.size
theorem qc.kp {F : Nat → Prop} {H H' : AH} (h : qc H H') : Kp F H H' := ⟨h.1, fun b hb _ => h.2 b hb⟩
theorem Kp.refl {F : Nat → Prop} (H : AH) : Kp F H H := ⟨qlu _, fun _ _ _ => rfl⟩
theorem Up.refl {F : Nat → Prop} (H : AH) : Up F H F H := ⟨Kp.refl H, fun _ h => .inl h⟩
theorem Up.get {F F' G : Nat → Prop} {H H' : AH} (h : Up F H F' H') (hd : Dj F G) (hl : Lt G H) {b : Nat} (hb : G b) : H'.get b = H.get b := h.1.2 b (hl b hb) (fun hh => hd b hh hb)
structure MdAt (F : Nat → Prop) (H : AH) (p : Nat) (words : Int) (s : Sl) (E : List (Ex × Nat)) (root : Int) : Prop where
 obj : H.get p = ⟨[.int .i64 words, s.val, .int .i64 root], .rw, 0⟩
 own : Own 0 H s 3 exV E
 bys : ∀ x ∈ E, H.get x.2 = ⟨x.1.2.2.flatMap bU, .rw, 1⟩
 fp : F p
 fs : ∀ a, s.a = some a → F a.block
 fx : ∀ x ∈ E, F x.2
 lt : Lt F H
 np : ∀ a, s.a = some a → a.block ≠ p
 nx : ∀ x ∈ E, x.2 ≠ p ∧ ∀ a, s.a = some a → a.block ≠ x.2
 nd : (E.map (·.2)).Nodup
def MW (F : Nat → Prop) (H : AH) (p : Nat) (ws : List Int) (root : Int) : Prop := ∃ s E, MdAt F H p ws.length s E root ∧ MR ws.length (E.map (·.1)) ws
section
variable {F : Nat → Prop} {H : AH} {p : Nat} {words root : Int} {s : Sl} {E : List (Ex × Nat)}
def blkL (ws : List Int) : List Bk := (blocksN ws).getD []
def fitO (ws : List Int) (n : Int) : List Int := (fitsL (blkL ws) (needN n)).map fun i => offN (bkAt (blkL ws) i).1
theorem MW.blk {ws : List Int} (h : MR words (E.map (·.1)) ws) : blkL ws = blkX words (E.map (·.1)) := by unfold blkL; rw [h.blocks]; rfl
end
theorem qlb {off : Int} : ∀ {l : List Bk} {i : Nat}, isN off l i = -1 → ∀ b ∈ l, ¬ (b.2.2 = true ∧ offN b.1 = off) := by
 intro l
 induction l with
 | nil => intro i _ b hb; cases hb
 | cons a r ih =>
  intro i h b hb
  unfold isN at h
  split at h
  ·omega
  ·rename_i hn
   rw [qlL] at hb
   rcases hb with rfl | hb
   ·exact hn
   ·exact ih h b hb
section
variable {words off : Int} {e e1 e2 : List Ex} {x : Ex} {ws : List Int}
theorem MR.offx (h : MR words e ws) (hx : x ∈ e) : offN x.1 = (x.1 + 1) * 8 := by
 have := h.mem hx
 have := h.range
 unfold offN; rw [if_pos (by omega)]
theorem MR.is_none (h : MR words e ws) (hn : ∀ x ∈ e, (x.1 + 1) * 8 ≠ off) : isN off (blkX words e) 0 = -1 := by
 rcases qdF off (blkX words e) 0 with h0 | ⟨j, h1, h2, h3, h4⟩
 ·exact h0
 ·exfalso
  obtain ⟨x, hx, hb⟩ := qiw (qlx (qas h2)) h3
  rw [hb] at h4
  simp only at h4
  rw [h.offx hx] at h4
  exact hn x hx h4
theorem MR.is_at (h : MR words (e1 ++ x :: e2) ws) (ho : (x.1 + 1) * 8 = off) : isN off (blkX words (e1 ++ x :: e2)) 0 = (((bg 0 e1).length + (gapB (endX 0 e1) x.1).length : Nat) : Int) := by
 have hxm : x ∈ e1 ++ x :: e2 := by simp
 rcases qdF off (blkX words (e1 ++ x :: e2)) 0 with h0 | ⟨j, h1, h2, h3, h4⟩
 ·exfalso
  exact qlb h0 _ (qiC hxm) ⟨rfl, by simp only; rw [h.offx hxm]; exact ho⟩
 ·obtain ⟨e1', y, e2', hE, hj, hb⟩ := qgE (qas h2) h3
  have hb' : bkAt (blkX words (e1 ++ x :: e2)) j = (y.1, y.2.1, true) := hb
  rw [hb'] at h4
  simp only at h4
  have hym : y ∈ e1 ++ x :: e2 := by rw [hE]; simp
  rw [h.offx hym] at h4
  obtain ⟨u1, u2, u3⟩ := ex_uniq h.ok.1 hE (show x.1 = y.1 by omega)
  rw [h1, hj, u1, u2]
  congr 1; omega
theorem MR.imgFree_none (h : MR words e ws) (hn : ∀ x ∈ e, (x.1 + 1) * 8 ≠ off) : imgFree ws off = ([], 1) := by
 unfold imgFree
 rw [h.blocks]
 simp only
 rw [h.is_none hn, if_pos (by omega)]
theorem MR.imgFree_at (h : MR words (e1 ++ x :: e2) ws) (ho : (x.1 + 1) * 8 = off) : imgFree ws off = ([(endX 0 e1, wordN (startX words e2 - endX 0 e1) false)], 0) := by
 unfold imgFree
 rw [h.blocks]
 simp only
 rw [h.is_at ho, if_neg (by omega), qlp]
 obtain ⟨m1, m2⟩ := qkn h.ok rfl
 rw [m1, m2]
theorem MR.within (h : MR words e ws) {n : Int} : withinN (blkX words e) off n ↔ 0 ≤ n ∧ n ≤ 448 ∧ ∃ x ∈ e, (x.1 + 1) * 8 ≤ off ∧ off + n ≤ (x.1 + x.2.1) * 8 := by
 unfold withinN inB
 constructor
 ·rintro ⟨h1, h2, b, hb, h3, h4, h5, h6⟩
  obtain ⟨x, hx, rfl⟩ := qiw hb h3
  simp only at h4 h5 h6
  rw [h.offx hx] at h4
  exact ⟨h1, h2, x, hx, by omega⟩
 ·rintro ⟨h1, h2, x, hx, h3, h4⟩
  refine ⟨h1, h2, _, qiC hx, rfl, ?_⟩
  simp only
  rw [h.offx hx]; omega
end
def aFree (ws : List Int) (root off : Int) : Int × List Int := if (imgFree ws off).2 ≠ 0 then ((imgFree ws off).2, ws) else if root = off then (5, ws) else (0, applyE ws (imgFree ws off).1)
def aWrite (ws : List Int) (off : Int) (bs : List Int) : Int × List Int := if (imgWrite ws off bs).2 = 0 then (0, applyE ws (imgWrite ws off bs).1) else ((imgWrite ws off bs).2, ws)
def aRoot (ws : List Int) (root off : Int) : Int × Int := if off ≠ 0 ∧ isN off (blkL ws) 0 < 0 then (1, root) else (0, off)
def aRead (ws : List Int) (off n : Int) : List Int × Int := if withinN (blkL ws) off n then (bytesOf ws off.toNat n.toNat, 0) else ([], 1)
section
variable {F : Nat → Prop} {H : AH} {p : Nat} {ws : List Int} {root : Int}
theorem qkC {n : Int} : (fitO ws n).length ≤ (blkL ws).length := by
 unfold fitO fitsL
 rw [qmm]
 split
 ·exact Nat.zero_le _
 ·exact qdS
end
section
variable {F : Nat → Prop} {H : AH} {p : Nat} {ws : List Int} {root : Int}
theorem qik {ws : List Int} {o m a n : Nat} (h : a + n ≤ m) : ((bytesOf ws o m).drop a).take n = bytesOf ws (o + a) n := by
 unfold bytesOf
 apply qlM
 intro i
 rw [qmd]
 by_cases hi : i < n
 ·rw [if_pos hi, qme, qlz, qlz, qlP (by omega), qlP hi, qlO, qlO]
  congr 2; omega
 ·rw [if_neg hi, qlt (by simp; omega)]
end
section
variable {F : Nat → Prop} {H : AH} {p : Nat} {ws : List Int} {root words : Int}
theorem qkz {off : Int} {bs : List Int} {E : List (Ex × Nat)} (hR : MR ws.length (E.map (·.1)) ws) (hw : withinN (blkL ws) off bs.length) : aWrite ws off bs = (0, putBs ws off.toNat bs) := by
 unfold aWrite imgWrite
 have hb := hR.blocks
 have he : blkL ws = blkX ws.length (E.map (·.1)) := MW.blk hR
 rw [hb]
 rw [he] at hw
 simp only
 rw [if_pos hw]
 simp only [if_true]
 have hin := qcN hR.may hw
 unfold inside at hin
 rw [qio (by omega)]
theorem qjt {off : Int} {bs : List Int} {E : List (Ex × Nat)} (hR : MR ws.length (E.map (·.1)) ws) (hw : ¬ withinN (blkL ws) off bs.length) : aWrite ws off bs = (1, ws) := by
 unfold aWrite imgWrite
 have hb := hR.blocks
 have he : blkL ws = blkX ws.length (E.map (·.1)) := MW.blk hR
 rw [hb]
 rw [he] at hw
 simp only
 rw [if_neg hw]
 simp
end
def fitI (ws : List Int) (n : Int) : List Nat := fitsL (blkL ws) (needN n)
def aAlloc (ws : List Int) (n off : Int) : Bool × List Int :=
 match (fitI ws n).find? (fun i => offN (bkAt (blkL ws) i).1 == off) with
 | some i => (true, applyE ws (carveE (bkAt (blkL ws) i) (needN n)))
 | none => (false, ws)
theorem qfD (ws : List Int) (n off : Int) : (off ∉ fitO ws n ∧ aAlloc ws n off = (false, ws)) ∨
  (off ∈ fitO ws n ∧ ∃ i, i ∈ fitI ws n ∧ offN (bkAt (blkL ws) i).1 = off ∧ aAlloc ws n off = (true, applyE ws (carveE (bkAt (blkL ws) i) (needN n)))) := by
 unfold aAlloc
 cases hf : (fitI ws n).find? (fun i => offN (bkAt (blkL ws) i).1 == off) with
 | none =>
  refine .inl ⟨fun hm => ?_, rfl⟩
  unfold fitO at hm
  rw [ql2] at hm
  obtain ⟨i, hi, he⟩ := hm
  have := List.find?_eq_none.1 hf i hi
  exact this (by simpa using he)
 | some i =>
  have h1 := List.mem_of_find?_eq_some hf
  have h2 := List.find?_some hf
  have h2 : offN (bkAt (blkL ws) i).1 = off := by simpa using h2
  refine .inr ⟨?_, i, h1, h2, rfl⟩
  unfold fitO
  rw [ql2]
  exact ⟨i, h1, h2⟩
theorem qge {ws : List Int} {n : Int} {i : Nat} (h : i ∈ fitI ws n) : i < (blkL ws).length ∧ (bkAt (blkL ws) i).2.2 = false ∧ needN n ≤ (bkAt (blkL ws) i).2.1 ∧ 2 ≤ needN n := by
 unfold fitI fitsL at h
 split at h
 ·cases h
 ·have := qdt h
  exact ⟨this.1, this.2.1, this.2.2, by omega⟩
theorem qkR (n : Int) : 0 ≤ needN n ∧ needN n ≤ 57 := by unfold needN; split <;> omega
def atN (pt : Int) : List Bk → Nat → Int
 | [], _ => -1
 | b :: r, i => if b.1 ≤ pt ∧ 0 < b.2.1 ∧ pt - b.1 < b.2.1 then (i : Int) else atN pt r (i + 1)
theorem atN_at {words : Int} : ∀ {l : List Bk} {pt : Int} {pu : Bool} {i j : Nat}, chainB words pt pu l → i < l.length → atN (bkAt l i).1 l j = ((j + i : Nat) : Int) := by
 intro l
 induction l with
 | nil => intro pt pu i j _ h; simp at h
 | cons b r ih =>
  intro pt pu i j h hi
  have hm := chainB.mem h
  have hb := hm b (by simp)
  obtain ⟨h1, h2, h3, h4, h5⟩ := h
  unfold mayS at h2
  cases i with
  | zero =>
   show atN b.1 (b :: r) j = _
   unfold atN
   rw [if_pos (by omega)]; rfl
  | succ i =>
   show atN (bkAt r i).1 (b :: r) j = _
   have hi' : i < r.length := by simpa using hi
   have hm2 := chainB.mem h5 _ (qlx (qas hi'))
   unfold atN
   rw [if_neg (by omega), ih h5 hi']
   congr 1; omega
def Ok (ws : List Int) : Prop := ∃ e, MR ws.length e ws
theorem Ok.len {ws : List Int} (h : Ok ws) : 8 ≤ ws.length ∧ ws.length ≤ 512 ∧ qaE ws := by obtain ⟨e, h⟩ := h; have := h.range; exact ⟨by omega, by omega, h.u⟩
theorem Ok.blocks {ws : List Int} (h : Ok ws) : blocksN ws = some (blkL ws) := by obtain ⟨e, h⟩ := h; unfold blkL; rw [h.blocks]; rfl
theorem Ok.may {ws : List Int} (h : Ok ws) : MayB (blkL ws) ws.length := qbl h.blocks
theorem Ok.blen {ws : List Int} (h : Ok ws) : (blkL ws).length ≤ 256 ∧ ∀ b ∈ blkL ws, 0 ≤ b.1 ∧ b.1 + b.2.1 ≤ ws.length ∧ 2 ≤ b.2.1 := by
 have h1 := h.may.len
 have h2 := h.len
 refine ⟨by omega, fun b hb => ?_⟩
 have := h.may.mem hb
 omega
structure RW (F : Nat → Prop) (H : AH) (p : Nat) (ws : List Int) (root : Int) (s : Sl) : Prop where
 obj : H.get p = ⟨[s.val, .int .i64 root], .rw, 0⟩
 own : Own 0 H s 1 wU ws
 fp : F p
 fs : ∀ a, s.a = some a → F a.block
 lt : Lt F H
def RM (F : Nat → Prop) (H : AH) (p : Nat) (ws : List Int) (root : Int) : Prop := ∃ s, RW F H p ws root s
section
variable {F : Nat → Prop} {H : AH} {p : Nat} {ws : List Int} {root : Int}
theorem RW.rows {s : Sl} (h : RW F H p ws root s) : qlC H s 1 wU ws := h.own.rows (fun _ => rfl) (fun _ => rfl)
theorem RW.c0 {s : Sl} (h : RW F H p ws root s) : AH.cell? H (qlm ⟨p, 0, none⟩ 0) = some (.slice s.a s.n s.k) := by simp [qk, AH.cell?, h.obj, Sl.val]
theorem RW.c1 {s : Sl} (h : RW F H p ws root s) : AH.cell? H (qlm ⟨p, 0, none⟩ 1) = some (.int .i64 root) := by simp [qk, AH.cell?, h.obj]
theorem RW.congr {H' : AH} {s : Sl} (h : RW F H p ws root s) (hs : H.size ≤ H'.size) (hg : ∀ b, F b → H'.get b = H.get b) : RW F H' p ws root s := by
 refine ⟨by rw [hg p h.fp]; exact h.obj, ?_, h.fp, h.fs, fun b hb => by have := h.lt b hb; omega⟩
 rcases h.own with h0 | ⟨b, h1, h2, h3, h4⟩
 ·exact .inl h0
 ·refine .inr ⟨b, h1, h2, by omega, ?_⟩
  rw [hg b (h.fs ⟨b, 0, none⟩ (by rw [h1]))]; exact h4
theorem RW.keeps {H' : AH} {s : Sl} (h : RW F H p ws root s) (hk : qc H H') : RW F H' p ws root s := h.congr hk.1 fun b hb => hk.2 b (h.lt b hb)
theorem RM.lt (h : RM F H p ws root) : Lt F H := by obtain ⟨s, h⟩ := h; exact h.lt
theorem RM.congr {H' : AH} (h : RM F H p ws root) (hs : H.size ≤ H'.size) (hg : ∀ b, F b → H'.get b = H.get b) : RM F H' p ws root := by
 obtain ⟨s, h⟩ := h
 exact ⟨s, h.congr hs hg⟩
theorem RM.keeps {H' : AH} (h : RM F H p ws root) (hk : qc H H') : RM F H' p ws root := h.congr hk.1 fun b hb => hk.2 b (h.lt b hb)
theorem RM.up {F1 F1' : Nat → Prop} {H' : AH} (h : RM F H p ws root) (hu : Up F1 H F1' H') (hd : Dj F1 F) : RM F H' p ws root := h.congr hu.1.1 fun b hb => hu.get hd h.lt hb
theorem RW.put_words {H1 : AH} {s s' : Sl} {ws' : List Int} (h : RW F H p ws root s) (hk : qc H H1) (hO : Own H.size H1 s' 1 wU ws') :
  H1.canPut (qlm ⟨p, 0, none⟩ 0) 1 ∧ (∀ F' H', F' = (fun b => F b ∨ (H.size ≤ b ∧ b < H1.size)) → H' = H1.put (qlm ⟨p, 0, none⟩ 0) [s'.val] → RM F' H' p ws' root ∧ Up F H F' H') := by
 have hp := h.lt p h.fp
 have hobj : H1.get p = ⟨[s.val, .int .i64 root], .rw, 0⟩ := by rw [hk.2 p hp]; exact h.obj
 rw [qk]
 have hg : ∀ b, b ≠ p → (H1.put ⟨p, 0 + 0, none⟩ [s'.val]).get b = H1.get b := fun b hb => by simp [AH.put, qT, hb]
 refine ⟨⟨rfl, by simp [hobj], by simp [hobj]⟩, ?_⟩
 rintro F' H' rfl rfl
 refine ⟨⟨s', by simp [AH.put, qT, hobj, setMany], ?_, .inl h.fp, fun a ha => ?_, fun b hb => ?_⟩, ⟨⟨hk.1, fun b hb hn => ?_⟩, fun b hb => hb⟩⟩
 ·rcases hO with h0 | ⟨b, h1, h2, h3, h4⟩
  ·exact .inl h0
  ·refine .inr ⟨b, h1, by omega, h3, ?_⟩
   rw [hg b (by omega)]; exact h4
 ·rcases hO with ⟨h0, _⟩ | ⟨b, h1, h2, h3, h4⟩
  ·rw [h0] at ha; cases ha
  ·rw [h1] at ha
   injection ha with ha
   subst ha
   exact .inr ⟨h2, h3⟩
 ·rcases hb with hb | hb
  ·have := h.lt b hb; have := hk.1; show b < H1.size; omega
  ·exact hb.2
 ·rw [hg b (fun he => hn (he ▸ h.fp)), hk.2 b hb]
theorem qa8.s {n : Int} {k : Option Addr → AH → Prop} (h0 : ¬ mayW n → k none H) (h1 : mayW n → ∀ F' p' H', qc H H' → Up (fun _ => False) H F' H' → RM F' H' p' (firstN n) 0 → k (some ⟨p', 0, none⟩) H') : qa8 n H k := by
 refine qa8.link ?_
 unfold qa8.b
 refine qau.s ?_
 by_cases hm : mayW n
 rotate_left 1
 ·rw [decide_eq_false hm, qlK, qf]
  exact h0 hm
 rw [decide_eq_true hm, qlA, qa]
 refine qbs.s ?_
 intro s7 H7 hk7 hO7
 rw [qv]
 have hk := hk7.push ⟨[s7.val, .int .i64 0], .rw, 0⟩
 have hge := hk7.1
 refine h1 hm (fun b => H.size ≤ b ∧ b < H7.size + 1) H7.size _ hk ⟨qc.kp hk, fun b hb => .inr hb⟩ ⟨s7, by rw [qs, if_pos rfl], ?_, ⟨hge, by omega⟩, fun a ha => ?_, fun b hb => hb.2⟩
 ·exact qbT (hO7.keep (by simp [qm]) (fun b _ hb => qO (by omega))) (by omega)
 ·rcases hO7 with ⟨h0, _⟩ | ⟨b, h1, h2, h3, h4⟩
  ·rw [h0] at ha; cases ha
  ·rw [h1] at ha
   injection ha with ha
   subst ha
   exact ⟨h2, by simp only; omega⟩
theorem qac.s {k : Sl → AH → Prop} (hok : Ok ws) (hM : RM F H p ws root) (h : ∀ s H', qc H H' → Own H.size H' s 3 bkV (blkL ws) → k s H') : qac (some ⟨p, 0, none⟩) H k := by
 obtain ⟨s, hA⟩ := hM
 have hl := hok.len
 refine qac.link ?_
 unfold qac.b
 rw [qd, hA.c0, qat]
 refine qH.s hA.rows hl.2.2 (by omega) ?_ (fun hb => by rw [hok.blocks] at hb; cases hb)
 intro l hb s' H' hk hO
 rw [hok.blocks] at hb
 injection hb with hb
 subst hb
 exact h s' H' hk hO
theorem qaB.s {off : Int} {k : Int → AH → Prop} (hok : Ok ws) (hM : RM F H p ws root) (h : ∀ F' H', Up F H F' H' → RM F' H' p (aFree ws root off).2 root → k (aFree ws root off).1 H') : qaB (some ⟨p, 0, none⟩) off H k := by
 have hM0 := hM
 obtain ⟨s, hA⟩ := hM
 have hl := hok.len
 refine qaB.link ?_
 unfold qaB.b
 rw [qd, hA.c0, qat]
 refine qaF.s hA.rows hl.2.2 (by omega) ?_
 intro s13 H13 hk13 hO13
 unfold aFree at h
 have hfl : (imgFree ws off).1.length ≤ 1 := by
  unfold imgFree
  split
  ·simp
  ·split <;> simp
 generalize imgFree ws off = r at *
 rw [qi]
 by_cases h0 : r.2 = 0
 rotate_left 1
 ·rw [if_pos (by simpa using h0)]
  rw [if_pos h0] at h
  exact h F H13 ⟨qc.kp hk13, fun b hb => .inl hb⟩ (hM0.keeps hk13)
 rw [if_neg (by simpa using h0)]
 rw [if_neg (by simpa using h0)] at h
 have hA13 := hA.keeps hk13
 rw [qd, hA13.c1, qe, qi]
 by_cases h1 : root = off
 ·rw [if_pos (by simpa using h1)]
  rw [if_pos h1] at h
  exact h F H13 ⟨qc.kp hk13, fun b hb => .inl hb⟩ (hM0.keeps hk13)
 rw [if_neg (by simpa using h1)]
 rw [if_neg h1] at h
 rw [qd, hA13.c0, qat]
 refine qM.s hA13.rows (by omega) (hO13.rows (fun _ => rfl) (fun _ => rfl)) (by omega) ?_
 intro s33 H33 hk33 hO33
 rw [qd]
 obtain ⟨c1, c2⟩ := hA.put_words (hk13.trans hk33) (qbT hO33 hk13.1)
 refine ⟨c1, ?_⟩
 obtain ⟨c3, c4⟩ := c2 _ _ rfl rfl
 exact h _ _ c4 c3
theorem qav.s {off : Int} {x2 : Sl} {bs : List Int} {k : Int → AH → Prop} (hok : Ok ws) (hM : RM F H p ws root) (hoff : isI off) (hb : qlC H x2 1 bU bs) (h8 : qbB bs) (hbl : bs.length ≤ 1000000000000)
  (h : ∀ F' H', Up F H F' H' → RM F' H' p (aWrite ws off bs).2 root → k (aWrite ws off bs).1 H') : qav (some ⟨p, 0, none⟩) off x2 H k := by
 have hM0 := hM
 obtain ⟨s, hA⟩ := hM
 have hl := hok.len
 refine qav.link ?_
 unfold qav.b
 rw [qd, hA.c0, qat]
 refine qaV.s hA.rows hl.2.2 (by omega) hoff hb h8 hbl ?_
 intro s16 H16 hk16 hO16
 unfold aWrite at h
 have hfl : (imgWrite ws off bs).1.length ≤ 1000 := by
  unfold imgWrite
  split
  ·simp
  ·split
   ·rename_i hw
    have := hw.2.1
    unfold editsOf
    rw [qmm, List.length_range]
    unfold touched
    split <;> omega
   ·simp
 generalize imgWrite ws off bs = r at *
 rw [qi]
 by_cases h0 : r.2 = 0
 rotate_left 1
 ·rw [if_neg (by simpa using h0)]
  rw [if_neg h0] at h
  exact h F H16 ⟨qc.kp hk16, fun b hb => .inl hb⟩ (hM0.keeps hk16)
 rw [if_pos (by simpa using h0)]
 rw [if_pos h0] at h
 have hA16 := hA.keeps hk16
 rw [qd, hA16.c0, qat]
 refine qM.s hA16.rows (by omega) (hO16.rows (fun _ => rfl) (fun _ => rfl)) (by omega) ?_
 intro s27 H27 hk27 hO27
 rw [qd]
 obtain ⟨c1, c2⟩ := hA.put_words (hk16.trans hk27) (qbT hO27 hk16.1)
 refine ⟨c1, ?_⟩
 obtain ⟨c3, c4⟩ := c2 _ _ rfl rfl
 rw [h0]
 exact h _ _ c4 c3
theorem qD.s {off : Int} {k : Int → AH → Prop} (hok : Ok ws) (hM : RM F H p ws root) (h : ∀ H', Up F H F H' → RM F H' p ws (aRoot ws root off).2 → k (aRoot ws root off).1 H') : qD (some ⟨p, 0, none⟩) off H k := by
 have hM0 := hM
 obtain ⟨s, hA⟩ := hM
 obtain ⟨hbl, _⟩ := hok.blen
 refine qD.link ?_
 unfold qD.b
 have bad : ∀ H', qc H H' → off ≠ 0 ∧ isN off (blkL ws) 0 < 0 → qD.j1 (some ⟨p, 0, none⟩) off k true H' := by
  intro H' hk hb
  unfold qD.j1
  rw [qf]
  unfold aRoot at h
  rw [if_pos hb] at h
  exact h H' ⟨qc.kp hk, fun b hb => .inl hb⟩ (hM0.keeps hk)
 have good : ∀ H', qc H H' → ¬ (off ≠ 0 ∧ isN off (blkL ws) 0 < 0) → qD.j1 (some ⟨p, 0, none⟩) off k false H' := by
  intro H' hk hb
  unfold qD.j1
  rw [qa, qd]
  unfold aRoot at h
  rw [if_neg hb] at h
  have hA' := hA.keeps hk
  have hobj := hA'.obj
  rw [qk]
  have hg : ∀ b, b ≠ p → (H'.put ⟨p, 0 + 1, none⟩ [.int .i64 off]).get b = H'.get b := fun b hb => by simp [AH.put, qT, hb]
  refine ⟨⟨rfl, by simp [hobj], by simp [hobj]⟩, ?_⟩
  refine h _ ⟨⟨hk.1, fun b hb hn => by rw [hg b (fun he => hn (he ▸ hA.fp)), hk.2 b hb]⟩, fun b hb => .inl hb⟩ ⟨s, by simp [AH.put, qT, hobj, setMany], ?_, hA.fp, hA.fs, hA'.lt⟩
  rcases hA'.own with h0 | ⟨b, h1, h2, h3, h4⟩
  ·exact .inl h0
  ·refine .inr ⟨b, h1, h2, h3, ?_⟩
   rw [hg b (fun he => by rw [he, hobj] at h4; simp at h4)]; exact h4
 rw [qi]
 by_cases h0 : off = 0
 ·rw [if_neg (by simpa using h0)]
  exact good H (qc.refl H) (fun hh => hh.1 h0)
 ·rw [if_pos (by simpa using h0)]
  refine qac.s hok hM0 ?_
  intro s9 H9 hk9 hO9
  refine qaS.s (hO9.rows bkV_len bkV_ok) (by omega) ?_
  by_cases hf : isN off (blkL ws) 0 < 0
  ·rw [decide_eq_true hf]; exact bad H9 hk9 ⟨h0, hf⟩
  ·rw [decide_eq_false hf]; exact good H9 hk9 (fun hh => hf hh.2)
theorem qaj.s {x0 : Sl} {off n : Int} {k : Sl → Bool → AH → Prop} (hr : qlC H x0 1 wU ws) (h64 : qaE ws) (hl : ws.length ≤ 1000) (hoff : isI off) (hn : isI n)
  (h1 : inside ws.length off n → ∀ s H', qc H H' → Own H.size H' s 1 bU (bytesOf ws off.toNat n.toNat) → k s true H') (h0 : ¬ inside ws.length off n → k ⟨none, 0, 0⟩ false H) : qaj x0 off n H k := by
 refine qaj.link ?_
 unfold qaj.b
 rw [hr.1]
 refine qa2.s (by omega) hoff hn ?_
 by_cases hin : inside ws.length off n
 rotate_left 1
 ·rw [decide_eq_false hin, qlK, qf]; exact h0 hin
 rw [decide_eq_true hin, qlA, qa]
 have hin' := hin
 unfold inside at hin'
 obtain ⟨o, rfl⟩ := qlI hin'.1
 obtain ⟨m, rfl⟩ := qlI hin'.2.1
 simp only [qlp] at h1
 refine qE (t := ((⟨none, 0, 0⟩, (o : Int)) : Sl × Int)) (I := fun (t : Sl × Int) H' => ∃ j : Nat, t.2 = (o : Int) + (j : Int) ∧ j ≤ m ∧ qc H H' ∧ Own H.size H' t.1 1 bU (bytesOf ws o j)) (m := fun (t : Sl × Int) _ => qlr ((o : Int) + (m : Int) - t.2)) ?_ ⟨0, by simp, by omega, qc.refl H, .inl ⟨rfl, rfl⟩⟩
 intro t H1 hI it hit
 obtain ⟨s, t2⟩ := t
 obtain ⟨j, e1, hj, hk, hO⟩ := hI
 simp only at e1 hO
 subst e1
 unfold qaj.l1
 simp only [qi, decide_eq_true_eq]
 rw [qg (n := (o : Int) + (m : Int)) (by omega) (by omega)]
 by_cases hlt : (o : Int) + (j : Int) < (o : Int) + (m : Int)
 rotate_left 1
 ·rw [if_neg hlt]
  have : j = m := by omega
  subst this
  exact h1 hin s H1 hk hO
 rw [if_pos hlt]
 have e8 : ((o : Int) + (j : Int)) / 8 = (((o + j) / 8 : Nat) : Int) := by omega
 have em : ((o : Int) + (j : Int)) % 8 = (((o + j) % 8 : Nat) : Int) := by omega
 rw [Int.tdiv_eq_ediv_of_nonneg (by omega), Int.tmod_eq_emod_of_nonneg (by omega), e8, em, qg (n := (((o + j) / 8 : Nat) : Int)) (by omega) (by omega), qg (n := (((o + j) % 8 : Nat) : Int) * 8) (by omega) (by omega), qbI (by omega) (by omega)]
 have hlt8 : (o + j) / 8 < ws.length := by omega
 refine ⟨by decide, ⟨by omega, by rw [hr.1]; omega⟩, ?_⟩
 obtain ⟨b, ofs, ha, hb, hcells⟩ := qam (hr.keep hk) (by omega)
 have hc := (hcells ((o + j) / 8) _ (qln hlt8)).2 0 _ rfl
 rw [qk, qk] at hc
 rw [ha, qd, qlp, qk, show AH.cell? H1 ⟨b, ofs + (o + j) / 8 * 1, none⟩ = _ from hc, qe]
 refine ⟨by decide, by omega, ?_⟩
 rw [qv]
 have hw : isU ws[(o + j) / 8] := h64 _ (qlB hlt8)
 have hval : qll .u8 (shrI .u64 ws[(o + j) / 8] ((((o + j) % 8 : Nat) : Int) * 8)) = byteAt ws (o + j) := by
  rw [Int.mul_comm, qip hw (by omega)]
  unfold byteAt
  rw [qlo, qln hlt8]; rfl
 rw [hval]
 have hsn : bytesOf ws o j ++ [byteAt ws (o + j)] = bytesOf ws o (j + 1) := by
  unfold bytesOf
  rw [qmq, List.map_append]; rfl
 refine qbh (H0 := H) (B := H.size) (f := bU) (x := byteAt ws (o + j)) (fun _ => rfl) rfl hO (qlu _) hk.1 hk (by rw [qeT]; simp only [lim]; omega) ?_
 intro s' H' hO' hk' _ _
 rw [hsn] at hO'
 rw [qg (n := (o : Int) + (j : Int) + 1) (by omega) (by omega)]
 exact hit _ _ ⟨j + 1, by simp only; omega, by omega, hk', hO'⟩ (by simp only; omega)
theorem qaA.s {off n : Int} {k : Sl → Int → AH → Prop} (hok : Ok ws) (hM : RM F H p ws root) (hoff : isI off) (hn : isI n)
  (h : ∀ s H', qc H H' → Own H.size H' s 1 bU (aRead ws off n).1 → k s (aRead ws off n).2 H') : qaA (some ⟨p, 0, none⟩) off n H k := by
 obtain ⟨s, hA⟩ := hM
 have hl := hok.len
 obtain ⟨hbl, hbm⟩ := hok.blen
 refine qaA.link ?_
 unfold qaA.b
 rw [qd, hA.c0, qat]
 refine qbJ.link ?_
 unfold qbJ.b
 refine qH.s hA.rows hl.2.2 (by omega) ?_ (fun hb => by rw [hok.blocks] at hb; cases hb)
 intro l hb s14 H14 hk14 hO14
 rw [hok.blocks] at hb
 injection hb with hb
 subst hb
 rw [qlA, qa]
 unfold aRead at h
 refine qP.s (hO14.rows bkV_len bkV_ok) (by omega) (fun b hb => by have := hbm b hb; omega) ?_ ?_
 ·intro hw
  rw [qlA, qa]
  rw [if_pos hw] at h
  have hin := qcN hok.may hw
  refine qaj.s (hA.keeps hk14).rows hl.2.2 (by omega) hoff hn ?_ (fun hni => absurd hin hni)
  intro _ s28 H28 hk28 hO28
  exact h s28 H28 (hk14.trans hk28) (qbT hO28 hk14.1)
 ·intro hw
  rw [qlK, qf]
  rw [if_neg hw] at h
  exact h _ H14 hk14 (.inl ⟨rfl, rfl⟩)
theorem qaa.s {n off : Int} {k : Bool → AH → Prop} (hok : Ok ws) (hM : RM F H p ws root) (hn : isI n) (h : ∀ F' H', Up F H F' H' → RM F' H' p (aAlloc ws n off).2 root → k (aAlloc ws n off).1 H') : qaa (some ⟨p, 0, none⟩) n off H k := by
 have hM0 := hM
 obtain ⟨s, hA⟩ := hM
 have hl := hok.len
 obtain ⟨hbl, hbm⟩ := hok.blen
 refine qaa.link ?_
 unfold qaa.b
 refine qac.s hok hM0 ?_
 intro s11 H11 hk11 hO11
 refine qZ.s hn ?_
 have hR11 := hO11.rows bkV_len bkV_ok
 refine qx.s hR11 (by omega) ?_
 intro s15 H15 hk15 hO15
 have hR15 := hO15.rows (fun _ => rfl) (fun _ => rfl)
 have hfm : ∀ i ∈ fitI ws n, i < (blkL ws).length ∧ (bkAt (blkL ws) i).2.2 = false ∧ needN n ≤ (bkAt (blkL ws) i).2.1 ∧ 2 ≤ needN n := fun i hi => qge hi
 have hfl : (fitI ws n).length ≤ 256 := by
  have := qkC (ws := ws) (n := n)
  unfold fitO at this
  rw [qmm] at this
  unfold fitI; omega
 unfold aAlloc at h
 have hfe : fitsL (blkL ws) (needN n) = fitI ws n := rfl
 rw [hfe] at hR15
 generalize fitI ws n = fl at *
 have hk0 := hk11.trans hk15
 refine qE (t := ((false, (0 : Int)) : Bool × Int)) (I := fun (t : Bool × Int) H' => ∃ i : Nat, t.2 = (i : Int) ∧ i ≤ fl.length ∧ qc H15 H' ∧ fl.find? (fun i => offN (bkAt (blkL ws) i).1 == off) = (fl.drop i).find? (fun i => offN (bkAt (blkL ws) i).1 == off)) (m := fun (t : Bool × Int) _ => qlr ((fl.length : Int) - t.2)) ?_ ⟨0, rfl, by omega, qc.refl H15, rfl⟩
 intro t H1 hI it hit
 obtain ⟨t0, t2⟩ := t
 obtain ⟨i, e1, hi, hk, hfd⟩ := hI
 simp only at e1
 subst e1
 unfold qaa.l1
 simp only [qi, decide_eq_true_eq, hR15.1]
 have hkH := hk0.trans hk
 by_cases hlt : (i : Int) < (fl.length : Int)
 rotate_left 1
 ·rw [if_neg hlt]
  have : i = fl.length := by omega
  subst this
  rw [List.drop_length] at hfd
  rw [hfd] at h
  exact h F H1 ⟨qc.kp hkH, fun b hb => .inl hb⟩ (hM0.keeps hkH)
 rw [if_pos hlt]
 have hi' : i < fl.length := by omega
 obtain ⟨b, o, ha, hb, hcells⟩ := qam (hR15.keep hk) (by omega)
 refine ⟨by omega, ?_⟩
 have hc := (hcells i fl[i] (qln hi')).2 0 _ rfl
 rw [qk, qk] at hc
 rw [ha, qd, qlp, qk, show AH.cell? H1 ⟨b, o + i * 1, none⟩ = _ from hc, qe]
 obtain ⟨q1, q2, q3, q4⟩ := hfm fl[i] (qlB hi')
 have hR11' := hR11.keep (hk15.trans hk)
 refine ⟨by rw [hR11.1]; omega, ?_⟩
 obtain ⟨b2, o2, ha2, hb2', hcells2⟩ := qam hR11' (by omega)
 rw [ha2, qd, qlp, qp (hcells2 _ _ (qas q1)).1]
 refine qY.s ?_
 rw [qdi hi', List.find?_cons] at hfd
 by_cases ho : offN (bkAt (blkL ws) fl[i]).1 = off
 rotate_left 1
 ·rw [if_neg (by simpa using ho), qg (n := (i : Int) + 1) (by omega) (by omega)]
  rw [show (offN (bkAt (blkL ws) fl[i]).1 == off) = false by simpa using ho] at hfd
  exact hit _ _ ⟨i + 1, by simp, by omega, hk, hfd⟩ (by simp only; omega)
 rw [if_pos (by simpa using ho)]
 rw [show (offN (bkAt (blkL ws) fl[i]).1 == off) = true by simpa using ho] at hfd
 rw [hfd] at h
 have hA1 := hA.keeps hkH
 rw [qd, hA1.c0, qat]
 refine qZ.s hn ?_
 refine ⟨hA1.c0, ?_⟩
 refine qI.s hR11' hok.may q1 q2 ⟨q4, q3⟩ ?_
 intro s37 H37 hk37 hO37
 have hA37 := hA1.keeps hk37
 refine ⟨hA37.c0, ?_⟩
 have hcl := (qeZ (b := bkAt (blkL ws) fl[i]) ⟨q4, q3⟩).2
 have hnl := qkR n
 refine qM.s hA37.rows (by omega) (hO37.rows (fun _ => rfl) (fun _ => rfl)) (by omega) ?_
 intro s38 H38 hk38 hO38
 rw [qd]
 obtain ⟨c1, c2⟩ := hA.put_words ((hkH.trans hk37).trans hk38) (qbT hO38 (hkH.trans hk37).1)
 refine ⟨c1, ?_⟩
 obtain ⟨c3, c4⟩ := c2 _ _ rfl rfl
 exact h _ _ c4 c3
end
structure CP (pd : Int) (M : Mem) (now kept : List Int) (cb : Int) : Prop where
 kl : kept.length = now.length
 ok : ∀ i, i < now.length → 0 ≤ kept.getD i 0 ∧ kept.getD i 0 ≤ now.getD i 0 ∧ now.getD i 0 ≤ cb
 lag : M.down = false → ∀ i, i < now.length → now.getD i 0 - kept.getD i 0 < pd ∧ M.regs.getD (19 + i) 0 = kept.getD i 0
 rg : ∀ i, i < now.length → M.regs.getD (19 + i) 0 ≤ cb
def bump (now : List Int) (ls : List Int) : List Int := ls.foldl (fun c ln => c.set (ln / 4).toNat (c.getD (ln / 4).toNat 0 + 1)) now
theorem CP.mono {pd : Int} {M : Mem} {now kept : List Int} {cb cb' : Int} (h : CP pd M now kept cb) (hc : cb ≤ cb') : CP pd M now kept cb' :=
 ⟨h.kl, fun i hi => by have := h.ok i hi; omega, h.lag, fun i hi => by have := h.rg i hi; omega⟩
theorem qi9 (pd : Int) (ln : Int) (r : List Int) (M : Mem) (now kept : List Int) : notesN pd (ln :: r) M now kept =
  if (noteN pd now kept (ln / 4).toNat).2.2.2 = true then
   if (M.set (19 + ln / 4) (noteN pd now kept (ln / 4).toNat).2.2.1).2 = 0 then notesN pd r (M.set (19 + ln / 4) (noteN pd now kept (ln / 4).toNat).2.2.1).1 (noteN pd now kept (ln / 4).toNat).1 (noteN pd now kept (ln / 4).toNat).2.1
   else ((M.set (19 + ln / 4) (noteN pd now kept (ln / 4).toNat).2.2.1).1, (noteN pd now kept (ln / 4).toNat).1, (noteN pd now kept (ln / 4).toNat).2.1, (M.set (19 + ln / 4) (noteN pd now kept (ln / 4).toNat).2.2.1).2)
  else notesN pd r M (noteN pd now kept (ln / 4).toNat).1 (noteN pd now kept (ln / 4).toNat).2.1 := rfl
theorem qhc {pd : Int} (hpd : 1 ≤ pd) : ∀ {ls : List Int} {M : Mem} {now kept : List Int} {cb : Int}, CP pd M now kept cb → M.down = false → M.ok → (∀ ln ∈ ls, 0 ≤ ln ∧ (ln / 4).toNat < now.length) → now.length ≤ 16 → 0 ≤ cb → cb + ls.length < 4611686018427387904 →
  (notesN pd ls M now kept).1.cs = M.cs ∧ (∀ r, r < 19 → (notesN pd ls M now kept).1.regs.getD r 0 = M.regs.getD r 0) ∧ (notesN pd ls M now kept).1.ok ∧ CP pd (notesN pd ls M now kept).1 (notesN pd ls M now kept).2.1 (notesN pd ls M now kept).2.2.1 (cb + ls.length) ∧
  (M.cut = -1 → (notesN pd ls M now kept).1.cut = -1) ∧ (notesN pd ls M now kept).2.1.length = now.length ∧
  (((notesN pd ls M now kept).2.2.2 = 0 ∧ (notesN pd ls M now kept).1.down = false ∧ (notesN pd ls M now kept).2.1 = bump now ls) ∨ ((notesN pd ls M now kept).2.2.2 = 2 ∧ (notesN pd ls M now kept).1.down = true ∧ M.cut ≠ -1)) := by
 intro ls
 induction ls with
 | nil => intro M now kept cb h hup hok _ _ _ _; exact ⟨rfl, fun _ _ => rfl, hok, h.mono (by simp), fun h => h, rfl, .inl ⟨rfl, hup, rfl⟩⟩
 | cons ln r ih =>
  intro M now kept cb h hup hok hls h16 hcb0 hcb
  obtain ⟨hl0, hli⟩ := hls ln (by simp)
  simp only [qlE] at hcb
  have hb : bump now (ln :: r) = bump (now.set (ln / 4).toNat (now.getD (ln / 4).toNat 0 + 1)) r := rfl
  have hlr : ∀ l ∈ r, 0 ≤ l ∧ (l / 4).toNat < (now.set (ln / 4).toNat (now.getD (ln / 4).toNat 0 + 1)).length := fun l hl => by rw [qlT]; exact hls l (by simp [hl])
  rw [qi9, hb]
  have hidx : (19 + ln / 4 : Int) = ((19 + (ln / 4).toNat : Nat) : Int) := by omega
  rw [hidx]
  generalize (ln / 4).toNat = i at *
  have hoi := h.ok i hli
  have hlag := h.lag hup
  unfold noteN
  simp only
  have hnow : ∀ j, (now.set i (now.getD i 0 + 1)).getD j 0 = if j = i then now.getD i 0 + 1 else now.getD j 0 := fun j => qcA hli
  by_cases hk : now.getD i 0 + 1 - kept.getD i 0 ≥ pd
  ·rw [if_pos (by simpa using hk), if_pos hk]
   have hkept : ∀ j, (kept.set i (now.getD i 0 + 1)).getD j 0 = if j = i then now.getD i 0 + 1 else kept.getD j 0 := fun j => qcA (by rw [h.kl]; exact hli)
   have hS := Mem.set_any (M := M) (i := 19 + i) (v := now.getD i 0 + 1) hup (by omega) hok.cut.1
   have hSo := Mem.set_ok (M := M) (i := ((19 + i : Nat) : Int)) (v := now.getD i 0 + 1) hok (by unfold isU; omega)
   have hrl := hok.regs
   have hlow : ∀ r, r < 19 → (M.set ((19 + i : Nat) : Int) (now.getD i 0 + 1)).1.regs.getD r 0 = M.regs.getD r 0 := fun r hr => qcT (by omega)
   generalize M.set ((19 + i : Nat) : Int) (now.getD i 0 + 1) = S at *
   have hcp : CP pd S.1 (now.set i (now.getD i 0 + 1)) (kept.set i (now.getD i 0 + 1)) (cb + 1) := by
    refine ⟨by rw [qlT, qlT, h.kl], fun j hj => ?_, fun hd j hj => ?_, fun j hj => ?_⟩
    rotate_left 2
    ·rw [qlT] at hj
     have := h.rg j hj
     have h2 := h.ok i hli
     have hrr : S.1.regs = M.regs ∨ S.1.regs = M.regs.set (19 + i) (now.getD i 0 + 1) := by
      rcases hS.res with ⟨_, _, h⟩ | ⟨_, _, _, h⟩
      ·exact .inr h
      ·exact h
     rcases hrr with hrr | hrr
     ·rw [hrr]; omega
     ·rw [hrr, qcA (by omega)]
      split <;> omega
    ·rw [qlT] at hj
     rw [hnow j, hkept j]
     have := h.ok j hj
     split <;> omega
    ·rw [qlT] at hj
     rw [hnow j, hkept j]
     have hr : S.1.regs = M.regs.set (19 + i) (now.getD i 0 + 1) := by
      rcases hS.res with ⟨_, _, h⟩ | ⟨_, h, _⟩
      ·exact h
      ·rw [hd] at h; cases h
     rw [hr, qcA (by omega)]
     have := hlag j hj
     by_cases hji : j = i
     ·subst hji
      rw [if_pos rfl, if_pos rfl, if_pos rfl]
      exact ⟨by omega, rfl⟩
     ·rw [if_neg hji, if_neg hji, if_neg (by omega)]
      exact this
   by_cases he : S.2 = 0
   ·rw [if_pos he]
    have hup' : S.1.down = false := by
     rcases hS.res with ⟨_, h, _⟩ | ⟨e', _⟩
     ·exact h
     ·omega
    obtain ⟨a1, a2, a3, a4, a5, a6, a7⟩ := ih hcp hup' hSo hlr (by rw [qlT]; exact h16) (by omega) (by omega)
    refine ⟨a1.trans hS.cs, fun r hr => (a2 r hr).trans (hlow r hr), a3, by have := a4; simp only [qlE]; exact this.mono (by omega), fun hc => a5 (hS.cut hc), by rw [a6, qlT], ?_⟩
    rcases a7 with a7 | ⟨a, b, c⟩
    ·exact .inl a7
    ·exact .inr ⟨a, b, fun hc => c (hS.cut hc)⟩
   ·rw [if_neg he]
    refine ⟨hS.cs, hlow, hSo, hcp.mono (by simp only [qlE]; omega), hS.cut, by simp, ?_⟩
    rcases hS.res with ⟨h, _⟩ | ⟨a, b, c, _⟩
    ·exact absurd h he
    ·exact .inr ⟨a, b, c⟩
  ·rw [if_neg (by simpa using hk), if_neg hk]
   have hcp : CP pd M (now.set i (now.getD i 0 + 1)) kept (cb + 1) := by
    refine ⟨by rw [qlT, h.kl], fun j hj => ?_, fun hd j hj => ?_, fun j hj => by rw [qlT] at hj; have := h.rg j hj; omega⟩
    ·rw [qlT] at hj
     rw [hnow j]
     have := h.ok j hj
     by_cases hji : j = i
     ·subst hji; rw [if_pos rfl]; omega
     ·rw [if_neg hji]; omega
    ·rw [qlT] at hj
     rw [hnow j]
     have := hlag j hj
     by_cases hji : j = i
     ·subst hji; rw [if_pos rfl]; exact ⟨by omega, this.2⟩
     ·rw [if_neg hji]; exact this
   obtain ⟨a1, a2, a3, a4, a5, a6, a7⟩ := ih hcp hup hok hlr (by rw [qlT]; exact h16) (by omega) (by omega)
   exact ⟨a1, a2, a3, by simp only [qlE]; exact a4.mono (by omega), a5, by rw [a6, qlT], a7⟩
section
variable {n sp per : Nat} {M M' : Mem} {mvb len pt : Nat} {ws : List (List Int)}
theorem qke (hc : M'.cs = M.cs) (hr : ∀ r, r < 19 → r ≠ 2 → M'.regs.getD r 0 = M.regs.getD r 0) (hsp : sp ≤ 16) (s : Nat) : M'.tview n sp s = M.tview n sp s := by
 unfold Mem.tview Mem.view
 have hw : ∀ i, i < sp → M'.whose i = M.whose i := fun i hi => hr _ (by omega) (by omega)
 rw [mv_same (hr 0 (by omega) (by omega)), qdd (M' := M') (M := M) fun j hj => by rw [hw j hj]]
 have : ∀ i, M'.cl i = M.cl i := fun i => by unfold Mem.cl; rw [hc]
 rw [this]
theorem Sd.low (h : Sd n sp M ws) (hn : 16 < n) (hc : M'.cs = M.cs) (hr : ∀ r, r < 19 → r ≠ 2 → M'.regs.getD r 0 = M.regs.getD r 0) (hsp : sp ≤ 16) : Sd n sp M' ws :=
 h.congr hn (hr 1 (by omega) (by omega)) fun s _ => qke hc hr hsp s
theorem PSt.low (h : PSt n sp per M pt mvb len) (hc : M'.cs = M.cs) (hr : ∀ r, r < 19 → r ≠ 2 → M'.regs.getD r 0 = M.regs.getD r 0) (hok : M'.ok) : PSt n sp per M' pt mvb len := by
 obtain ⟨k, hlv⟩ := h.lv
 exact ⟨⟨k, hlv.low (by rw [hc]) fun r _ h => hr r h (by omega)⟩, hok, h.pl, by rw [mv_same (hr 0 (by omega) (by omega))]; exact h.mv, by rw [hc]; exact h.len⟩
end
structure HP (pa pb pc pd : Int) (s : HS) (ws : List Int) (root : Int) (mvb : Nat) (cb : Int) : Prop where
 may : mayP pa pb pc pd = true
 ps : PSt (16 + pa.toNat) pb.toNat pc.toNat s.M s.pt mvb (16 + pa.toNat + 1 + pb.toNat)
 sd : Sd (16 + pa.toNat) pb.toNat s.M (linesOf pa.toNat ws)
 ok : Ok ws
 len : (ws.length : Int) = 8 * pa
 rt : s.M.regs.getD 2 0 = root
 ru : root = 0 ∨ isUsed ws root = true
 pg : (s.now.length : Int) = pagesP pa pb pc pd
 cp : CP pd s.M s.now s.kept cb
 wl : s.stuck → LV s.M (16 + pa.toNat + 1) pb.toNat pb.toNat
 c0 : 0 ≤ cb
section
variable {pa pb pc pd : Int} {s : HS} {ws : List Int} {root : Int} {mvb : Nat} {cb : Int}
theorem HP.mono (h : HP pa pb pc pd s ws root mvb cb) {mvb' : Nat} {cb' : Int} (h1 : mvb ≤ mvb') (h2 : cb ≤ cb') : HP pa pb pc pd s ws root mvb' cb' :=
 ⟨h.may, h.ps.mono h1, h.sd, h.ok, h.len, h.rt, h.ru, h.pg, h.cp.mono h2, h.wl, by have := h.c0; omega⟩
theorem HP.words (h : HP pa pb pc pd s ws root mvb cb) (hup : s.M.down = false) : wordsH pa pb s.M = ws := by
 have hm := qaf.1 h.may
 exact qg6 (by omega) hup h.len h.sd
theorem HP.now16 (h : HP pa pb pc pd s ws root mvb cb) : s.now.length ≤ 16 ∧ (s.now.length : Int) = (pa + 3) / 4 := by
 have hm := qaf.1 h.may
 have := h.pg
 unfold pagesP at this
 rw [if_pos h.may] at this
 omega
theorem qjO {E : List (Int × Int)} (h : HP pa pb pc pd s ws root mvb cb) (hup : s.M.down = false) (hst : ¬ s.stuck) (hin : EdIn E ws.length) (h1 : 1 ≤ (eLines E).length) (h14 : (eLines E).length ≤ 14)
    (hok' : Ok (applyE ws E)) (hru' : root = 0 ∨ isUsed (applyE ws E) root = true) (hb : mvb + 2000 < 4611686018427387904) (hcb : cb + 100 < 4611686018427387904) :
    (s.M.cut = -1 → (commitH pa pb pc pd ws E s).1.M.cut = -1) ∧
    (((commitH pa pb pc pd ws E s).2 = 0 ∧ (commitH pa pb pc pd ws E s).1.M.down = false ∧ HP pa pb pc pd (commitH pa pb pc pd ws E s).1 (applyE ws E) root (mvb + 40) (cb + 14) ∧ (commitH pa pb pc pd ws E s).1.worn = false ∧ (commitH pa pb pc pd ws E s).1.now = bump s.now (eLines E)) ∨
     ((commitH pa pb pc pd ws E s).2 = 3 ∧ (commitH pa pb pc pd ws E s).1.M.down = false ∧ HP pa pb pc pd (commitH pa pb pc pd ws E s).1 ws root (mvb + 40) (cb + 14) ∧ (commitH pa pb pc pd ws E s).1.worn = true ∧ (commitH pa pb pc pd ws E s).1.now = s.now) ∨
     ((commitH pa pb pc pd ws E s).2 = 2 ∧ (commitH pa pb pc pd ws E s).1.M.down = true ∧ s.M.cut ≠ -1 ∧ (HP pa pb pc pd (commitH pa pb pc pd ws E s).1 ws root (mvb + 40) (cb + 14) ∨ HP pa pb pc pd (commitH pa pb pc pd ws E s).1 (applyE ws E) root (mvb + 40) (cb + 14)))) ∧
    (∀ k, LV s.M (16 + pa.toNat + 1) pb.toNat k → ∃ k', k ≤ k' ∧ LV (commitH pa pb pc pd ws E s).1.M (16 + pa.toNat + 1) pb.toNat k') := by
  have hm := qaf.1 h.may
  obtain ⟨hn16, hpg⟩ := h.now16
  have hlen := h.len
  have hc0 := h.c0
  obtain ⟨l8, l512, h64⟩ := hok'.len
  have hlenA : (applyE ws E).length = ws.length := qaz E ws
  have hwf : s.worn = false := by cases hw : s.worn with | false => rfl | true => exact absurd (.inl hw) hst
  have hcm : commits s.M = 0 := by
    by_cases hc : commits s.M = 0
    · exact hc
    · exact absurd (.inr ⟨hup, hc⟩) hst
  have hls : ∀ ln ∈ eLines E, 0 ≤ ln ∧ ln < ((pa.toNat : Nat) : Int) := by
    intro ln hln
    obtain ⟨e, he, h0, rfl⟩ := qc8.1 hln
    have := hin.mem e he
    omega
  have hmay := qgV (m := pa.toNat) (W := applyE ws E) hls h1 h14
  have hhok := qhx (m := pa.toNat) (W := applyE ws E) h64 (by omega) (by omega) hls
  obtain ⟨c1, c2⟩ := com_any h.ps (by omega) hup (by omega) hhok (by rw [qcZ]; omega) h.sd
  obtain ⟨d1, d2, d3, d4⟩ := qiy h.ps (by omega) hup (by omega) hhok
  have hps := h.ps.com (by omega) (by omega) hhok
  rw [qkt (by omega) (fun e he => by have := hin.mem e he; omega)] at c1
  have hd2 := d2 hmay hcm
  have hd4 := d4 hmay hcm
  unfold commitH
  simp only
  generalize comN (16 + pa.toNat) pb.toNat pc.toNat (homesC (applyE ws E) (eLines E)) s.M s.pt = C at *
  have hrt : C.1.regs.getD 2 0 = root := (d1 2 (.inl rfl)).trans h.rt
  have cp0 : (C.1.down = false ∨ True) → CP pd C.1 s.now s.kept cb := fun _ => ⟨h.cp.kl, h.cp.ok, fun _ i hi => by rw [d1 (19 + i) (.inr (by omega))]; exact h.cp.lag hup i hi, fun i hi => by rw [d1 (19 + i) (.inr (by omega))]; exact h.cp.rg i hi⟩
  by_cases he : C.2.2 = 0
  rotate_left 1
  · rw [if_pos he]
    have mk : ∀ (w : Bool) (ws' : List Int), (ws' = ws ∨ ws' = applyE ws E) → Sd (16 + pa.toNat) pb.toNat C.1 (linesOf pa.toNat ws') → ((⟨C.1, C.2.1, s.now, s.kept, w⟩ : HS).stuck → LV C.1 (16 + pa.toNat + 1) pb.toNat pb.toNat) → HP pa pb pc pd ⟨C.1, C.2.1, s.now, s.kept, w⟩ ws' root (mvb + 40) (cb + 14) := by
      intro w ws' hw hsd hwl
      refine ⟨h.may, hps, hsd, ?_, ?_, hrt, ?_, h.pg, (cp0 (.inr trivial)).mono (by omega), hwl, by omega⟩
      · rcases hw with rfl | rfl; exact h.ok; exact hok'
      · rcases hw with rfl | rfl; exact hlen; rw [hlenA]; exact hlen
      · rcases hw with rfl | rfl; exact h.ru; exact hru'
    refine ⟨fun hc => c2 hc, ?_, d3⟩
    have case2 : C.2.2 = 2 → C.1.down = true → s.M.cut ≠ -1 → ∀ ws', (ws' = ws ∨ ws' = applyE ws E) → Sd (16 + pa.toNat) pb.toNat C.1 (linesOf pa.toNat ws') →
        HP pa pb pc pd ⟨C.1, C.2.1, s.now, s.kept, s.worn || (C.2.2 == 3)⟩ ws' root (mvb + 40) (cb + 14) := by
      intro h2 hd hcut ws' hw hsd
      refine mk _ ws' hw hsd ?_
      intro hs
      rcases hs with hs | ⟨hs, _⟩
      · rw [hwf, h2] at hs; simp at hs
      · simp only at hs; rw [hd] at hs; cases hs
    rcases c1 with ⟨hsd, ⟨e0, e2, hd⟩ | ⟨e2, hd, hcut⟩⟩ | ⟨_, _, hsd, ⟨e0, _⟩ | ⟨e2, hd, hcut⟩⟩
    · have e3 : C.2.2 = 3 := by omega
      refine .inr (.inl ⟨e3, hd, ?_, by rw [e3]; simp, rfl⟩)
      exact mk _ ws (.inl rfl) hsd (fun _ => hd2 hd (.inl e3))
    · exact .inr (.inr ⟨e2, hd, hcut, .inl (case2 e2 hd hcut ws (.inl rfl) hsd)⟩)
    · exact absurd e0 he
    · exact .inr (.inr ⟨e2, hd, hcut, .inr (case2 e2 hd hcut _ (.inr rfl) hsd)⟩)
  rw [if_neg (by simpa using he)]
  have c1' : Sd (16 + pa.toNat) pb.toNat C.1 (linesOf pa.toNat (applyE ws E)) ∧ C.1.down = false := by
    rcases c1 with ⟨_, ⟨e0, _⟩ | ⟨e2, _⟩⟩ | ⟨_, _, hsd, ⟨_, hd⟩ | ⟨e2, _⟩⟩
    · exact absurd he e0
    · omega
    · exact ⟨hsd, hd⟩
    · omega
  obtain ⟨hsd, hCup⟩ := c1'
  obtain ⟨n1, n2, n3, n4, n5, n6, n7⟩ := qhc (pd := pd) (by omega) (ls := eLines E) (cp0 (.inl hCup)) hCup hps.ok (fun ln hln => by have := hls ln hln; omega) hn16 hc0 (by omega)
  generalize notesN pd (eLines E) C.1 s.now s.kept = N at *
  have hP : HP pa pb pc pd ⟨N.1, C.2.1, N.2.1, N.2.2.1, s.worn⟩ (applyE ws E) root (mvb + 40) (cb + 14) := by
    refine ⟨h.may, hps.low n1 (fun r hr _ => n2 r hr) n3, hsd.low (by omega) n1 (fun r hr _ => n2 r hr) (by omega), hok', by rw [hlenA]; exact hlen, (n2 2 (by omega)).trans hrt, hru', by show (N.2.1.length : Int) = _; rw [n6]; exact h.pg, n4.mono (by omega), fun hs => ?_, by omega⟩
    rcases hs with hs | ⟨hs, hc⟩
    · simp only at hs; rw [hwf] at hs; cases hs
    · have hcC : commits C.1 ≠ 0 := fun hx => hc (by show N.1.regs.getD 1 0 = 0; rw [n2 1 (by omega)]; exact hx)
      exact (hd2 hCup (.inr hcC)).low (by rw [n1]) fun r _ hr => n2 r hr
  refine ⟨fun hc => n5 (c2 hc), ?_, fun k hk => ?_⟩
  · rcases n7 with ⟨a, b, c⟩ | ⟨a, b, c⟩
    · exact .inl ⟨a, b, hP, hwf, c⟩
    · exact .inr (.inr ⟨a, b, fun hc => c (c2 hc), .inr hP⟩)
  · obtain ⟨k', hk', hlv'⟩ := d3 k hk
    exact ⟨k', hk', hlv'.low (by rw [n1]) fun r _ hr => n2 r hr⟩
end
section
variable {F : Nat → Prop} {H : AH} {p : Nat} {ws : List Int} {root : Int}
theorem qae.s {k : Option Addr → AH → Prop} (hok : Ok ws) (hM : RM F H p ws root) (h : ∀ F' p' H', qc H H' → Up (fun _ => False) H F' H' → RM F' H' p' ws root → k (some ⟨p', 0, none⟩) H') : qae (some ⟨p, 0, none⟩) H k := by
 obtain ⟨s, hA⟩ := hM
 have hl := hok.len
 refine qae.link ?_
 unfold qae.b
 rw [qd, hA.c0, qat, qd, hA.c1, qe]
 have hne : ws ≠ [] := fun h0 => by rw [h0] at hl; simp at hl
 refine qct (H0 := H) (B := H.size) (l := []) (r := ws) (f := wU) (fun _ => rfl) (fun _ => rfl) (.inl ⟨rfl, rfl⟩) hA.rows (qlu _) (qlu _) (qc.refl H) (by simp [lim]; omega) ?_
 intro s7 H7 hO7 hk7 _ _
 refine ⟨(hA.keeps hk7).c1, ?_⟩
 rw [qv]
 have hk := hk7.push ⟨[s7.val, .int .i64 root], .rw, 0⟩
 have hge := hk7.1
 rw [ql8] at hO7
 refine h (fun b => H.size ≤ b ∧ b < H7.size + 1) H7.size _ hk ⟨qc.kp hk, fun b hb => .inr hb⟩ ⟨s7, by rw [qs, if_pos rfl], ?_, ⟨hge, by omega⟩, fun a ha => ?_, fun b hb => hb.2⟩
 ·exact qbT (hO7.keep (by simp [qm]) (fun b _ hb => qO (by omega))) (by omega)
 ·rcases hO7 with ⟨h0, _⟩ | ⟨b, h1, h2, h3, h4⟩
  ·rw [h0] at ha; cases ha
  ·rw [h1] at ha
   injection ha with ha
   subst ha
   exact ⟨h2, by simp only; omega⟩
theorem qaO.s {x0 x1 : Sl} {l : List Int} {k : Bool → AH → Prop} (h0 : qlC H x0 1 iV l) (h1 : qlC H x1 1 iV l) (hl : l.length ≤ 100000) (h : k true H) : qaO x0 x1 H k := by
 refine gcB true (qaO.link ?_) h
 unfold qaO.b
 rw [h0.1, h1.1, qi, if_neg (by simp)]
 refine qE (t := ((false, (0 : Int)) : Bool × Int)) (I := fun (t : Bool × Int) H' => H' = H ∧ ∃ i : Nat, t.2 = (i : Int) ∧ i ≤ l.length) (m := fun (t : Bool × Int) _ => qlr ((l.length : Int) - t.2)) ?_ ⟨rfl, 0, rfl, by omega⟩
 rintro ⟨t0, t2⟩ H1 ⟨rfl, i, e1, hi⟩ it hit
 simp only at e1
 subst e1
 unfold qaO.l1
 simp only [qi, decide_eq_true_eq]
 rw [h0.1]
 by_cases hlt : (i : Int) < (l.length : Int)
 rotate_left 1
 ·rw [if_neg hlt]; exact ⟨qc.refl _, trivial⟩
 rw [if_pos hlt]
 have hi' : i < l.length := by omega
 obtain ⟨b, o, ha, hb, hcells⟩ := qam h0 (by omega)
 obtain ⟨b2, o2, ha2, hb2, hcells2⟩ := qam h1 (by omega)
 have hc := (hcells i _ (qln hi')).2 0 _ rfl
 have hc2 := (hcells2 i _ (qln hi')).2 0 _ rfl
 rw [qk, qk] at hc hc2
 refine ⟨by omega, ?_⟩
 rw [ha, qd, qlp, qk, show AH.cell? H1 ⟨b, o + i * 1, none⟩ = _ from hc, qe]
 refine ⟨by rw [h1.1]; omega, ?_⟩
 rw [ha2, qd, qk, show AH.cell? H1 ⟨b2, o2 + i * 1, none⟩ = _ from hc2, qe, if_neg (by simp), qg (n := (i : Int) + 1) (by omega) (by omega)]
 exact hit _ _ ⟨rfl, i + 1, by simp, by omega⟩ (by simp only; omega)
end
theorem qjN (v : Int) (j : Nat) : 0 ≤ getB v j ∧ getB v j ≤ 255 := by unfold getB; omega
theorem qj1 (ws : List Int) (o n : Nat) : qbB (bytesOf ws o n) := by
 intro v hv
 unfold bytesOf at hv
 rw [ql2] at hv
 obtain ⟨j, _, rfl⟩ := hv
 exact qjN _ _
theorem aRead_8 (ws : List Int) (off n : Int) : qbB (aRead ws off n).1 := by
 unfold aRead
 split
 ·exact qj1 _ _ _
 ·intro v hv; cases hv
section
variable {F1 F2 : Nat → Prop} {H : AH} {p w : Nat} {ws : List Int} {root : Int}
theorem qka {z : Int} (hz : 2 ≤ z ∧ z ≤ 512) : (if (qll .i64 ((qll .i64 (z - 1)) * 8)) < 448 then (qll .i64 ((qll .i64 (z - 1)) * 8)) else 448) = (if (z - 1) * 8 < 448 then (z - 1) * 8 else 448) := by
 rw [qg (n := z - 1) (by omega) (by omega), qg (n := (z - 1) * 8) (by omega) (by omega)]
theorem qgD {b : Bk} {n : Int} (hok : Ok ws) (hb : b ∈ blkL ws) (hu : b.2.2 = true) (hn : 0 ≤ n ∧ n ≤ 448 ∧ n ≤ (b.2.1 - 1) * 8) : (aRead ws (offN b.1) n).2 = 0 := by
 unfold aRead
 rw [if_pos]
 have hm := hok.blen.2 b hb
 have hl := hok.len
 have ho : offN b.1 = (b.1 + 1) * 8 := by unfold offN; rw [if_pos (by omega)]
 exact ⟨hn.1, hn.2.1, b, hb, hu, Int.le_refl _, by omega, by omega⟩
end
section
variable {H : AH}
theorem MR.blk' {words : Int} {e : List Ex} {ws : List Int} (h : MR words e ws) : blkL ws = blkX words e := by unfold blkL; rw [h.blocks]; rfl
theorem qiR {n words : Int} (hw : mayW words) (hn : 1 ≤ n ∧ n ≤ 448) (hfit : needN n ≤ words) :
  fitO (firstN words) n = [8] ∧ ∃ tk, takesN words (needN n) = tk ∧ (aAlloc (firstN words) n 8).1 = true ∧ MR words [(0, tk, qlq ((tk.toNat - 1) * 8) 0)] (aAlloc (firstN words) n 8).2 := by
 have hm := MR.first hw
 have hw' := hw
 unfold mayW at hw'
 have hb : blkL (firstN words) = [(0, words, false)] := by
  rw [hm.blk']
  show gapB 0 words = _
  unfold gapB
  rw [if_pos (by omega), Int.sub_zero]
 have hneed : 2 ≤ needN n := by unfold needN; rw [if_pos hn]; omega
 have hf : fitI (firstN words) n = [0] := by
  unfold fitI fitsL
  rw [if_neg (by omega), hb]
  show fitStep _ _ [] 0 = [0]
  unfold fitStep
  have h1 : bkAt [((0 : Int), words, false)] 0 = (0, words, false) := rfl
  rw [h1, if_neg (by simp; omega)]
  rfl
 have hfo : fitO (firstN words) n = [8] := by
  show (fitI (firstN words) n).map _ = _
  rw [hf, hb]; rfl
 refine ⟨hfo, takesN words (needN n), rfl, ?_⟩
 rcases qfD (firstN words) n 8 with ⟨h0, _⟩ | ⟨_, i, hi, _, hA⟩
 ·rw [hfo] at h0; simp at h0
 ·rw [hf] at hi
  have hi0 : i = 0 := by simpa using hi
  subst hi0
  rw [hA]
  refine ⟨rfl, ?_⟩
  have hbk : bkAt (blkL (firstN words)) 0 = (0, words, false) := by rw [hb]; rfl
  rw [hbk]
  obtain ⟨e1, e2, hE, _, _, hMR⟩ := hm.alloc (i := 0) (b := (0, words, false)) (need := needN n) (by rw [← hm.blk', hb]; rfl) rfl ⟨hneed, hfit⟩
  have h2 : e1 = [] ∧ e2 = [] := by
   cases e1 <;> cases e2 <;> simp at hE ⊢
  rw [h2.1, h2.2] at hMR
  exact hMR
end
section
variable {words root off : Int} {e : List Ex} {ws : List Int}
theorem emap (e : List Ex) : (e.map fun x => ((x, 0) : Ex × Nat)).map (·.1) = e := by
 induction e with
 | nil => rfl
 | cons a r ih => simp only [qmj, ih]
theorem MR.wr (h : MR words e ws) {bs : List Int} (hw : 0 ≤ (bs.length : Int) ∧ (bs.length : Int) ≤ 448 ∧ ∃ x ∈ e, (x.1 + 1) * 8 ≤ off ∧ off + bs.length ≤ (x.1 + x.2.1) * 8) : aWrite ws off bs = (0, putBs ws off.toNat bs) := by
 have hl := h.len
 refine qkz (E := e.map fun x => (x, 0)) (by rw [emap, hl]; exact h) ?_
 rw [h.blk', h.within]; exact hw
theorem MR.wr0 (h : MR words e ws) {bs : List Int} (hw : ¬ (0 ≤ (bs.length : Int) ∧ (bs.length : Int) ≤ 448 ∧ ∃ x ∈ e, (x.1 + 1) * 8 ≤ off ∧ off + bs.length ≤ (x.1 + x.2.1) * 8)) : aWrite ws off bs = (1, ws) := by
 have hl := h.len
 refine qjt (E := e.map fun x => (x, 0)) (by rw [emap, hl]; exact h) ?_
 rw [h.blk', h.within]; exact hw
theorem MR.rd (h : MR words e ws) {n : Int} (hw : 0 ≤ n ∧ n ≤ 448 ∧ ∃ x ∈ e, (x.1 + 1) * 8 ≤ off ∧ off + n ≤ (x.1 + x.2.1) * 8) : aRead ws off n = (bytesOf ws off.toNat n.toNat, 0) := by
 unfold aRead
 rw [if_pos]
 rw [h.blk', h.within]; exact hw
end
section
variable {ws : List Int} {e : List Ex} {off root : Int}
theorem MR.self {words : Int} {ext : List Ex} {W : List Int} (h : MR words ext W) (hl : (W.length : Int) = words) : MR W.length ext W := by rw [hl]; exact h
theorem MR.used (h : MR ws.length e ws) : isUsed ws off = true ↔ ∃ x ∈ e, (x.1 + 1) * 8 = off := by
 unfold isUsed
 rw [h.blocks]
 simp only [decide_eq_true_eq]
 constructor
 ·intro hh
  by_cases hx : ∃ x ∈ e, (x.1 + 1) * 8 = off
  ·exact hx
  ·have := h.is_none (off := off) (fun x hx' ho => hx ⟨x, hx', ho⟩)
   omega
 ·rintro ⟨x, hx, ho⟩
  obtain ⟨e1, e2, rfl⟩ := qmF hx
  rw [h.is_at ho]; omega
theorem Ok.used_range (h : Ok ws) (hu : isUsed ws off = true) : 8 ≤ off ∧ off ≤ 8 * (ws.length : Int) := by
 obtain ⟨e, h⟩ := h
 obtain ⟨x, hx, ho⟩ := h.used.1 hu
 have := h.mem hx
 omega
theorem qej {E : List (Int × Int)} (h : ∃ e ∈ E, 0 ≤ e.1) : 1 ≤ (eLines E).length := by
 obtain ⟨e, he, h0⟩ := h
 exact List.length_pos_of_mem (qc8.2 ⟨e, he, h0, rfl⟩)
theorem qdH (K b : Int) (n : Nat) : linesP K b n ≤ 14 := by
 unfold linesP
 split
 ·split <;> omega
 ·split
  ·split <;> omega
  ·split <;> omega
theorem qkV {i j : Nat} (hok : Ok ws) (hi : i < (blkL ws).length) (hj : j < (blkL ws).length) (h : (bkAt (blkL ws) i).1 = (bkAt (blkL ws) j).1) : i = j := by
 have hc := hok.may.2
 have h1 := atN_at (j := 0) hc hi
 have h2 := atN_at (j := 0) hc hj
 rw [h, h2] at h1
 omega
theorem qdN {n : Int} {cs : List Int} (hok : Ok ws) (hE : (imgAlloc ws n cs).2.2 = 0) :
  Ok (applyE ws (imgAlloc ws n cs).1) ∧ (∀ root, isUsed ws root = true → isUsed (applyE ws (imgAlloc ws n cs).1) root = true) ∧ 1 ≤ (eLines (imgAlloc ws n cs).1).length ∧ aAlloc ws n (imgAlloc ws n cs).2.1 = (true, applyE ws (imgAlloc ws n cs).1) ∧
  (∀ root, isUsed ws root = true → root ≠ (imgAlloc ws n cs).2.1) ∧ isUsed (applyE ws (imgAlloc ws n cs).1) (imgAlloc ws n cs).2.1 = true := by
 have hok0 := hok
 have hbl := hok.blocks
 have hlen := hok.len
 obtain ⟨e, h⟩ := hok
 unfold imgAlloc at hE ⊢
 rw [hbl] at hE ⊢
 by_cases hn0 : needN n = 0
 ·rw [if_pos hn0] at hE; simp at hE
 rw [if_neg hn0] at hE ⊢
 simp only at hE ⊢
 by_cases hc : chooseN (blkL ws) (needN n) cs < 0
 ·rw [if_pos hc] at hE; simp at hE
 rw [if_neg hc] at hE ⊢
 have hch : ∃ i : Nat, chooseN (blkL ws) (needN n) cs = (i : Int) ∧ i ∈ fitsL (blkL ws) (needN n) := by
  unfold chooseN at hc ⊢
  rcases qei (l := blkL ws) (cs := cs) (f := fitsL (blkL ws) (needN n)) (b := -1) with h | ⟨i, hi, h⟩
  ·omega
  ·exact ⟨i, h, hi⟩
 obtain ⟨i, hx, hin⟩ := hch
 obtain ⟨hi, hu, hn1, hn2⟩ := qge (ws := ws) (n := n) hin
 rw [hx, qlp]
 simp only
 have hgi := qas hi
 have hbx : blkL ws = blkX ws.length e := h.blk'
 have hbm := hok0.blen.2 _ (qlx hgi)
 obtain ⟨e1, e2, he, hl1, hl2, hMR⟩ := h.alloc (by rw [← hbx]; exact hgi) hu ⟨hn2, hn1⟩
 have hlen' : (applyE ws (carveE (bkAt (blkL ws) i) (needN n))).length = ws.length := qaz _ _
 have hMR' := MR.self hMR (by rw [hlen'])
 have hoff : offN (bkAt (blkL ws) i).1 = ((bkAt (blkL ws) i).1 + 1) * 8 := by unfold offN; rw [if_pos (by omega)]
 refine ⟨⟨_, hMR'⟩, fun root hr => ?_, ?_, ?_, fun root hr => ?_, ?_⟩
 ·obtain ⟨x, hx, ho⟩ := h.used.1 hr
  refine hMR'.used.2 ⟨x, ?_, ho⟩
  rw [he, qlD] at hx
  rw [qlD, qlL]
  rcases hx with hx | hx
  ·exact .inl hx
  ·exact .inr (.inr hx)
 ·refine qej ⟨_, List.mem_cons_self .., by simp only; omega⟩
 ·have hmem : offN (bkAt (blkL ws) i).1 ∈ fitO ws n := by
   unfold fitO
   exact List.mem_map_of_mem (f := fun i => offN (bkAt (blkL ws) i).1) hin
  rcases qfD ws n (offN (bkAt (blkL ws) i).1) with ⟨hno, _⟩ | ⟨_, j, hj, ho, hA⟩
  ·exact absurd hmem hno
  ·obtain ⟨hjl, hju, _, _⟩ := qge hj
   have hbj := hok0.blen.2 _ (qlx (qas hjl))
   have hij : j = i := qkV hok0 hjl hi (by
    rw [hoff] at ho
    unfold offN at ho
    rw [if_pos (by omega)] at ho
    omega)
   rw [hA, hij]
 ·obtain ⟨x, hx, ho⟩ := h.used.1 hr
  intro hc
  rw [hoff] at hc
  rw [he, qlD] at hx
  rcases hx with hx | hx
  ·have := hl1 x hx; omega
  ·have := hl2 x hx; omega
 ·exact hMR'.used.2 ⟨_, List.mem_append_right _ (List.mem_cons_self ..), hoff.symm⟩
theorem qeK (hok : Ok ws) (hE : (imgFree ws off).2 = 0) :
  Ok (applyE ws (imgFree ws off).1) ∧ (∀ root, isUsed ws root = true → root ≠ off → isUsed (applyE ws (imgFree ws off).1) root = true) ∧ 1 ≤ (eLines (imgFree ws off).1).length ∧ isUsed ws off = true := by
 obtain ⟨e, h⟩ := hok
 by_cases hx : ∃ x ∈ e, (x.1 + 1) * 8 = off
 rotate_left 1
 ·rw [h.imgFree_none (fun x hx' ho => hx ⟨x, hx', ho⟩)] at hE; simp at hE
 have hus := h.used.2 hx
 obtain ⟨x, hx, ho⟩ := hx
 obtain ⟨e1, e2, rfl⟩ := qmF hx
 rw [h.imgFree_at ho]
 simp only
 have hMR := h.free
 have hlen' : (applyE ws [(endX 0 e1, wordN (startX (ws.length : Int) e2 - endX 0 e1) false)]).length = ws.length := qaz _ _
 have hMR' := MR.self hMR (by rw [hlen'])
 refine ⟨⟨_, hMR'⟩, fun root hr hne => ?_, ?_, hus⟩
 ·obtain ⟨y, hy, hyo⟩ := h.used.1 hr
  refine hMR'.used.2 ⟨y, ?_, hyo⟩
  rw [qlD, qlL] at hy
  rw [qlD]
  rcases hy with hy | hy | hy
  ·exact .inl hy
  ·subst hy; exact absurd (hyo.symm.trans ho) hne
  ·exact .inr hy
 ·have := (qdI (qdq.1 h.ok).1).1
  exact qej ⟨_, List.mem_cons_self .., by simp only; omega⟩
theorem qfQ {bs : List Int} {E : List (Int × Int)} (hE : imgWrite ws off bs = (E, 0)) : (E.length = 0 ↔ bs.length = 0) ∧ (0 < bs.length → ∃ e ∈ E, 0 ≤ e.1) := by
 unfold imgWrite at hE
 split at hE
 ·simp at hE
 split at hE
 rotate_left 1
 ·simp at hE
 injection hE with h1 h2
 subst h1
 unfold editsOf touched
 refine ⟨?_, fun hb => ?_⟩
 ·rw [qmm, List.length_range]
  split <;> omega
 ·rw [if_neg (by omega)]
  exact ⟨_, List.mem_map_of_mem (List.mem_range.2 (show 0 < _ by omega)), by simp only; omega⟩
theorem qe6 {bs : List Int} (hok : Ok ws) (h8 : qbB bs) (hE : (imgWrite ws off bs).2 = 0) :
  Ok (applyE ws (imgWrite ws off bs).1) ∧ (∀ root, isUsed ws root = true → isUsed (applyE ws (imgWrite ws off bs).1) root = true) := by
 have hA : aWrite ws off bs = (0, applyE ws (imgWrite ws off bs).1) := by unfold aWrite; rw [if_pos hE]
 obtain ⟨e, h⟩ := hok
 by_cases hw : 0 ≤ (bs.length : Int) ∧ (bs.length : Int) ≤ 448 ∧ ∃ x ∈ e, (x.1 + 1) * 8 ≤ off ∧ off + bs.length ≤ (x.1 + x.2.1) * 8
 rotate_left 1
 ·rw [h.wr0 hw] at hA; simp at hA
 rw [h.wr hw] at hA
 injection hA with _ hA
 rw [← hA]
 obtain ⟨_, _, x, hx, ho1, ho2⟩ := hw
 have hxm := h.mem hx
 obtain ⟨e1, e2, rfl⟩ := qmF hx
 have hMR := h.write (off := off.toNat) (bs := bs) h8 (by omega) (by omega)
 have hlen' : (putBs ws off.toNat bs).length = ws.length := qcK _ _ _
 have hMR' := MR.self hMR (by rw [hlen'])
 refine ⟨⟨_, hMR'⟩, fun root hr => ?_⟩
 obtain ⟨y, hy, hyo⟩ := h.used.1 hr
 rw [qlD, qlL] at hy
 rcases hy with hy | hy | hy
 ·exact hMR'.used.2 ⟨y, by simp [hy], hyo⟩
 ·subst hy; exact hMR'.used.2 ⟨_, List.mem_append_right _ (List.mem_cons_self ..), hyo⟩
 ·exact hMR'.used.2 ⟨y, by simp [hy], hyo⟩
end
def ChOut (pa pb pc pd : Int) (s : HS) (ws : List Int) (root : Int) (mvb : Nat) (cb : Int) (err : Int) (E : List (Int × Int)) (s' : HS) (e : Int) : Prop :=
 (e = 0 ∧ err = 0 ∧ ¬ s.stuck ∧ s'.M.down = false ∧ HP pa pb pc pd s' (applyE ws E) root (mvb + 40) (cb + 14) ∧ s'.worn = false ∧ s'.now = bump s.now (eLines E)) ∨
 (e = 3 ∧ s'.M.down = false ∧ HP pa pb pc pd s' ws root (mvb + 40) (cb + 14) ∧ s'.stuck ∧ s'.now = s.now ∧ (s.stuck → s' = s) ∧ (¬ s.stuck → err = 0 ∧ s'.worn = true)) ∨
 (e = err ∧ s' = s ∧ (err = 0 → E = [])) ∨
 (e = 2 ∧ err = 0 ∧ ¬ s.stuck ∧ s'.M.down = true ∧ s.M.cut ≠ -1 ∧ (HP pa pb pc pd s' ws root (mvb + 40) (cb + 14) ∨ HP pa pb pc pd s' (applyE ws E) root (mvb + 40) (cb + 14)))
structure Side (pa pb : Int) (s s' : HS) : Prop where
 cut : s.M.cut = -1 → s'.M.cut = -1
 lv : ∀ k, LV s.M (16 + pa.toNat + 1) pb.toNat k → ∃ k', k ≤ k' ∧ LV s'.M (16 + pa.toNat + 1) pb.toNat k'
theorem Side.refl {pa pb : Int} (s : HS) : Side pa pb s s := ⟨fun h => h, fun k h => ⟨k, qlu _, h⟩⟩
def errFree (ws : List Int) (root off : Int) : Int := if (imgFree ws off).2 ≠ 0 then (imgFree ws off).2 else if root = off then 5 else 0
section
variable {pa pb pc pd : Int} {s : HS} {ws : List Int} {root : Int} {mvb : Nat} {cb : Int}
theorem HP.rootN (h : HP pa pb pc pd s ws root mvb cb) : rootN s.M = root ∧ 0 ≤ root ∧ root ≤ 4096 := by
 have hr : 0 ≤ root ∧ root ≤ 4096 := by
  rcases h.ru with h0 | hu
  ·omega
  ·have := h.ok.used_range hu
   have := h.ok.len
   omega
 unfold Go.Proofs.YtemeclnpdpkfdaaGreat.rootN
 rw [h.rt, qg (by omega) (by omega)]
 exact ⟨rfl, hr⟩
theorem qff {E : List (Int × Int)} (h : HP pa pb pc pd s ws root mvb cb) (hup : s.M.down = false) (hst : ¬ s.stuck) (hin : EdIn E ws.length) (h1 : 1 ≤ (eLines E).length) (h14 : (eLines E).length ≤ 14)
  (hok' : Ok (applyE ws E)) (hru' : root = 0 ∨ isUsed (applyE ws E) root = true) (hb : mvb + 2000 < 4611686018427387904) (hcb : cb + 100 < 4611686018427387904) :
  ChOut pa pb pc pd s ws root mvb cb 0 E (commitH pa pb pc pd ws E s).1 (commitH pa pb pc pd ws E s).2 ∧ Side pa pb s (commitH pa pb pc pd ws E s).1 := by
 obtain ⟨c1, c2, c3⟩ := qjO h hup hst hin h1 h14 hok' hru' hb hcb
 refine ⟨?_, c1, c3⟩
 rcases c2 with ⟨a, b, c, d, e⟩ | ⟨a, b, c, d, e⟩ | ⟨a, b, c, d⟩
 ·exact .inl ⟨a, rfl, hst, b, c, d, e⟩
 ·exact .inr (.inl ⟨a, b, c, .inl d, e, fun h => absurd h hst, fun _ => ⟨rfl, d⟩⟩)
 ·exact .inr (.inr (.inr ⟨a, rfl, hst, b, c, d⟩))
theorem ChOut.stuck3 {E : List (Int × Int)} {err : Int} (h : HP pa pb pc pd s ws root mvb cb) (hup : s.M.down = false) (hs : s.stuck) : ChOut pa pb pc pd s ws root mvb cb err E s 3 :=
 .inr (.inl ⟨rfl, hup, h.mono (by omega) (by omega), hs, rfl, fun _ => rfl, fun hn => absurd hs hn⟩)
theorem qeF {n : Int} (h : HP pa pb pc pd s ws root mvb cb) (hup : s.M.down = false) (hb : mvb + 2000 < 4611686018427387904) (hcb : cb + 100 < 4611686018427387904) :
  ChOut pa pb pc pd s ws root mvb cb (imgAlloc ws n s.now).2.2 (imgAlloc ws n s.now).1 (allocH pa pb pc pd s n).1 (allocH pa pb pc pd s n).2.1 ∧ Side pa pb s (allocH pa pb pc pd s n).1 ∧
  ((allocH pa pb pc pd s n).2.1 = 3 → (imgAlloc ws n s.now).2.2 ≠ 1) ∧ (s.stuck → (allocH pa pb pc pd s n).2.1 ≠ 3 → (imgAlloc ws n s.now).2.2 = 1) ∧ ((allocH pa pb pc pd s n).2.1 = 0 → (imgAlloc ws n s.now).2.2 = 0 ∧ ¬ s.stuck ∧ (allocH pa pb pc pd s n).2.2 = (imgAlloc ws n s.now).2.1) := by
 have hE6 : (imgAlloc ws n s.now).2.2 = 0 ∨ (imgAlloc ws n s.now).2.2 = 4 ∨ (imgAlloc ws n s.now).2.2 = 6 ∨ ((imgAlloc ws n s.now).2.2 = 1 ∧ needN n = 0) := by
  unfold imgAlloc
  by_cases h0 : needN n = 0
  ·rw [if_pos h0]; exact .inr (.inr (.inr ⟨rfl, h0⟩))
  ·rw [if_neg h0]
   split
   ·exact .inr (.inr (.inl rfl))
   ·split
    ·exact .inr (.inl rfl)
    ·exact .inl rfl
 unfold allocH
 rw [if_neg (by simp [hup]), h.words hup]
 by_cases h0 : needN n = 0
 ·rw [if_pos h0]
  have e1 : (imgAlloc ws n s.now).2.2 = 1 := by unfold imgAlloc; rw [if_pos h0]
  rw [e1]
  exact ⟨.inr (.inr (.inl ⟨rfl, rfl, fun hh => by omega⟩)), Side.refl s, fun hh => by simp at hh, fun _ _ => rfl, fun hh => by simp at hh⟩
 rw [if_neg h0]
 by_cases hs : s.stuck
 ·rw [if_pos hs]
  exact ⟨ChOut.stuck3 h hup hs, Side.refl s, fun _ hh => by omega, fun _ hh => by simp at hh, fun hh => by simp at hh⟩
 rw [if_neg hs]
 by_cases he : (imgAlloc ws n s.now).2.2 = 0
 rotate_left 1
 ·rw [if_pos he]
  refine ⟨.inr (.inr (.inl ⟨rfl, rfl, fun hh => absurd hh he⟩)), Side.refl s, fun hh => by simp only at hh; omega, fun hh => absurd hh hs, fun hh => absurd hh he⟩
 rw [if_neg (by simpa using he)]
 obtain ⟨k1, k2, k3, _, _, _⟩ := qdN h.ok he
 have hml := (qf6 (ws := ws) (n := n) (cs := s.now)).most
 have := qdH 1 n 0
 obtain ⟨c1, c2⟩ := qff (E := (imgAlloc ws n s.now).1) h hup hs qd9 k3 (by omega) k1 (h.ru.imp id (k2 root)) hb hcb
 rw [he]
 exact ⟨c1, c2, fun _ => by omega, fun hh => absurd hh hs, fun _ => ⟨rfl, hs, rfl⟩⟩
theorem qgf {off : Int} (h : HP pa pb pc pd s ws root mvb cb) (hup : s.M.down = false) (hb : mvb + 2000 < 4611686018427387904) (hcb : cb + 100 < 4611686018427387904) :
  ChOut pa pb pc pd s ws root mvb cb (errFree ws root off) (imgFree ws off).1 (freeH pa pb pc pd s off).1 (freeH pa pb pc pd s off).2 ∧ Side pa pb s (freeH pa pb pc pd s off).1 ∧
  ((freeH pa pb pc pd s off).2 = 3 → errFree ws root off = 0) := by
 have hE6 : (imgFree ws off).2 = 0 ∨ (imgFree ws off).2 = 1 ∨ (imgFree ws off).2 = 6 := by
  unfold imgFree
  split
  ·exact .inr (.inr rfl)
  ·split
   ·exact .inr (.inl rfl)
   ·exact .inl rfl
 have hF : freeH pa pb pc pd s off = if (imgFree ws off).2 ≠ 0 then (s, (imgFree ws off).2) else if root = off then (s, 5) else if s.stuck then (s, 3) else commitH pa pb pc pd ws (imgFree ws off).1 s := by
  unfold freeH
  rw [if_neg (by simp [hup]), h.words hup, h.rootN.1]
 rw [hF]
 by_cases he : (imgFree ws off).2 = 0
 rotate_left 1
 ·have eF : errFree ws root off = (imgFree ws off).2 := by unfold errFree; rw [if_pos he]
  rw [if_pos he, eF]
  exact ⟨.inr (.inr (.inl ⟨rfl, rfl, fun hh => absurd hh he⟩)), Side.refl s, fun hh => by simp only at hh; omega⟩
 rw [if_neg (by simpa using he)]
 by_cases hr : root = off
 ·have eF : errFree ws root off = 5 := by unfold errFree; rw [if_neg (by simpa using he), if_pos hr]
  rw [if_pos hr, eF]
  exact ⟨.inr (.inr (.inl ⟨rfl, rfl, fun hh => by omega⟩)), Side.refl s, fun hh => by simp at hh⟩
 have eF : errFree ws root off = 0 := by unfold errFree; rw [if_neg (by simpa using he), if_neg hr]
 rw [if_neg hr, eF]
 by_cases hs : s.stuck
 ·rw [if_pos hs]
  exact ⟨ChOut.stuck3 h hup hs, Side.refl s, fun _ => rfl⟩
 rw [if_neg hs]
 obtain ⟨k1, k2, k3, _⟩ := qeK h.ok he
 have hml := (qgH (ws := ws) (off := off)).most
 have := qdH 2 0 0
 obtain ⟨c1, c2⟩ := qff (E := (imgFree ws off).1) h hup hs qe4 k3 (by omega) k1 (h.ru.imp id (fun hu => k2 root hu (fun e => hr e))) hb hcb
 exact ⟨c1, c2, fun _ => rfl⟩
theorem qeG {off : Int} {bs : List Int} (h8 : qbB bs) (h : HP pa pb pc pd s ws root mvb cb) (hup : s.M.down = false) (hb : mvb + 2000 < 4611686018427387904) (hcb : cb + 100 < 4611686018427387904) :
  ChOut pa pb pc pd s ws root mvb cb (imgWrite ws off bs).2 (imgWrite ws off bs).1 (writeH pa pb pc pd s off bs).1 (writeH pa pb pc pd s off bs).2 ∧ Side pa pb s (writeH pa pb pc pd s off bs).1 ∧
  ((writeH pa pb pc pd s off bs).2 = 3 → (imgWrite ws off bs).2 = 0 ∧ 0 < bs.length) ∧ ((imgWrite ws off bs).2 = 0 → bs.length = 0 → writeH pa pb pc pd s off bs = (s, 0)) ∧ ((imgWrite ws off bs).2 = 0 → 0 < bs.length → s.stuck → writeH pa pb pc pd s off bs = (s, 3)) := by
 have hE6 : (imgWrite ws off bs).2 = 0 ∨ (imgWrite ws off bs).2 = 1 ∨ (imgWrite ws off bs).2 = 6 := by
  unfold imgWrite
  split
  ·exact .inr (.inr rfl)
  ·split
   ·exact .inl rfl
   ·exact .inr (.inl rfl)
 unfold writeH
 rw [if_neg (by simp [hup]), h.words hup]
 by_cases he : (imgWrite ws off bs).2 = 0
 rotate_left 1
 ·rw [if_pos he]
  exact ⟨.inr (.inr (.inl ⟨rfl, rfl, fun hh => absurd hh he⟩)), Side.refl s, fun hh => by simp only at hh; omega, fun hh => absurd hh he, fun hh => absurd hh he⟩
 rw [if_neg (by simpa using he)]
 obtain ⟨l1, l2⟩ := qfQ (E := (imgWrite ws off bs).1) (ws := ws) (off := off) (bs := bs) (Prod.ext rfl he)
 by_cases hz : (imgWrite ws off bs).1.length = 0
 ·rw [if_pos hz, he]
  have hb0 := l1.1 hz
  exact ⟨.inr (.inr (.inl ⟨rfl, rfl, fun _ => List.length_eq_zero_iff.1 hz⟩)), Side.refl s, fun hh => by simp at hh, fun _ _ => rfl, fun _ hh => by omega⟩
 rw [if_neg hz]
 have hb0 : 0 < bs.length := by
  rcases Nat.eq_zero_or_pos bs.length with h0 | h0
  ·exact absurd (l1.2 h0) hz
  ·exact h0
 by_cases hs : s.stuck
 ·rw [if_pos hs]
  exact ⟨ChOut.stuck3 h hup hs, Side.refl s, fun _ => ⟨he, hb0⟩, fun _ hh => by omega, fun _ _ _ => rfl⟩
 rw [if_neg hs]
 obtain ⟨k1, k2⟩ := qe6 h.ok h8 he
 have hml := (qf2 (ws := ws) h.ok.len.2.2 (off := off) (bs := bs)).most
 have := qdH 4 0 bs.length
 obtain ⟨c1, c2⟩ := qff (E := (imgWrite ws off bs).1) h hup hs (qeS h.ok.len.2.2 (by have := h.ok.len; omega)) (qej (l2 hb0)) (by omega) k1 (h.ru.imp id (k2 root)) hb hcb
 rw [he]
 exact ⟨c1, c2, fun _ => ⟨rfl, hb0⟩, fun _ hh => by omega, fun _ _ hh => absurd hh hs⟩
theorem qfk {off : Int} (hoff : isI off) (h : HP pa pb pc pd s ws root mvb cb) (hup : s.M.down = false) :
    Side pa pb s (setRootH pa pb s off).1 ∧ (setRootH pa pb s off).1.now = s.now ∧ (setRootH pa pb s off).1.worn = s.worn ∧
    ((off ≠ 0 ∧ isUsed ws off = false ∧ setRootH pa pb s off = (s, 1)) ∨
     ((off = 0 ∨ isUsed ws off = true) ∧ s.stuck ∧ setRootH pa pb s off = (s, 3)) ∨
     ((off = 0 ∨ isUsed ws off = true) ∧ ¬ s.stuck ∧ (setRootH pa pb s off).2 = 0 ∧ (setRootH pa pb s off).1.M.down = false ∧ ¬ (setRootH pa pb s off).1.stuck ∧ HP pa pb pc pd (setRootH pa pb s off).1 ws off mvb cb) ∨
     ((off = 0 ∨ isUsed ws off = true) ∧ ¬ s.stuck ∧ (setRootH pa pb s off).2 = 2 ∧ (setRootH pa pb s off).1.M.down = true ∧ s.M.cut ≠ -1 ∧ (HP pa pb pc pd (setRootH pa pb s off).1 ws root mvb cb ∨ HP pa pb pc pd (setRootH pa pb s off).1 ws off mvb cb))) := by
  have hm := qaf.1 h.may
  unfold setRootH
  rw [if_neg (by simp [hup]), h.words hup]
  by_cases hu : off ≠ 0 ∧ isUsed ws off = false
  · rw [if_pos hu]
    exact ⟨Side.refl s, rfl, rfl, .inl ⟨hu.1, hu.2, rfl⟩⟩
  rw [if_neg hu]
  have hu' : off = 0 ∨ isUsed ws off = true := by
    by_cases h0 : off = 0
    · exact .inl h0
    · right
      cases hx : isUsed ws off with
      | true => rfl
      | false => exact absurd ⟨h0, hx⟩ hu
  by_cases hs : s.stuck
  · rw [if_pos hs]
    exact ⟨Side.refl s, rfl, rfl, .inr (.inl ⟨hu', hs, rfl⟩)⟩
  rw [if_neg hs]
  have hr : 0 ≤ off ∧ off ≤ 4096 := by
    rcases hu' with h0 | hu'
    · omega
    · have := h.ok.used_range hu'
      have := h.ok.len
      omega
  rw [qbI (by omega) (by omega)]
  have hS := Mem.set_any (M := s.M) (i := 2) (v := off) hup (by omega) h.ps.ok.cut.1
  have hSo := Mem.set_ok (M := s.M) (i := 2) (v := off) h.ps.ok (by unfold isU; omega)
  have hlow : ∀ r : Nat, r ≠ 2 → (s.M.set 2 off).1.regs.getD r 0 = s.M.regs.getD r 0 := fun r hr => qcT (by omega)
  have hrl := h.ps.ok.regs
  rw [show ((2 : Nat) : Int) = 2 from rfl] at hS
  generalize s.M.set 2 off = S at *
  have hcm : commits S.1 = commits s.M := hlow 1 (by omega)
  have hlv : ∀ k, LV s.M (16 + pa.toNat + 1) pb.toNat k → LV S.1 (16 + pa.toNat + 1) pb.toNat k := fun k hk => hk.low (by rw [hS.cs]) fun r h1 _ => hlow r (by omega)
  have mk : ∀ root', (root' = root ∨ root' = off) → S.1.regs.getD 2 0 = root' → HP pa pb pc pd { s with M := S.1 } ws root' mvb cb := by
    intro root' hor hreg
    refine ⟨h.may, h.ps.low hS.cs (fun r _ hr => hlow r hr) hSo, h.sd.low (by omega) hS.cs (fun r _ hr => hlow r hr) (by omega), h.ok, h.len, hreg, ?_, h.pg, ⟨h.cp.kl, h.cp.ok, fun hd i hi => ?_, fun i hi => by show S.1.regs.getD (19 + i) 0 ≤ _; rw [hlow (19 + i) (by omega)]; exact h.cp.rg i hi⟩, fun hst => ?_, h.c0⟩
    · rcases hor with rfl | rfl
      · exact h.ru
      · exact hu'
    · show _ ∧ S.1.regs.getD (19 + i) 0 = _
      rw [hlow (19 + i) (by omega)]
      exact h.cp.lag hup i hi
    · refine absurd ?_ hs
      rcases hst with hst | ⟨hst, hc⟩
      · exact .inl hst
      · exact .inr ⟨hup, by rw [← hcm]; exact hc⟩
  refine ⟨⟨hS.cut, fun k hk => ⟨k, qlu _, hlv k hk⟩⟩, rfl, rfl, ?_⟩
  rcases hS.res with ⟨a, b, c⟩ | ⟨a, b, c, d⟩
  · refine .inr (.inr (.inl ⟨hu', hs, a, b, ?_, mk off (.inr rfl) (by rw [c, qcA (by omega), if_pos rfl])⟩))
    intro hst
    refine hs ?_
    rcases hst with hst | ⟨hst, hc⟩
    · exact .inl hst
    · exact .inr ⟨hup, by rw [← hcm]; exact hc⟩
  · refine .inr (.inr (.inr ⟨hu', hs, a, b, c, ?_⟩))
    rcases d with d | d
    · left; exact mk root (.inl rfl) (by rw [d]; exact h.rt)
    · right; exact mk off (.inr rfl) (by rw [d, qcA (by omega), if_pos rfl])
theorem qgi {off n : Int} (h : HP pa pb pc pd s ws root mvb cb) (hup : s.M.down = false) : readH pa pb s off n = imgRead ws off n := by
 unfold readH
 rw [if_neg (by simp [hup]), h.words hup]
theorem HP.hok {H : AH} {L : Pl} (h : HP pa pb pc pd s ws root mvb cb) (ha : HA H L pa pb pc pd s) (hb : mvb + 2000 < 4611686018427387904) (hcb : cb + 1000 < 4611686018427387904) : HOK H L pa pb pc pd s mvb cb :=
 ⟨ha, h.ps, by omega, fun j hj => (h.cp.ok j hj).2.2, hcb⟩
end
section
variable {n sp per : Nat} {M : Mem} {mvb len pt : Nat}
theorem qkX {l : List (Int × List Int)} (h : PSt n sp per M pt mvb len) (hn : 16 < n ∧ n ≤ 1000) (hup : M.down = false) (hb : mvb + 100 < 4611686018427387904) (hok : ∀ q ∈ l, qcr q) (hm : MayL n l) :
  (∀ r, (r = 2 ∨ 19 ≤ r) → (finN n sp per l M pt).1.regs.getD r 0 = M.regs.getD r 0) ∧
  ((finN n sp per l M pt).1.down = false → commits (finN n sp per l M pt).1 ≠ 0 → LV (finN n sp per l M pt).1 (n + 1) sp sp) ∧
  (∀ k, LV M (n + 1) sp k → ∃ k', k ≤ k' ∧ LV (finN n sp per l M pt).1 (n + 1) sp k') := by
 have hl14 := hm.2.2.1
 have hlm : ∀ q ∈ l, 0 ≤ q.1 ∧ q.1 < n ∧ isLine q.2 := fun q hq => by have := qcW hm hq; exact ⟨by omega, this.2, (hok q hq).line⟩
 obtain ⟨t1, t2, t3⟩ := qfg (by omega) h hup (by omega) hlm
 obtain ⟨b1, _, _, b4⟩ := qc9 (by omega) h hup (by omega) hlm (qdK hm)
 have hps3 := h.puts (by omega) (l := l) (by omega) hok
 unfold finN
 simp only
 generalize tputs n sp per l M pt = T at *
 by_cases e2 : T.2.2 = 0
 ·rw [if_pos e2]
  have hTup : T.1.down = false := by
   rcases b1 with ⟨_, h, _⟩ | ⟨e', _⟩ | ⟨e', _⟩
   ·exact h
   ·omega
   ·omega
  obtain ⟨z1, z2⟩ := qdC (v := 0) hps3 hTup
  refine ⟨fun r hr => by rw [qcT (by omega), t1 r (by omega)], fun hd hh => ?_, fun k hk => ?_⟩
  ·simp only at hd hh
   rcases z1 with ⟨_, _, c⟩ | ⟨_, hd', _⟩
   ·exact absurd c hh
   ·rw [hd'] at hd; cases hd
  ·obtain ⟨k', h1, h2⟩ := t3 k hk
   exact ⟨k', h1, h2.set1⟩
 rw [if_neg e2]
 by_cases e3 : T.2.2 = 3
 ·rw [if_pos e3]
  exact ⟨fun r hr => t1 r (by omega), fun _ _ => t2 e3, t3⟩
 rw [if_neg e3]
 refine ⟨fun r hr => t1 r (by omega), fun hd _ => ?_, t3⟩
 rcases b1 with ⟨e', _⟩ | ⟨e', _⟩ | ⟨_, hd', _⟩
 ·exact absurd e' e2
 ·exact absurd e' e3
 ·rw [hd'] at hd; cases hd
theorem qg8 (hup : M.down = false) (hc : commits M = 0) : recN n sp per M pt = (M, pt, 0) := by
 have hh : homesN n sp M = ([], 0) := by unfold homesN; rw [if_neg (by simp [hup]), hc, if_neg (by omega)]; rfl
 unfold recN
 rw [hh, if_neg (by simp), if_pos (by rfl)]
theorem qgg {ws : List (List Int)} (h : PSt n sp per M pt mvb len) (hn : 16 < n ∧ n ≤ 1000) (hup : M.down = false) (hb : mvb + 100 < 4611686018427387904) (hs : Sd n sp M ws) :
  PSt n sp per (recN n sp per M pt).1 (recN n sp per M pt).2.1 (mvb + 14) len ∧
  (∀ r, (r = 2 ∨ 19 ≤ r) → (recN n sp per M pt).1.regs.getD r 0 = M.regs.getD r 0) ∧
  ((recN n sp per M pt).1.down = false → commits (recN n sp per M pt).1 ≠ 0 → LV (recN n sp per M pt).1 (n + 1) sp sp) ∧
  (∀ k, LV M (n + 1) sp k → ∃ k', k ≤ k' ∧ LV (recN n sp per M pt).1 (n + 1) sp k') := by
 rcases hs with ⟨h1, h2⟩ | ⟨l, hp⟩
 ·rw [qg8 hup h1]
  exact ⟨h.mono (by omega), fun _ _ => rfl, fun _ hc => absurd h1 hc, fun k hk => ⟨k, qlu _, hk⟩⟩
 ·have hl1 := hp.may.2.1
  have hl14 := hp.may.2.2.1
  have hh := qfj hp.may hn.2 hup hp.cm hp.rows
  have e : recN n sp per M pt = finN n sp per l M pt := by
   unfold recN
   rw [hh]
   simp only
   rw [if_neg (by simp), if_neg (by omega), if_neg (fun hx => hx hp.may)]
  rw [e]
  exact ⟨(h.fin (by omega) (by omega) hp.ok).mono (by omega), qkX h hn hup hb hp.ok hp.may⟩
end
structure MP (pa pb pc pd : Int) (M : Mem) (ws : List Int) (root : Int) (mvb : Nat) (cb : Int) : Prop where
 may : mayP pa pb pc pd = true
 lv : ∃ k, LV M (16 + pa.toNat + 1) pb.toNat k
 mok : M.ok
 mv : M.mv ≤ mvb
 mlen : M.cs.length = 16 + pa.toNat + 1 + pb.toNat
 sd : Sd (16 + pa.toNat) pb.toNat M (linesOf pa.toNat ws)
 ok : Ok ws
 len : (ws.length : Int) = 8 * pa
 rt : M.regs.getD 2 0 = root
 ru : root = 0 ∨ isUsed ws root = true
 rg : ∀ i : Nat, (i : Int) < pagesP pa pb pc pd → M.regs.getD (19 + i) 0 ≤ cb
 c0 : 0 ≤ cb
def keptOf (M : Mem) (m : Nat) : List Int := (qma m).map fun i => M.regs.getD (19 + i) 0
theorem qc5 {M : Mem} {m : Nat} : (keptOf M m).length = m := by simp [keptOf]
theorem qga {M : Mem} {m i : Nat} (hi : i < m) : (keptOf M m).getD i 0 = M.regs.getD (19 + i) 0 := by
 unfold keptOf
 rw [qlo, qlz, qlP hi]; rfl
section
variable {pa pb pc pd : Int} {s : HS} {M : Mem} {ws : List Int} {root : Int} {mvb : Nat} {cb : Int}
theorem HP.mp (h : HP pa pb pc pd s ws root mvb cb) : MP pa pb pc pd s.M ws root mvb cb :=
 ⟨h.may, h.ps.lv, h.ps.ok, h.ps.mv, h.ps.len, h.sd, h.ok, h.len, h.rt, h.ru, fun i hi => h.cp.rg i (by rw [← h.pg] at hi; omega), h.c0⟩
theorem MP.mono (h : MP pa pb pc pd M ws root mvb cb) {mvb' : Nat} {cb' : Int} (h1 : mvb ≤ mvb') (h2 : cb ≤ cb') : MP pa pb pc pd M ws root mvb' cb' :=
 ⟨h.may, h.lv, h.mok, qmr h.mv h1, h.mlen, h.sd, h.ok, h.len, h.rt, h.ru, fun i hi => by have := h.rg i hi; omega, by have := h.c0; omega⟩
theorem MP.pst (h : MP pa pb pc pd M ws root mvb cb) : PSt (16 + pa.toNat) pb.toNat pc.toNat M 0 mvb (16 + pa.toNat + 1 + pb.toNat) := by
 have hm := qaf.1 h.may
 exact ⟨h.lv, h.mok, by omega, h.mv, h.mlen⟩
theorem MP.pages (h : MP pa pb pc pd M ws root mvb cb) : pagesP pa pb pc pd = (pa + 3) / 4 ∧ 1 ≤ (pa + 3) / 4 ∧ (pa + 3) / 4 ≤ 16 := by
 have hm := qaf.1 h.may
 unfold pagesP
 rw [if_pos h.may]
 exact ⟨rfl, by omega, by omega⟩
theorem MP.power (h : MP pa pb pc pd M ws root mvb cb) : MP pa pb pc pd M.power ws root mvb cb := by
 have hm := qaf.1 h.may
 obtain ⟨k, hk⟩ := h.lv
 refine ⟨h.may, ⟨k, hk.same rfl rfl⟩, ?_, h.mv, h.mlen, h.sd.power (by omega), h.ok, h.len, h.rt, h.ru, h.rg, h.c0⟩
 exact Mem.power_ok h.mok
theorem MP.setCut (h : MP pa pb pc pd M ws root mvb cb) {a b : Int} (ha : a ≤ 9223372036854775807) : MP pa pb pc pd (M.setCut a b) ws root mvb cb := by
 have hm := qaf.1 h.may
 obtain ⟨k, hk⟩ := h.lv
 refine ⟨h.may, ⟨k, hk.same rfl rfl⟩, ?_, h.mv, h.mlen, h.sd.setCut (by omega) a b, h.ok, h.len, h.rt, h.ru, h.rg, h.c0⟩
 exact Mem.setCut_ok h.mok ha
def openS (pa pb pc pd : Int) (M : Mem) : HS := ⟨(recN (16 + pa.toNat) pb.toNat pc.toNat M 0).1, (recN (16 + pa.toNat) pb.toNat pc.toNat M 0).2.1, keptOf (recN (16 + pa.toNat) pb.toNat pc.toNat M 0).1 (pagesP pa pb pc pd).toNat, keptOf (recN (16 + pa.toNat) pb.toNat pc.toNat M 0).1 (pagesP pa pb pc pd).toNat, false⟩
theorem MP.opened (h : MP pa pb pc pd M ws root mvb cb) (hup : M.down = false) (hb : mvb + 2000 < 4611686018427387904) :
    (M.cut = -1 → (openS pa pb pc pd M).M.cut = -1) ∧ (∀ k, LV M (16 + pa.toNat + 1) pb.toNat k → ∃ k', k ≤ k' ∧ LV (openS pa pb pc pd M).M (16 + pa.toNat + 1) pb.toNat k') ∧
    (((recN (16 + pa.toNat) pb.toNat pc.toNat M 0).2.2 = 0 ∧ (openS pa pb pc pd M).M.down = false ∧ HP pa pb pc pd (openS pa pb pc pd M) ws root (mvb + 14) cb) ∨
     ((recN (16 + pa.toNat) pb.toNat pc.toNat M 0).2.2 = 2 ∧ (openS pa pb pc pd M).M.down = true ∧ M.cut ≠ -1 ∧ MP pa pb pc pd (openS pa pb pc pd M).M ws root (mvb + 14) cb)) := by
  have hm := qaf.1 h.may
  obtain ⟨hpg, hpg1, hpg16⟩ := h.pages
  obtain ⟨r1, r2, r3⟩ := rec_any h.pst (by omega) hup (by omega) h.sd
  obtain ⟨q1, q2, q3, q4⟩ := qgg h.pst (by omega) hup (by omega) h.sd
  unfold openS
  generalize recN (16 + pa.toNat) pb.toNat pc.toNat M 0 = R at *
  refine ⟨r3, q4, ?_⟩
  rcases r2 with ⟨a, b⟩ | ⟨a, b, c⟩
  · refine .inl ⟨a, b, h.may, q1, r1, h.ok, h.len, (q2 2 (.inl rfl)).trans h.rt, h.ru, by show ((keptOf R.1 _).length : Int) = _; rw [qc5]; omega, ⟨rfl, fun i hi => ?_, fun _ i hi => ?_, fun i hi => ?_⟩, fun hs => ?_, h.c0⟩
    · simp only [qc5] at hi
      simp only
      rw [qga hi, q2 (19 + i) (.inr (by omega))]
      have := h.rg i (by omega)
      have := reg_U h.mok (i := 19 + i) (by omega)
      unfold isU at this
      omega
    · simp only [qc5] at hi
      simp only
      rw [qga hi]
      exact ⟨by omega, rfl⟩
    · simp only [qc5] at hi
      rw [q2 (19 + i) (.inr (by omega))]
      exact h.rg i (by omega)
    · rcases hs with hs | ⟨hs, hc⟩
      · cases hs
      · exact q3 hs hc
  · refine .inr ⟨a, b, c, ⟨h.may, q1.lv, q1.ok, q1.mv, q1.len, r1, h.ok, h.len, (q2 2 (.inl rfl)).trans h.rt, h.ru, fun i hi => ?_, h.c0⟩⟩
    simp only
    rw [q2 (19 + i) (.inr (by omega))]
    exact h.rg i hi
end
structure FrO (H H' : AH) (p c : Nat) : Prop where
 size : H.size ≤ H'.size
 get : ∀ b, b < H.size → b ≠ p → b ≠ c → H'.get b = H.get b
theorem FrO.trans {H H' H2 : AH} {p c : Nat} (h : FrO H H' p c) (h' : FrO H' H2 p c) : FrO H H2 p c :=
 ⟨qmr h.size h'.size, fun b hb h1 h2 => (h'.get b (by have := h.size; omega) h1 h2).trans (h.get b hb h1 h2)⟩
theorem FrO.of_keeps {H H' : AH} {p c : Nat} (h : qc H H') : FrO H H' p c := ⟨h.1, fun b hb _ _ => h.2 b hb⟩
theorem FrO.keeps {H0 H H' : AH} {p c : Nat} (h : FrO H H' p c) (hk : qc H0 H) (hp : H0.size ≤ p) (hc : H0.size ≤ c) : qc H0 H' :=
 ⟨qmr hk.1 h.size, fun b hb => by rw [h.get b (by have := hk.1; omega) (by omega) (by omega)]; exact hk.2 b hb⟩
theorem FrO.own {α : Type} {B : Nat} {H H' : AH} {p c : Nat} {s : Sl} {z : Nat} {f : α → List Value} {l : List α} (h : FrO H H' p c) (hp : p < B) (hc : c < B) (hO : Own B H s z f l) : Own B H' s z f l :=
 hO.keep h.size (fun b h1 h2 => h.get b h2 (by omega) (by omega))
section
variable {H H' : AH} {o : Nat} {pa pb pc pd : Int} {e : Nat}
theorem plg_row (hg : H.get o = ⟨pl pa pb pc pd, .rw, e⟩) : AH.row? H ⟨o, 0, none⟩ 4 = some (pl pa pb pc pd) := by
 simp [AH.row?, hg, pl, qq]
theorem qdD (hg : H.get o = ⟨pl pa pb pc pd, .rw, e⟩) (i : Nat) : AH.cell? H (qlm ⟨o, 0, none⟩ i) = (pl pa pb pc pd)[i]? := by
 rw [qk, qlJ]
 simp [AH.cell?, hg]
theorem MP.good {M : Mem} {ws : List Int} {root : Int} {mvb : Nat} {cb : Int} (h : MP pa pb pc pd M ws root mvb cb) (hup : M.down = false) (hb : mvb ≤ 1099511627776) : qcC M (16 + pa) pb pc := by
 have hm := qaf.1 h.may
 obtain ⟨k, hk⟩ := h.lv
 have h1 := hk.may
 have h2 := h.mlen
 have h3 := h.mv
 refine ⟨by omega, by omega, by omega, by omega, by omega, by omega, hup, ?_, by omega⟩
 rw [show (16 + pa + 1 : Int) = ((16 + pa.toNat + 1 : Nat) : Int) by omega]
 exact h1
theorem qiM {k : Option Addr → Int → AH → Prop} {o3 o30 p c : Nat} {M : Mem} (hm : qB H p c M) (hup : M.down = false) (hmay : mayP pa pb pc pd = true) (h3 : H.get o3 = ⟨pl pa pb pc pd, .rw, e⟩) (hl3 : o3 < H.size) {cells : List Value} (h30 : H.get o30 = ⟨cells, .rw, 0⟩) (hcl : cells.length = 9) (hl30 : o30 < H.size) (ho : o3 ≠ o30)
  (hrg : ∀ i : Nat, (i : Int) < pagesP pa pb pc pd → 0 ≤ M.regs.getD (19 + i) 0 ∧ M.regs.getD (19 + i) 0 ≤ 1099511627776)
  (hk : ∀ H' ct q1 q2, CAt H' ct q1 q2 pd (keptOf M (pagesP pa pb pc pd).toNat) (keptOf M (pagesP pa pb pc pd).toNat) → H.size ≤ H'.size → (∀ b, b < H.size → b ≠ o30 → H'.get b = H.get b) → H'.get o30 = ⟨cells.set 7 (.pointer (some ⟨ct, 0, none⟩)), .rw, 0⟩ → H.size ≤ ct → H.size ≤ q1 → H.size ≤ q2 → k (some ⟨o30, 0, none⟩) 0 H') :
  qah.j3 (some ⟨p, 0, none⟩) k o3 o30 false H := by
 have hmp := qaf.1 hmay
 unfold qah.j3
 rw [qa, qp (plg_row h3)]
 refine qcH.s ?_
 have hpg : pagesP pa pb pc pd = (pa + 3) / 4 := by unfold pagesP; rw [if_pos hmay]
 obtain ⟨m, hmE⟩ : ∃ m : Nat, pagesP pa pb pc pd = (m : Int) := ⟨(pagesP pa pb pc pd).toNat, by omega⟩
 rw [hmE] at hrg hk ⊢
 have hm16 : 1 ≤ m ∧ m ≤ 16 := by omega
 rw [qlp] at hk
 refine qE (t := ((none, (0 : Int), ⟨none, 0, 0⟩, (0 : Int)) : Option Addr × Int × Sl × Int)) (I := fun (t : Option Addr × Int × Sl × Int) H' => ∃ j : Nat, t.2.2.2 = (j : Int) ∧ j ≤ m ∧ qc H H' ∧ Own H.size H' t.2.2.1 1 iV (keptOf M j)) (m := fun (t : Option Addr × Int × Sl × Int) _ => qlr ((m : Int) - t.2.2.2)) ?_ ⟨0, rfl, by omega, qc.refl H, .inl ⟨rfl, rfl⟩⟩
 intro t H1 hI it hit
 obtain ⟨t1, t2, s, t4⟩ := t
 obtain ⟨j, e1, hj, hk1, hO⟩ := hI
 simp only at e1 hO
 subst e1
 unfold qah.l2
 simp only [qi, decide_eq_true_eq]
 by_cases hlt : (j : Int) < (m : Int)
 ·rw [if_pos hlt, qg (n := 19 + (j : Int)) (by omega) (by omega)]
  refine qS.s (hm.keeps hk1) ?_
  have hreg : M.reg (19 + (j : Int)) = (M.regs.getD (19 + j) 0, 0) := by
   unfold Mem.reg
   rw [if_pos ⟨by omega, by omega⟩, if_neg (by simp [hup]), show (19 + (j : Int)).toNat = 19 + j by omega]
  rw [hreg, if_neg (by simp)]
  have hrj := hrg j hlt
  rw [qv]
  simp only
  rw [if_neg (show ¬ (1099511627776 : Int) < M.regs.getD (19 + j) 0 by omega), qg (by omega) (by omega)]
  refine qbh (H0 := H) (B := H.size) (f := iV) (fun _ => rfl) rfl hO (qlu _) hk1.1 hk1 (by rw [qc5]; simp only [lim]; omega) ?_
  intro s' H' hO' hk' _ _
  rw [qg (n := (j : Int) + 1) (by omega) (by omega)]
  refine hit _ _ ⟨j + 1, by simp, by omega, hk', ?_⟩ (by simp only; omega)
  have : keptOf M (j + 1) = keptOf M j ++ [M.regs.getD (19 + j) 0] := by unfold keptOf; rw [qmq, List.map_append]; rfl
  rw [this]; exact hO'
 ·rw [if_neg hlt]
  have : j = m := by omega
  subst this
  unfold qah.j1
  rw [qdD (by rw [hk1.2 _ hl3]; exact h3) 3]
  show elI .i64 (some (.int .i64 pd)) _
  rw [qe]
  refine qbr.s (hO.rows (fun _ => rfl) (fun _ => rfl)) (by omega) (by rw [qc5]; exact hm16) (fun v hv => ?_) ?_
  ·unfold keptOf at hv
   rw [ql2] at hv
   obtain ⟨i, hi, rfl⟩ := hv
   rw [qml] at hi
   exact hrg i (by omega)
  intro H2 ct q1 q2 hC hk2 hct hq1 hq2
  have h30' : H2.get o30 = ⟨cells, .rw, 0⟩ := by rw [hk2.2 _ (by have := hk1.1; omega), hk1.2 _ hl30]; exact h30
  have hs1 := hk1.1
  have hs2 := hk2.1
  rw [qk, qlJ, qbu]
  refine ⟨⟨rfl, by rw [h30'], by rw [h30']; simp only [qlE, qmv]; omega⟩, ?_⟩
  have eput : AH.put H2 ⟨o30, 7, none⟩ [.pointer (some ⟨ct, 0, none⟩)] = H2.upd o30 ⟨cells.set 7 (.pointer (some ⟨ct, 0, none⟩)), .rw, 0⟩ := by
   simp only [AH.put, h30', setMany]
  rw [eput]
  have hg : ∀ b, b ≠ o30 → (H2.upd o30 ⟨cells.set 7 (.pointer (some ⟨ct, 0, none⟩)), .rw, 0⟩).get b = H2.get b := fun b hb => by rw [qT, if_neg hb]
  refine hk _ ct q1 q2 ⟨by rw [hg _ (by omega)]; exact hC.hct, by rw [hg _ (by omega)]; exact hC.h1, by rw [hg _ (by omega)]; exact hC.h2, hC.len, hC.l16, hC.lc, hC.l1, hC.l2, hC.ne, hC.ok⟩ (by show H.size ≤ H2.size; omega)
   (fun b hb hne => by rw [hg b hne, hk2.2 _ (by omega), hk1.2 _ hb]) (by rw [qT, if_pos rfl]) (by omega) (by omega) (by omega)
end
section
variable {H : AH} {p c : Nat} {M : Mem} {pa pb pc pd : Int}
theorem qjd {k : Option Addr → Int → AH → Prop} {ws : List Int} {mvb : Nat} (hm : qB H p c M) (hmay : mayP pa pb pc pd = true) (hup : M.down = false)
  (hps : PSt (16 + pa.toNat) pb.toNat pc.toNat M 0 mvb (16 + pa.toNat + 1 + pb.toNat)) (hg : qcC M (16 + pa) pb pc) (hb : mvb + 100 < 4611686018427387904) (hsd : Sd (16 + pa.toNat) pb.toNat M (linesOf pa.toNat ws)) (hwl : (ws.length : Int) = 8 * pa)
  (hbad : (recN (16 + pa.toNat) pb.toNat pc.toNat M 0).2.2 ≠ 0 → ∀ H', qB H' p c (recN (16 + pa.toNat) pb.toNat pc.toNat M 0).1 → FrO H H' p c → k none (recN (16 + pa.toNat) pb.toNat pc.toNat M 0).2.2 H')
  (hgo : (recN (16 + pa.toNat) pb.toNat pc.toNat M 0).2.2 = 0 → ∀ H' o3 o30 g t x s', qB H' p c (recN (16 + pa.toNat) pb.toNat pc.toNat M 0).1 → FrO H H' p c → H'.get o3 = ⟨pl pa pb pc pd, .rw, 0⟩ → H.size ≤ o3 → o3 < o30 → o30 < H'.size → H.size ≤ t → t < o30 → H.size ≤ x → x < o30 → o30 < g →
   H'.get o30 = ⟨[.pointer (some ⟨p, 0, none⟩), .int .i64 pa, .int .i64 pb, .int .i64 pc, .int .i64 pd, .pointer (some ⟨t, 0, none⟩), .pointer (some ⟨g, 0, none⟩), .pointer none, .bool false], .rw, 0⟩ →
   GAt H' g t x p c (16 + pa.toNat) pb.toNat pc.toNat (recN (16 + pa.toNat) pb.toNat pc.toNat M 0).2.1 (recN (16 + pa.toNat) pb.toNat pc.toNat M 0).1 → Own H.size H' s' 1 wU ws →
   qab s' H' fun s71a b71b H71 => bcase (!b71b) (qah.j3 (some ⟨p, 0, none⟩) k o3 o30 true H71) (bcase (((recN (16 + pa.toNat) pb.toNat pc.toNat M 0).1.regs.getD 2 0 : Int) != (0 : Int)) (bcase (decide (((recN (16 + pa.toNat) pb.toNat pc.toNat M 0).1.regs.getD 2 0 : Int) > (1048576 : Int))) (qah.j3 (some ⟨p, 0, none⟩) k o3 o30 true H71) (qcB s' (qll .i64 ((recN (16 + pa.toNat) pb.toNat pc.toNat M 0).1.regs.getD 2 0)) H71 fun b86 H86 => qah.j3 (some ⟨p, 0, none⟩) k o3 o30 (!b86) H86)) (qah.j3 (some ⟨p, 0, none⟩) k o3 o30 false H71))) :
  qah (some ⟨p, 0, none⟩) (pl pa pb pc pd) H k := by
 have hmp := qaf.1 hmay
 have hdev : (M.cs.length : Int) = deviceP pa pb pc pd := by
  have := hps.len
  unfold deviceP; rw [if_pos hmay]; omega
 obtain ⟨r1, r2, r3⟩ := rec_any hps (by omega) hup (by omega) hsd
 refine qah.link ?_
 unfold qah.b
 rw [qv, pl_ld]
 have hk3 : qc H (H.push ⟨pl pa pb pc pd, .rw, 0⟩) := (qc.refl H).push _
 have g3 : (H.push ⟨pl pa pb pc pd, .rw, 0⟩).get H.size = ⟨pl pa pb pc pd, .rw, 0⟩ := by rw [qs, if_pos rfl]
 have hl3 : H.size < (H.push ⟨pl pa pb pc pd, .rw, 0⟩).size := by simp [qm]
 generalize H.push ⟨pl pa pb pc pd, .rw, 0⟩ = H3 at *
 have hm3 := hm.keeps hk3
 refine qb2.s hm3 ?_
 rw [if_pos ⟨hmay, hdev⟩, if_neg (by simp [hup]), show ((0 : Int) != 0) = false from rfl, qa, qp (plg_row g3), qp (plg_row g3)]
 refine qb7.s hm3 hmay (fun hn => absurd hg hn) ?_
 intro _ H28 t x hT hk28 ht hx
 have g28 : H28.get H.size = ⟨pl pa pb pc pd, .rw, 0⟩ := by rw [hk28.2 _ hl3]; exact g3
 have hkk28 := hk3.trans hk28
 have hs28 := hk28.1
 refine ⟨plg_row g28, rfl, ?_⟩
 rw [qv]
 have ecell : (List.set (setMany [(qls (some ⟨p, 0, none⟩)), (qlk .i64 (0 : Int)), (qlk .i64 (0 : Int)), (qlk .i64 (0 : Int)), (qlk .i64 (0 : Int)), (qls none), (qls none), (qls none), (Value.bool false)] 1 (pl pa pb pc pd)) 5 (qls (some ⟨t, 0, none⟩))) = [.pointer (some ⟨p, 0, none⟩), .int .i64 pa, .int .i64 pb, .int .i64 pc, .int .i64 pd, .pointer (some ⟨t, 0, none⟩), .pointer none, .pointer none, .bool false] := rfl
 rw [ecell]
 have htl := hT.lt
 have hxl := hT.l.lx
 have hn1 : (16 + pa).toNat = 16 + pa.toNat := by omega
 rw [hn1] at hT
 obtain ⟨H30, hH30⟩ : ∃ H30, H30 = H28.push ⟨[.pointer (some ⟨p, 0, none⟩), .int .i64 pa, .int .i64 pb, .int .i64 pc, .int .i64 pd, .pointer (some ⟨t, 0, none⟩), .pointer none, .pointer none, .bool false], .rw, 0⟩ := ⟨_, rfl⟩
 rw [← hH30]
 have g30 : H30.get H28.size = ⟨[.pointer (some ⟨p, 0, none⟩), .int .i64 pa, .int .i64 pb, .int .i64 pc, .int .i64 pd, .pointer (some ⟨t, 0, none⟩), .pointer none, .pointer none, .bool false], .rw, 0⟩ := by rw [hH30, qs, if_pos rfl]
 have hk30 : qc H28 H30 := by rw [hH30]; exact (qc.refl H28).push _
 have hl30 : H28.size < H30.size := by rw [hH30]; simp [qm]
 have hT30 := hT.keeps hk30
 clear hH30
 have cellw : ∀ {H' : AH} {vs : List Value} (i : Nat), H'.get H28.size = ⟨vs, .rw, 0⟩ → AH.cell? H' (qlm ⟨H28.size, 0, none⟩ i) = vs[i]? := fun i hg => by
  rw [qk, qlJ]; simp [AH.cell?, hg]
 rw [cellw 5 g30]
 show elP (some (.pointer (some ⟨t, 0, none⟩))) _
 rw [qag]
 refine log_New.s (q := 0) (u := 0) hT30 (fun hh => by omega) ?_
 intro _ H37 g hG hk37 hgl
 have hs37 := hk37.1
 have g37 : H37.get H28.size = ⟨[.pointer (some ⟨p, 0, none⟩), .int .i64 pa, .int .i64 pb, .int .i64 pc, .int .i64 pd, .pointer (some ⟨t, 0, none⟩), .pointer none, .pointer none, .bool false], .rw, 0⟩ := by rw [hk37.2 _ hl30]; exact g30
 rw [qk, qlJ, qbu]
 refine ⟨⟨rfl, by rw [g37], by rw [g37]; simp⟩, ?_⟩
 have eput : AH.put H37 ⟨H28.size, 6, none⟩ [.pointer (some ⟨g, 0, none⟩)] = H37.upd H28.size ⟨[.pointer (some ⟨p, 0, none⟩), .int .i64 pa, .int .i64 pb, .int .i64 pc, .int .i64 pd, .pointer (some ⟨t, 0, none⟩), .pointer (some ⟨g, 0, none⟩), .pointer none, .bool false], .rw, 0⟩ := by
  simp only [AH.put, g37, setMany]; rfl
 rw [eput]
 obtain ⟨H38, hH38⟩ : ∃ H38, H38 = H37.upd H28.size ⟨[.pointer (some ⟨p, 0, none⟩), .int .i64 pa, .int .i64 pb, .int .i64 pc, .int .i64 pd, .pointer (some ⟨t, 0, none⟩), .pointer (some ⟨g, 0, none⟩), .pointer none, .bool false], .rw, 0⟩ := ⟨_, rfl⟩
 rw [← hH38]
 have g38 : H38.get H28.size = ⟨[.pointer (some ⟨p, 0, none⟩), .int .i64 pa, .int .i64 pb, .int .i64 pc, .int .i64 pd, .pointer (some ⟨t, 0, none⟩), .pointer (some ⟨g, 0, none⟩), .pointer none, .bool false], .rw, 0⟩ := by rw [hH38, qT, if_pos rfl]
 have ne38 : ∀ b, b ≠ H28.size → H38.get b = H37.get b := fun b hb => by rw [hH38, qT, if_neg hb]
 have sz38 : H38.size = H37.size := by rw [hH38]; rfl
 clear hH38
 have lp := hm3.lp
 have lc := hm3.lc
 have hG38 : GAt H38 g t x p c (16 + pa.toNat) pb.toNat pc.toNat 0 M := hG.other (o := H28.size) ⟨by omega, by omega, by omega, by omega, by omega⟩ ne38 sz38
 have hk38 : qc H3 H38 := ⟨by omega, fun b hb => by rw [ne38 b (by omega), hk37.2 b (by omega), hk30.2 b (by omega), hk28.2 b hb]⟩
 have hk38' : qc H H38 := hk3.trans hk38
 have c6 : AH.cell? H38 ⟨H28.size, 6, none⟩ = some (.pointer (some ⟨g, 0, none⟩)) := by simp [AH.cell?, g38]
 rw [c6, qag, qlG, qa, qag]
 refine qiU.s hG38 hps (by omega) ?_
 intro H49 hG49 f49 z49
 have rps := (qgg hps (by omega) hup (by omega) hsd).1
 have hfro : FrO H H49 p c := ⟨by have := hk38'.1; omega, fun b hb h1 h2 => by rw [f49.get b (by have := hk38'.1; omega) (by omega) h1 h2, hk38'.2 b hb]⟩
 generalize recN (16 + pa.toNat) pb.toNat pc.toNat M 0 = R at *
 rcases r2 with ⟨he, hRup⟩ | ⟨he, hRd, _⟩
 rotate_left 1
 ·rw [he, show ((2 : Int) != 0) = true from rfl, qf]
  have := hbad (by omega) H49 hG49.tn.l.m hfro
  rw [he] at this
  exact this
 rw [he, show ((0 : Int) != 0) = false from rfl, qa]
 have g49 : H49.get H28.size = ⟨[.pointer (some ⟨p, 0, none⟩), .int .i64 pa, .int .i64 pb, .int .i64 pc, .int .i64 pd, .pointer (some ⟨t, 0, none⟩), .pointer (some ⟨g, 0, none⟩), .pointer none, .bool false], .rw, 0⟩ := by
  rw [f49.get _ (by omega) (by omega) (by omega) (by omega), g38]
 have g49o : H49.get H.size = ⟨pl pa pb pc pd, .rw, 0⟩ := by
  rw [f49.get _ (by omega) (by omega) (by have := hm.lp; omega) (by have := hm.lc; omega), hk38.2 _ (by omega), g3]
 have hW : HW H49 H28.size g t x p c pa pb pc pd R.2.1 R.1 := ⟨⟨_, _, rfl, g49⟩, by omega, hmay, hG49⟩
 refine qdu.w hW (fun hd => by rw [hRup] at hd; cases hd) ?_
 intro _ s' H55 hk55 hO55
 rw [show ((0 : Int) != 0) = false from rfl, qa, qg6 (by omega) hRup hwl r1] at *
 have hm55 := hG49.tn.l.m.keeps hk55
 refine qS.s hm55 ?_
 have hreg : R.1.reg 2 = (R.1.regs.getD 2 0, 0) := by
  unfold Mem.reg
  rw [if_pos ⟨by omega, by omega⟩, if_neg (by simp [hRup])]; rfl
 rw [hreg]
 simp only
 rw [show ((0 : Int) != 0) = false from rfl, qa]
 have hs55 := hk55.1
 have hs38 := hk38'.1
 exact hgo he H55 H.size H28.size g t x s' hm55 (hfro.trans (FrO.of_keeps hk55)) (by rw [hk55.2 _ (by omega)]; exact g49o) (qlu _) (by omega) (by omega) (by omega) htl (by omega) hxl (by omega)
  (by rw [hk55.2 _ (by omega)]; exact g49) (hG49.keeps hk55) (qbT hO55 (by omega))
end
section
variable {H : AH} {p c : Nat} {M : Mem} {pa pb pc pd : Int} {ws : List Int} {root : Int} {mvb : Nat} {cb : Int}
theorem qah.s {k : Option Addr → Int → AH → Prop} (h : MP pa pb pc pd M ws root mvb cb) (hm : qB H p c M) (hup : M.down = false) (hb : mvb ≤ 1000000000) (hcb : cb ≤ 1000000000)
  (hbad : (recN (16 + pa.toNat) pb.toNat pc.toNat M 0).2.2 ≠ 0 → ∀ H', qB H' p c (openS pa pb pc pd M).M → FrO H H' p c → k none (recN (16 + pa.toNat) pb.toNat pc.toNat M 0).2.2 H')
  (hgo : (recN (16 + pa.toNat) pb.toNat pc.toNat M 0).2.2 = 0 → ∀ H' L, HA H' L pa pb pc pd (openS pa pb pc pd M) → L.p = p → L.c = c → H.size ≤ L.h → H.size ≤ L.g → H.size ≤ L.t → H.size ≤ L.x → H.size ≤ L.ct → H.size ≤ L.q1 → H.size ≤ L.q2 → FrO H H' p c → k (some ⟨L.h, 0, none⟩) 0 H') :
  qah (some ⟨p, 0, none⟩) (pl pa pb pc pd) H k := by
 have hmp := qaf.1 h.may
 obtain ⟨hpg, hpg1, hpg16⟩ := h.pages
 refine qjd hm h.may hup h.pst (h.good hup (by omega)) (by omega) h.sd h.len hbad ?_
 intro he H1 o3 o30 g t x s' hm1 hfro g3 ho3 ho330 hl30 ht ht30 hx hx30 hg30 g30 hG hO
 obtain ⟨_, _, hop⟩ := h.opened hup (by omega)
 have hP : HP pa pb pc pd (openS pa pb pc pd M) ws root (mvb + 14) cb := by
  rcases hop with ⟨_, _, hP⟩ | ⟨e2, _⟩
  ·exact hP
  ·omega
 have hRup : (openS pa pb pc pd M).M.down = false := by
  rcases hop with ⟨_, hd, _⟩ | ⟨e2, _⟩
  ·exact hd
  ·omega
 have hlen := h.ok.len
 have hroot := hP.rt
 have hrr := hP.rootN.2
 have hreg : ∀ i : Nat, (i : Int) < pagesP pa pb pc pd → 0 ≤ (openS pa pb pc pd M).M.regs.getD (19 + i) 0 ∧ (openS pa pb pc pd M).M.regs.getD (19 + i) 0 ≤ 1099511627776 := by
  intro i hi
  have h1 := reg_U hP.ps.ok (i := 19 + i) (by omega)
  have h2 := hP.mp.rg i hi
  unfold isU at h1
  omega
 have hSdef : openS pa pb pc pd M = ⟨(recN (16 + pa.toNat) pb.toNat pc.toNat M 0).1, (recN (16 + pa.toNat) pb.toNat pc.toNat M 0).2.1, keptOf (recN (16 + pa.toNat) pb.toNat pc.toNat M 0).1 (pagesP pa pb pc pd).toNat, keptOf (recN (16 + pa.toNat) pb.toNat pc.toNat M 0).1 (pagesP pa pb pc pd).toNat, false⟩ := rfl
 have eM : (openS pa pb pc pd M).M = (recN (16 + pa.toNat) pb.toNat pc.toNat M 0).1 := rfl
 rw [eM] at hroot hRup hreg
 generalize recN (16 + pa.toNat) pb.toNat pc.toNat M 0 = R at *
 rw [hroot]
 have fin : ∀ H', qc H1 H' → qah.j3 (some ⟨p, 0, none⟩) k o3 o30 false H' := by
  intro H' hk
  have hs1 := hfro.size
  have hs' := hk.1
  refine qiM (hm1.keeps hk) hRup h.may (by rw [hk.2 _ (by omega)]; exact g3) (by omega) (by rw [hk.2 _ hl30]; exact g30) rfl (by omega) (by omega) hreg ?_
  intro H2 ct q1 q2 hC hs2 hfr hg30' hct hq1 hq2
  have hG' := hG.keeps hk
  have lg := hG'.lg; have lt := hG'.tn.lt; have lx := hG'.tn.l.lx; have lp := hm1.lp; have lc := hm1.lc
  have hnp := hm.lp; have hnc := hm.lc
  have hG2 : GAt H2 g t x p c (16 + pa.toNat) pb.toNat pc.toNat R.2.1 R.1 := by
   have hl := hG'.tn.l
   have n1 := hG'.ne
   refine ⟨by rw [hfr g lg (by omega), hG'.hg], by omega, hG'.ne, ⟨by rw [hfr t lt (by omega), hG'.tn.ht], by omega, hG'.tn.tp, hG'.tn.tc, hG'.tn.tx,
    ⟨by rw [hfr x lx (by omega), hl.hx], by omega, hl.xp, hl.xc, hl.m.keep (by omega) (hfr p hl.m.lp (by omega)) (hfr c hl.m.lc (by omega)), hl.len, hl.n1, hl.sp16⟩, hG'.tn.n1, hG'.tn.per, hG'.tn.pl, hG'.tn.mv⟩, hG'.n16⟩
  refine hgo he H2 ⟨o30, g, t, x, p, c, ct, q1, q2⟩ ?_ rfl rfl (by simp only; omega) (by simp only; omega) ht hx (by simp only; omega) (by simp only; omega) (by simp only; omega)
   ⟨by omega, fun b hb h1 h2 => by rw [hfr b (by omega) (by omega), hk.2 b (by omega), hfro.get b hb h1 h2]⟩
  rw [hSdef]
  refine ⟨hg30', by simp only; omega, h.may, hG2, hC, ⟨by simp only; omega, by simp only; omega, by simp only; omega, by simp only; omega, by simp only; omega, by simp only; omega, by simp only; omega, by simp only; omega⟩, ?_, ?_⟩
  ·intro b hb
   simp only at hb ⊢
   refine ⟨by omega, by omega, by omega, by omega, by omega⟩
  ·show ((keptOf R.1 _).length : Int) = _
   rw [qc5]; omega
 refine qab.s (hO.rows (fun _ => rfl) (fun _ => rfl)) hlen.2.2 (by omega) ?_ (fun hbn => by rw [h.ok.blocks] at hbn; cases hbn)
 intro l hl s2 H2 hk2 hO2
 rw [qlA, qa]
 rcases h.ru with h0 | hu
 ·rw [h0, show ((0 : Int) != 0) = false from rfl, qa]
  exact fin H2 hk2
 ·have hur := h.ok.used_range hu
  rw [show (root != 0) = true by simp; omega, qf, decide_eq_false (show ¬ root > 1048576 by omega), qa, qg (n := root) (by omega) (by omega)]
  refine qcB.s ((hO.rows (fun _ => rfl) (fun _ => rfl)).keep hk2) hlen.2.2 (by omega) ?_
  rw [hu, qlA]
  exact fin H2 hk2
end
def formN (pa pb pc : Int) (limits : List Int) : Mem × Nat × Int :=
 tput (16 + pa.toNat) pb.toNat pc.toNat (Mem.new (16 + pa.toNat + 1 + pb.toNat) limits) 0 16 (lineOf (firstN (8 * pa)) 0)
theorem qcV {n : Int} (h : mayW n) : (firstN n).length = n.toNat := by
 have h' := h
 unfold mayW at h'
 unfold firstN
 rw [if_pos h]
 simp
 omega
theorem qf1 {pa : Int} (h : 1 ≤ pa ∧ pa ≤ 64) {i : Nat} (h0 : 1 ≤ i) (hi : (i : Int) < pa) : lineOf (firstN (8 * pa)) i = qlq 8 0 := by
 have hm : mayW (8 * pa) := by unfold mayW; omega
 have hl := qcV hm
 unfold lineOf
 apply qlM
 intro j
 rw [qmd, qme, qmK]
 by_cases hj : j < 8
 ·rw [if_pos hj, if_pos hj]
  unfold firstN
  rw [if_pos hm, show 8 * i + j = (8 * i + j - 1) + 1 by omega, qmb, qmK, if_pos (by omega)]
 ·rw [if_neg hj, if_neg hj]
theorem qfz {pa : Int} (h : 1 ≤ pa ∧ pa ≤ 64) : lineOf (firstN (8 * pa)) 0 ≠ qlq 8 0 ∧ isLine (lineOf (firstN (8 * pa)) 0) := by
 have hm : mayW (8 * pa) := by unfold mayW; omega
 have hl := qcV hm
 refine ⟨fun he => ?_, qdy (qeq _) (by omega)⟩
 have : (lineOf (firstN (8 * pa)) 0)[0]? = (qlq 8 (0 : Int))[0]? := by rw [he]
 unfold lineOf at this
 rw [qmd, if_pos (by omega), qme] at this
 unfold firstN at this
 rw [if_pos hm] at this
 simp [wordN, mayS] at this
 omega
section
variable {pa pb pc pd : Int} {limits : List Int}
theorem new_lv (h : 1 ≤ pa ∧ pa ≤ 64 ∧ 0 ≤ pb ∧ pb ≤ 16) : LV (Mem.new (16 + pa.toNat + 1 + pb.toNat) limits) (16 + pa.toNat + 1) pb.toNat 0 := LV.zero (by simp [Mem.new]) (by omega) (by omega) fun i hi => qhg (by omega)
theorem new_pst (h : 1 ≤ pa ∧ pa ≤ 64 ∧ 0 ≤ pb ∧ pb ≤ 16 ∧ 1 ≤ pc ∧ pc ≤ 1000) : PSt (16 + pa.toNat) pb.toNat pc.toNat (Mem.new (16 + pa.toNat + 1 + pb.toNat) limits) 0 0 (16 + pa.toNat + 1 + pb.toNat) :=
 ⟨⟨0, new_lv (by omega)⟩, Mem.new_ok (by omega), by omega, qlu _, by simp [Mem.new]⟩
theorem qhq (h : 1 ≤ pa ∧ pa ≤ 64 ∧ 0 ≤ pb ∧ pb ≤ 16) {s : Nat} (hs : s < 16 + pa.toNat) : (Mem.new (16 + pa.toNat + 1 + pb.toNat) limits).tview (16 + pa.toNat) pb.toNat s = qlq 8 0 := by
 have hzero : ∀ i, i < pb.toNat → (Mem.new (16 + pa.toNat + 1 + pb.toNat) limits).whose i = 0 := fun i hi => qhg (by omega)
 unfold Mem.tview
 have hsl := qd2 (mv := (Mem.new (16 + pa.toNat + 1 + pb.toNat) limits).mv) (line := s) (n := 16 + pa.toNat) (by omega)
 rw [qkc hzero, Mem.new_cl (by omega)]
theorem reg_new {n r : Nat} : (Mem.new n limits).regs.getD r 0 = 0 := by
 show (qlq 35 (0 : Int)).getD r 0 = 0
 rw [qlo, qmK]
 split <;> rfl
theorem formed (hmay : mayP pa pb pc pd = true) :
  (formN pa pb pc limits).1.down = false ∧ (formN pa pb pc limits).1.cut = -1 ∧ (limits = [] → (formN pa pb pc limits).2.2 = 0 ∧ NL (formN pa pb pc limits).1) ∧ (∀ s : Nat, s < 16 + pa.toNat → s ≠ 16 → (formN pa pb pc limits).1.tview (16 + pa.toNat) pb.toNat s = qlq 8 0) ∧
  PSt (16 + pa.toNat) pb.toNat pc.toNat (formN pa pb pc limits).1 (formN pa pb pc limits).2.1 1 (16 + pa.toNat + 1 + pb.toNat) ∧
  (((formN pa pb pc limits).2.2 = 0 ∧ MP pa pb pc pd (formN pa pb pc limits).1 (firstN (8 * pa)) 0 1 0 ∧ commits (formN pa pb pc limits).1 = 0) ∨ (formN pa pb pc limits).2.2 = 3) := by
 have hm := qaf.1 hmay
 have hmw : mayW (8 * pa) := by unfold mayW; omega
 obtain ⟨l0, l1⟩ := qfz (pa := pa) (by omega)
 have hps := new_pst (pa := pa) (pb := pb) (pc := pc) (limits := limits) (by omega)
 have hT := (qex (line := 16) (period := pc.toNat) (puts := 0) (d := lineOf (firstN (8 * pa)) 0) (new_lv (limits := limits) (pa := pa) (pb := pb) (by omega)) (by omega) hps.ok (by rw [mv_new]; omega) rfl (by omega) l1.1).1
 have hps1 := hps.tput (by omega) (by omega) (line := 16) l1
 have hnl : limits = [] → (formN pa pb pc limits).2.2 ≠ 3 ∧ NL (formN pa pb pc limits).1 := fun h => by
  subst h
  exact NL.tput NL.new
 unfold formN at hnl ⊢
 rw [show ((16 : Nat) : Int) = 16 from rfl] at hT
 generalize tput (16 + pa.toNat) pb.toNat pc.toNat (Mem.new (16 + pa.toNat + 1 + pb.toNat) limits) 0 16 (lineOf (firstN (8 * pa)) 0) = F at *
 have hcut : F.1.cut = -1 := hT.cut rfl
 have hother : ∀ s : Nat, s < 16 + pa.toNat → s ≠ 16 → F.1.tview (16 + pa.toNat) pb.toNat s = qlq 8 0 := fun s hs hne => by
  rw [hT.other s hs (by simpa using fun h => hne h.symm), qhq (by omega) hs]
 have hreg : ∀ r, (r = 1 ∨ r = 2 ∨ 19 ≤ r) → F.1.regs.getD r 0 = 0 := fun r hr => by rw [hT.regs r hr, reg_new]
 rcases hT.res with ⟨e, hd, hv⟩ | ⟨e, hd, hv⟩ | ⟨e, hd, hc, _⟩
 ·refine ⟨hd, hcut, fun h => ⟨e, (hnl h).2⟩, hother, hps1, .inl ⟨e, ⟨hmay, hps1.lv, hps1.ok, hps1.mv, hps1.len, .inl ⟨hreg 1 (.inl rfl), fun s h1 h2 => ?_⟩, ⟨[], ?_⟩, ?_, hreg 2 (.inr (.inl rfl)), .inl rfl, fun i hi => by rw [hreg (19 + i) (by omega)]; omega, by omega⟩, hreg 1 (.inl rfl)⟩⟩
  ·rw [qdQ (by omega)]
   by_cases hs : s = 16
   ·subst hs; rw [hv 16 rfl]
   ·rw [hother s h2 hs, qf1 (by omega) (by omega) (by omega)]
  ·exact MR.self (MR.first hmw) (by rw [qcV hmw]; omega)
  ·rw [qcV hmw]; omega
 ·exact ⟨hd, hcut, fun h => absurd e (hnl h).1, hother, hps1, .inr e⟩
 ·exact absurd rfl hc
end
section
variable {H : AH} {p c : Nat} {M : Mem} {pa pb pc pd : Int} {limits : List Int}
theorem reg_up {i : Nat} (hup : M.down = false) (hi : i < 35) : M.reg (i : Int) = (M.regs.getD i 0, 0) := by
 unfold Mem.reg
 rw [if_pos ⟨by omega, by omega⟩, if_neg (by simp [hup]), qlp]
theorem qW.s {k : Int → AH → Prop} (hm : qB H p c (Mem.new (16 + pa.toNat + 1 + pb.toNat) limits)) (hmay : mayP pa pb pc pd = true)
  (hk : ∀ H', qB H' p c (formN pa pb pc limits).1 → FrO H H' p c → k (formN pa pb pc limits).2.2 H') : qW (some ⟨p, 0, none⟩) (pl pa pb pc pd) H k := by
 have hmp := qaf.1 hmay
 have hmw : mayW (8 * pa) := by unfold mayW; omega
 obtain ⟨hFd, _, _, hFo, hFp, hF⟩ := formed (limits := limits) hmay
 obtain ⟨l0, l1⟩ := qfz (pa := pa) (by omega)
 have hNup : (Mem.new (16 + pa.toNat + 1 + pb.toNat) limits).down = false := rfl
 have hcl : ((Mem.new (16 + pa.toNat + 1 + pb.toNat) limits).cs.length : Int) = deviceP pa pb pc pd := by
  unfold deviceP; rw [if_pos hmay]; simp [Mem.new]; omega
 have hlv := new_lv (pa := pa) (pb := pb) (limits := limits) (by omega)
 have hmv : (Mem.new (16 + pa.toNat + 1 + pb.toNat) limits).mv = 0 := rfl
 have hregs : ∀ r, (Mem.new (16 + pa.toNat + 1 + pb.toNat) limits).regs.getD r 0 = 0 := fun r => reg_new
 have htv := fun s hs => qhq (pa := pa) (pb := pb) (limits := limits) (s := s) (by omega) hs
 have hgood : qcC (Mem.new (16 + pa.toNat + 1 + pb.toNat) limits) (16 + pa) pb pc := by
  have h1 := hlv.may
  refine ⟨by omega, by omega, by omega, by omega, by omega, by simp [Mem.new]; omega, rfl, ?_, by rw [hmv]; omega⟩
  rw [show (16 + pa + 1 : Int) = ((16 + pa.toNat + 1 : Nat) : Int) by omega]
  exact h1
 have hFdef : formN pa pb pc limits = tput (16 + pa.toNat) pb.toNat pc.toNat (Mem.new (16 + pa.toNat + 1 + pb.toNat) limits) 0 16 (lineOf (firstN (8 * pa)) 0) := rfl
 refine qW.link ?_
 unfold qW.b
 rw [qv, pl_ld]
 have hk3 : qc H (H.push ⟨pl pa pb pc pd, .rw, 0⟩) := (qc.refl H).push _
 have g3 : (H.push ⟨pl pa pb pc pd, .rw, 0⟩).get H.size = ⟨pl pa pb pc pd, .rw, 0⟩ := by rw [qs, if_pos rfl]
 have hl3 : H.size < (H.push ⟨pl pa pb pc pd, .rw, 0⟩).size := by simp [qm]
 generalize H.push ⟨pl pa pb pc pd, .rw, 0⟩ = H3 at *
 have hm3 := hm.keeps hk3
 refine qb2.s hm3 ?_
 rw [if_pos ⟨hmay, hcl⟩, if_neg (by simp [hNup]), show ((0 : Int) != 0) = false from rfl, qa]
 generalize Mem.new (16 + pa.toNat + 1 + pb.toNat) limits = M0 at *
 refine qE (t := (((0 : Int), (0 : Int)) : Int × Int)) (I := fun (t : Int × Int) H' => ∃ i : Nat, t.2 = (i : Int) ∧ i ≤ 35 ∧ H' = H3) (m := fun (t : Int × Int) _ => qlr (35 - t.2)) ?_ ⟨0, rfl, by omega, rfl⟩
 rintro ⟨t1, t2⟩ H1 ⟨i, e1, hi, rfl⟩ it hit
 simp only at e1
 subst e1
 unfold qW.l5
 by_cases hlt : (i : Int) < 35
 ·rw [decide_eq_true hlt, qf]
  refine qS.s hm3 ?_
  rw [reg_up hNup (by omega), hregs i, show ((0 : Int) != 0) = false from rfl, qa, qg (n := (i : Int) + 1) (by omega) (by omega)]
  exact hit _ _ ⟨i + 1, by simp, by omega, rfl⟩ (by simp only; omega)
 rw [decide_eq_false hlt, qa]
 clear hit it
 unfold qW.j4
 rw [qp (plg_row g3)]
 refine qb7.s hm3 hmay (fun hn => absurd hgood hn) ?_
 intro _ H34 t x hT hk34 ht hx
 have hn1 : (16 + pa).toNat = 16 + pa.toNat := by omega
 rw [hn1] at hT
 have g34 : H34.get H.size = ⟨pl pa pb pc pd, .rw, 0⟩ := by rw [hk34.2 _ hl3]; exact g3
 rw [qp (plg_row g34)]
 refine qcG.s ?_
 rw [show wordsP pa pb pc pd = 8 * pa by unfold wordsP; rw [if_pos hmay]]
 refine qcs.s ?_
 intro s37 H37 hk37 hO37
 have hk37' := hk34.trans hk37
 rw [qdD (by rw [hk37'.2 _ hl3]; exact g3) 0]
 show elI .i64 (some (.int .i64 pa)) _
 rw [qe]
 have hs3 := hk3.1
 have hs34 := hk34.1
 have hs37 := hk37.1
 have hfl := qcV hmw
 have lp := hm.lp
 have lc := hm.lc
 refine qE (t := ((t1, (0 : Int)) : Int × Int)) (I := fun (t' : Int × Int) H' => ∃ j : Nat, t'.2 = (j : Int) ∧ (j : Int) ≤ pa ∧ FrO H H' p c ∧ H'.get H.size = ⟨pl pa pb pc pd, .rw, 0⟩ ∧ H37.size ≤ H'.size ∧ Own H34.size H' s37 1 wU (firstN (8 * pa)) ∧
   ((j = 0 ∧ TAt H' t x p c (16 + pa.toNat) pb.toNat pc.toNat 0 M0) ∨ (1 ≤ j ∧ (formN pa pb pc limits).2.2 = 0 ∧ TAt H' t x p c (16 + pa.toNat) pb.toNat pc.toNat (formN pa pb pc limits).2.1 (formN pa pb pc limits).1))) (m := fun (t' : Int × Int) _ => qlr (pa - t'.2)) ?_
  ⟨0, rfl, by omega, FrO.of_keeps (hk3.trans hk37'), by rw [hk37'.2 _ hl3]; exact g3, qlu _, hO37, .inl ⟨rfl, hT.keeps hk37⟩⟩
 rintro ⟨u1, u2⟩ H5 ⟨j, e1, hj, f5, g5, hsz5, hO5, hst⟩ it hit
 simp only at e1
 subst e1
 unfold qW.l3
 by_cases hlt : (j : Int) < pa
 rotate_left 1
 ·rw [decide_eq_false hlt, qa]
  rcases hst with ⟨h0, _⟩ | ⟨_, e0, hT5⟩
  ·omega
  ·rw [e0] at hk
   exact hk H5 hT5.l.m f5
 rw [decide_eq_true hlt, qf, qp (plg_row g5)]
 refine qbQ.s ?_
 have hh : homeP pa pb pc pd (j : Int) = ((16 + j : Nat) : Int) := by unfold homeP; rw [if_pos ⟨hmay, by omega, hlt⟩]; omega
 rw [hh]
 have hO5r := hO5.rows (fun _ => rfl) (fun _ => rfl)
 -- one line
 have go : ∀ (Mj : Mem) (pj : Nat), TAt H5 t x p c (16 + pa.toNat) pb.toNat pc.toNat pj Mj → Mj.down = false → Mj.tview (16 + pa.toNat) pb.toNat (16 + j) = qlq 8 0 ∨ Mj.tview (16 + pa.toNat) pb.toNat (16 + j) = lineOf (firstN (8 * pa)) j → isLine (Mj.tview (16 + pa.toNat) pb.toNat (16 + j)) →
   (∀ H6, TAt H6 t x p c (16 + pa.toNat) pb.toNat pc.toNat pj Mj → FrO H5 H6 p c → H5.size ≤ H6.size → qW.j2 k H.size (some ⟨t, 0, none⟩) s37 (u1, (j : Int)) it 0 (!(Mj.tview (16 + pa.toNat) pb.toNat (16 + j) == lineOf (firstN (8 * pa)) j)) H6) →
   qbo (some ⟨t, 0, none⟩) ((16 + j : Nat) : Int) H5 fun c48a n48b H48 => newC H48 ⟨[(qlk .u64 (0 : Int)), (qlk .u64 (0 : Int)), (qlk .u64 (0 : Int)), (qlk .u64 (0 : Int)), (qlk .u64 (0 : Int)), (qlk .u64 (0 : Int)), (qlk .u64 (0 : Int)), (qlk .u64 (0 : Int))], .rw, 0⟩ fun o12 H12 => (List.length c48a = 8 ∧ List.all c48a qq = true) ∧ stC H12 ⟨o12, 0, none⟩ c48a fun Hs2 => bcase ((n48b : Int) == (0 : Int)) (ldA Hs2 ⟨o12, 0, none⟩ 8 fun c54 => qbD s37 (j : Int) Hs2 fun c57 H57 => AH.row? H57 ⟨o12, 0, none⟩ 8 = some c54 ∧ elO (eqCells (qlq 8 (K.int .u64)) c54 c57) fun e58 => qW.j2 k H.size (some ⟨t, 0, none⟩) s37 (u1, (j : Int)) it n48b (!e58) H57) (qW.j2 k H.size (some ⟨t, 0, none⟩) s37 (u1, (j : Int)) it n48b false Hs2) := by
  intro Mj pj hTj hup _ hln hgo
  refine qfd.s hTj ?_
  have hget : tget (16 + pa.toNat) pb.toNat Mj ((16 + j : Nat) : Int) = (Mj.tview (16 + pa.toNat) pb.toNat (16 + j), 0) := by
   unfold tget
   rw [if_pos ⟨by omega, by omega⟩, if_neg (by simp [hup]), qlp]
  rw [hget]
  generalize Mj.tview (16 + pa.toNat) pb.toNat (16 + j) = v at *
  rw [qv]
  refine ⟨⟨qt hln.1, qaY _⟩, ?_⟩
  rw [qbu]
  have hz : [(qlk .u64 (0 : Int)), (qlk .u64 (0 : Int)), (qlk .u64 (0 : Int)), (qlk .u64 (0 : Int)), (qlk .u64 (0 : Int)), (qlk .u64 (0 : Int)), (qlk .u64 (0 : Int)), (qlk .u64 (0 : Int))] = lineV (qlq 8 0) := rfl
  rw [hz]
  have gN : (H5.push ⟨lineV (qlq 8 0), .rw, 0⟩).get H5.size = ⟨lineV (qlq 8 0), .rw, 0⟩ := by rw [qs, if_pos rfl]
  refine ⟨⟨rfl, by rw [gN], by rw [gN]; simp [lineV]; exact Nat.le_of_eq hln.1⟩, ?_⟩
  rw [qdJ (by simp) hln.1 gN]
  have hkN : qc H5 ((H5.push ⟨lineV (qlq 8 0), .rw, 0⟩).upd H5.size ⟨lineV v, .rw, 0⟩) := ((qc.refl H5).push _).upd (qlu _) _
  have gU : ((H5.push ⟨lineV (qlq 8 0), .rw, 0⟩).upd H5.size ⟨lineV v, .rw, 0⟩).get H5.size = ⟨lineV v, .rw, 0⟩ := by rw [qT, if_pos rfl]
  generalize (H5.push ⟨lineV (qlq 8 0), .rw, 0⟩).upd H5.size ⟨lineV v, .rw, 0⟩ = H6 at *
  have hrow : AH.row? H6 ⟨H5.size, 0, none⟩ 8 = some (lineV v) := by
   have := qt hln.1
   simp only [AH.row?, gU, qlF, qlw, if_false, List.drop_zero]
   rw [if_neg (by simp), ql9 (by omega), if_pos ⟨by omega, qaY _⟩]
  simp only
  rw [show ((0 : Int) == 0) = true from rfl, qf, qp hrow]
  refine qbD.s (hO5r.keep hkN) (qeq _) (by omega) (by omega) ?_
  refine ⟨hrow, ?_⟩
  rw [eq_line hln (qdy (qeq _) (by omega))]
  exact hgo H6 (hTj.keeps hkN) (FrO.of_keeps hkN) hkN.1
 rcases hst with ⟨h0, hT5⟩ | ⟨h1, e0, hT5⟩
 ·subst h0
  refine go M0 0 hT5 hNup (.inl (htv _ (by omega))) (by rw [htv _ (by omega)]; exact qbq) ?_
  intro H6 hT6 f6 hs6
  rw [htv _ (by omega), show (!(qlq 8 (0 : Int) == lineOf (firstN (8 * pa)) 0)) = true by simp; exact fun h => l0 h.symm]
  unfold qW.j2
  have g6 : H6.get H.size = ⟨pl pa pb pc pd, .rw, 0⟩ := by rw [f6.get _ (by omega) (by omega) (by omega)]; exact g5
  rw [qf, qp (plg_row g6)]
  refine qbQ.s ?_
  rw [hh]
  have hO6 : Own H34.size H6 s37 1 wU (firstN (8 * pa)) := f6.own (by omega) (by omega) hO5
  refine qbD.s (hO6.rows (fun _ => rfl) (fun _ => rfl)) (qeq _) (by omega) (by omega) ?_
  refine qgd.s hT6 hlv (by rw [hmv]; omega) l1 ?_
  intro H7 hT7 f7 z7
  have e16 : ((16 + 0 : Nat) : Int) = 16 := rfl
  rw [e16, ← hFdef] at hT7 ⊢
  have f56 := f5.trans f6
  have htl := hT.lt
  have f67 : FrO H H7 p c := ⟨qmr f56.size f7.size, fun b hb h1 h2 => by
   rw [f7.get b (by have := f56.size; omega) (by omega) h1 h2, f56.get b hb h1 h2]⟩
  unfold qW.j1
  rcases hF with ⟨e, _⟩ | e
  ·rw [e, show ((0 : Int) != 0) = false from rfl, qa, qg (n := ((0 : Nat) : Int) + 1) (by omega) (by omega)]
   refine hit _ _ ⟨1, by simp, by omega, f67, by rw [f7.get _ (by omega) (by omega) (by omega) (by omega)]; exact g6, by omega, ?_, .inr ⟨by omega, e, hT7⟩⟩ (by simp only; omega)
   rcases hO6 with h0 | ⟨b, h1, h2, h3, h4⟩
   ·exact .inl h0
   ·exact .inr ⟨b, h1, h2, by omega, by rw [f7.get b h3 (by omega) (by omega) (by omega)]; exact h4⟩
  ·rw [e, show ((3 : Int) != 0) = true from rfl, qf]
   rw [e] at hk
   exact hk H7 hT7.l.m f67
 ·have hv : (formN pa pb pc limits).1.tview (16 + pa.toNat) pb.toNat (16 + j) = qlq 8 0 := hFo _ (by omega) (by omega)
  refine go _ _ hT5 hFd (.inl hv) (by rw [hv]; exact qbq) ?_
  intro H6 hT6 f6 hs6
  rw [hv, qf1 (by omega) h1 hlt, show (!(qlq 8 (0 : Int) == qlq 8 0)) = false by simp]
  unfold qW.j2 qW.j1
  rw [qa, show ((0 : Int) != 0) = false from rfl, qa, qg (n := (j : Int) + 1) (by omega) (by omega)]
  exact hit _ _ ⟨j + 1, by simp, by omega, f5.trans f6, by rw [f6.get _ (by omega) (by omega) (by omega)]; exact g5, by omega, f6.own (by omega) (by omega) hO5, .inr ⟨by omega, e0, hT6⟩⟩ (by simp only; omega)
end
def ansl (cd m : Int) (sl : Sl) : List Value := [.int .i64 cd, .int .i64 m, sl.val]
def AnAt (H : AH) (o : Nat) (cd m : Int) (sl : Sl) : Prop := ∃ e, H.get o = ⟨ansl cd m sl, .rw, e⟩
section
variable {H : AH} {o : Nat} {cd m : Int} {sl : Sl}
theorem AnAt.c0 (h : AnAt H o cd m sl) : AH.cell? H (qlm ⟨o, 0, none⟩ 0) = some (.int .i64 cd) := by obtain ⟨e, h⟩ := h; simp [qk, AH.cell?, h, ansl]
theorem AnAt.c1 (h : AnAt H o cd m sl) : AH.cell? H (qlm ⟨o, 0, none⟩ 1) = some (.int .i64 m) := by obtain ⟨e, h⟩ := h; simp [qk, AH.cell?, h, ansl]
theorem AnAt.c2 (h : AnAt H o cd m sl) : AH.cell? H (qlm ⟨o, 0, none⟩ 2) = some (.slice sl.a sl.n sl.k) := by obtain ⟨e, h⟩ := h; simp [qk, AH.cell?, h, ansl, Sl.val]
theorem AnAt.row (h : AnAt H o cd m sl) : AH.row? H ⟨o, 0, none⟩ 3 = some (ansl cd m sl) := by
 obtain ⟨e, h⟩ := h
 simp only [AH.row?, h, qlF, qlw, if_false]
 rw [if_neg (by simp)]
 rfl
theorem AnAt.keep {H' : AH} (h : AnAt H o cd m sl) (hg : H'.get o = H.get o) : AnAt H' o cd m sl := by obtain ⟨e, h⟩ := h; exact ⟨e, hg.trans h⟩
theorem AnAt.new {e : Nat} : AnAt (H.push ⟨ansl cd m sl, .rw, e⟩) H.size cd m sl := ⟨e, by rw [qs, if_pos rfl]⟩
end
theorem qh3 {l1 l2 : List Int} (h1 : qbB l1) (h2 : qbB l2) : ((l1.map fun v => UInt8.ofNat v.toNat) == (l2.map fun v => UInt8.ofNat v.toNat)) = decide (l1 = l2) := by
 by_cases he : l1 = l2
 ·subst he; simp
 ·rw [decide_eq_false he]
  have : (l1.map fun v => UInt8.ofNat v.toNat) ≠ (l2.map fun v => UInt8.ofNat v.toNat) := by
   intro hh
   apply he
   clear he
   induction l1 generalizing l2 with
   | nil =>
    cases l2 with
    | nil => rfl
    | cons b r => simp at hh
   | cons a r ih =>
    cases l2 with
    | nil => simp at hh
    | cons b s =>
     simp only [qmj, qmG] at hh
     have ha := h1 a (by simp)
     have hb := h2 b (by simp)
     have h9 := congrArg UInt8.toNat hh.1
     simp only [UInt8.toNat_ofNat'] at h9
     rw [ih (fun v hv => h1 v (by simp [hv])) (fun v hv => h2 v (by simp [hv])) hh.2]
     congr 1
     omega
  simpa using this
section
variable {H : AH}
theorem qhm {s : Sl} {l : List Int} {k : List UInt8 → Prop} (hr : qlC H s 1 bU l) (h8 : qbB l) (hk : k (l.map fun v => UInt8.ofNat v.toNat)) : strC H s k := by
 have hm : (l.map fun v => UInt8.ofNat v.toNat).map byteV = l.flatMap bU := by
  clear hk hr
  induction l with
  | nil => rfl
  | cons a l ih =>
   have ha := h8 a (by simp)
   have := ih (fun v hv => h8 v (by simp [hv]))
   simp only [qmj, ql7, bU, List.singleton_append] at this ⊢
   rw [this]
   congr 1
   simp only [byteV, UInt8.toNat_ofNat']
   congr 1
   omega
 exact ⟨_, by rw [hm]; exact qhw (fun _ => rfl) (fun _ => rfl) hr, hk⟩
theorem qap.s {cd m cd2 m2 : Int} {s1 s2 : Sl} {l1 l2 : List Int} {k : Bool → AH → Prop} (h1 : qlC H s1 1 bU l1) (h2 : qlC H s2 1 bU l2) (h81 : qbB l1) (h82 : qbB l2)
  (h : k (decide (cd = cd2 ∧ m = m2 ∧ l1 = l2)) H) : qap (ansl cd m s1) (ansl cd2 m2 s2) H k := by
 refine gcB _ (qap.link ?_) h
 unfold qap.b
 rw [qv, qv]
 have hk := ((qc.refl H).push ⟨ansl cd m s1, .rw, 0⟩).push ⟨ansl cd2 m2 s2, .rw, 0⟩
 have hA : AnAt ((H.push ⟨ansl cd m s1, .rw, 0⟩).push ⟨ansl cd2 m2 s2, .rw, 0⟩) H.size cd m s1 := (AnAt.new (H := H) (e := 0)).keep (qO (by simp [qm]))
 have hB : AnAt ((H.push ⟨ansl cd m s1, .rw, 0⟩).push ⟨ansl cd2 m2 s2, .rw, 0⟩) (H.push ⟨ansl cd m s1, .rw, 0⟩).size cd2 m2 s2 := AnAt.new
 generalize (H.push ⟨ansl cd m s1, .rw, 0⟩).size = o2 at *
 generalize (H.push ⟨ansl cd m s1, .rw, 0⟩).push ⟨ansl cd2 m2 s2, .rw, 0⟩ = H2 at *
 rw [hA.c0, qe, hB.c0, qe, qi]
 by_cases e0 : cd = cd2
 rotate_left 1
 ·rw [if_neg (by simpa using e0)]
  exact ⟨hk, by rw [decide_eq_false]; exact fun hh => e0 hh.1⟩
 rw [if_pos (by simpa using e0), hA.c1, qe, hB.c1, qe, qi]
 by_cases e1 : m = m2
 rotate_left 1
 ·rw [if_neg (by simpa using e1)]
  exact ⟨hk, by rw [decide_eq_false]; exact fun hh => e1 hh.2.1⟩
 rw [if_pos (by simpa using e1), hA.c2, qat]
 refine qhm (h1.keep hk) h81 ?_
 rw [hB.c2, qat]
 refine qhm (h2.keep hk) h82 ?_
 refine ⟨hk, ?_⟩
 have hss := qh3 h81 h82
 have : (qmJ ⟨(l1.map fun v => UInt8.ofNat v.toNat).toArray⟩ == qmJ ⟨(l2.map fun v => UInt8.ofNat v.toNat).toArray⟩) = decide (l1 = l2) := by rw [← hss]; simp
 rw [this]
 by_cases e2 : l1 = l2
 ·rw [decide_eq_true e2, decide_eq_true ⟨e0, e1, e2⟩]
 ·rw [decide_eq_false e2, decide_eq_false (fun hh => e2 hh.2.2)]
end
structure OpR where
 K : Int
 off : Int
 n : Int
 c : Int
 sl : Sl
 bs : List Int
def opRV (d : OpR) : List Value := opl d.K d.off d.n d.c d.sl
structure opROK (H : AH) (d : OpR) : Prop where
 off : isI d.off
 n : isI d.n
 rows : qlC H d.sl 1 bU d.bs
 u8 : ∀ v ∈ d.bs, isB v
section
variable {H : AH}
theorem qA.b' {x0 x1 : Sl} {l : List OpR} {k : Int → AH → Prop} (hr : qlC H x0 5 opRV l) (h0 : (∀ d ∈ l, d.sl.n ≤ 500) → l.length ≤ 80 → x1.n ≤ 200 → k 0 H) (h1 : ∀ v, 0 < v → v ≤ 100 → k v H) : qA x0 x1 H k := by
 by_cases hl200 : x1.n ≤ 200
 rotate_left 1
 ·refine gcI (j := .i64) 1 (qA.link ?_) (h1 1 (by omega) (by omega))
  unfold qA.b
  rw [decide_eq_true (by omega), qf]
  exact ⟨qc.refl H, rfl⟩
 by_cases hbad : (∀ d ∈ l, d.sl.n ≤ 500) ∧ l.length ≤ 80
 ·refine gcI (j := .i64) 0 (qA.link ?_) (h0 hbad.1 hbad.2 hl200)
  unfold qA.b
  rw [decide_eq_false (show ¬ ((x1.n : Nat) : Int) > 200 by omega), qa]
  refine qE (t := (((0 : Int), (0 : Int)) : Int × Int)) (I := fun (t : Int × Int) H' => ∃ i : Nat, t.2 = (i : Int) ∧ i ≤ l.length ∧ qc H H') (m := fun (t : Int × Int) _ => qlr ((l.length : Int) - t.2)) ?_ ⟨0, rfl, by omega, qc.refl H⟩
  intro t H1 hI it hit
  obtain ⟨t1, t2⟩ := t
  obtain ⟨i, e1, hi, hk⟩ := hI
  simp only at e1
  subst e1
  unfold qA.l2
  simp only [qi, decide_eq_true_eq, hr.1]
  by_cases hlt : (i : Int) < (l.length : Int)
  ·rw [if_pos hlt]
   have hi' : i < l.length := by omega
   obtain ⟨b, o, ha, hb, hrow⟩ := (hr.keep hk).at hi'
   refine ⟨by omega, ?_⟩
   rw [ha, qd, qlp, qp hrow]
   have hd := hbad.1 _ (qlB hi')
   generalize l[i] = d at *
   refine qbC (n := 5) rfl rfl rfl ?_
   have hB : OpAt (H1.push ⟨opRV d, .rw, 0⟩) H1.size d.K d.off d.n d.c d.sl := OpAt.new
   have hk2 : qc H (H1.push ⟨opRV d, .rw, 0⟩) := hk.push _
   generalize H1.push ⟨opRV d, .rw, 0⟩ = H2 at *
   rw [if_neg (by omega), hB.c4, elL_val, decide_eq_false (by omega)]
   unfold qA.j1
   rw [qa, qg (n := (i : Int) + 1) (by omega) (by omega)]
   exact hit _ _ ⟨i + 1, by simp, by omega, hk2⟩ (by simp only; omega)
  ·rw [if_neg hlt]
   exact ⟨hk, trivial⟩
 ·-- the first one that is too much
  have hex : ∃ j : Nat, j < l.length ∧ (∀ i, i < j → (i : Nat) < 80 ∧ ((l[i]?).map fun d => d.sl.n).getD 0 ≤ 500) ∧ (80 ≤ j ∨ 500 < ((l[j]?).map fun d => d.sl.n).getD 0) := by
   have key : ∀ m, m ≤ l.length → (∃ j : Nat, j < m ∧ (∀ i, i < j → (i : Nat) < 80 ∧ ((l[i]?).map fun d => d.sl.n).getD 0 ≤ 500) ∧ (80 ≤ j ∨ 500 < ((l[j]?).map fun d => d.sl.n).getD 0)) ∨ ∀ i, i < m → (i : Nat) < 80 ∧ ((l[i]?).map fun d => d.sl.n).getD 0 ≤ 500 := by
    intro m
    induction m with
    | zero => intro _; exact .inr fun i hi => by omega
    | succ m ih =>
     intro hm
     rcases ih (by omega) with ⟨j, h1, h2, h3⟩ | h
     ·exact .inl ⟨j, by omega, h2, h3⟩
     ·by_cases hc : 80 ≤ m ∨ 500 < ((l[m]?).map fun d => d.sl.n).getD 0
      ·exact .inl ⟨m, by omega, h, hc⟩
      ·refine .inr fun i hi => ?_
       by_cases him : i = m
       ·subst him; omega
       ·exact h i (by omega)
   rcases key l.length (qlu _) with h | h
   ·exact h
   ·exfalso
    refine hbad ⟨fun d hd => ?_, ?_⟩
    ·obtain ⟨i, hi, e⟩ := List.getElem_of_mem hd
     have := (h i hi).2
     rw [qln hi, e] at this
     exact this
    ·by_cases hl : l.length ≤ 80
     ·exact hl
     ·have := (h 80 (by omega)).1; omega
  obtain ⟨j, hj, hbefore, hat⟩ := hex
  have hj100 : j ≤ 80 := by
   by_cases h : j ≤ 80
   ·exact h
   ·have := (hbefore 80 (by omega)).1; omega
  refine gcI (j := .i64) ((j : Int) + 1) (qA.link ?_) (h1 _ (by omega) (by omega))
  unfold qA.b
  rw [decide_eq_false (show ¬ ((x1.n : Nat) : Int) > 200 by omega), qa]
  refine qE (t := (((0 : Int), (0 : Int)) : Int × Int)) (I := fun (t : Int × Int) H' => ∃ i : Nat, t.2 = (i : Int) ∧ i ≤ j ∧ qc H H') (m := fun (t : Int × Int) _ => qlr ((l.length : Int) - t.2)) ?_ ⟨0, rfl, by omega, qc.refl H⟩
  intro t H1 hI it hit
  obtain ⟨t1, t2⟩ := t
  obtain ⟨i, e1, hi, hk⟩ := hI
  simp only at e1
  subst e1
  unfold qA.l2
  simp only [qi, decide_eq_true_eq, hr.1]
  rw [if_pos (by omega)]
  have hi' : i < l.length := by omega
  obtain ⟨b, o, ha, hb, hrow⟩ := (hr.keep hk).at hi'
  refine ⟨by omega, ?_⟩
  rw [ha, qd, qlp, qp hrow]
  have hbi : i < j → i < 80 ∧ l[i].sl.n ≤ 500 := fun h => by have := hbefore i h; rw [qln hi'] at this; exact this
  have hai : i = j → 80 ≤ i ∨ 500 < l[i].sl.n := fun h => by
   subst h
   rw [qln hi'] at hat; exact hat
  generalize l[i] = d at *
  refine qbC (n := 5) rfl rfl rfl ?_
  have hB : OpAt (H1.push ⟨opRV d, .rw, 0⟩) H1.size d.K d.off d.n d.c d.sl := OpAt.new
  have hk2 : qc H (H1.push ⟨opRV d, .rw, 0⟩) := hk.push _
  generalize H1.push ⟨opRV d, .rw, 0⟩ = H2 at *
  have hwi : qll .i64 ((i : Int) + 1) = (i : Int) + 1 := qg (by omega) (by omega)
  have stop : i = j → qA.j1 (fun r H' => qc H H' ∧ r = (j : Int) + 1) (t1, (i : Int)) it H2 true := by
   intro h
   unfold qA.j1
   rw [qf, hwi, h]
   exact ⟨hk2, rfl⟩
  by_cases hij : i = j
  ·by_cases h100 : (i : Int) ≥ 80
   ·rw [if_pos h100]; exact stop hij
   ·rw [if_neg h100, hB.c4, elL_val, decide_eq_true (show ((d.sl.n : Nat) : Int) > 500 by have := hai hij; omega)]
    exact stop hij
  ·have := hbi (by omega)
   rw [if_neg (by omega), hB.c4, elL_val, decide_eq_false (by omega)]
   unfold qA.j1
   rw [qa, hwi]
   exact hit _ _ ⟨i + 1, by simp, by omega, hk2⟩ (by simp only; omega)
theorem qA.s {x0 x1 : Sl} {l : List OpR} {k : Int → AH → Prop} (hr : qlC H x0 5 opRV l) (h0 : (∀ d ∈ l, d.sl.n ≤ 500) → l.length ≤ 80 → x1.n ≤ 200 → k 0 H) (h1 : ∀ v, 0 < v → k v H) : qA x0 x1 H k :=
 qA.b' hr h0 fun v hv _ => h1 v hv
theorem umod5 {x m : Int} (hm : 0 < m ∧ m ≤ 1000000) : ∃ r, 0 ≤ r ∧ r < m ∧ qll .i64 (Int.tmod (qll .u64 x) m) = r := by
 obtain ⟨h1, h2⟩ := umod hm.1 x
 exact ⟨_, h1, h2, qg (by omega) (by omega)⟩
theorem qbg.s {x0 x1 x2 x3 : Int} {k : List Value → AH → Prop} (h : ∀ pa pb pc pd, 1 ≤ pa ∧ pa ≤ 24 → 0 ≤ pb ∧ pb ≤ 16 → 1 ≤ pc ∧ pc ≤ 30 → 1 ≤ pd ∧ pd ≤ 10 → k (pl pa pb pc pd) H) : qbg x0 x1 x2 x3 H k := by
 obtain ⟨a, a0, a1, ea⟩ := umod5 (x := x0) (m := 24) (by omega)
 obtain ⟨b, b0, b1, eb⟩ := umod5 (x := x1) (m := 17) (by omega)
 obtain ⟨c, c0, c1, ec⟩ := umod5 (x := x2) (m := 30) (by omega)
 obtain ⟨d, d0, d1, ed⟩ := umod5 (x := x3) (m := 10) (by omega)
 refine qc1 (κ := .agg) (v := pl (1 + a) b (1 + c) (1 + d)) (H2 := H) (by simp) rfl (qbg.link ?_) (h _ _ _ _ (by omega) (by omega) (by omega) (by omega))
 unfold qbg.b
 rw [ea, eb, ec, ed, qg (n := 1 + a) (by omega) (by omega), qg (n := 1 + c) (by omega) (by omega), qg (n := 1 + d) (by omega) (by omega), qv]
 refine ⟨by decide, by decide, by decide, by decide, ⟨rfl, rfl⟩, ?_⟩
 rw [qbu]
 refine ⟨qcF.2 (by simp), ?_⟩
 have e2 : AH.put (H.push ⟨[(qlk .i64 (0 : Int)), (qlk .i64 (0 : Int)), (qlk .i64 (0 : Int)), (qlk .i64 (0 : Int))], .rw, 0⟩) ⟨H.size, 0, none⟩ (pl (1 + a) b (1 + c) (1 + d)) = H.push ⟨pl (1 + a) b (1 + c) (1 + d), .rw, 0⟩ := by
  rw [qdr]; rfl
 show ldA (AH.put _ _ (pl (1 + a) b (1 + c) (1 + d))) _ _ _
 refine qp (cs := pl (1 + a) b (1 + c) (1 + d)) (by rw [e2]; exact pl_row) |>.mpr ?_
 exact ⟨At.of_keeps (((qc.refl H).push _).upd (qlu _) _), rfl⟩
theorem qaZ.s {x1 : Sl} {limits : List Int} {pa pb pc pd : Int} {k : Option Addr → Option Addr → AH → Prop} (hr : qlC H x1 1 iV limits) (hmay : mayP pa pb pc pd = true)
  (h0 : limits ≠ [] → ∀ p H', qc H H' → k none p H')
  (h1 : ∀ H' L s, HA H' L pa pb pc pd s → HP pa pb pc pd s (firstN (8 * pa)) 0 15 0 → s.M.down = false → s.M.cut = -1 → ¬ s.stuck → (limits = [] → NL s.M) → s.now = qlq (pagesP pa pb pc pd).toNat 0 → s.kept = s.now → (∀ b, (b = L.h ∨ b = L.g ∨ b = L.t ∨ b = L.x ∨ b = L.p ∨ b = L.c ∨ b = L.ct ∨ b = L.q1 ∨ b = L.q2) → H.size ≤ b) → qc H H' → k (some ⟨L.h, 0, none⟩) (some ⟨L.p, 0, none⟩) H') :
  qaZ (pl pa pb pc pd) x1 H k := by
 have hmp := qaf.1 hmay
 refine qaZ.link ?_
 unfold qaZ.b
 rw [qv, pl_ld]
 have hk1 : qc H (H.push ⟨pl pa pb pc pd, .rw, 0⟩) := (qc.refl H).push _
 have g1 : (H.push ⟨pl pa pb pc pd, .rw, 0⟩).get H.size = ⟨pl pa pb pc pd, .rw, 0⟩ := by rw [qs, if_pos rfl]
 have hsz1 : (H.push ⟨pl pa pb pc pd, .rw, 0⟩).size = H.size + 1 := by simp [qm]
 generalize H.push ⟨pl pa pb pc pd, .rw, 0⟩ = H1 at *
 refine qbP.s ?_
 have hdev : deviceP pa pb pc pd = ((16 + pa.toNat + 1 + pb.toNat : Nat) : Int) := by unfold deviceP; rw [if_pos hmay]; omega
 rw [hdev]
 refine nvm_New.s (hr.keep hk1) ?_ (fun hn => absurd (by omega) hn)
 intro _ H2 hM2 hk2 hs2
 rw [qlp] at hM2
 have g2 : H2.get H.size = ⟨pl pa pb pc pd, .rw, 0⟩ := by rw [hk2.2 _ (by omega)]; exact g1
 rw [qp (plg_row g2)]
 obtain ⟨f1, f2, f3, _, _, f4⟩ := formed (limits := limits) hmay
 refine qW.s hM2 hmay ?_
 intro H3 hM3 fr3
 have g3 : H3.get H.size = ⟨pl pa pb pc pd, .rw, 0⟩ := by rw [fr3.get _ (by omega) (by omega) (by omega)]; exact g2
 have hkk : qc H H3 := fr3.keeps (hk1.trans hk2) (by omega) (by omega)
 rcases f4 with ⟨e, hMP, hc⟩ | e
 ·rw [e, show ((0 : Int) != 0) = false from rfl, qa, qp (plg_row g3)]
  have hrc : recN (16 + pa.toNat) pb.toNat pc.toNat (formN pa pb pc limits).1 0 = ((formN pa pb pc limits).1, 0, 0) := qg8 f1 hc
  have hop := hMP.opened f1 (by omega)
  refine qah.s hMP hM3 f1 (by omega) (by omega) (fun hh => by rw [hrc] at hh; exact absurd rfl hh) ?_
  intro he H4 L hA hp hcc l1 l2 l3 l4 l5 l6 l7 fr4
  rw [show ((0 : Int) != 0) = false from rfl, qa]
  have hs := fr3.size
  have hP : HP pa pb pc pd (openS pa pb pc pd (formN pa pb pc limits).1) (firstN (8 * pa)) 0 (1 + 14) 0 := by
   rcases hop.2.2 with ⟨_, _, hP⟩ | ⟨e2, _⟩
   ·exact hP
   ·omega
  have eM : (openS pa pb pc pd (formN pa pb pc limits).1).M = (formN pa pb pc limits).1 := by unfold openS; rw [hrc]
  have hnow : (openS pa pb pc pd (formN pa pb pc limits).1).now = qlq (pagesP pa pb pc pd).toNat 0 := by
   have hpg := hMP.pages
   unfold openS keptOf
   rw [hrc]
   simp only
   apply qlM
   intro i
   rw [qlz, qmK]
   by_cases hi : i < (pagesP pa pb pc pd).toNat
   ·rw [qlP hi, if_pos hi, qlO]
    have h1 := hMP.rg i (by omega)
    have h2 := reg_U hMP.mok (i := 19 + i) (by omega)
    unfold isU at h2
    congr 1; omega
   ·rw [qlt (by simp; omega), if_neg hi]; rfl
  have hpl : L.p = H1.size + 1 := hp
  have hcl : L.c = H1.size := hcc
  rw [← hpl]
  refine h1 H4 L _ hA hP (by rw [eM]; exact f1) (by rw [eM]; exact f2) ?_ (fun hl => by rw [eM]; exact (f3 hl).2) hnow rfl ?_ (fr4.keeps hkk (by omega) (by omega))
  ·intro hst
   rcases hst with hst | ⟨_, hst⟩
   ·cases hst
   ·rw [eM] at hst; exact hst hc
  ·intro b hb
   rcases hb with rfl | rfl | rfl | rfl | rfl | rfl | rfl | rfl | rfl <;> omega
 ·rw [e, show ((3 : Int) != 0) = true from rfl, qf]
  exact h0 (fun hl => by have := (f3 hl).1; omega) _ _ hkk
end
def Pl.has (L : Pl) (b : Nat) : Prop := b = L.h ∨ b = L.g ∨ b = L.t ∨ b = L.x ∨ b = L.p ∨ b = L.c ∨ b = L.ct ∨ b = L.q1 ∨ b = L.q2
section
variable {H H' H0 : AH} {L : Pl} {F F' : Nat → Prop} {w : Nat} {pa pb pc pd : Int} {s : HS} {ws : List Int} {root : Int} {mvb : Nat} {cb : Int}
theorem HA.lt (h : HA H L pa pb pc pd s) {b : Nat} (hb : L.has b) : b < H.size := by
 have hbl := HAt.below h
 have hga := HAt.ga h
 have hca := HAt.ca h
 rcases hb with rfl | rfl | rfl | rfl | rfl | rfl | rfl | rfl | rfl
 ·exact hbl.h
 ·exact hga.lg
 ·exact hbl.t
 ·exact hga.tn.l.lx
 ·exact hbl.p
 ·exact hbl.c
 ·exact hca.lc
 ·exact hbl.q1
 ·exact hbl.q2
theorem HA.congr (h : HA H L pa pb pc pd s) (hs : H.size ≤ H'.size) (hg : ∀ b, L.has b → H'.get b = H.get b) : HA H' L pa pb pc pd s := by
 have hga := HAt.ga h
 have hl := hga.tn.l
 have lt := fun b hb => HA.lt h (b := b) hb
 have l1 := lt L.h (by simp [Pl.has]); have l2 := lt L.g (by simp [Pl.has]); have l3 := lt L.t (by simp [Pl.has]); have l4 := lt L.x (by simp [Pl.has]); have l5 := lt L.p (by simp [Pl.has]); have l6 := lt L.c (by simp [Pl.has])
 exact ⟨by rw [hg _ (by simp [Pl.has]), HAt.hh h], by omega, HAt.may h,
  ⟨by rw [hg _ (by simp [Pl.has]), hga.hg], by omega, hga.ne, ⟨by rw [hg _ (by simp [Pl.has]), hga.tn.ht], by omega, hga.tn.tp, hga.tn.tc, hga.tn.tx,
   ⟨by rw [hg _ (by simp [Pl.has]), hl.hx], by omega, hl.xp, hl.xc, hl.m.keep hs (hg _ (by simp [Pl.has])) (hg _ (by simp [Pl.has])), hl.len, hl.n1, hl.sp16⟩, hga.tn.n1, hga.tn.per, hga.tn.pl, hga.tn.mv⟩, hga.n16⟩,
  HAt.ca_keep h hs (fun b hb => hg b (by rcases hb with rfl | rfl | rfl <;> simp [Pl.has])), HAt.ne h, HAt.nc h, HAt.pages h⟩
theorem HA.up (h : HA H L pa pb pc pd s) (hu : Up F H F' H') (hd : ∀ b, L.has b → F b → False) : HA H' L pa pb pc pd s :=
 HA.congr h hu.1.1 fun b hb => hu.1.2 b (HA.lt h hb) (fun hf => hd b hb hf)
theorem RM.frh (h : RM F H w ws root) (f : Frh H H' L) (hd : ∀ b, L.has b → F b → False) : RM F H' w ws root :=
 h.congr f.size fun b hb => f.get b (h.lt b hb) (fun e => hd b (by simp [Pl.has, e]) hb) (fun e => hd b (by simp [Pl.has, e]) hb) (fun e => hd b (by simp [Pl.has, e]) hb) (fun e => hd b (by simp [Pl.has, e]) hb) (fun e => hd b (by simp [Pl.has, e]) hb) (fun e => hd b (by simp [Pl.has, e]) hb)
theorem Frh.base (f : Frh H H' L) (hk : qc H0 H) (lo : ∀ b, L.has b → H0.size ≤ b) : qc H0 H' :=
 ⟨qmr hk.1 f.size, fun b hb => by
  have h0 := hk.1
  have no : ∀ x, L.has x → b ≠ x := fun x hx e => by have := lo x hx; omega
  rw [f.get b (by omega) (no _ (by simp [Pl.has])) (no _ (by simp [Pl.has])) (no _ (by simp [Pl.has])) (no _ (by simp [Pl.has])) (no _ (by simp [Pl.has])) (no _ (by simp [Pl.has])), hk.2 b hb]⟩
theorem qjc (a b : Bk) : eqCells [(K.int .i64), (K.int .i64), K.bool] (bkV a) (bkV b) = some (decide (a = b)) := by
 obtain ⟨a1, a2, a3⟩ := a
 obtain ⟨b1, b2, b3⟩ := b
 simp [eqCells, bkV]
 rw [Bool.eq_iff_iff]
 simp
theorem qad.d {x0 x1 : Sl} {a b : List Bk} {k : Bool → AH → Prop} (h0 : qlC H x0 3 bkV a) (h1 : qlC H x1 3 bkV b) (hl : a.length ≤ 100000) (h : k (decide (a = b)) H) : qad x0 x1 H k := by
 refine gcB _ (qad.link ?_) h
 unfold qad.b
 rw [h0.1, h1.1, qi]
 by_cases hlen : a.length = b.length
 rotate_left 1
 ·rw [if_pos (by simpa using fun h => hlen (by omega))]
  exact ⟨qc.refl _, by rw [decide_eq_false]; exact fun h => hlen (by rw [h])⟩
 rw [if_neg (by simp [hlen])]
 refine qE (t := ((false, (0 : Int)) : Bool × Int)) (I := fun (t : Bool × Int) H' => H' = H ∧ ∃ i : Nat, t.2 = (i : Int) ∧ i ≤ a.length ∧ a.take i = b.take i) (m := fun (t : Bool × Int) _ => qlr ((a.length : Int) - t.2)) ?_ ⟨rfl, 0, rfl, by omega, rfl⟩
 rintro ⟨t0, t2⟩ H1 ⟨rfl, i, e1, hi, htk⟩ it hit
 simp only at e1
 subst e1
 unfold qad.l1
 simp only [qi, decide_eq_true_eq]
 rw [h0.1]
 by_cases hlt : (i : Int) < (a.length : Int)
 rotate_left 1
 ·rw [if_neg hlt]
  have : i = a.length := by omega
  rw [ql9 (by omega), ql9 (by omega)] at htk
  exact ⟨qc.refl _, by rw [htk]; simp⟩
 rw [if_pos hlt]
 have hi' : i < a.length := by omega
 have hib : i < b.length := by omega
 obtain ⟨b', o, ha, hb, hcells⟩ := qam h0 (by omega)
 obtain ⟨b2, o2, ha2, hb2, hcells2⟩ := qam h1 (by omega)
 refine ⟨by omega, ?_⟩
 rw [ha, qd, qlp, qp (hcells i _ (qln hi')).1]
 refine ⟨by rw [h1.1]; omega, ?_⟩
 rw [ha2, qd, qp (hcells2 i _ (qln hib)).1, qjc]
 refine ⟨_, rfl, ?_⟩
 show ite _ _ _
 by_cases he : a[i] = b[i]
 ·rw [decide_eq_true he, if_neg (by simp), qg (n := (i : Int) + 1) (by omega) (by omega)]
  exact hit _ _ ⟨rfl, i + 1, by simp, by omega, by rw [qmB, qmB, htk, qln hi', qln hib, he]⟩ (by simp only; omega)
 ·rw [decide_eq_false he, if_pos (by simp)]
  exact ⟨qc.refl _, by rw [decide_eq_false]; intro h; subst h; exact he rfl⟩
def minB (b : Bk) : Int := if (b.2.1 - 1) * 8 < 448 then (b.2.1 - 1) * 8 else 448
def sameAt (ws wsm : List Int) (b : Bk) : Prop := b.2.2 = true → (aRead ws (offN b.1) (minB b)).1 = (aRead wsm (offN b.1) (minB b)).1
instance (ws wsm : List Int) (b : Bk) : Decidable (sameAt ws wsm b) := by unfold sameAt; infer_instance
def saysF (ws : List Int) (root : Int) (wsm : List Int) (rootm : Int) : Int :=
 if blkL ws = blkL wsm ∧ root = rootm then (if ∀ b ∈ blkL ws, sameAt ws wsm b then 0 else 2) else 1
theorem qeh {ws : List Int} {root : Int} : saysF ws root ws root = 0 := by
 unfold saysF
 have h : ∀ b ∈ blkL ws, sameAt ws ws b := fun b _ _ => rfl
 rw [if_pos ⟨rfl, rfl⟩, if_pos h]
theorem qfi (h : Ok ws) (off n : Int) : imgRead ws off n = aRead ws off n := by
 unfold imgRead aRead
 rw [h.blocks]
theorem do_get (h : HP pa pb pc pd s ws root mvb cb) (hup : s.M.down = false) {off n : Int} {bs : List Int} : doH pa pb pc pd s 6 off n bs = (s, 0, root, []) := by
 unfold doH
 rw [if_neg (by omega), if_neg (by omega), if_neg (by omega), if_neg (by omega), if_neg (by omega), if_pos rfl, if_neg (by simp [hup]), h.rootN.1]
theorem do_read (h : HP pa pb pc pd s ws root mvb cb) (hup : s.M.down = false) {off n : Int} {bs : List Int} : doH pa pb pc pd s 3 off n bs = (s, (aRead ws off n).2, 0, if (aRead ws off n).2 = 0 then (aRead ws off n).1 else []) := by
 unfold doH
 rw [if_neg (by omega), if_neg (by omega), if_pos rfl, qgi h hup, qfi h.ok]
theorem qcU {wsm : List Int} {rootm : Int} {k : Int → AH → Prop} (ha : HA H L pa pb pc pd s) (hp : HP pa pb pc pd s ws root mvb cb) (hup : s.M.down = false) (hb : mvb + 2000 < 4611686018427387904) (hcb : cb + 1000 < 4611686018427387904)
  (hok : Ok wsm) (hrm : RM F H w wsm rootm) (hd : ∀ b, L.has b → F b → False)
  (hk : ∀ H', HA H' L pa pb pc pd s → Frh H H' L → k (saysF ws root wsm rootm) H') : qG (some ⟨L.h, 0, none⟩) (some ⟨w, 0, none⟩) H k := by
 have hm := qaf.1 hp.may
 have hlen := hp.ok.len
 obtain ⟨hbl, hbm⟩ := hp.ok.blen
 obtain ⟨hbl2, hbm2⟩ := hok.blen
 refine qG.link ?_
 unfold qG.b
 refine qdu.s ha (fun hh => by rw [hup] at hh; cases hh) ?_
 intro _ s17 H17 hk17 hO17
 rw [hp.words hup] at hO17
 refine qab.s (hO17.rows (fun _ => rfl) (fun _ => rfl)) hlen.2.2 (by omega) ?_ (fun hbn => by rw [hp.ok.blocks] at hbn; cases hbn)
 intro l hl s22 H22 hk22 hO22
 rw [hp.ok.blocks] at hl
 injection hl with hl
 subst hl
 have hk22' := hk17.trans hk22
 rw [show ((0 : Int) != 0) = false from rfl, qa, qlA, qa]
 refine qac.s hok (hrm.keeps hk22') ?_
 intro s34 H34 hk34 hO34
 have hk34' := hk22'.trans hk34
 have hO22' : Own H17.size H34 s22 3 bkV (blkL ws) := hO22.keep hk34.1 (fun b _ hb => hk34.2 b hb)
 refine qad.d (hO22'.rows bkV_len bkV_ok) (hO34.rows bkV_len bkV_ok) (by omega) ?_
 have ha34 : HA H34 L pa pb pc pd s := HAt.keeps ha hk34'
 have hrm34 := hrm.keeps hk34'
 by_cases hbe : blkL ws = blkL wsm
 rotate_left 1
 ·rw [decide_eq_false hbe, qlK, qf]
  unfold qG.j3
  rw [qf]
  have := hk H34 ha34 (Frh.of_keeps hk34')
  unfold saysF at this
  rw [if_neg (fun hh => hbe hh.1)] at this
  exact this
 rw [decide_eq_true hbe, qlA, qa, qd]
 obtain ⟨sm, hR⟩ := id hrm34
 rw [hR.c1, qe]
 have hB : L.below H17.size := (HAt.below ha).mono hk17.1
 refine qdj (s := s) (K := 6) (off := 0) (n := 0) (mask := 0) (x := ⟨none, 0, 0⟩) (bs := []) (hp.hok ha34 hb hcb) (by unfold isI; omega) (by unfold isI; omega) (fun hh => by omega) ?_
 intro H41 x41 ha41 f41 hO41
 rw [do_get hp hup] at ha41 hO41 ⊢
 simp only at ha41 hO41 ⊢
 have hrm41 := hrm34.frh f41 hd
 obtain ⟨sm2, hR2⟩ := id hrm41
 refine ⟨hR2.c1, ?_⟩
 have hf41 : Frh H H41 L := (Frh.of_keeps hk34').trans f41
 refine qap.s (cd := 0) (m := root) (cd2 := 0) (m2 := rootm) (s1 := x41) (s2 := ⟨none, 0, 0⟩) (hO41.rows (fun _ => rfl) (fun _ => rfl)) qev (fun v hv => by cases hv) (fun v hv => by cases hv) ?_
 by_cases hre : root = rootm
 rotate_left 1
 ·rw [decide_eq_false (fun hh => hre hh.2.1), qlK]
  unfold qG.j3
  rw [qf]
  have := hk H41 ha41 hf41
  unfold saysF at this
  rw [if_neg (fun hh => hre hh.2)] at this
  exact this
 rw [decide_eq_true ⟨rfl, hre, rfl⟩, qlA]
 unfold qG.j3
 rw [qa]
 have hO22'' : Own H17.size H41 s22 3 bkV (blkL ws) := f41.own hB hO22'
 refine qE (t := (((0 : Int), (0 : Int)) : Int × Int)) (I := fun (t : Int × Int) H' => ∃ i : Nat, t.2 = (i : Int) ∧ i ≤ (blkL ws).length ∧ HA H' L pa pb pc pd s ∧ Frh H41 H' L ∧ Own H17.size H' s22 3 bkV (blkL ws) ∧ ∀ b ∈ (blkL ws).take i, sameAt ws wsm b) (m := fun (t : Int × Int) _ => qlr (((blkL ws).length : Int) - t.2)) ?_
  ⟨0, rfl, by omega, ha41, Frh.refl, hO22'', fun b hb => by simp at hb⟩
 rintro ⟨t1, t2⟩ H1 ⟨i, e1, hi, ha1, f1, hO1, hall⟩ it hit
 simp only at e1
 subst e1
 unfold qG.l2
 have hR1 := hO1.rows bkV_len bkV_ok
 rw [hR1.1]
 by_cases hlt : (i : Int) < ((blkL ws).length : Int)
 rotate_left 1
 ·rw [decide_eq_false hlt, qa]
  have := hk H1 ha1 (hf41.trans f1)
  unfold saysF at this
  rw [if_pos ⟨hbe, hre⟩, if_pos (by rw [ql9 (by omega)] at hall; exact hall)] at this
  exact this
 rw [decide_eq_true hlt, qf]
 have hi' : i < (blkL ws).length := by omega
 obtain ⟨b, ofs, hsa, hbb, hcells⟩ := qam hR1 (by omega)
 refine ⟨by omega, ?_⟩
 rw [hsa, qd, qlp, qp (hcells i _ (qln hi')).1]
 have hqm := qlB hi'
 have hq := hbm _ hqm
 have hread := fun n => qgD (n := n) hp.ok hqm
 have hqm2 : (blkL ws)[i] ∈ blkL wsm := by rw [← hbe]; exact hqm
 have hread2 := fun n => qgD (n := n) hok hqm2
 have htk : (blkL ws).take (i + 1) = (blkL ws).take i ++ [(blkL ws)[i]] := by rw [qmB, qln hi']; rfl
 have hnall : ¬ sameAt ws wsm (blkL ws)[i] → saysF ws root wsm rootm = 2 := fun hn => by
  unfold saysF
  rw [if_pos ⟨hbe, hre⟩, if_neg (fun hh => hn (hh _ hqm))]
 generalize (blkL ws)[i] = q at *
 refine qbC (n := 3) rfl (bkV_len q) (bkV_ok q) ?_
 have hQ : BkAt (H1.push ⟨bkV q, .rw, 0⟩) H1.size q := BkAt.new
 have hk2 : qc H1 (H1.push ⟨bkV q, .rw, 0⟩) := (qc.refl H1).push _
 have hz2 : H1.size < (H1.push ⟨bkV q, .rw, 0⟩).size := by simp [qm]
 generalize H1.push ⟨bkV q, .rw, 0⟩ = H2 at *
 have ha2 : HA H2 L pa pb pc pd s := HAt.keeps ha1 hk2
 have hf2 : Frh H41 H2 L := f1.trans (Frh.of_keeps hk2)
 have hO2 : Own H17.size H2 s22 3 bkV (blkL ws) := hO1.keep hk2.1 (fun b _ hb => hk2.2 b hb)
 rw [hQ.c2, qaW]
 cases hu : q.2.2 with
 | false =>
  rw [qlK, qf, qg (n := (i : Int) + 1) (by omega) (by omega)]
  refine hit _ _ ⟨i + 1, by simp, by omega, ha2, hf2, hO2, fun b hb => ?_⟩ (by simp only; omega)
  rw [htk, qlD] at hb
  rcases hb with hb | hb
  ·exact hall b hb
  ·simp at hb; subst hb
   intro hh; rw [hu] at hh; cases hh
 | true =>
  rw [qlA, qa, hQ.c1, qe, qp hQ.row]
  refine qY.s ?_
  have hmin : (if (qll .i64 ((qll .i64 (q.2.1 - (1 : Int))) * (8 : Int))) < (448 : Int) then (qll .i64 ((qll .i64 (q.2.1 - (1 : Int))) * (8 : Int))) else (448 : Int)) = minB q := qka (by omega)
  rw [hmin]
  have hoff : offN q.1 = (q.1 + 1) * 8 := by unfold offN; rw [if_pos (by omega)]
  have hmr : 0 ≤ minB q ∧ minB q ≤ 448 ∧ minB q ≤ (q.2.1 - 1) * 8 := by unfold minB; split <;> omega
  have hr1 := hread (minB q) hu hmr
  have hr2 := hread2 (minB q) hu hmr
  refine qdj (s := s) (K := 3) (off := offN q.1) (n := minB q) (mask := 0) (x := ⟨none, 0, 0⟩) (bs := []) (hp.hok ha2 hb hcb) (by unfold isI; omega) (by unfold isI; omega) (fun hh => by omega) ?_
  intro H69 x69 ha69 f69 hO69
  rw [do_read hp hup, hr1] at ha69 hO69 ⊢
  simp only [if_true] at ha69 hO69 ⊢
  refine qbC (n := 3) rfl rfl rfl ?_
  have hA : AnAt (H69.push ⟨anV 0 0 x69, .rw, 0⟩) H69.size 0 0 x69 := AnAt.new
  have hk70 : qc H69 (H69.push ⟨anV 0 0 x69, .rw, 0⟩) := (qc.refl H69).push _
  have hz70 : H69.size < (H69.push ⟨anV 0 0 x69, .rw, 0⟩).size := by simp [qm]
  generalize H69.push ⟨anV 0 0 x69, .rw, 0⟩ = H70 at *
  have hs69 := f69.size
  have ne : ∀ x, L.has x → x ≠ H1.size := fun x hx e => by have := HA.lt ha1 hx; omega
  have hQ70 : BkAt H70 H1.size q := by
   obtain ⟨e, he⟩ := hQ
   refine ⟨e, ?_⟩
   rw [hk70.2 _ (by omega), f69.get _ hz2 (ne _ (by simp [Pl.has])).symm (ne _ (by simp [Pl.has])).symm (ne _ (by simp [Pl.has])).symm (ne _ (by simp [Pl.has])).symm (ne _ (by simp [Pl.has])).symm (ne _ (by simp [Pl.has])).symm]
   exact he
  rw [qp hQ70.row]
  refine qY.s ?_
  have hf70 : Frh H41 H70 L := (hf2.trans f69).trans (Frh.of_keeps hk70)
  have hrm70 : RM F H70 w wsm rootm := hrm41.frh hf70 hd
  refine qaA.s hok hrm70 (by unfold isI; omega) (by unfold isI; omega) ?_
  intro s75 H75 hk75 hO75
  have hA75 := hA.keep (hk75.2 _ hz70)
  rw [hA75.c0, qe, show ((0 : Int) != 0) = false from rfl, qa, hA75.c2, qat]
  have hO69' : Own H2.size H75 x69 1 bU (aRead ws (offN q.1) (minB q)).1 := (hO69.keep hk70.1 (fun b _ hb => hk70.2 b hb)).keep hk75.1 (fun b _ hb => hk75.2 b hb)
  refine own_str hO69' (aRead_8 _ _ _) ?_
  refine own_str hO75 (aRead_8 _ _ _) ?_
  have hbq := qh3 (aRead_8 ws (offN q.1) (minB q)) (aRead_8 wsm (offN q.1) (minB q))
  have ha75 : HA H75 L pa pb pc pd s := HAt.keeps (HAt.keeps ha69 hk70) hk75
  have hf75 : Frh H41 H75 L := hf70.trans (Frh.of_keeps hk75)
  unfold qG.j1
  have hlist : ∀ l : List UInt8, qmJ ⟨qlU l⟩ = l := fun l => by simp
  rw [hlist, hlist, hbq]
  by_cases hsame : (aRead ws (offN q.1) (minB q)).1 = (aRead wsm (offN q.1) (minB q)).1
  ·rw [decide_eq_true hsame, qlA, qa, qg (n := (i : Int) + 1) (by omega) (by omega)]
   have hO75b : Own H17.size H75 s22 3 bkV (blkL ws) := ((f69.own hB hO2).keep hk70.1 (fun b _ hb => hk70.2 b hb)).keep hk75.1 (fun b _ hb => hk75.2 b hb)
   refine hit _ _ ⟨i + 1, by simp, by omega, ha75, hf75, hO75b, fun b hb => ?_⟩ (by simp only; omega)
   rw [htk, qlD] at hb
   rcases hb with hb | hb
   ·exact hall b hb
   ·simp at hb; subst hb
    exact fun _ => hsame
  ·rw [decide_eq_false hsame, qlK, qf]
   have := hk H75 ha75 (hf41.trans hf75)
   rw [hnall (fun hh => hsame (hh hu))] at this
   exact this
end
theorem Kp.trans' {G G' : Nat → Prop} {H H' H'' : AH} (h : Kp G H H') (h' : Kp G' H' H'') (hg : ∀ b, b < H.size → G' b → G b) : Kp G H H'' :=
 ⟨qmr h.1 h'.1, fun b hb hn => by rw [h'.2 b (by have := h.1; omega) (fun hh => hn (hg b hb hh)), h.2 b hb hn]⟩
theorem Frh.kp {G : Nat → Prop} {H H' : AH} {L : Pl} (f : Frh H H' L) (hg : ∀ b, L.has b → G b) : Kp G H H' :=
 ⟨f.size, fun b hb hn => f.get b hb (fun e => hn (hg b (by simp [Pl.has, e]))) (fun e => hn (hg b (by simp [Pl.has, e]))) (fun e => hn (hg b (by simp [Pl.has, e]))) (fun e => hn (hg b (by simp [Pl.has, e]))) (fun e => hn (hg b (by simp [Pl.has, e]))) (fun e => hn (hg b (by simp [Pl.has, e])))⟩
theorem qhC {F F2 : Nat → Prop} {H : AH} {w p2 : Nat} {ws ws2 : List Int} {root root2 : Int} {s1 s2 : Sl} (h1 : RW F H w ws root s1) (h2 : RW F2 H p2 ws2 root2 s2) (hd : Dj F F2) :
  H.canPut (qlm ⟨w, 0, none⟩ 0) 1 ∧ (H.put (qlm ⟨w, 0, none⟩ 0) [s2.val]).canPut (qlm ⟨w, 0, none⟩ 1) 1 ∧
  RM (fun b => F b ∨ F2 b) (H.put (qlm ⟨w, 0, none⟩ 0) [s2.val]) w ws2 root ∧
  RM (fun b => F b ∨ F2 b) ((H.put (qlm ⟨w, 0, none⟩ 0) [s2.val]).put (qlm ⟨w, 0, none⟩ 1) [.int .i64 root2]) w ws2 root2 ∧
  (∀ b, b ≠ w → (H.put (qlm ⟨w, 0, none⟩ 0) [s2.val]).get b = H.get b) ∧ (∀ b, b ≠ w → ((H.put (qlm ⟨w, 0, none⟩ 0) [s2.val]).put (qlm ⟨w, 0, none⟩ 1) [.int .i64 root2]).get b = H.get b) := by
 rw [qk, qk]
 have hobj := h1.obj
 have g1 : ∀ b, b ≠ w → (H.put ⟨w, 0 + 0, none⟩ [s2.val]).get b = H.get b := fun b hb => by simp [AH.put, qT, hb]
 have gw : (H.put ⟨w, 0 + 0, none⟩ [s2.val]).get w = ⟨[s2.val, .int .i64 root], .rw, 0⟩ := by simp [AH.put, qT, hobj, setMany]
 have g2 : ∀ b, b ≠ w → ((H.put ⟨w, 0 + 0, none⟩ [s2.val]).put ⟨w, 0 + 1, none⟩ [.int .i64 root2]).get b = H.get b := fun b hb => by
  have : ((H.put ⟨w, 0 + 0, none⟩ [s2.val]).put ⟨w, 0 + 1, none⟩ [.int .i64 root2]).get b = (H.put ⟨w, 0 + 0, none⟩ [s2.val]).get b := by
   generalize H.put ⟨w, 0 + 0, none⟩ [s2.val] = H1
   simp [AH.put, qT, hb]
  rw [this, g1 b hb]
 have gw2 : ((H.put ⟨w, 0 + 0, none⟩ [s2.val]).put ⟨w, 0 + 1, none⟩ [.int .i64 root2]).get w = ⟨[s2.val, .int .i64 root2], .rw, 0⟩ := by
  generalize H.put ⟨w, 0 + 0, none⟩ [s2.val] = H1 at *
  simp [AH.put, qT, gw, setMany]
 have nb : ∀ a, s2.a = some a → a.block ≠ w := fun a ha e => hd w h1.fp (e ▸ h2.fs a ha)
 have own : ∀ H', H'.size = H.size → (∀ b, b ≠ w → H'.get b = H.get b) → Own 0 H' s2 1 wU ws2 := by
  intro H' hs hg
  rcases h2.own with h0 | ⟨b, e1, e2, e3, e4⟩
  ·exact .inl h0
  ·exact .inr ⟨b, e1, e2, by omega, by rw [hg b (nb ⟨b, 0, none⟩ (by rw [e1]))]; exact e4⟩
 refine ⟨⟨rfl, by rw [hobj], by rw [hobj]; simp⟩, ⟨rfl, by simp only [gw], by simp only [gw]; simp⟩, ?_, ?_, g1, g2⟩
 ·exact ⟨s2, gw, own _ rfl g1, .inl h1.fp, fun a ha => .inr (h2.fs a ha), fun b hb => hb.elim (h1.lt b) (h2.lt b)⟩
 ·exact ⟨s2, gw2, own _ rfl g2, .inl h1.fp, fun a ha => .inr (h2.fs a ha), fun b hb => hb.elim (h1.lt b) (h2.lt b)⟩
def StepK (H : AH) (L : Pl) (F : Nat → Prop) (w : Nat) (pa pb pc pd : Int) (s' : HS) (mvb : Nat) (cb : Int) (k : Int → AH → Prop) : Prop :=
 ∀ H' F' ws' root', HA H' L pa pb pc pd s' → HP pa pb pc pd s' ws' root' mvb cb → s'.M.down = false → RM F' H' w ws' root' → (∀ b, L.has b → F' b → False) →
  Kp (fun b => L.has b ∨ F b) H H' → (∀ b, F' b → F b ∨ (H.size ≤ b ∧ b < H'.size)) → k 0 H'
structure SC (H0 H : AH) (L : Pl) (F F2 : Nat → Prop) (w p2 o5 o11 : Nat) (pa pb pc pd : Int) (s' : HS) (ws : List Int) (root : Int) (ws2 : List Int) (root2 : Int) (K off n mask : Int) (x : Sl) (e offR : Int) (xR : Sl) : Prop where
 ha : HA H L pa pb pc pd s'
 rm : RM F H w ws root
 r2 : RM F2 H p2 ws2 root2
 dF : ∀ b, L.has b → F b → False
 d2 : ∀ b, L.has b → F2 b → False
 dd : Dj F F2
 new : ∀ b, F2 b → H0.size ≤ b
 kp : Kp (fun b => L.has b ∨ F b) H0 H
 fl : ∀ b, F b → b < H0.size
 op : OpAt H o5 K off n mask x
 an : AnAt H o11 e offR xR
 o5n : o5 < H.size ∧ ¬ L.has o5 ∧ ¬ F o5 ∧ ¬ F2 o5
 o11n : o11 < H.size ∧ ¬ L.has o11 ∧ ¬ F o11 ∧ ¬ F2 o11
 l0 : ∀ b, L.has b → b < H0.size
section
variable {H0 H H' : AH} {L : Pl} {F F2 F2' : Nat → Prop} {w p2 o5 o11 : Nat} {pa pb pc pd : Int} {s s' : HS} {ws : List Int} {root : Int} {ws2 ws3 : List Int} {root2 root3 : Int} {K off n mask : Int} {x : Sl} {e offR : Int} {xR : Sl} {mvb : Nat} {cb : Int}
theorem SC.up (h : SC H0 H L F F2 w p2 o5 o11 pa pb pc pd s' ws root ws2 root2 K off n mask x e offR xR) (hu : Up F2 H F2' H') (hr : RM F2' H' p2 ws3 root3) :
  SC H0 H' L F F2' w p2 o5 o11 pa pb pc pd s' ws root ws3 root3 K off n mask x e offR xR := by
 have hkp := h.kp
 have hs := hu.1.1
 have f2' : ∀ b, F2' b → F2 b ∨ (H.size ≤ b ∧ b < H'.size) := hu.2
 refine ⟨HA.up h.ha hu h.d2, h.rm.up hu (fun b h2 h1 => h.dd b h1 h2), hr, h.dF, fun b hb hf => ?_, fun b h1 h2 => ?_, fun b hb => ?_, h.kp.trans' hu.1 (fun b hb h2 => ?_), h.fl, ?_, ?_, ?_, ?_, h.l0⟩
 ·rcases f2' b hf with hf | hf
  ·exact h.d2 b hb hf
  ·have := HA.lt h.ha hb; omega
 ·rcases f2' b h2 with hf | hf
  ·exact h.dd b h1 hf
  ·have := h.rm.lt b h1; omega
 ·rcases f2' b hb with hf | hf
  ·exact h.new b hf
  ·have := hkp.1; omega
 ·have := h.new b h2; omega
 ·exact h.op.keep (hu.1.2 _ h.o5n.1 h.o5n.2.2.2)
 ·exact h.an.keep (hu.1.2 _ h.o11n.1 h.o11n.2.2.2)
 ·refine ⟨by have := h.o5n.1; omega, h.o5n.2.1, h.o5n.2.2.1, fun hf => ?_⟩
  rcases f2' _ hf with hf | hf
  ·exact h.o5n.2.2.2 hf
  ·have := h.o5n.1; omega
 ·refine ⟨by have := h.o11n.1; omega, h.o11n.2.1, h.o11n.2.2.1, fun hf => ?_⟩
  rcases f2' _ hf with hf | hf
  ·exact h.o11n.2.2.2 hf
  ·have := h.o11n.1; omega
theorem SC.keeps (h : SC H0 H L F F2 w p2 o5 o11 pa pb pc pd s' ws root ws2 root2 K off n mask x e offR xR) (hk : qc H H') :
  SC H0 H' L F F2 w p2 o5 o11 pa pb pc pd s' ws root ws2 root2 K off n mask x e offR xR :=
 h.up ⟨qc.kp hk, fun b hb => .inl hb⟩ (h.r2.keeps hk)
theorem SC.stay {k : Int → AH → Prop} (h : SC H0 H L F F2 w p2 o5 o11 pa pb pc pd s' ws root ws2 root2 K off n mask x e offR xR) (hp : HP pa pb pc pd s' ws root mvb cb) (hup : s'.M.down = false) (hk : StepK H0 L F w pa pb pc pd s' mvb cb k) : k 0 H :=
 hk H F ws root h.ha hp hup h.rm h.dF h.kp fun b hb => .inl hb
theorem SC.take {k : Int → AH → Prop} (h : SC H0 H L F F2 w p2 o5 o11 pa pb pc pd s' ws root ws2 root2 K off n mask x e offR xR) (hp : HP pa pb pc pd s' ws2 root2 mvb cb) (hup : s'.M.down = false) (hk : StepK H0 L F w pa pb pc pd s' mvb cb k) :
  onPtr (some ⟨p2, 0, none⟩) fun a224 => elL (AH.cell? H (qlm a224 0)) fun s226 => onPtr (some ⟨p2, 0, none⟩) fun a228 => elI .i64 (AH.cell? H (qlm a228 1)) fun n230 => onPtr (some ⟨w, 0, none⟩) fun a231 => stC H (qlm a231 0) [(Sl.val s226)] fun Hs4 => onPtr (some ⟨w, 0, none⟩) fun a233 => stC Hs4 (qlm a233 1) [(qlk .i64 n230)] fun Hs6 => k (0 : Int) Hs6 := by
 obtain ⟨s1, h1⟩ := id h.rm
 obtain ⟨s2, h2⟩ := id h.r2
 obtain ⟨c1, c2, c3, c4, c5, c6⟩ := qhC h1 h2 h.dd
 have hw0 : F w := h1.fp
 rw [qd, h2.c0]
 show elL (some (Sl.val s2)) _
 rw [qat, qd, h2.c1, qe, qd, qbu]
 refine ⟨c1, ?_⟩
 rw [qd, qbu]
 refine ⟨c2, ?_⟩
 have hkp := h.kp
 refine hk _ _ ws2 root2 (HA.congr h.ha (qlu _) fun b hb => c6 b (fun e => h.dF b hb (e ▸ hw0))) hp hup c4 (fun b hb hf => hf.elim (h.dF b hb) (h.d2 b hb)) ?_ ?_
 ·exact ⟨hkp.1, fun b hb hn => by rw [c6 b (fun e => hn (.inr (e ▸ hw0))), hkp.2 b hb hn]⟩
 ·intro b hb
  rcases hb with hb | hb
  ·exact .inl hb
  ·exact .inr ⟨h.new b hb, h.r2.lt b hb⟩
theorem SC.takeW {k : Int → AH → Prop} (h : SC H0 H L F F2 w p2 o5 o11 pa pb pc pd s' ws root ws2 root K off n mask x e offR xR) (hp : HP pa pb pc pd s' ws2 root mvb cb) (hup : s'.M.down = false) (hk : StepK H0 L F w pa pb pc pd s' mvb cb k) :
  onPtr (some ⟨p2, 0, none⟩) fun a83 => elL (AH.cell? H (qlm a83 0)) fun s85 => onPtr (some ⟨w, 0, none⟩) fun a86 => stC H (qlm a86 0) [(Sl.val s85)] fun Hs8 => k (0 : Int) Hs8 := by
 obtain ⟨s1, h1⟩ := id h.rm
 obtain ⟨s2, h2⟩ := id h.r2
 obtain ⟨c1, c2, c3, c4, c5, c6⟩ := qhC h1 h2 h.dd
 have hw0 : F w := h1.fp
 rw [qd, h2.c0]
 show elL (some (Sl.val s2)) _
 rw [qat, qd, qbu]
 refine ⟨c1, ?_⟩
 have hkp := h.kp
 refine hk _ _ ws2 root (HA.congr h.ha (qlu _) fun b hb => c5 b (fun e => h.dF b hb (e ▸ hw0))) hp hup c3 (fun b hb hf => hf.elim (h.dF b hb) (h.d2 b hb)) ?_ ?_
 ·exact ⟨hkp.1, fun b hb hn => by rw [c5 b (fun e => hn (.inr (e ▸ hw0))), hkp.2 b hb hn]⟩
 ·intro b hb
  rcases hb with hb | hb
  ·exact .inl hb
  ·exact .inr ⟨h.new b hb, h.r2.lt b hb⟩
def wornB (s : HS) : Bool := (s.worn || decide (s.M.down = false ∧ commits s.M ≠ 0))
theorem qc3 {s : HS} : wornB s = true ↔ s.stuck := by unfold wornB HS.stuck; simp
theorem step_j3 {k : Int → AH → Prop} {err : Int} {none' : Bool} (h : SC H0 H L F F2 w p2 o5 o11 pa pb pc pd s' ws root ws2 root2 K off n mask x e offR xR) (hup : s'.M.down = false) (hk : StepK H0 L F w pa pb pc pd s' mvb cb k)
  (h3 : e = 3 → err = 0 ∧ none' = false ∧ s'.stuck ∧ (¬ s.stuck → K ≠ 5) ∧ HP pa pb pc pd s' ws root mvb cb)
  (he : e ≠ 3 → e = err ∧ (s.stuck → err = 0 → none' = true) ∧ (err = 0 → HP pa pb pc pd s' ws2 root2 mvb cb) ∧ (err ≠ 0 → HP pa pb pc pd s' ws root mvb cb)) :
  ql.j3 (some ⟨L.h, 0, none⟩) (some ⟨w, 0, none⟩) k o5 (wornB s) o11 true (some ⟨p2, 0, none⟩) H err none' := by
 have j2f : ∀ H1, SC H0 H1 L F F2 w p2 o5 o11 pa pb pc pd s' ws root ws2 root2 K off n mask x e offR xR → e ≠ 3 → ql.j2 (some ⟨w, 0, none⟩) k (wornB s) o11 (some ⟨p2, 0, none⟩) err none' false H1 := by
  intro H1 h1 hne
  obtain ⟨a1, a2, a3, a4⟩ := he hne
  have j1 : ql.j1 (some ⟨w, 0, none⟩) k (some ⟨p2, 0, none⟩) H1 err := by
   unfold ql.j1
   by_cases h0 : err = 0
   ·rw [show (err == 0) = true by simpa using h0, qf]
    exact h1.take (a3 h0) hup hk
   ·rw [show (err == 0) = false by simpa using h0, qa]
    exact h1.stay (a4 h0) hup hk
  unfold ql.j2
  rw [qa, h1.an.c0, qe, show (e != err) = false by simpa using a1, qa]
  cases hw : wornB s with
  | false => rw [qa]; exact j1
  | true =>
   rw [qf]
   by_cases h0 : err = 0
   ·rw [show (err == 0) = true by simpa using h0, qf, a2 (qc3.1 hw) h0, qlA, qa]
    exact j1
   ·rw [show (err == 0) = false by simpa using h0, qa]
    exact j1
 have j2t : ∀ H1, SC H0 H1 L F F2 w p2 o5 o11 pa pb pc pd s' ws root ws2 root2 K off n mask x e offR xR → e = 3 → ql.j2 (some ⟨w, 0, none⟩) k (wornB s) o11 (some ⟨p2, 0, none⟩) err none' true H1 := by
  intro H1 h1 h3'
  unfold ql.j2
  rw [qf]
  exact h1.stay (h3 h3').2.2.2.2 hup hk
 unfold ql.j3
 rw [qlA, qa, h.an.c0, qe]
 by_cases h3' : e = 3
 rotate_left 1
 ·rw [show (e == 3) = false by simpa using h3', qa]
  exact j2f H h h3'
 obtain ⟨b1, b2, b3, b4, b5⟩ := h3 h3'
 rw [show (e == 3) = true by simpa using h3', qf, show (err == 0) = true by simpa using b1, qf, b2, qlK, qf]
 rw [b2] at j2t
 cases hw : wornB s with
 | true =>
  have j := j2t H h h3'
  rw [hw] at j
  rw [qf]; exact j
 | false =>
  rw [qa]
  have hns : ¬ s.stuck := fun hh => by rw [qc3.2 hh] at hw; cases hw
  refine qec.s h.ha ?_
  show bcase (wornB s') _ _
  have j := j2t H h h3'
  rw [hw] at j
  rw [qc3.2 b3, qf, h.op.c0, qe, show (K != 5) = true by simpa using b4 hns]
  exact j
theorem step_j4 {k : Int → AH → Prop} {err : Int} (h : SC H0 H L F F2 w p2 o5 o11 pa pb pc pd s' ws root ws2 root2 K off n mask x e offR xR) (hup : s'.M.down = false) (hk : StepK H0 L F w pa pb pc pd s' mvb cb k)
  (h3 : e = 3 → err = 0 ∧ (K = 4 → x.n ≠ 0) ∧ s'.stuck ∧ (¬ s.stuck → K ≠ 5) ∧ HP pa pb pc pd s' ws root mvb cb)
  (he : e ≠ 3 → e = err ∧ (s.stuck → err = 0 → K = 4 ∧ x.n = 0) ∧ (err = 0 → HP pa pb pc pd s' ws2 root2 mvb cb) ∧ (err ≠ 0 → HP pa pb pc pd s' ws root mvb cb)) :
  ql.j4 (some ⟨L.h, 0, none⟩) (some ⟨w, 0, none⟩) k o5 (wornB s) o11 true (some ⟨p2, 0, none⟩) err H := by
 unfold ql.j4
 rw [h.op.c0, qe]
 by_cases h4 : K = 4
 ·rw [show (K == 4) = true by simpa using h4, qf, h.op.c4]
  show elL (some (Sl.val x)) _
  rw [qat]
  refine step_j3 h hup hk (fun h3' => ?_) (fun hne => ?_)
  ·obtain ⟨b1, b2, b3, b4, b5⟩ := h3 h3'
   exact ⟨b1, by have := b2 h4; simp; omega, b3, b4, b5⟩
  ·obtain ⟨a1, a2, a3⟩ := he hne
   exact ⟨a1, fun hs h0 => by have := (a2 hs h0).2; simp; omega, a3⟩
 ·rw [show (K == 4) = false by simpa using h4, qa]
  refine step_j3 h hup hk (fun h3' => ?_) (fun hne => ?_)
  ·obtain ⟨b1, b2, b3, b4, b5⟩ := h3 h3'
   exact ⟨b1, rfl, b3, b4, b5⟩
  ·obtain ⟨a1, a2, a3⟩ := he hne
   exact ⟨a1, fun hs h0 => absurd (a2 hs h0).1 h4, a3⟩
end
theorem rootChk {ws : List Int} (h : Ok ws) {off : Int} : isUsed ws off = true ↔ ¬ isN off (blkL ws) 0 < 0 := by
 unfold isUsed
 rw [h.blocks]
 simp
section
variable {H : AH} {L : Pl} {F : Nat → Prop} {w : Nat} {pa pb pc pd : Int} {s : HS} {ws : List Int} {root : Int} {mvb : Nat} {cb : Int}
theorem qfs {K off n mask : Int} {x : Sl} {bs : List Int} {k : Int → AH → Prop} (ha : HA H L pa pb pc pd s) (hp : HP pa pb pc pd s ws root mvb cb) (hup : s.M.down = false) (hcut : s.M.cut = -1) (hb : mvb + 2100 < 4611686018427387904) (hcb : cb + 2000 < 4611686018427387904)
  (hrm : RM F H w ws root) (hd : ∀ b, L.has b → F b → False) (hio : isI off) (hin : isI n) (hx : qlC H x 1 bU bs) (hxk : ∀ H', Kp (fun b => L.has b ∨ F b) H H' → qlC H' x 1 bU bs) (h8 : qbB bs) (hbl : bs.length ≤ 500)
  (hk : StepK H L F w pa pb pc pd (doH pa pb pc pd s K off n bs).1 (mvb + 40) (cb + 14) k) :
  ql (some ⟨L.h, 0, none⟩) (some ⟨w, 0, none⟩) (opl K off n mask x) H k := by
 have hm := qaf.1 hp.may
 have hlen := hp.ok.len
 refine ql.link ?_
 unfold ql.b
 rw [qv]
 have hk5 : qc H (H.push ⟨opl K off n mask x, .rw, 0⟩) := (qc.refl H).push _
 have hO5 : OpAt (H.push ⟨opl K off n mask x, .rw, 0⟩) H.size K off n mask x := OpAt.new
 have hz5 : H.size < (H.push ⟨opl K off n mask x, .rw, 0⟩).size := by simp [qm]
 generalize H.push ⟨opl K off n mask x, .rw, 0⟩ = H5 at *
 have ha5 : HA H5 L pa pb pc pd s := HAt.keeps ha hk5
 refine qdu.s ha5 (fun hh => by rw [hup] at hh; cases hh) ?_
 intro _ s23 H23 hk23 hO23
 rw [hp.words hup] at hO23
 refine qdb (HAt.keeps ha5 hk23 : HA H23 L pa pb pc pd s) ?_
 intro s27 H27 hk27 hO27
 have ha27 : HA H27 L pa pb pc pd s := HAt.keeps (HAt.keeps ha5 hk23) hk27
 refine qec.s ha27 ?_
 show ldA H27 _ _ _
 have hk527 := hk23.trans hk27
 have hO27o : OpAt H27 H.size K off n mask x := hO5.keep (hk527.2 _ hz5)
 rw [qp hO27o.row]
 have hk027 := hk5.trans hk527
 have hxr : qlC H27 x 1 bU bs := hx.keep hk027
 refine qdj (s := s) (K := K) (off := off) (n := n) (mask := mask) (x := x) (bs := bs) (hp.hok ha27 (by omega) (by omega)) hio hin (fun _ => ⟨hxr, h8⟩) ?_
 intro H32 xR ha32 f32 hO32
 -- only an error
 have honly : (doH pa pb pc pd s K off n bs).2.1 ≠ 0 ∨ K = 2 ∨ K = 4 ∨ K = 5 → (doH pa pb pc pd s K off n bs).2.2 = (0, []) := by
  unfold doH
  intro ho
  by_cases k1 : K = 1
  ·rw [if_pos k1] at ho ⊢
   simp only at ho ⊢
   rw [if_neg (by omega)]
  rw [if_neg k1] at ho ⊢
  by_cases k2 : K = 2
  ·rw [if_pos k2]
  rw [if_neg k2] at ho ⊢
  by_cases k3 : K = 3
  ·rw [if_pos k3] at ho ⊢
   simp only at ho ⊢
   rw [if_neg (by omega)]
  rw [if_neg k3] at ho ⊢
  by_cases k4 : K = 4
  ·rw [if_pos k4]
  rw [if_neg k4] at ho ⊢
  by_cases k5 : K = 5
  ·rw [if_pos k5]
  rw [if_neg k5] at ho ⊢
  by_cases k6 : K = 6
  ·rw [if_pos k6] at ho ⊢
   split
   ·rfl
   ·rename_i hd'
    rw [if_neg hd'] at ho
    simp only at ho
    omega
  ·rw [if_neg k6]
 generalize hRdef : doH pa pb pc pd s K off n bs = R at *
 refine qbC (n := 3) rfl rfl rfl ?_
 have hA : AnAt (H32.push ⟨anV R.2.1 R.2.2.1 xR, .rw, 0⟩) H32.size R.2.1 R.2.2.1 xR := AnAt.new
 have hk33 : qc H32 (H32.push ⟨anV R.2.1 R.2.2.1 xR, .rw, 0⟩) := (qc.refl H32).push _
 have hz33 : H32.size < (H32.push ⟨anV R.2.1 R.2.2.1 xR, .rw, 0⟩).size := by simp [qm]
 generalize H32.push ⟨anV R.2.1 R.2.2.1 xR, .rw, 0⟩ = H33 at *
 have hO33 : Own H27.size H33 xR 1 bU R.2.2.2 := hO32.keep hk33.1 (fun b _ hb => hk33.2 b hb)
 rw [qp hA.row, hA.c0, qe]
 have hR8 : qbB R.2.2.2 := by
  rw [← hRdef]
  unfold doH
  split
  ·intro v hv; cases hv
  ·split
   ·intro v hv; cases hv
   ·split
    ·split
     ·rw [qgi hp hup, qfi hp.ok]; exact aRead_8 _ _ _
     ·intro v hv; cases hv
    ·split
     ·intro v hv; cases hv
     ·split
      ·intro v hv; cases hv
      ·split
       ·split
        ·intro v hv; cases hv
        ·intro v hv; cases hv
       ·intro v hv; cases hv
 refine qap.s (cd := R.2.1) (m := R.2.2.1) (cd2 := R.2.1) (m2 := 0) (s1 := xR) (s2 := ⟨none, 0, 0⟩) (hO33.rows (fun _ => rfl) (fun _ => rfl)) qev hR8 (fun v hv => by cases hv) ?_
 have hdl : ∀ {b : Nat}, L.has b → b < H.size := fun hb => HA.lt ha hb
 have hs23 := hk23.1
 have hs27 := hk27.1
 have hs32 := f32.size
 have hs33 := hk33.1
 have hs5 := hk5.1
 have hrm32 : RM F H32 w ws root := (hrm.keeps hk027).frh f32 hd
 refine qae.s hp.ok (hrm32.keeps hk33) ?_
 intro F2 p2 H39 hk39 hu39 hR39
 have n5 : ∀ b, L.has b → b ≠ H.size := fun b hb he => by have := hdl hb; omega
 have kpG : Kp (fun b => L.has b ∨ F b) H H39 := by
  have k1 : Kp (fun b => L.has b ∨ F b) H H27 := qc.kp hk027
  have k2 : Kp (fun b => L.has b ∨ F b) H27 H32 := f32.kp fun b hb => .inl hb
  have k3 : Kp (fun b => L.has b ∨ F b) H32 H33 := qc.kp hk33
  have k4 : Kp (fun b => L.has b ∨ F b) H33 H39 := qc.kp hk39
  exact ((k1.trans' k2 fun b _ h => h).trans' k3 fun b _ h => h).trans' k4 fun b _ h => h
 have new2 : ∀ b, F2 b → H33.size ≤ b := fun b hb => by
  rcases hu39.2 b hb with h0 | h0
  ·exact h0.elim
  ·exact h0.1
 have o5get : ∀ H', qc H33 H' → OpAt H' H.size K off n mask x := fun H' hk' => hO27o.keep (by
  rw [hk'.2 _ (by omega), hk33.2 _ (by omega), f32.get _ (by omega) (n5 _ (by simp [Pl.has])).symm (n5 _ (by simp [Pl.has])).symm (n5 _ (by simp [Pl.has])).symm (n5 _ (by simp [Pl.has])).symm (n5 _ (by simp [Pl.has])).symm (n5 _ (by simp [Pl.has])).symm])
 have hSC : SC H H39 L F F2 w p2 H.size H32.size pa pb pc pd R.1 ws root ws root K off n mask x R.2.1 R.2.2.1 xR :=
  ⟨HAt.keeps (HAt.keeps ha32 hk33) hk39, (hrm32.keeps hk33).keeps hk39, hR39, hd, fun b h1 h2 => by have := new2 b h2; have := hdl h1; omega, fun b h1 h2 => by have := new2 b h2; have := hrm.lt b h1; omega,
   fun b hb => by have := new2 b hb; omega, kpG, fun b hb => hrm.lt b hb, o5get _ hk39, hA.keep (hk39.2 _ hz33), ⟨by have := hk39.1; omega, fun hh => n5 _ hh rfl, fun hh => by have := hrm.lt _ hh; omega, fun hh => by have := new2 _ hh; omega⟩,
   ⟨by have := hk39.1; omega, fun hh => by have := hdl hh; omega, fun hh => by have := hrm.lt _ hh; omega, fun hh => by have := new2 _ hh; omega⟩, fun b hb => hdl hb⟩
 have hws : Own H5.size H39 s23 1 wU ws := by
  have hB : L.below H5.size := (HAt.below ha).mono hs5
  exact ((((f32.own hB (hO23.keep hk27.1 fun b _ hb => hk27.2 b hb))).keep hk33.1 fun b _ hb => hk33.2 b hb)).keep hk39.1 fun b _ hb => hk39.2 b hb
 have hcs : Own H23.size H39 s27 1 iV s.now := by
  have hB : L.below H23.size := (HAt.below ha).mono (by omega)
  exact ((f32.own hB hO27).keep hk33.1 fun b _ hb => hk33.2 b hb).keep hk39.1 fun b _ hb => hk39.2 b hb
 have hxK : ∀ H', Kp (fun b => L.has b ∨ F b) H H' → True := fun _ _ => trivial
 have hOx : Own H27.size H39 xR 1 bU R.2.2.2 := hO33.keep hk39.1 fun b _ hb => hk39.2 b hb
 rw [hSC.op.c0, qe]
 by_cases k1 : K = 1
 ·rw [show (K == 1) = true by simpa using k1, qf, hSC.op.c2, qe]
  refine qan.s (hws.rows (fun _ => rfl) (fun _ => rfl)) hlen.2.2 (by omega) hin (hcs.rows (fun _ => rfl) (fun _ => rfl)) ?_
  intro s49 H49 hk49 hO49
  have hS := hSC.keeps hk49
  have hOx49 : Own H27.size H49 xR 1 bU R.2.2.2 := hOx.keep hk49.1 fun b _ hb => hk49.2 b hb
  obtain ⟨c1, c2, c3, c4, c5⟩ := qeF (n := n) hp hup (by omega) (by omega)
  have eR : R = ((allocH pa pb pc pd s n).1, (allocH pa pb pc pd s n).2.1, (if (allocH pa pb pc pd s n).2.1 = 0 then (allocH pa pb pc pd s n).2.2 else 0), []) := by
   rw [← hRdef]; unfold doH; rw [if_pos k1]
  have e1 : R.1 = (allocH pa pb pc pd s n).1 := by rw [eR]
  have e2 : R.2.1 = (allocH pa pb pc pd s n).2.1 := by rw [eR]
  have e3 : R.2.2.1 = (if (allocH pa pb pc pd s n).2.1 = 0 then (allocH pa pb pc pd s n).2.2 else 0) := by rw [eR]
  have e4 : R.2.2.2 = [] := by rw [eR]
  rw [← e1, ← e2] at c1
  rw [← e2] at c3 c4 c5 e3
  have hRupAll : R.1.M.down = false ∧ (R.2.1 ≠ 0 → HP pa pb pc pd R.1 ws root (mvb + 40) (cb + 14)) := by
   rcases c1 with ⟨a, _, _, b, _⟩ | ⟨_, b, c, _⟩ | ⟨_, b, _⟩ | ⟨_, _, _, _, b, _⟩
   ·exact ⟨b, fun h => absurd a h⟩
   ·exact ⟨b, fun _ => c⟩
   ·rw [b]; exact ⟨hup, fun _ => hp.mono (by omega) (by omega)⟩
   ·exact absurd hcut b
  rw [hS.an.c0, qe]
  by_cases e0 : R.2.1 = 0
  ·obtain ⟨a1, a2, a3⟩ := c5 e0
   rw [show (R.2.1 == 0) = true by simpa using e0, qf, a1, show ((0 : Int) != 0) = false from rfl, qa, hS.an.c1, qe]
   rw [if_pos e0] at e3
   rw [show (R.2.2.1 != (imgAlloc ws n s.now).2.1) = false by simp; rw [e3, a3], qa, hS.an.c2, qat, own_n hOx49, e4, show ((((([] : List Int).length : Nat) : Int) : Int) != 0) = false from rfl, qa, hS.op.c2, qe]
   refine qaa.s hp.ok hS.r2 hin ?_
   intro F2' H75 hu75 hR75
   obtain ⟨_, _, _, kA, _⟩ := qdN hp.ok a1
   rw [kA] at hR75 ⊢
   have hS75 := hS.up hu75 hR75
   rw [qlA, qa]
   have hwB : wornB s = false := by cases hw : wornB s with | false => rfl | true => exact absurd (qc3.1 hw) a2
   show ql.j5 _ _ _ (wornB s) H75
   rw [hwB]
   unfold ql.j5
   rw [qa]
   have hPn : HP pa pb pc pd R.1 (applyE ws (imgAlloc ws n s.now).1) root (mvb + 40) (cb + 14) := by
    rcases c1 with ⟨_, _, _, _, b, _⟩ | ⟨b, _⟩ | ⟨_, b, c⟩ | ⟨b, _⟩
    ·exact b
    ·omega
    ·have := c a1
     rw [this, b]
     exact hp.mono (by omega) (by omega)
    ·omega
   exact hS75.takeW hPn hRupAll.1 hk
  ·have hon := honly (.inl e0)
   have hb37 : decide (R.2.1 = R.2.1 ∧ R.2.2.1 = 0 ∧ R.2.2.2 = []) = true := by rw [hon]; simp
   rw [show (R.2.1 == 0) = false by simpa using e0, qa, qe, hb37]
   have j6t : ∀ H1, SC H H1 L F F2 w p2 H.size H32.size pa pb pc pd R.1 ws root ws root K off n mask x R.2.1 R.2.2.1 xR → ql.j6 k (wornB s) H32.size true (imgAlloc ws n s.now).2.2 true H1 := fun H1 h1 => by
    unfold ql.j6
    rw [qf]
    exact h1.stay (hRupAll.2 e0) hRupAll.1 hk
   by_cases e3' : R.2.1 = 3
   ·rw [show (R.2.1 == 3) = true by simpa using e3', qf, show ((imgAlloc ws n s.now).2.2 != 1) = true by simpa using c3 e3', qf]
    show bcase (wornB s) (ql.j6 k (wornB s) _ _ _ _ _) _
    cases hw : wornB s with
    | true =>
     have j := j6t H49 hS
     rw [hw] at j
     rw [qf]; exact j
    | false =>
     have j := j6t H49 hS
     rw [hw] at j
     rw [qa]
     refine qec.s hS.ha ?_
     have hst : R.1.stuck := by
      rcases c1 with ⟨b, _⟩ | ⟨_, _, _, b, _⟩ | ⟨b, c, d⟩ | ⟨b, _⟩
      ·omega
      ·exact b
      ·have : ¬ s.stuck := fun hh => by rw [qc3.2 hh] at hw; cases hw
       have hE6 := c3 e3'
       exfalso
       rw [e3'] at b
       have : (imgAlloc ws n s.now).2.2 = 0 ∨ (imgAlloc ws n s.now).2.2 = 4 ∨ (imgAlloc ws n s.now).2.2 = 6 ∨ (imgAlloc ws n s.now).2.2 = 1 := by
        unfold imgAlloc
        split
        ·exact .inr (.inr (.inr rfl))
        ·split
         ·exact .inr (.inr (.inl rfl))
         ·split
          ·exact .inr (.inl rfl)
          ·exact .inl rfl
       omega
      ·omega
     show bcase (wornB R.1) _ _
     rw [qc3.2 hst, qf]
     exact j
   ·rw [show (R.2.1 == 3) = false by simpa using e3', qa]
    unfold ql.j6
    have hee : R.2.1 = (imgAlloc ws n s.now).2.2 := by
     rcases c1 with ⟨b, _⟩ | ⟨b, _⟩ | ⟨b, _⟩ | ⟨_, _, _, _, b, _⟩
     ·exact absurd b e0
     ·exact absurd b e3'
     ·exact b
     ·exact absurd hcut b
    rw [qa, hS.an.c0, qe, show (R.2.1 != (imgAlloc ws n s.now).2.2) = false by simpa using hee, qa, qlA, qa]
    show bcase (wornB s) _ _
    have fin : k 0 H49 := hS.stay (hRupAll.2 e0) hRupAll.1 hk
    cases hw : wornB s with
    | false => rw [qa]; exact fin
    | true =>
     rw [qf, show ((imgAlloc ws n s.now).2.2 != 1) = false by simpa using c4 (qc3.1 hw) e3', qa]
     exact fin
 rw [show (K == 1) = false by simpa using k1, qa]
 by_cases k2 : K = 2
 ·rw [show (K == 2) = true by simpa using k2, qf, hSC.op.c1, qe]
  have hon := honly (.inr (.inl k2))
  have hb37 : decide (R.2.1 = R.2.1 ∧ R.2.2.1 = 0 ∧ R.2.2.2 = []) = true := by rw [hon]; simp
  obtain ⟨c1, c2, c3⟩ := qgf (off := off) hp hup (by omega) (by omega)
  have eR : R = ((freeH pa pb pc pd s off).1, (freeH pa pb pc pd s off).2, 0, []) := by
   rw [← hRdef]; unfold doH; rw [if_neg k1, if_pos k2]
  have e1 : R.1 = (freeH pa pb pc pd s off).1 := by rw [eR]
  have e2 : R.2.1 = (freeH pa pb pc pd s off).2 := by rw [eR]
  rw [← e1, ← e2] at c1
  rw [← e2] at c3
  refine qaB.s hp.ok hSC.r2 ?_
  intro F2' H125 hu125 hR125
  have hS := hSC.up hu125 hR125
  have eA : aFree ws root off = (errFree ws root off, if errFree ws root off = 0 then applyE ws (imgFree ws off).1 else ws) := by
   unfold aFree errFree
   by_cases h0 : (imgFree ws off).2 ≠ 0
   ·rw [if_pos h0, if_pos h0, if_neg h0]
   ·rw [if_neg h0, if_neg h0]
    by_cases hr : root = off
    ·rw [if_pos hr, if_pos hr]; rfl
    ·rw [if_neg hr, if_neg hr]; rfl
  rw [hb37]
  rw [eA] at hS ⊢
  simp only at hS ⊢
  have hRup : R.1.M.down = false := by
   rcases c1 with ⟨_, _, _, b, _⟩ | ⟨_, b, _⟩ | ⟨_, b, _⟩ | ⟨_, _, _, _, b, _⟩
   ·exact b
   ·exact b
   ·rw [b]; exact hup
   ·exact absurd hcut b
  refine step_j4 (s := s) hS hRup hk (fun h3 => ?_) (fun hne => ?_)
  ·rcases c1 with ⟨b, _⟩ | ⟨_, _, c, b, _⟩ | ⟨b, c, _⟩ | ⟨b, _⟩
   ·omega
   ·exact ⟨c3 h3, fun h => by omega, b, fun _ => by omega, c⟩
   ·have := c3 h3; omega
   ·omega
  ·rcases c1 with ⟨b, c, d, _, f, _⟩ | ⟨b, _⟩ | ⟨b, c, d⟩ | ⟨_, _, _, _, b, _⟩
   ·exact ⟨by rw [b, c], fun hs => absurd hs d, fun _ => by rw [if_pos c]; exact f, fun h => absurd c h⟩
   ·exact absurd b hne
   ·refine ⟨b, fun hs h0 => ?_, fun h0 => ?_, fun h0 => by rw [c]; exact hp.mono (by omega) (by omega)⟩
    ·exfalso
     have hE := d h0
     have hne2 : (imgFree ws off).2 = 0 := by unfold errFree at h0; by_cases hx0 : (imgFree ws off).2 ≠ 0; rw [if_pos hx0] at h0; exact absurd h0 hx0; exact Decidable.not_not.1 hx0
     have := (qeK hp.ok hne2).2.2.1
     rw [hE] at this; simp [eLines] at this
    ·rw [if_pos h0, c, d h0]; exact hp.mono (by omega) (by omega)
   ·exact absurd hcut b
 rw [show (K == 2) = false by simpa using k2, qa]
 by_cases k4 : K = 4
 ·rw [show (K == 4) = true by simpa using k4, qf, hSC.op.c1, qe, hSC.op.c4]
  show elL (some (Sl.val x)) _
  rw [qat]
  have hon := honly (.inr (.inr (.inl k4)))
  have hb37 : decide (R.2.1 = R.2.1 ∧ R.2.2.1 = 0 ∧ R.2.2.2 = []) = true := by rw [hon]; simp
  obtain ⟨c1, c2, c3, c4, c5⟩ := qeG (off := off) (bs := bs) h8 hp hup (by omega) (by omega)
  have eR : R = ((writeH pa pb pc pd s off bs).1, (writeH pa pb pc pd s off bs).2, 0, []) := by
   rw [← hRdef]; unfold doH; rw [if_neg k1, if_neg k2, if_neg (by omega), if_pos k4]
  have e1 : R.1 = (writeH pa pb pc pd s off bs).1 := by rw [eR]
  have e2 : R.2.1 = (writeH pa pb pc pd s off bs).2 := by rw [eR]
  rw [← e1, ← e2] at c1
  rw [← e2] at c3
  have hxn := hx.1
  have hx39 : qlC H39 x 1 bU bs := hxk _ kpG
  refine qav.s hp.ok hSC.r2 hio hx39 h8 (by omega) ?_
  intro F2' H125 hu125 hR125
  have hS := hSC.up hu125 hR125
  have eA : aWrite ws off bs = ((imgWrite ws off bs).2, if (imgWrite ws off bs).2 = 0 then applyE ws (imgWrite ws off bs).1 else ws) := by
   unfold aWrite
   by_cases h0 : (imgWrite ws off bs).2 = 0
   ·rw [if_pos h0, if_pos h0, h0]
   ·rw [if_neg h0, if_neg h0]
  rw [hb37]
  rw [eA] at hS ⊢
  simp only at hS ⊢
  have hRup : R.1.M.down = false := by
   rcases c1 with ⟨_, _, _, b, _⟩ | ⟨_, b, _⟩ | ⟨_, b, _⟩ | ⟨_, _, _, _, b, _⟩
   ·exact b
   ·exact b
   ·rw [b]; exact hup
   ·exact absurd hcut b
  refine step_j4 (s := s) hS hRup hk (fun h3 => ?_) (fun hne => ?_)
  ·rcases c1 with ⟨b, _⟩ | ⟨_, _, c, b, _⟩ | ⟨b, c, _⟩ | ⟨b, _⟩
   ·omega
   ·exact ⟨(c3 h3).1, fun h => by have := (c3 h3).2; omega, b, fun _ => by omega, c⟩
   ·have := (c3 h3).1; omega
   ·omega
  ·rcases c1 with ⟨b, c, d, _, f, _⟩ | ⟨b, _⟩ | ⟨b, c, d⟩ | ⟨_, _, _, _, b, _⟩
   ·exact ⟨by rw [b, c], fun hs => absurd hs d, fun _ => by rw [if_pos c]; exact f, fun h => absurd c h⟩
   ·exact absurd b hne
   ·refine ⟨b, fun hs h0 => ?_, fun h0 => ?_, fun h0 => by rw [c]; exact hp.mono (by omega) (by omega)⟩
    ·refine ⟨k4, ?_⟩
     obtain ⟨l1, _⟩ := qfQ (E := (imgWrite ws off bs).1) (ws := ws) (off := off) (bs := bs) (Prod.ext rfl h0)
     have := l1.1 (by rw [d h0]; rfl)
     omega
    ·rw [if_pos h0, c, d h0]; exact hp.mono (by omega) (by omega)
   ·exact absurd hcut b
 rw [show (K == 4) = false by simpa using k4, qa]
 by_cases k5 : K = 5
 ·rw [show (K == 5) = true by simpa using k5, qf, hSC.op.c1, qe]
  have hon := honly (.inr (.inr (.inr k5)))
  have hb37 : decide (R.2.1 = R.2.1 ∧ R.2.2.1 = 0 ∧ R.2.2.2 = []) = true := by rw [hon]; simp
  obtain ⟨c2, _, _, c1⟩ := qfk (off := off) hio hp hup
  have eR : R = ((setRootH pa pb s off).1, (setRootH pa pb s off).2, 0, []) := by
   rw [← hRdef]; unfold doH; rw [if_neg k1, if_neg k2, if_neg (by omega), if_neg k4, if_pos k5]
  have e1 : R.1 = (setRootH pa pb s off).1 := by rw [eR]
  have e2 : R.2.1 = (setRootH pa pb s off).2 := by rw [eR]
  refine qD.s hp.ok hSC.r2 ?_
  intro H125 hu125 hR125
  have hS := hSC.up hu125 hR125
  have eA : aRoot ws root off = if off = 0 ∨ isUsed ws off = true then (0, off) else (1, root) := by
   unfold aRoot
   by_cases h0 : off = 0 ∨ isUsed ws off = true
   ·rw [if_pos h0, if_neg]
    rintro ⟨h1, h2⟩
    rcases h0 with h0 | h0
    ·exact h1 h0
    ·exact (rootChk hp.ok).1 h0 h2
   ·rw [if_neg h0, if_pos]
    refine ⟨fun h => h0 (.inl h), ?_⟩
    by_cases h2 : isN off (blkL ws) 0 < 0
    ·exact h2
    ·exact absurd (.inr ((rootChk hp.ok).2 h2)) h0
  rw [hb37]
  rcases c1 with ⟨u0, u1, u2⟩ | ⟨u0, u1, u2⟩ | ⟨u0, u1, u2, u3, u4, u5⟩ | ⟨_, _, _, _, u, _⟩
  ·rw [u2] at e1 e2
   rw [if_neg (by simp [u0, u1])] at eA
   rw [eA] at hS ⊢
   refine step_j4 (s := s) hS (by rw [e1]; exact hup) hk (fun h3 => by omega) (fun _ => ⟨e2, fun _ h => by omega, fun h => by omega, fun _ => by rw [e1]; exact hp.mono (by omega) (by omega)⟩)
  ·rw [u2] at e1 e2
   rw [if_pos u0] at eA
   rw [eA] at hS ⊢
   refine step_j4 (s := s) hS (by rw [e1]; exact hup) hk (fun h3 => ⟨rfl, fun h => by omega, by rw [e1]; exact u1, fun h => absurd u1 h, by rw [e1]; exact hp.mono (by omega) (by omega)⟩) (fun h => absurd e2 h)
  ·rw [u2] at e2
   rw [if_pos u0] at eA
   rw [eA] at hS ⊢
   refine step_j4 (s := s) hS (by rw [e1]; exact u3) hk (fun h3 => by omega) (fun _ => ⟨e2, fun hs => absurd hs u1, fun _ => by rw [e1]; exact u5.mono (by omega) (by omega), fun h => absurd rfl h⟩)
  ·exact absurd hcut u
 rw [show (K == 5) = false by simpa using k5, qa]
 by_cases k3 : K = 3
 ·rw [show (K == 3) = true by simpa using k3, qf, hSC.op.c1, qe, hSC.op.c2, qe]
  have eR : R = (s, (aRead ws off n).2, 0, if (aRead ws off n).2 = 0 then (aRead ws off n).1 else []) := by
   rw [← hRdef, k3, do_read hp hup]
  refine qaA.s hp.ok hSC.r2 hio hin ?_
  intro s148 H148 hk148 hO148
  have hS := hSC.keeps hk148
  rw [qp hS.an.row]
  refine qap.s ((hOx.keep hk148.1 fun b _ hb => hk148.2 b hb).rows (fun _ => rfl) (fun _ => rfl)) (hO148.rows (fun _ => rfl) (fun _ => rfl)) hR8 (aRead_8 _ _ _) ?_
  have hsame : R.2.1 = (aRead ws off n).2 ∧ R.2.2.1 = 0 ∧ R.2.2.2 = (aRead ws off n).1 := by
   rw [eR]
   refine ⟨rfl, rfl, ?_⟩
   simp only
   split
   ·rfl
   ·rename_i hne
    unfold aRead at hne ⊢
    split
    ·rename_i hw; rw [if_pos hw] at hne; exact absurd rfl hne
    ·rfl
  rw [decide_eq_true hsame, qlA, qa]
  have e1 : R.1 = s := by rw [eR]
  exact hS.stay (by rw [e1]; exact hp.mono (by omega) (by omega)) (by rw [e1]; exact hup) hk
 rw [show (K == 3) = false by simpa using k3, qa]
 by_cases k6 : K = 6
 ·rw [show (K == 6) = true by simpa using k6, qf, qp hSC.an.row, qd]
  have eR : R = (s, 0, root, []) := by rw [← hRdef, k6, do_get hp hup]
  obtain ⟨sw, hRW⟩ := id hSC.rm
  rw [hRW.c1, qe]
  refine qap.s (cd2 := 0) (m2 := root) (s2 := ⟨none, 0, 0⟩) (hOx.rows (fun _ => rfl) (fun _ => rfl)) qev hR8 (fun v hv => by cases hv) ?_
  rw [decide_eq_true (by rw [eR]; exact ⟨rfl, rfl, rfl⟩), qlA, qa]
  have e1 : R.1 = s := by rw [eR]
  exact hSC.stay (by rw [e1]; exact hp.mono (by omega) (by omega)) (by rw [e1]; exact hup) hk
 rw [show (K == 6) = false by simpa using k6, qa]
 have eR : R = (s, 1, 0, []) := by
  rw [← hRdef]; unfold doH; rw [if_neg k1, if_neg k2, if_neg k3, if_neg k4, if_neg k5, if_neg k6]
 have e1 : R.1 = s := by rw [eR]
 have e2 : R.2.1 = 1 := by rw [eR]
 have hb37 : decide (R.2.1 = R.2.1 ∧ R.2.2.1 = 0 ∧ R.2.2.2 = []) = true := by rw [eR]; rfl
 rw [hb37]
 exact step_j4 (s := s) hSC (by rw [e1]; exact hup) hk (fun h3 => by omega) (fun _ => ⟨e2, fun _ h => by omega, fun h => by omega, fun _ => by rw [e1]; exact hp.mono (by omega) (by omega)⟩)
end
structure FreeS (s : HS) : Prop where
 up : s.M.down = false
 cut : s.M.cut = -1
 nl : NL s.M
 ns : ¬ s.stuck
section
variable {pa pb pc pd : Int} {s : HS} {ws : List Int} {root : Int} {mvb : Nat} {cb : Int}
theorem qfV {E : List (Int × Int)} (h : HP pa pb pc pd s ws root mvb cb) (hf : FreeS s) (hin : EdIn E ws.length) (h1 : 1 ≤ (eLines E).length) (h14 : (eLines E).length ≤ 14)
  (hok' : Ok (applyE ws E)) (hb : mvb + 2000 < 4611686018427387904) (hcb : cb + 100 < 4611686018427387904) : (commitH pa pb pc pd ws E s).2 = 0 ∧ FreeS (commitH pa pb pc pd ws E s).1 := by
 have hm := qaf.1 h.may
 obtain ⟨hn16, hpg⟩ := h.now16
 have hlen := h.len
 have hc0 := h.c0
 obtain ⟨l8, l512, h64⟩ := hok'.len
 have hlenA : (applyE ws E).length = ws.length := qaz E ws
 have hup := hf.up
 have hst := hf.ns
 have hwf : s.worn = false := by cases hw : s.worn with | false => rfl | true => exact absurd (.inl hw) hst
 have hcm : commits s.M = 0 := by
  by_cases hc : commits s.M = 0
  ·exact hc
  ·exact absurd (.inr ⟨hup, hc⟩) hst
 have hls : ∀ ln ∈ eLines E, 0 ≤ ln ∧ ln < ((pa.toNat : Nat) : Int) := by
  intro ln hln
  obtain ⟨e, he, h0, rfl⟩ := qc8.1 hln
  have := hin.mem e he
  omega
 have hmay := qgV (m := pa.toNat) (W := applyE ws E) hls h1 h14
 have hhok := qhx (m := pa.toNat) (W := applyE ws E) h64 (by omega) (by omega) hls
 obtain ⟨c1, c2⟩ := com_any h.ps (by omega) hup (by omega) hhok (by rw [qcZ]; omega) h.sd
 obtain ⟨d1, d2, d3, d4⟩ := qiy h.ps (by omega) hup (by omega) hhok
 obtain ⟨n1, n2⟩ := com_nl h.ps hf.nl (by omega) hup hf.cut (by omega) hhok hmay hcm
 have n3 := (hf.nl.com (n := 16 + pa.toNat) (sp := pb.toNat) (per := pc.toNat) (pt := s.pt) (l := homesC (applyE ws E) (eLines E))).2
 have hps := h.ps.com (by omega) (by omega) hhok
 unfold commitH
 simp only
 generalize comN (16 + pa.toNat) pb.toNat pc.toNat (homesC (applyE ws E) (eLines E)) s.M s.pt = C at *
 rw [if_neg (by simpa using n1)]
 have hCup : C.1.down = false := by
  rcases c1 with ⟨_, ⟨e0, _⟩ | ⟨e2, _⟩⟩ | ⟨_, _, _, ⟨_, hd⟩ | ⟨e2, _⟩⟩
  ·exact absurd n1 e0
  ·omega
  ·exact hd
  ·omega
 have cp0 : CP pd C.1 s.now s.kept cb := ⟨h.cp.kl, h.cp.ok, fun _ i hi => by rw [d1 (19 + i) (.inr (by omega))]; exact h.cp.lag hup i hi, fun i hi => by rw [d1 (19 + i) (.inr (by omega))]; exact h.cp.rg i hi⟩
 obtain ⟨m1, m2, m3, m4, m5, m6, m7⟩ := qhc (pd := pd) (by omega) (ls := eLines E) cp0 hCup hps.ok (fun ln hln => by have := hls ln hln; omega) hn16 hc0 (by omega)
 generalize notesN pd (eLines E) C.1 s.now s.kept = N at *
 rcases m7 with ⟨a, b, c⟩ | ⟨a, b, c⟩
 ·refine ⟨a, b, m5 (c2 hf.cut), n3.cs m1, fun hs => ?_⟩
  rcases hs with hs | ⟨_, hs⟩
  ·simp only at hs; rw [hwf] at hs; cases hs
  ·exact hs (by show N.1.regs.getD 1 0 = 0; rw [m2 1 (by omega)]; exact n2)
 ·exact absurd (c2 hf.cut) c
theorem do_free {K off n : Int} {bs : List Int} (hio : isI off) (h8 : qbB bs) (h : HP pa pb pc pd s ws root mvb cb) (hf : FreeS s) (hb : mvb + 2000 < 4611686018427387904) (hcb : cb + 100 < 4611686018427387904) :
  FreeS (doH pa pb pc pd s K off n bs).1 ∧ (doH pa pb pc pd s K off n bs).2.1 ≠ 3 ∧ (doH pa pb pc pd s K off n bs).2.1 ≠ 2 := by
 have hup := hf.up
 have hst := hf.ns
 unfold doH
 by_cases k1 : K = 1
 ·rw [if_pos k1]
  simp only
  unfold allocH
  rw [if_neg (by simp [hup]), h.words hup]
  by_cases h0 : needN n = 0
  ·rw [if_pos h0]; exact ⟨hf, by simp, by simp⟩
  rw [if_neg h0, if_neg hst]
  have hE6 : (imgAlloc ws n s.now).2.2 = 0 ∨ (imgAlloc ws n s.now).2.2 = 4 ∨ (imgAlloc ws n s.now).2.2 = 6 := by
   unfold imgAlloc
   rw [if_neg h0]
   split
   ·exact .inr (.inr rfl)
   ·split
    ·exact .inr (.inl rfl)
    ·exact .inl rfl
  by_cases he : (imgAlloc ws n s.now).2.2 = 0
  rotate_left 1
  ·rw [if_pos he]; exact ⟨hf, by simp only; omega, by simp only; omega⟩
  rw [if_neg (by simpa using he)]
  obtain ⟨q1, q2, q3, _, _, _⟩ := qdN h.ok he
  have hml := (qf6 (ws := ws) (n := n) (cs := s.now)).most
  have := qdH 1 n 0
  obtain ⟨c1, c2⟩ := qfV (E := (imgAlloc ws n s.now).1) h hf qd9 q3 (by omega) q1 hb hcb
  exact ⟨c2, by simp only; omega, by simp only; omega⟩
 rw [if_neg k1]
 by_cases k2 : K = 2
 ·rw [if_pos k2]
  simp only
  have hE6 : (imgFree ws off).2 = 0 ∨ (imgFree ws off).2 = 1 ∨ (imgFree ws off).2 = 6 := by
   unfold imgFree
   split
   ·exact .inr (.inr rfl)
   ·split
    ·exact .inr (.inl rfl)
    ·exact .inl rfl
  unfold freeH
  rw [if_neg (by simp [hup]), h.words hup, h.rootN.1]
  by_cases he : (imgFree ws off).2 = 0
  rotate_left 1
  ·rw [if_pos he]; exact ⟨hf, by simp only; omega, by simp only; omega⟩
  rw [if_neg (by simpa using he)]
  by_cases hr : root = off
  ·rw [if_pos hr]; exact ⟨hf, by simp, by simp⟩
  rw [if_neg hr, if_neg hst]
  obtain ⟨q1, q2, q3, _⟩ := qeK h.ok he
  have hml := (qgH (ws := ws) (off := off)).most
  have := qdH 2 0 0
  obtain ⟨c1, c2⟩ := qfV (E := (imgFree ws off).1) h hf qe4 q3 (by omega) q1 hb hcb
  exact ⟨c2, by omega, by omega⟩
 rw [if_neg k2]
 by_cases k3 : K = 3
 ·rw [if_pos k3, qgi h hup, qfi h.ok]
  simp only
  refine ⟨hf, ?_, ?_⟩ <;> (unfold aRead; split <;> simp)
 rw [if_neg k3]
 by_cases k4 : K = 4
 ·rw [if_pos k4]
  simp only
  have hE6 : (imgWrite ws off bs).2 = 0 ∨ (imgWrite ws off bs).2 = 1 ∨ (imgWrite ws off bs).2 = 6 := by
   unfold imgWrite
   split
   ·exact .inr (.inr rfl)
   ·split
    ·exact .inl rfl
    ·exact .inr (.inl rfl)
  unfold writeH
  rw [if_neg (by simp [hup]), h.words hup]
  by_cases he : (imgWrite ws off bs).2 = 0
  rotate_left 1
  ·rw [if_pos he]; exact ⟨hf, by simp only; omega, by simp only; omega⟩
  rw [if_neg (by simpa using he)]
  obtain ⟨l1, l2⟩ := qfQ (E := (imgWrite ws off bs).1) (ws := ws) (off := off) (bs := bs) (Prod.ext rfl he)
  by_cases hz : (imgWrite ws off bs).1.length = 0
  ·rw [if_pos hz]; exact ⟨hf, by simp, by simp⟩
  rw [if_neg hz, if_neg hst]
  obtain ⟨q1, q2⟩ := qe6 h.ok h8 he
  have hml := (qf2 (ws := ws) h.ok.len.2.2 (off := off) (bs := bs)).most
  have := qdH 4 0 bs.length
  have hb0 : 0 < bs.length := by
   rcases Nat.eq_zero_or_pos bs.length with h0 | h0
   ·exact absurd (l1.2 h0) hz
   ·exact h0
  obtain ⟨c1, c2⟩ := qfV (E := (imgWrite ws off bs).1) h hf (qeS h.ok.len.2.2 (by have := h.ok.len; omega)) (qej (l2 hb0)) (by omega) q1 hb hcb
  exact ⟨c2, by omega, by omega⟩
 rw [if_neg k4]
 by_cases k5 : K = 5
 ·rw [if_pos k5]
  simp only
  obtain ⟨c2, c3, c4, c1⟩ := qfk (off := off) hio h hup
  have hnl : NL (setRootH pa pb s off).1.M := by
   unfold setRootH
   repeat' split
   all_goals first
    | exact hf.nl
    | exact (hf.nl.set).2
  rcases c1 with ⟨_, _, u2⟩ | ⟨_, u1, _⟩ | ⟨_, u1, u2, u3, u4, u5⟩ | ⟨_, _, _, _, u, _⟩
  ·rw [u2]; exact ⟨hf, by simp, by simp⟩
  ·exact absurd u1 hst
  ·exact ⟨⟨u3, c2.cut hf.cut, hnl, u4⟩, by omega, by omega⟩
  ·exact absurd hf.cut u
 rw [if_neg k5]
 by_cases k6 : K = 6
 ·rw [if_pos k6, if_neg (by simp [hup])]; exact ⟨hf, by simp, by simp⟩
 ·rw [if_neg k6]; exact ⟨hf, by simp, by simp⟩
theorem qhR {n words : Int} {cs : List Int} (hw : mayW words) (hn : 1 ≤ n ∧ n ≤ 448) (hfit : needN n ≤ words) :
  (imgAlloc (firstN words) n cs).2.2 = 0 ∧ (imgAlloc (firstN words) n cs).2.1 = 8 ∧ ∃ tk, takesN words (needN n) = tk ∧ MR words [(0, tk, qlq ((tk.toNat - 1) * 8) 0)] (applyE (firstN words) (imgAlloc (firstN words) n cs).1) := by
 obtain ⟨h1, tk, h2, h3, h4⟩ := qiR hw hn hfit
 have hok : Ok (firstN words) := ⟨[], MR.self (MR.first hw) (by rw [qcV hw]; unfold mayW at hw; omega)⟩
 have hneed : needN n ≠ 0 := by unfold needN; rw [if_pos hn]; omega
 have hE : (imgAlloc (firstN words) n cs).2.2 = 0 ∧ (imgAlloc (firstN words) n cs).2.1 = 8 := by
  unfold fitO at h1
  unfold imgAlloc
  rw [if_neg hneed, hok.blocks]
  simp only
  obtain ⟨i, hi⟩ : ∃ i, fitsL (blkL (firstN words)) (needN n) = [i] := by
   have := congrArg List.length h1
   rw [qmm] at this
   exact List.length_eq_one_iff.1 this
  rw [hi] at h1
  simp only [qmj, List.map_nil, qmG, and_true] at h1
  have hch : chooseN (blkL (firstN words)) (needN n) cs = (i : Int) := by
   unfold chooseN
   rw [hi]
   simp [chStep]
  rw [hch, if_neg (by omega), qlp]
  exact ⟨rfl, h1⟩
 have hA := (qdN (cs := cs) hok hE.1).2.2.2.1
 rw [hE.2] at hA
 rw [hA] at h4
 exact ⟨hE.1, hE.2, tk, h2, h4⟩
end
end Go.Proofs.YtemeclnpdpkfdaaGreat
