/- Lemmas for the law: an abstract machine, and what the functions do on it. No condition. -/
import Derived.Test.YtdcbkjgoaknmkaaGreatJT12
import Derived.Test.YtdcbkjgoaknmkaaGreatProg
import Derived.WalkKit
import Derived.Defers
import Derived.Recover
set_option linter.all false
open Go.Value renaming int → qkL, pointer → qkR, slice → qk2, agg → qlQ
open Go.IntKind renaming wrap → qkM
open Go.Addr renaming add → qkN
open List renaming getElem?_eq_getElem → qkO, getD_eq_getElem?_getD → qkP, replicate → qkQ, getElem?_eq_none → qkT, mem_of_getElem? → qkY, getElem?_map → qkZ, length → qk0, length_cons → qk3, mem_append → qk4, getElem_mem → qk5, mem_cons → qk8, ext_getElem? → qlb, getElem?_range → qlc, getElem?_append_right → qld, getElem?_set_ne → qle, length_set → qlh, mem_map → qlk, getElem?_append_left → qll, toArray → qlq, cons_append → qlr, length_append → qlt, range → qlw, getElem?_cons_succ → qlx, flatMap_cons → qly, nil_append → qlA, mem_range → qlC, getElem?_take → qlD, getElem?_drop → qlE, take_of_length_le → qlH, length_nil → qlL, length_map → qlO, range_succ → qlW, flatMap_append → qlZ, append_of_mem → ql2, not_mem_nil → qma, append_assoc → qmb, mem_cons_self → qme, getElem?_replicate → qmf
open Int renaming toNat_natCast → qkS, toNat → qkX, eq_ofNat_of_zero_le → qk9
open Nat renaming le_refl → qkV, zero_add → qla, le_trans → qlS
open Bool renaming false_eq_true → qkW, not_true → qlm
open Option renaming isNone_some → qk1, isSome_none → qk7, map_some → qlg
open Array renaming getD_eq_getD_getElem? → qk6, replicate → qmh
open Go.Abs renaming Rows → qli
open Go.World renaming cell?_setCell_other → qlF
open List.cons renaming injEq → ql8
set_option linter.all false
namespace Go.Proofs.YtdcbkjgoaknmkaaGreat
open Go
theorem qkw (p : Addr) (w : World) : CallsD Tryz.prog 63 #[.pointer (some p)] .returning w fun e u' w' => e = .returned (.tuple #[]) ∧ u' = .returning ∧ w' = w := by
 refine callsD_of_wpS Tryz.func63 rfl fun c₀ cs hu => ?_
 apply wpS_seq
 apply wpS_region
 simp [wpOpsS, go_sem, recoverD, hu, Tryz.ntmps63, Exit.thenS]
 apply wpS_seq
 apply wpS_region
 simp [wpOpsS, go_sem, Exit.thenS]
 refine wpS_cond (t := false) (by simp [Act.eval, qmh]) ?_
 refine wpS_of_wp (wp_skip ?_)
 cases c₀
 simp_all [bodyPostS, results, Tryz.results63, Exit.thenS]
theorem do1_pan (b : Nat) (e0 : Int) (older : List PanicEntry) (w : World) (h0 : ∃ v, w.cell? ⟨b, 0, none⟩ = some v) (h1 : ∃ v, w.cell? ⟨b, 1, none⟩ = some v) (h2 : ∃ v, w.cell? ⟨b, 2, none⟩ = some v) (hf : ∀ i, w.frozen? ⟨b, i, none⟩ = false) :
  CallsD Tryz.prog 63 #[.pointer (some ⟨b, 0, none⟩)] (.panicking ({ v := .iface 31 (.int .i64 e0), recovered := false } :: older)) w fun e u' w' =>
   e = .returned (.tuple #[]) ∧ u' = .panicking ({ v := .iface 31 (.int .i64 e0), recovered := true } :: older) ∧ w' = w.setCells b 0 [.int .i64 e0, .int .i64 0, .slice none 0 0] := by
 obtain ⟨v0, h0⟩ := h0
 obtain ⟨v1, h1⟩ := h1
 obtain ⟨v2, h2⟩ := h2
 have fz : ∀ (w : World) (a : Addr) (v : Value) (c : Addr), (w.setCell a v).frozen? c = w.frozen? c := fun w a v c => World.frozen?_setCell w a c v
 have g1 : (w.setCell ⟨b, 0, none⟩ (.int .i64 e0)).cell? ⟨b, 1, none⟩ = some v1 := by rw [qlF _ _ _ _ (by simp)]; exact h1
 have g2 : ((w.setCell ⟨b, 0, none⟩ (.int .i64 e0)).setCell ⟨b, 1, none⟩ (.int .i64 0)).cell? ⟨b, 2, none⟩ = some v2 := by
  rw [qlF _ _ _ _ (by simp), qlF _ _ _ _ (by simp)]; exact h2
 refine callsD_of_wpS Tryz.func63 rfl fun c₀ cs hu => ?_
 apply wpS_seq
 apply wpS_region
 simp [wpOpsS, go_sem, recoverD, hu, Tryz.ntmps63, Exit.thenS]
 apply wpS_seq
 apply wpS_region
 simp [wpOpsS, go_sem, Exit.thenS]
 refine wpS_cond (t := true) (by simp [Act.eval, qmh]) ?_
 simp only [if_true]
 apply wpS_seq
 apply wpS_region
 have hta : ∀ w : World, Sem.run Tryz.prog (Instr.typeAssert (.iface 31 (.int .i64 e0)) 20 31 true) w = .ok (.tuple #[.int .i64 e0, .bool true]) w := fun _ => by kernel_rfl
 have hta2 : ∀ w : World, (Instr.typeAssert (.iface 31 (.int .i64 e0)) 20 31 true).run Tryz.prog w = .ok (.tuple #[.int .i64 e0, .bool true]) w := fun _ => by kernel_rfl
 simp [wpOpsS, go_sem, Exit.thenS, hta, hta2]
 apply wpS_seq
 apply wpS_seq
 apply wpS_region
 simp [wpOpsS, go_sem, Exit.thenS]
 refine wpS_cond (t := false) (by simp [Act.eval, qmh]) ?_
 refine wpS_of_wp (wp_skip ?_)
 simp only [Exit.thenS]
 apply wpS_region
 simp [wpOpsS, go_sem, Exit.thenS, h0, g1, g2, hf, fz]
 cases c₀
 simp_all [bodyPostS, results, Tryz.results63, Exit.thenS, World.setCells]
end Go.Proofs.YtdcbkjgoaknmkaaGreat
set_option linter.all false
namespace Go.Proofs.YtdcbkjgoaknmkaaGreat
open Go Go.Abs
theorem qkd {Q : Exit → Act → World → Prop} {a : Act} {w : World} {p : Addr} (hs : a.tmps.size = Tryz.f18.ntmps) (hd : a.defers = []) (h4 : a.tmps.getD 4 undef = .pointer (some p))
  (h : ∀ a' d, a'.tmps.size = a.tmps.size → (∀ s, s ≠ 8 → a'.tmps.getD s undef = a.tmps.getD s undef) → a'.defers = [d] → (∃ fv cap, d.target = .fn fv cap ∧ ∀ w, (invoke d.target d.args).run Tryz.prog w = .ok (.enter 63 #[.pointer (some p)]) w) → Q .normal a' w) :
  (deferOf Tryz.f18.body).wp Tryz.prog Q a w := by
 have hs' : a.tmps.size = 54 := hs
 show Code.wp Tryz.prog (Code.region 3 _ _) Q a w
 apply wp_region
 have h4' : a.tmps[4]?.getD undef = .pointer (some p) := by simpa [qk6] using h4
 simp [wpOps, go_sem, h4, h4', hs', hd]
 left; left
 refine h _ ⟨Target.fn (Fn.func 63) #[qkR (some p)], #[]⟩ ?_ ?_ rfl ⟨_, _, rfl, fun w => ?_⟩
 ·simp
 ·intro s hs
  simp [qk6, Array.getElem?_setIfInBounds_ne (Ne.symm hs)]
 ·simp [go_sem, invoke]
theorem _root_.Go.Abs.ARel.weaken {Ds Ds' : List Deferred} {φ : Emb} {n : Nat} {fr fr' : Fr} {a a' : Act} (r : ARel Ds φ n fr a) (hd : a'.defers = Ds') (hs : a'.tmps.size = a.tmps.size) (ht : ∀ s, fr' s = undef ∨ (fr' s = fr s ∧ a'.tmps.getD s undef = a.tmps.getD s undef)) : ARel Ds' φ n fr' a' := by
 refine ⟨hd, hs.trans r.size, fun s => ?_⟩
 rcases ht s with h | ⟨h, e⟩
 ·rw [h]; exact .undef _
 ·rw [h, e]; exact r.tmp s
def doFr (x0 : Option Addr) (o3 o4 : Nat) : Fr := argFr [.pointer x0, undef, undef, .pointer (some ⟨o3, 0, none⟩), .pointer (some ⟨o4, 0, none⟩)]
theorem qgc {x0 : Option Addr} {o3 o4 : Nat} {fr : Fr} (h0 : fr 0 = .pointer x0) (h3 : fr 3 = .pointer (some ⟨o3, 0, none⟩)) (h4 : fr 4 = .pointer (some ⟨o4, 0, none⟩)) (s : Nat) : doFr x0 o3 o4 s = undef ∨ (doFr x0 o3 o4 s = fr s ∧ (s = 0 ∨ s = 3 ∨ s = 4)) := by
 match s with
 | 0 => exact .inr ⟨h0.symm, .inl rfl⟩
 | 1 => exact .inl rfl
 | 2 => exact .inl rfl
 | 3 => exact .inr ⟨h3.symm, .inr (.inl rfl)⟩
 | 4 => exact .inr ⟨h4.symm, .inr (.inr rfl)⟩
 | n + 5 => exact .inl rfl
theorem qht {φ : Emb} {e : Int} {v : Value} (h : VRel φ (.iface 31 (.int .i64 e)) v) : v = .iface 31 (.int .i64 e) := by
 cases h with
 | iface _ _ v' hv => cases hv; rfl
section
variable {x0 : Option Addr} {x1 : List Value} {H : AH}
theorem heap_Do.walk {k : List Value → AH → Prop} 
  (hnil : x0 = none → ∀ o4 H4 z, H4.get o4 = anObj 1 0 ⟨none, 0, 0⟩ z → o4 < H4.size → qa H H4 → k (anObj 1 0 ⟨none, 0, 0⟩ 0).cells H4)
  (hrun : x0 ≠ none → qr.r x0 H.size (H.size + 1) ((H.push ⟨x1, .rw, 0⟩).push (anObj 0 0 ⟨none, 0, 0⟩ 0))
   (fun v H' => ∃ e, v = .iface 31 (.int .i64 e) ∧ H'.get (H.size + 1) = anObj 0 0 ⟨none, 0, 0⟩ 0 ∧ k (anObj e 0 ⟨none, 0, 0⟩ 0).cells (H'.upd (H.size + 1) (anObj e 0 ⟨none, 0, 0⟩ 0)))
   (fun H' => ∃ e off x z, H'.get (H.size + 1) = anObj e off x z ∧ k (anObj e off x 0).cells H')) : qr x0 x1 H k := by
 unfold qr
 have hent : enterable Tryz.prog 18 = true := by kernel_rfl
 have hres : Tryz.f18.results.toList = [.cell 4 38] := by kernel_rfl
 refine ⟨hent, fun W w φ args' hl R => ?_⟩
 have hsz : args'.size = 2 := by have := hl.1; simp at this; omega
 refine calls_of_wp_defers Tryz.func18 qr.body_eq ?_
 have hnt : Tryz.f18.ntmps = 54 := by kernel_rfl
 have A0 : ARel [] φ Tryz.f18.ntmps (argFr [.pointer x0, .agg (qlq x1)]) { tmps := args' ++ qmh (Tryz.f18.ntmps - args'.size) undef, defers := [] } := by
  refine ⟨rfl, by simp; omega, fun s => ?_⟩
  unfold argFr
  by_cases hs : s < 2
  ·have h1 : [qkR x0, qlQ (qlq x1)].getD s undef = [qkR x0, qlQ (qlq x1)][s]'(by simpa using hs) := by simp [qkP, hs]
   have h2 : (args' ++ qmh (Tryz.f18.ntmps - args'.size) undef).getD s undef = args'[s]'(by omega) := by
    simp [qk6, Array.getElem?_append, show s < args'.size by omega]
   rw [h1]
   simp only
   rw [h2]
   exact hl.2 s _ _ (qkO (by simpa using hs)) (by simp [show s < args'.size by omega])
  ·have h1 : [qkR x0, qlQ (qlq x1)].getD s undef = undef := by simp [qkP, qkT (show [qkR x0, qlQ (qlq x1)].length ≤ s by simp; omega)]
   rw [h1]
   exact .undef _
 -- the answer is read off its cell
 have ending : ∀ (ds : List Deferred) (φ1 : Emb) (fr1 : Fr) (H1 : AH) (a1 : Act) (w1 : World) (o4 : Nat) (cs : List Value), ARel ds φ1 Tryz.f18.ntmps fr1 a1 → fr1 4 = .pointer (some ⟨o4, 0, none⟩) → Rel W φ1 H1 w1 → Hist φ H φ1 H1 → AH.row? H1 ⟨o4, 0, none⟩ 3 = some cs → k cs H1 →
   ∃ v, (results Tryz.f18 a1.tmps).run Tryz.prog w1 = .ok v w1 ∧ ∃ le φ' H', Hist φ H φ' H' ∧ qcl φ' le (.returned v) ∧ Rel W φ' H' w1 ∧ in1 .agg le qm (fun r0 => k r0 H') := by
  intro ds φ1 fr1 H1 a1 w1 o4 cs A1 h4 R1 hh hrow hk
  have A1' : ARel [] φ1 Tryz.f18.ntmps fr1 ⟨a1.tmps, []⟩ := ⟨rfl, A1.size, A1.tmp⟩
  have hv : resVals T fr1 H1 [.cell 4 38] (fun vs => vs = [.agg cs.toArray]) := by
   simp only [resVals, h4]
   exact ⟨cs, hrow, rfl⟩
  obtain ⟨vs, vs', hk1, hlv, hrunv⟩ := qez (P := Tryz.prog) (T := T) hT A1' R1 _ _ hv
  subst hk1
  obtain ⟨v', rfl⟩ : ∃ v', vs' = [v'] := by
   have := hlv.1
   match vs', this with
   | [v'], _ => exact ⟨v', rfl⟩
  refine ⟨v', ?_, .ret (.agg cs.toArray), φ1, H1, hh, hlv.2 0 _ _ rfl rfl, R1, ⟨cs, rfl, hk⟩⟩
  rw [qf7, Array.mapM_eq_mapM_toList, hres]
  simp only [Sem.run_bind, Sem.run_map, hrunv, Result.andThen_ok, Sem.run_pure]
  rfl
 -- the box, the answer's cell
 refine wp_seq (qdY (W := W) (Ds := []) (A := qr.ann0) (QQ := fun _ _ _ => True) (T := T) (pan := pan) (n := Tryz.f18.ntmps) hT hm trivial _ _ H
  (qr.Q0 fun v0 v3 v4 H2 => v0 = .pointer x0 ∧ v3 = .pointer (some ⟨H.size, 0, none⟩) ∧ v4 = .pointer (some ⟨H.size + 1, 0, none⟩) ∧ H2 = (H.push ⟨x1, .rw, 0⟩).push (anObj 0 0 ⟨none, 0, 0⟩ 0)) φ _ w _ trivial ?_ A0 R ?_)
 ·rw [qr.box_link, qt, qt]
  exact ⟨rfl, rfl, rfl, rfl⟩
 intro le e φ1 fr1 H1 a1 w1 hh1 he1 hdf1 hA1 _ R1 hq1
 cases le with
 | ret => exact hq1.elim
 | exit i => exact hq1.elim
 | pan v => exact hq1.elim
 | normal =>
 cases e <;> simp only [ERel] at he1
 obtain ⟨A1, _⟩ := hA1 rfl
 obtain ⟨f0, f3, f4, hH1⟩ := hq1
 have hfr := qgc f0 f3 f4
 have A1' : ARel [] φ1 Tryz.f18.ntmps (doFr x0 H.size (H.size + 1)) a1 := A1.weaken hdf1 rfl fun s => (hfr s).imp id fun h => ⟨h.1, rfl⟩
 have h4get : H1.get (H.size + 1) = anObj 0 0 ⟨none, 0, 0⟩ 0 := by rw [hH1, qp, qi, if_pos rfl]
 have hkeep : qa H H1 := by rw [hH1]; exact ((qa.refl H).push _).push _
 have h4lt : H.size + 1 < H1.size := by rw [hH1]; simp [qi]
 -- is there a heap?
 show Code.wp Tryz.prog _ _ a1 w1
 refine wp_seq (qdY (W := W) (Ds := []) (A := qr.ann0) (QQ := fun _ _ _ => True) (T := T) (pan := pan) (n := Tryz.f18.ntmps) hT hm trivial _ _ H1
  (qr.Q1 (fun H2 => x0 = none ∧ H2 = H1.put ⟨H.size + 1, 0, none⟩ (anObj 1 0 ⟨none, 0, 0⟩ 0).cells) (fun H2 => x0 ≠ none ∧ H2 = H1)) φ1 _ w1 _ trivial ?_ A1' R1 ?_)
 ·rw [show doFr x0 H.size (H.size + 1) = argFr [.pointer x0, undef, undef, .pointer (some ⟨H.size, 0, none⟩), .pointer (some ⟨H.size + 1, 0, none⟩)] from rfl, qr.nil_link]
  cases hx : x0 with
  | none =>
   rw [Option.isNone_none, qk, qaL]
   exact ⟨⟨rfl, rfl⟩, ⟨rfl, by rw [h4get]; rfl, by rw [h4get]; simp [anObj]⟩, rfl, rfl⟩
  | some p =>
   rw [qk1, qc]
   exact ⟨by simp, rfl⟩
 intro le e φ2 fr2 H2 a2 w2 hh2 he2 hdf2 hA2 _ R2 hq2
 have hh12 := hh1.trans hh2
 cases le with
 | exit i => exact hq2.elim
 | pan v => exact hq2.elim
 | ret =>
  cases e <;> simp only [ERel] at he2
  obtain ⟨A2, hkp⟩ := hA2 rfl
  obtain ⟨hx0, hH2⟩ := hq2
  have g2 : H2.get (H.size + 1) = anObj 1 0 ⟨none, 0, 0⟩ 0 := by
   rw [hH2]; simp only [AH.put, qA, if_true, h4get, anObj, setMany]
   rfl
  have hkeep2 : qa H H2 := by rw [hH2]; exact hkeep.upd (b := H.size + 1) (by omega) _
  show Leaves Tryz.prog Tryz.f18 a2.tmps _ a2.defers .returning w2
  rw [hdf2]
  have h4' : fr2 4 = .pointer (some ⟨H.size + 1, 0, none⟩) := (hkp 4 (by decide)).trans rfl
  exact ending [] φ2 fr2 H2 a2 w2 (H.size + 1) _ A2 h4' R2 hh12 (an_row g2) (hnil hx0 _ H2 0 g2 (by show H.size + 1 < H2.size; rw [hH2]; exact h4lt) hkeep2)
 | normal =>
 cases e <;> simp only [ERel] at he2
 obtain ⟨A2, hkp⟩ := hA2 rfl
 obtain ⟨hx0, hH2⟩ := hq2
 subst hH2
 have k0 : fr2 0 = .pointer x0 := (hkp 0 (by decide)).trans rfl
 have k3 : fr2 3 = .pointer (some ⟨H.size, 0, none⟩) := (hkp 3 (by decide)).trans rfl
 have k4 : fr2 4 = .pointer (some ⟨H.size + 1, 0, none⟩) := (hkp 4 (by decide)).trans rfl
 have hfr2 := qgc k0 k3 k4
 obtain ⟨b4, B4, o, hbe, hb4, he4⟩ : ∃ b B o, (⟨H.size + 1, 0, none⟩ : Addr) = ⟨b, o, none⟩ ∧ φ2 b = some B ∧ a2.tmps.getD 4 undef = .pointer (some ⟨B.c, o, none⟩) := by
  have hx := A2.tmp 4
  rw [k4] at hx
  obtain ⟨b, B, o, h1, h2, h3⟩ := qcu hx
  exact ⟨b, B, o, h1, h2, h3⟩
 injection hbe with hbe1 hbe2
 subst hbe1 hbe2
 show Code.wp Tryz.prog _ _ a2 w2
 refine wp_seq (qkd A2.size hdf2 he4 ?_)
 intro a3 d ht3 hs3 hd3 hinv
 obtain ⟨fv, cap, hdt, hinv⟩ := hinv
 show Code.wp Tryz.prog _ _ a3 w2
 have A3 : ARel [d] φ2 Tryz.f18.ntmps (doFr x0 H.size (H.size + 1)) a3 := A2.weaken hd3 ht3 fun s => (hfr2 s).imp id fun h => ⟨h.1, hs3 s (by omega)⟩
 refine qdY (W := W) (Ds := [d]) (A := qr.ann) (QQ := fun _ _ _ => True) (T := T) (pan := pan) (n := Tryz.f18.ntmps) hT hm trivial _ _ _ (qr.Q _ _) φ2 _ w2 _ trivial
  (by rw [show doFr x0 H.size (H.size + 1) = argFr [.pointer x0, undef, undef, .pointer (some ⟨H.size, 0, none⟩), .pointer (some ⟨H.size + 1, 0, none⟩)] from rfl, qr.r_link, hH1]; exact hrun hx0) A3 R2 ?_
 intro le e φ4 fr4 H4 a4 w4 hh4 he4' hdf4 hA4 hX4 R4 hq4
 have hh := hh12.trans hh4
 have ret : (∃ e off x z, H4.get (H.size + 1) = anObj e off x z ∧ k (anObj e off x 0).cells H4) → (ARel [d] φ4 Tryz.f18.ntmps fr4 a4 ∧ ∀ s, s ∉ writes (restOf Tryz.f18.body) → fr4 s = doFr x0 H.size (H.size + 1) s) → 
   Leaves Tryz.prog Tryz.f18 a4.tmps (fun e w' => ∃ le φ' H', Hist φ H φ' H' ∧ qcl φ' le e ∧ Rel W φ' H' w' ∧ in1 .agg le qm (fun r0 => k r0 H')) a4.defers .returning w4 := by
  rintro ⟨e, off, x, z, hg, hk⟩ ⟨A4, hkp4⟩
  rw [hdf4]
  refine ⟨by simp, fv, cap, 63, _, hdt, hinv w4, (qkw _ w4).mono ?_⟩
  rintro e' u' w' ⟨rfl, rfl, rfl⟩
  show Leaves Tryz.prog Tryz.f18 a4.tmps _ [] .returning w'
  have h4' : fr4 4 = .pointer (some ⟨H.size + 1, 0, none⟩) := (hkp4 4 (by decide)).trans rfl
  exact ending [d] φ4 fr4 H4 a4 w' (H.size + 1) _ A4 h4' R4 hh (an_row hg) hk
 cases le with
 | normal =>
  cases e <;> simp only [ERel] at he4'
  exact ret hq4 (hA4 rfl)
 | ret =>
  cases e <;> simp only [ERel] at he4'
  exact ret hq4 (hA4 rfl)
 | exit i => exact hq4.elim
 | pan v =>
  cases e <;> simp only [ERel] at he4'
  obtain ⟨v', rfl, hv⟩ := he4'
  obtain ⟨er, rfl, hg4, hk⟩ := hq4
  have hcan : H4.canPut ⟨H.size + 1, 0, none⟩ (anObj er 0 ⟨none, 0, 0⟩ 0).cells.length := ⟨rfl, by rw [hg4]; rfl, by rw [hg4]; simp [anObj]⟩
  have hput : H4.put ⟨H.size + 1, 0, none⟩ (anObj er 0 ⟨none, 0, 0⟩ 0).cells = H4.upd (H.size + 1) (anObj er 0 ⟨none, 0, 0⟩ 0) := by
   refine AH.ext' rfl fun b => ?_
   simp only [AH.put, qA, hg4]
   split
   ·rfl
   ·rfl
  have := qht hv
  subst this
  have hb4' : φ4 (H.size + 1) = some B4 := hh4.1 _ _ hb4
  obtain ⟨hW, _, _⟩ := R4.room _ _ hb4' hcan.2.1
  have hcell : ∀ i, i < 3 → ∃ u, w4.cell? ⟨B4.c, i, none⟩ = some u := fun i hi => by
   have hlt : i < (H4.get (H.size + 1)).cells.length := by rw [hg4]; exact hi
   obtain ⟨u, hu, _⟩ := R4.cell _ _ hb4' (by rw [hcan.2.1]; simp) i _ (qkO hlt)
   exact ⟨u, hu⟩
  show Leaves Tryz.prog Tryz.f18 a4.tmps _ a4.defers (.panicking _) w4
  rw [hdf4]
  refine ⟨by simp, fv, cap, 63, _, hdt, hinv w4, (do1_pan B4.c er [] w4 (hcell 0 (by omega)) (hcell 1 (by omega)) (hcell 2 (by omega)) (fun i => R4.unfrozen hb4' hW i)).mono ?_⟩
  rintro e' u' w' ⟨rfl, rfl, rfl⟩
  show Leaves Tryz.prog Tryz.f18 a4.tmps _ [] .returning _
  have hlr : LRel φ4 (anObj er 0 ⟨none, 0, 0⟩ 0).cells [.int .i64 er, .int .i64 0, .slice none 0 0] := ⟨rfl, fun i x y hx hy => by
   match i with
   | 0 => cases hx; cases hy; exact .int _ _
   | 1 => cases hx; cases hy; exact .int _ _
   | 2 => cases hx; cases hy; exact .sl0
   | n + 3 => cases hx⟩
  obtain ⟨R5, _⟩ := Rel.put (P := Tryz.prog) R4 hb4' (o := 0) hcan hlr (by simp [Value.oneCell'])
  obtain ⟨frx, Ax, hkx⟩ := hX4
  have h4' : frx 4 = .pointer (some ⟨H.size + 1, 0, none⟩) := (hkx 4 (by decide)).trans rfl
  rw [hput] at R5
  have hh5 : Hist φ H φ4 (H4.upd (H.size + 1) (anObj er 0 ⟨none, 0, 0⟩ 0)) := hh.trans ⟨Emb.le_refl _, qkV _, fun _ _ h => h, fun b _ hn => by
   have : b ≠ H.size + 1 := fun hb => by rw [hb, hb4'] at hn; cases hn
   rw [qA, if_neg this]⟩
  exact ending [d] φ4 frx _ a4 _ (H.size + 1) _ Ax h4' R5 hh5 (an_row (by rw [qA, if_pos rfl])) hk
end
def anV (e off : Int) (x : Sl) : List Value := [.int .i64 e, .int .i64 off, x.val]
def opV (K off n mask : Int) (x : Sl) : List Value := [.int .i64 K, .int .i64 off, .int .i64 n, .int .i64 mask, x.val]
section
variable {H : AH} {L : Pl} {pa pb pc pd : Int} {s : HS} {mvb : Nat} {cb : Int}
theorem qdU {K off n mask : Int} {x : Sl} {bs : List Int} {k : List Value → AH → Prop} (h : HOK H L pa pb pc pd s mvb cb)
  (hio : isI off) (hin : isI n) (hb : K = 4 → qli H x 1 bU bs ∧ qbW bs)
  (hk : ∀ H' x', HA H' L pa pb pc pd (doH pa pb pc pd s K off n bs).1 → Frh H H' L → Own H.size H' x' 1 bU (doH pa pb pc pd s K off n bs).2.2.2 →
   k (anV (doH pa pb pc pd s K off n bs).2.1 (doH pa pb pc pd s K off n bs).2.2.1 x') H') :
  qr (some ⟨L.h, 0, none⟩) (opV K off n mask x) H k := by
 refine heap_Do.walk (fun hh => by cases hh) fun _ => ?_
 have hk2 : qa H ((H.push ⟨opV K off n mask x, .rw, 0⟩).push (anObj 0 0 ⟨none, 0, 0⟩ 0)) := ((qa.refl H).push _).push _
 have h3 : ((H.push ⟨opV K off n mask x, .rw, 0⟩).push (anObj 0 0 ⟨none, 0, 0⟩ 0)).get H.size = opObj K off n mask x 0 := by
  rw [qp, qi, if_neg (by omega), qp, if_pos rfl]; rfl
 have h4 : ((H.push ⟨opV K off n mask x, .rw, 0⟩).push (anObj 0 0 ⟨none, 0, 0⟩ 0)).get (H.size + 1) = anObj 0 0 ⟨none, 0, 0⟩ 0 := by rw [qp, qi, if_pos rfl]
 have hsz : ((H.push ⟨opV K off n mask x, .rw, 0⟩).push (anObj 0 0 ⟨none, 0, 0⟩ 0)).size = H.size + 2 := by simp [qi]
 generalize (H.push ⟨opV K off n mask x, .rw, 0⟩).push (anObj 0 0 ⟨none, 0, 0⟩ 0) = H2 at *
 have hOK : HOK H2 L pa pb pc pd s mvb cb := ⟨HAt.keeps h.ha hk2, h.ps, h.mb, h.cl, h.cb'⟩
 have hbl := HAt.below h.ha
 have hga := HAt.ga h.ha
 have hca := HAt.ca h.ha
 have ho : H.size + 1 ≠ L.h ∧ H.size + 1 ≠ L.g ∧ H.size + 1 ≠ L.t ∧ H.size + 1 ≠ L.x ∧ H.size + 1 ≠ L.p ∧ H.size + 1 ≠ L.c ∧ H.size + 1 ≠ L.ct ∧ H.size + 1 ≠ L.q1 ∧ H.size + 1 ≠ L.q2 := by
  have a1 := hbl.h; have a2 := hga.lg; have a3 := hbl.t; have a4 := hga.tn.l.lx; have a5 := hbl.p; have a6 := hbl.c; have a7 := hca.lc; have a8 := hbl.q1; have a9 := hbl.q2
  exact ⟨by omega, by omega, by omega, by omega, by omega, by omega, by omega, by omega, by omega⟩
 refine qjE (x := x) (bs := bs) hOK ho (by omega) h3 h4 hio hin (fun hK => ⟨(hb hK).1.keep hk2, (hb hK).2⟩) ?_ ?_
 ·intro H' hH f he hz
  have hg4 : H'.get (H.size + 1) = anObj 0 0 ⟨none, 0, 0⟩ 0 := by
   rw [f.get _ (by omega) ho.1 ho.2.2.1 ho.2.2.2.2.1 ho.2.2.2.2.2.1 ho.2.2.2.2.2.2.2.1 ho.2.2.2.2.2.2.2.2, h4]
  refine ⟨_, rfl, hg4, ?_⟩
  have hs' := f.size
  have hk' := hk (H'.upd (H.size + 1) (anObj (doH pa pb pc pd s K off n bs).2.1 0 ⟨none, 0, 0⟩ 0)) ⟨none, 0, 0⟩ (HA.other hH ho (fun b hb => by rw [qA, if_neg hb]) rfl)
   ⟨by show H.size ≤ H'.size; omega, fun b hb h1 h2 h3 h4 h5 h6 => by rw [qA, if_neg (by omega), f.get b (by omega) h1 h2 h3 h4 h5 h6, hk2.2 b hb]⟩ (.inl ⟨rfl, by rw [hz]⟩)
  rw [hz] at hk'
  exact hk'
 ·intro H' x' hH hs' hfr hg4 hO
  refine ⟨_, _, x', 0, hg4, ?_⟩
  exact hk H' x' hH ⟨by omega, fun b hb h1 h2 h3 h4 h5 h6 => by rw [hfr b (by omega) h1 h2 h3 h4 h5 h6 (by omega), hk2.2 b hb]⟩ (qci hO (by omega))
end
theorem qfP {H : AH} {B : Nat} {s : Sl} {l : List Int} {v : Int} {o : Nat} {k : Sl → AH → Prop} (hO : Own B H s 1 iV l) (ho : H.get o = ⟨[.int .i64 v], .rw, 1⟩) (hl : l.length ≤ 1000)
  (h : ∀ H', H'.size = H.size + 1 → H'.get H.size = ⟨(l ++ [v]).flatMap iV, .rw, 1⟩ → (∀ b, b < H.size → (∀ a, s.a = some a → b ≠ a.block) → H'.get b = H.get b) → k ⟨some ⟨H.size, 0, none⟩, (l ++ [v]).length, 1⟩ H') :
  appendC 1 H s ⟨some ⟨o, 0, none⟩, 1, 1⟩ k := by
 have hrow : AH.rowS? H ⟨some ⟨o, 0, none⟩, 1, 1⟩ 1 = some [.int .i64 v] := by
  simp only [AH.rowS?, Nat.one_mul]
  rw [if_neg (by simp)]
  simp [AH.row?, ho, qo]
 rcases hO with ⟨rfl, rfl⟩ | ⟨b, rfl, hb1, hb2, hg⟩
 ·refine ⟨le_limS (by simp [lim]) _, ?_⟩
  rw [if_neg (by simp)]
  refine ⟨_, hrow, ?_⟩
  exact h _ (by simp [qi]) (by rw [qp, if_pos rfl]; rfl) (fun b hb _ => qG (by omega))
 ·refine ⟨le_limS (by simp only [lim]; omega) _, ?_⟩
  rw [if_neg (by simp)]
  refine ⟨_, hrow, ⟨rfl, rfl, rfl, by rw [hg], by rw [hg]; simp only; exact qdO (f := iV) (z := 1) (fun _ => rfl) _, by rw [hg]⟩, ?_⟩
  have := h ((H.kill b).push ⟨(H.get b).cells ++ [.int .i64 v], .rw, 1⟩) (by simp [qi, qaR]) (by
   rw [qp, qaR, if_pos rfl, hg, qlZ]; rfl) (fun b' hb' hne => by
   have hne' : b' ≠ b := hne _ rfl
   rw [qG (by simp only [qaR]; omega), qdm hne'])
  rw [qlt] at this
  exact this
section
variable {H : AH}
theorem qaI.s {pd : Int} {x1 : Sl} {l : List Int} {k : Option Addr → AH → Prop} (hr : qli H x1 1 iV l) (hpd : 1 ≤ pd ∧ pd ≤ 100) (hl : 1 ≤ l.length ∧ l.length ≤ 16) (hv : ∀ v ∈ l, 0 ≤ v ∧ v ≤ 1099511627776)
  (h : ∀ H' ct q1 q2, CAt H' ct q1 q2 pd l l → qa H H' → H.size ≤ ct → H.size ≤ q1 → H.size ≤ q2 → k (some ⟨ct, 0, none⟩) H') : qaI pd x1 H k := by
 refine qaI.link ?_
 unfold qaI.b
 rw [decide_eq_false (show ¬ pd < 1 by omega), qc, decide_eq_false (show ¬ pd > 100 by omega), qc, hr.1, decide_eq_false (show ¬ (l.length : Int) > 16 by omega)]
 unfold qaI.j2
 rw [qc, qt]
 have hk0 := (qa.refl H).push ⟨[(qkL .i64 pd), (qk2 none 0 0), (qk2 none 0 0)], .rw, 0⟩
 refine qL (t := ((0 : Int) : Int)) (I := fun (t : Int) H' => ∃ (j : Nat) (s1 s2 : Sl), t = (j : Int) ∧ j ≤ l.length ∧ qa H H' ∧ H.size < H'.size ∧ H'.get H.size = ⟨[.int .i64 pd, s1.val, s2.val], .rw, 0⟩ ∧ Own (H.size + 1) H' s1 1 iV (l.take j) ∧ Own (H.size + 1) H' s2 1 iV (l.take j) ∧ (∀ a b, s1.a = some a → s2.a = some b → a.block ≠ b.block)) (m := fun (t : Int) _ => qkX ((l.length : Int) - t)) ?_
  ⟨0, ⟨none, 0, 0⟩, ⟨none, 0, 0⟩, rfl, by omega, hk0, by simp [qi], by rw [qp, if_pos rfl], .inl ⟨rfl, rfl⟩, .inl ⟨rfl, rfl⟩, fun a b h => by cases h⟩
 intro t H1 hI it hit
 obtain ⟨j, s1, s2, rfl, hj, hk1, hsz, hg, hO1, hO2, hdj⟩ := hI
 unfold qaI.l1
 rw [hr.1]
 by_cases hlt : (j : Int) < (l.length : Int)
 rotate_left 1
 ·rw [decide_eq_false hlt, qc]
  have : j = l.length := by omega
  subst this
  rw [List.take_length] at hO1 hO2
  rcases hO1 with ⟨_, h0⟩ | ⟨b1, rfl, hb1, hb1', hg1⟩
  ·rw [h0] at hl; simp at hl
  rcases hO2 with ⟨_, h0⟩ | ⟨b2, rfl, hb2, hb2', hg2⟩
  ·rw [h0] at hl; simp at hl
  have hne := hdj _ _ rfl rfl
  simp only at hne
  refine h H1 H.size b1 b2 ⟨hg, hg1, hg2, rfl, hl.2, hsz, hb1', hb2', ⟨by omega, by omega, hne⟩, fun i hi => ?_⟩ hk1 (qkV _) (by omega) (by omega)
  have := hv (l.getD i 0) (by rw [qkP, qkO hi]; exact qk5 hi)
  omega
 rw [decide_eq_true hlt, qk]
 have hj' : j < l.length := by omega
 refine ⟨by omega, ?_⟩
 obtain ⟨b, o, ha, _, hc1⟩ := qbI (g := fun v => qkL .i64 v) (hr.keep hk1) (i := j) hj'
 rw [ha, qd, qkS, hc1, qg]
 have hvj := hv _ (qk5 hj')
 have htk : l.take (j + 1) = l.take j ++ [l[j]] := by rw [List.take_succ, qkO hj']; rfl
 generalize l[j] = v at *
 have hcl : (if (1099511627776 : Int) < (if (0 : Int) > v then (0 : Int) else v) then (1099511627776 : Int) else (if (0 : Int) > v then (0 : Int) else v)) = v := by
  rw [if_neg (show ¬ (0 : Int) > v by omega), if_neg (by omega)]
 rw [hcl]
 have cell : ∀ {H' : AH} {s1 s2 : Sl} (i : Nat), H'.get H.size = ⟨[.int .i64 pd, s1.val, s2.val], .rw, 0⟩ → AH.cell? H' (qkN ⟨H.size, 0, none⟩ i) = [qkL .i64 pd, s1.val, s2.val][i]? := by
  intro H' s1 s2 i hg
  rw [ql, qla]
  simp [AH.cell?, hg]
 rw [cell 1 hg]
 show elL (some (Sl.val s1)) _
 rw [qaT, qt, cell 2 (s1 := s1) (s2 := s2) (by rw [qG (by omega)]; exact hg)]
 show elL (some (Sl.val s2)) _
 rw [qaT, qt]
 have hA : ((H1.push ⟨[.int .i64 v], .rw, 1⟩).push ⟨[.int .i64 v], .rw, 1⟩).get H1.size = ⟨[.int .i64 v], .rw, 1⟩ := by rw [qG (by simp [qi]), qp, if_pos rfl]
 have hB : ((H1.push ⟨[.int .i64 v], .rw, 1⟩).push ⟨[.int .i64 v], .rw, 1⟩).get (H1.size + 1) = ⟨[.int .i64 v], .rw, 1⟩ := by rw [qp, qi, if_pos rfl]
 have hlow : ∀ b, b < H1.size → ((H1.push ⟨[.int .i64 v], .rw, 1⟩).push ⟨[.int .i64 v], .rw, 1⟩).get b = H1.get b := fun b hb => by rw [qG (by simp [qi]; omega), qG (by omega)]
 have hsz2 : ((H1.push ⟨[.int .i64 v], .rw, 1⟩).push ⟨[.int .i64 v], .rw, 1⟩).size = H1.size + 2 := by simp [qi]
 rw [qi]
 generalize (H1.push ⟨[.int .i64 v], .rw, 1⟩).push ⟨[.int .i64 v], .rw, 1⟩ = H2 at *
 have hO1' : Own (H.size + 1) H2 s1 1 iV (l.take j) := hO1.keep (by omega) (fun b _ hb => hlow b hb)
 have hO2' : Own (H.size + 1) H2 s2 1 iV (l.take j) := hO2.keep (by omega) (fun b _ hb => hlow b hb)
 have hlen : (l.take j).length ≤ 1000 := by rw [List.length_take]; omega
 have bl1 : ∀ a, s1.a = some a → H.size < a.block ∧ a.block < H1.size := fun a ha => by
  rcases hO1 with ⟨rfl, _⟩ | ⟨b, rfl, h1, h2, _⟩
  ·cases ha
  ·cases ha; exact ⟨by simp only; omega, h2⟩
 have bl2 : ∀ a, s2.a = some a → H.size < a.block ∧ a.block < H1.size := fun a ha => by
  rcases hO2 with ⟨rfl, _⟩ | ⟨b, rfl, h1, h2, _⟩
  ·cases ha
  ·cases ha; exact ⟨by simp only; omega, h2⟩
 refine qfP hO1' hA hlen ?_
 intro H3 z3 g3 f3
 rw [← htk] at g3 ⊢
 have o3 : H3.get H.size = ⟨[.int .i64 pd, s1.val, s2.val], .rw, 0⟩ := by rw [f3 _ (by omega) (fun a ha => by have := bl1 a ha; omega), hlow _ hsz]; exact hg
 refine ⟨cell 2 o3, ?_⟩
 have hO2'' : Own (H.size + 1) H3 s2 1 iV (l.take j) := by
  rcases hO2' with h0 | ⟨b, h1, h2, h3, h4⟩
  ·exact .inl h0
  ·refine .inr ⟨b, h1, h2, by omega, ?_⟩
   rw [f3 b h3 (fun a ha he => hdj a ⟨b, 0, none⟩ ha (by rw [h1]) he.symm)]
   exact h4
 refine qfP hO2'' (o := H1.size + 1) (by rw [f3 _ (by omega) (fun a ha => by have := bl1 a ha; omega)]; exact hB) hlen ?_
 intro H4 z4 g4 f4
 rw [← htk] at g4 ⊢
 have o4 : H4.get H.size = ⟨[.int .i64 pd, s1.val, s2.val], .rw, 0⟩ := by rw [f4 _ (by omega) (fun a ha => by have := bl2 a ha; omega)]; exact o3
 have g3' : H4.get H2.size = ⟨(l.take (j + 1)).flatMap iV, .rw, 1⟩ := by rw [f4 _ (by omega) (fun a ha => by have := bl2 a ha; omega)]; exact g3
 have k4 : qa H H4 := ⟨by have := hk1.1; omega, fun b hb => by
  rw [f4 b (by omega) (fun a ha => by have := bl2 a ha; omega), f3 b (by omega) (fun a ha => by have := bl1 a ha; omega), hlow b (by omega), hk1.2 b hb]⟩
 rw [ql, ql, qaL]
 refine ⟨⟨rfl, by rw [o4], by rw [o4]; simp⟩, ?_⟩
 rw [qaL]
 have e5 : (AH.put H4 ⟨H.size, 0 + 1, none⟩ [(⟨some ⟨H2.size, 0, none⟩, (l.take (j + 1)).length, 1⟩ : Sl).val]) = H4.upd H.size ⟨[.int .i64 pd, (⟨some ⟨H2.size, 0, none⟩, (l.take (j + 1)).length, 1⟩ : Sl).val, s2.val], .rw, 0⟩ := by
  simp only [AH.put, o4, setMany]; rfl
 rw [e5]
 refine ⟨⟨rfl, by simp [qA], by simp [qA]⟩, ?_⟩
 have e6 : (AH.put (H4.upd H.size ⟨[.int .i64 pd, (⟨some ⟨H2.size, 0, none⟩, (l.take (j + 1)).length, 1⟩ : Sl).val, s2.val], .rw, 0⟩) ⟨H.size, 0 + 2, none⟩ [(⟨some ⟨H3.size, 0, none⟩, (l.take (j + 1)).length, 1⟩ : Sl).val]) = H4.upd H.size ⟨[.int .i64 pd, (⟨some ⟨H2.size, 0, none⟩, (l.take (j + 1)).length, 1⟩ : Sl).val, (⟨some ⟨H3.size, 0, none⟩, (l.take (j + 1)).length, 1⟩ : Sl).val], .rw, 0⟩ := by
  refine AH.ext' rfl fun b => ?_
  simp only [AH.put, qA, if_true, setMany]
  split <;> rfl
 rw [e6, qe (n := (j : Int) + 1) (by omega) (by omega)]
 refine hit _ _ ⟨j + 1, _, _, by simp, by omega, k4.upd (qkV _) _, by show H.size < H4.size; omega, by rw [qA, if_pos rfl], .inr ⟨H2.size, rfl, by omega, by show H2.size < H4.size; omega, by rw [qA, if_neg (by omega)]; exact g3'⟩,
  .inr ⟨H3.size, rfl, by omega, by show H3.size < H4.size; omega, by rw [qA, if_neg (by omega)]; exact g4⟩, fun a b ha hb => by cases ha; cases hb; simp only; omega⟩ (by omega)
end
structure HW (H : AH) (hb g t x p c : Nat) (pa pb pc pd : Int) (puts : Nat) (M : Mem) : Prop where
 hh : ∃ v8 w, qo v8 = true ∧ H.get hb = ⟨[.pointer (some ⟨p, 0, none⟩), .int .i64 pa, .int .i64 pb, .int .i64 pc, .int .i64 pd, .pointer (some ⟨t, 0, none⟩), .pointer (some ⟨g, 0, none⟩), v8, .bool w], .rw, 0⟩
 lh : hb < H.size
 may : mayP pa pb pc pd = true
 ga : GAt H g t x p c (16 + pa.toNat) pb.toNat pc.toNat puts M
section
variable {H H' : AH} {hb g t x p c : Nat} {pa pb pc pd : Int} {puts : Nat} {M : Mem}
theorem HW.keeps (h : HW H hb g t x p c pa pb pc pd puts M) (hk : qa H H') : HW H' hb g t x p c pa pb pc pd puts M := by
 obtain ⟨v8, w, h0, h1⟩ := h.hh
 exact ⟨⟨v8, w, h0, by rw [hk.2 _ h.lh, h1]⟩, by have := hk.1; have := h.lh; omega, h.may, h.ga.keeps hk⟩
theorem HW.push (h : HW H hb g t x p c pa pb pc pd puts M) (o : AObj) : HW (H.push o) hb g t x p c pa pb pc pd puts M := h.keeps ((qa.refl H).push o)
theorem HW.c6 (h : HW H hb g t x p c pa pb pc pd puts M) : AH.cell? H (qkN ⟨hb, 0, none⟩ 6) = some (.pointer (some ⟨g, 0, none⟩)) := by
 obtain ⟨v8, w, h0, h1⟩ := h.hh
 rw [ql, qla]
 simp [AH.cell?, h1]
theorem HW.c10 (h : HW H hb g t x p c pa pb pc pd puts M) : AH.cell? H (qkN (qkN ⟨hb, 0, none⟩ 1) 0) = some (.int .i64 pa) := by
 obtain ⟨v8, w, h0, h1⟩ := h.hh
 rw [ql, ql]
 simp [AH.cell?, h1]
theorem HW.row (h : HW H hb g t x p c pa pb pc pd puts M) : AH.row? H (qkN ⟨hb, 0, none⟩ 1) 4 = some (pl pa pb pc pd) := by
 obtain ⟨v8, w, h0, h1⟩ := h.hh
 rw [ql]
 simp [AH.row?, h1, pl, qo]
theorem HW.getN_range {i : Nat} (h : HW H hb g t x p c pa pb pc pd puts M) (hi : (i : Int) < pa) :
  isLine (getN (16 + pa.toNat) pb.toNat M (16 + (i : Int))).1 ∧ (getN (16 + pa.toNat) pb.toNat M (16 + (i : Int))).2 = if M.down then 2 else 0 := by
 have hm := qJ.1 h.may
 obtain ⟨ho, _⟩ := qeg h.ga
 have ht := h.ga.tn.lineOf (16 + (i : Int)).toNat
 unfold getN
 rw [if_pos ⟨by omega, by omega⟩]
 by_cases hd : M.down = true
 ·rw [if_pos hd, if_pos hd]; exact ⟨⟨by simp, by simp [isU]⟩, rfl⟩
 ·rw [if_neg hd, if_neg hd]
  split
  ·rename_i q hq
   split at hq
   ·have := List.mem_of_find?_eq_some hq
    exact ⟨(ho q this).line, rfl⟩
   ·cases hq
  ·exact ⟨ht, rfl⟩
theorem qev.w {k : Sl → Int → AH → Prop} (h : HW H hb g t x p c pa pb pc pd puts M) (hd : M.down = true → ∀ H', qa H H' → k ⟨none, 0, 0⟩ 2 H')
  (hu : M.down = false → ∀ s H', qa H H' → Own H.size H' s 1 wU (wordsH pa pb M) → k s 0 H') : qS (some ⟨hb, 0, none⟩) H k := by
 have hm := qJ.1 h.may
 refine qS.link ?_
 unfold qS.b
 rw [qk1, qc, qd, h.c10, qg]
 have hll : ∀ i : Nat, (i : Int) < pa → (lineH pa pb M i).length = 8 := fun i hi => (HW.getN_range h hi).1.1
 have hfl : ∀ i : Nat, (i : Int) ≤ pa → ((qlw i).flatMap (lineH pa pb M)).length = 8 * i := by
  intro i
  induction i with
  | zero => intro _; rfl
  | succ i ih =>
   intro hi
   rw [qlW, qlZ, qlt, ih (by omega)]
   simp only [qly, List.flatMap_nil, List.append_nil]
   rw [hll i (by omega)]; omega
 refine qL (t := ((⟨none, 0, 0⟩, (0 : Int), ⟨none, 0, 0⟩, (0 : Int)) : Sl × Int × Sl × Int)) (I := fun (t : Sl × Int × Sl × Int) H' => ∃ i : Nat, t.2.2.2 = (i : Int) ∧ (i : Int) ≤ pa ∧ (0 < i → M.down = false) ∧ qa H H' ∧ Own H.size H' t.2.2.1 1 wU ((qlw i).flatMap (lineH pa pb M))) (m := fun (t : Sl × Int × Sl × Int) _ => qkX (pa - t.2.2.2)) ?_ ⟨0, rfl, by omega, by omega, qa.refl H, .inl ⟨rfl, rfl⟩⟩
 intro t H1 hI it hit
 obtain ⟨t1, t2, s, t4⟩ := t
 obtain ⟨i, e1, hi, hup, hk, hO⟩ := hI
 simp only at e1 hO
 subst e1
 unfold qS.l1
 simp only [qj, decide_eq_true_eq]
 have h1 := h.keeps hk
 by_cases hlt : (i : Int) < pa
 ·rw [if_pos hlt, qd, h1.c6, qC, qd, qs h1.row, qt, zeroV]
  have h2 := h1.push ⟨lineV (qkQ 8 0), .rw, 0⟩
  refine qa4.s ⟨h2.c6, ?_⟩
  have hh : homeP pa pb pc pd (i : Int) = 16 + (i : Int) := by unfold homeP; rw [if_pos ⟨h.may, by omega, hlt⟩]
  rw [hh]
  refine log_Get.s h2.ga (by unfold isI; omega) ?_
  obtain ⟨hl, he⟩ := HW.getN_range h hlt
  rw [he]
  have hlH : (getN (16 + pa.toNat) pb.toNat M (16 + (i : Int))).1 = lineH pa pb M i := rfl
  rw [hlH] at hl ⊢
  refine ⟨⟨qn hl.1, qai _⟩, ?_⟩
  rw [qaL]
  refine ⟨qb4.2 (by rw [qn hl.1]; simp [lineV]), ?_⟩
  have e2 : AH.put (H1.push ⟨lineV (qkQ 8 0), .rw, 0⟩) ⟨H1.size, 0, none⟩ (lineV (lineH pa pb M i)) = H1.push ⟨lineV (lineH pa pb M i), .rw, 0⟩ := by
   rw [qcP]
   congr 2
   apply qlb
   intro t
   rw [qbG _ _ _ _ (by rw [qn hl.1]; simp [lineV])]
   have := qn hl.1
   by_cases ht : t < (lineV (lineH pa pb M i)).length
   ·rw [if_pos (by omega)]; rfl
   ·rw [if_neg (by omega), qkT (by simp [lineV]; omega), qkT (by omega)]
  rw [e2]
  have hk3 : qa H (H1.push ⟨lineV (lineH pa pb M i), .rw, 0⟩) := hk.push _
  by_cases hdn : M.down = true
  ·rw [if_pos hdn, if_pos (by decide)]
   exact hd hdn _ hk3
  ·rw [if_neg hdn, if_neg (by decide)]
   have hR : qli (H1.push ⟨lineV (lineH pa pb M i), .rw, 0⟩) ⟨some ⟨H1.size, 0, none⟩, 8, 0⟩ 1 wU (lineH pa pb M i) := qgr hl.1 (by simp [qi]) (by rw [qp, if_pos rfl])
   have hO3 : Own H.size (H1.push ⟨lineV (lineH pa pb M i), .rw, 0⟩) s 1 wU ((qlw i).flatMap (lineH pa pb M)) := hO.keep (by simp [qi]) (fun b _ hb => qG (by omega))
   refine qfq (H0 := H) (B := H.size) (fun _ => rfl) (fun _ => rfl) hO3 hR (qkV _) hk3.1 hk3 (by rw [hfl i hi, hl.1]; simp only [lim]; omega) ?_
   intro s' H' hO' hk' _ _
   rw [qe (n := (i : Int) + 1) (by omega) (by omega)]
   refine hit _ _ ⟨i + 1, by simp, by omega, fun _ => by simpa using hdn, hk', ?_⟩ (by simp only; omega)
   rw [qlW, qlZ]
   simpa using hO'
 ·rw [if_neg hlt]
  have hia : pa.toNat = i := by omega
  refine hu (hup (by omega)) _ _ hk ?_
  unfold wordsH
  rw [hia]; exact hO
end
def linesOf (m : Nat) (ws : List Int) : List (List Int) := (qlw m).map (lineOf ws)
theorem qcs {m : Nat} {ws : List Int} : (linesOf m ws).length = m := by simp [linesOf]
theorem qc7 {m i : Nat} {ws : List Int} (hi : i < m) : (linesOf m ws).getD i [] = lineOf ws i := by
 unfold linesOf
 rw [qkP, qkZ, qlc hi]; rfl
theorem qiK {ws : List Int} : ∀ {m : Nat}, (qlw m).flatMap (lineOf ws) = ws.take (8 * m) := by
 intro m
 induction m with
 | zero => simp
 | succ m ih =>
  rw [qlW, qlZ, ih]
  simp only [qly, List.flatMap_nil, List.append_nil]
  rw [show 8 * (m + 1) = 8 * m + 8 by omega, List.take_add]; rfl
theorem qgB {pa pb : Int} {M : Mem} {ws : List Int} (hp : 1 ≤ pa ∧ pa ≤ 64) (hup : M.down = false) (hl : (ws.length : Int) = 8 * pa) (hs : Sd (16 + pa.toNat) pb.toNat M (linesOf pa.toNat ws)) : wordsH pa pb M = ws := by
 have e : ∀ i, i < pa.toNat → lineH pa pb M i = lineOf ws i := fun i hi => by
  have := sd_get (nn := pa.toNat) rfl (by omega) hup hs hi
  unfold lineH
  rw [show (16 + (i : Int)) = ((16 + i : Nat) : Int) by omega, this, qc7 hi]
 unfold wordsH
 have e2 : (qlw pa.toNat).flatMap (lineH pa pb M) = (qlw pa.toNat).flatMap (lineOf ws) := by
  simp only [List.flatMap_def]
  rw [List.map_congr_left (fun i hi => e i (List.mem_range.1 hi))]
 rw [e2, qiK, qlH (by omega)]
theorem qi5 {ws : List Int} {e : Int × Int} {w : Nat} (h : e.1 ≠ (w : Int)) : (putE ws e).getD w 0 = ws.getD w 0 := by
 unfold putE
 split
 ·rw [qkP, qle (by omega), ← qkP]
 ·rfl
theorem qhx {w : Nat} : ∀ {l : List (Int × Int)} {ws : List Int}, (∀ e ∈ l, e.1 ≠ (w : Int)) → (applyE ws l).getD w 0 = ws.getD w 0 := by
 intro l
 induction l with
 | nil => intro ws _; rfl
 | cons a r ih =>
  intro ws h
  show (applyE (putE ws a) r).getD w 0 = _
  rw [ih (fun e he => h e (by simp [he])), qi5 (h a (by simp))]
theorem qi4 {ws ws' : List Int} {i : Nat} (hl : ws'.length = ws.length) (h : ∀ w, 8 * i ≤ w → w < 8 * i + 8 → ws'.getD w 0 = ws.getD w 0) : lineOf ws' i = lineOf ws i := by
 unfold lineOf
 apply qlb
 intro j
 rw [qlD, qlD, qlE, qlE]
 by_cases hj : j < 8
 ·rw [if_pos hj, if_pos hj]
  have := h (8 * i + j) (by omega) (by omega)
  by_cases hb : 8 * i + j < ws.length
  ·rw [qkP, qkP, qkO (by omega), qkO hb] at this
   rw [qkO (by omega), qkO hb]
   simpa using this
  ·rw [qkT (by omega), qkT (by omega)]
 ·rw [if_neg hj, if_neg hj]
theorem qeB (l : List (Int × Int)) : (eLines l).Pairwise (· < ·) := (eFold l [] List.Pairwise.nil).1
theorem qiw (W : List Int) (ls : List Int) : (homesC W ls).map (·.1) = ls.map fun ln => 16 + ln := by
 unfold homesC; rw [List.map_map]; rfl
theorem qg9 (W : List Int) (E : List (Int × Int)) : ((homesC W (eLines E)).map (·.1)).Nodup := by
 rw [qiw]
 unfold List.Nodup
 rw [List.pairwise_map]
 exact (qeB E).imp fun h => by omega
theorem qjJ {m : Nat} {ws : List Int} {E : List (Int × Int)} (hl : ws.length = 8 * m) (hin : ∀ e ∈ E, 0 ≤ e.1 ∧ e.1 < 8 * (m : Int)) :
    upd (linesOf m ws) (homesC (applyE ws E) (eLines E)) = linesOf m (applyE ws E) := by
  have hlen : (applyE ws E).length = ws.length := qaf E ws
  have h0 : ∀ x ∈ eLines E, 0 ≤ x := fun x hx => by
    obtain ⟨e, he, h0, rfl⟩ := qcm.1 hx
    omega
  have h16 : ∀ q ∈ homesC (applyE ws E) (eLines E), 16 ≤ q.1 := by
    intro q hq
    unfold homesC at hq
    rw [qlk] at hq
    obtain ⟨ln, hln, rfl⟩ := hq
    have := h0 ln hln
    simp only; omega
  apply qlb
  intro i
  by_cases hi : i < m
  · have e1 : (upd (linesOf m ws) (homesC (applyE ws E) (eLines E))).length = m := by rw [upd_len, qcs]
    have e2 : (linesOf m (applyE ws E)).length = m := qcs
    have key : (upd (linesOf m ws) (homesC (applyE ws E) (eLines E))).getD i [] = (linesOf m (applyE ws E)).getD i [] := by
      rw [qc7 hi]
      by_cases hx : (i : Int) ∈ eLines E
      · have hq : ((16 + (i : Int), lineOf (applyE ws E) i) : Int × List Int) ∈ homesC (applyE ws E) (eLines E) := by
          unfold homesC
          rw [qlk]
          exact ⟨(i : Int), hx, by simp⟩
        rw [upd_in h16 (qg9 _ _) hq (by simp) (by rw [qcs]; exact hi)]
      · have hne : ∀ q ∈ homesC (applyE ws E) (eLines E), q.1 ≠ ((16 + i : Nat) : Int) := by
          intro q hq he
          unfold homesC at hq
          rw [qlk] at hq
          obtain ⟨ln, hln, rfl⟩ := hq
          simp only at he
          exact hx (by have : ln = (i : Int) := by omega
                       rw [← this]; exact hln)
        rw [qfa h16 hne, qc7 hi]
        refine (qi4 hlen fun w h1 h2 => qhx fun e he hw => hx ?_).symm
        have := hin e he
        exact qcm.2 ⟨e, he, this.1, by omega⟩
    rw [qkP, qkP, qkO (by omega), qkO (by omega)] at key
    rw [qkO (by omega), qkO (by omega)]
    simpa using key
  · rw [qkT (by rw [upd_len, qcs]; omega), qkT (by rw [qcs]; omega)]
theorem qgO {m : Nat} {W : List Int} {ls : List Int} (h64 : qah W) (hl : W.length = 8 * m) (hm : m ≤ 64) (hls : ∀ ln ∈ ls, 0 ≤ ln ∧ ln < (m : Int)) : ∀ q ∈ homesC W ls, qbR q := by
 intro q hq
 unfold homesC at hq
 rw [qlk] at hq
 obtain ⟨ln, hln, rfl⟩ := hq
 have := hls ln hln
 exact ⟨by unfold isI; simp only; omega, qcE h64 (by omega)⟩
theorem qf4 {m : Nat} {W : List Int} {E : List (Int × Int)} (hls : ∀ ln ∈ eLines E, 0 ≤ ln ∧ ln < (m : Int)) (h1 : 1 ≤ (eLines E).length) (h14 : (eLines E).length ≤ 14) : MayL ((16 + m : Nat) : Int) (homesC W (eLines E)) := by
 have hlen : (homesC W (eLines E)).length = (eLines E).length := by simp [homesC]
 have hat : ∀ i (hi : i < (eLines E).length), lnAt (homesC W (eLines E)) i = 16 + (eLines E)[i] := fun i hi => by
  unfold lnAt homesC
  rw [qkP, qkZ, qkO hi]; rfl
 have hs := List.pairwise_iff_getElem.1 (qeB E)
 refine ⟨by omega, by omega, by omega, fun i hi => ?_⟩
 rw [hlen] at hi
 rw [hat i hi]
 have := hls _ (qk5 hi)
 refine ⟨by omega, by omega, fun j hj => ?_⟩
 rw [hat j (by omega)]
 have := hs j i (by omega) hi hj
 omega
section
variable {n sp per : Nat} {M M' : Mem} {mvb len pt : Nat}
theorem qcg {i v : Int} {r : Nat} (h : (r : Int) ≠ i) : (M.set i v).1.regs.getD r 0 = M.regs.getD r 0 := by
 have hw : M.wr.regs = M.regs := Mem.wr_regs
 unfold Mem.set
 split
 ·rename_i hi
  split
  ·rfl
  ·simp only
   split
   ·unfold regIn at hi
    simp only [qkP]
    rw [qle (by omega)]
   ·rw [hw]
 ·rfl
theorem qex (hn : 1 ≤ n) : ∀ {L : List (Int × List Int)} {M : Mem} {pt mvb : Nat}, PSt n sp per M pt mvb len → M.down = false → mvb + L.length < 4611686018427387904 → (∀ q ∈ L, 0 ≤ q.1 ∧ q.1 < n ∧ isLine q.2) →
  (∀ r, (r = 1 ∨ r = 2 ∨ 19 ≤ r) → (tputs n sp per L M pt).1.regs.getD r 0 = M.regs.getD r 0) ∧ ((tputs n sp per L M pt).2.2 = 3 → LV (tputs n sp per L M pt).1 (n + 1) sp sp) ∧ (∀ k, LV M (n + 1) sp k → ∃ k', k ≤ k' ∧ LV (tputs n sp per L M pt).1 (n + 1) sp k') := by
 intro L
 induction L with
 | nil => intro M pt mvb h hup _ _; exact ⟨fun r _ => rfl, fun h => by simp [tputs] at h, fun k hk => ⟨k, qkV _, hk⟩⟩
 | cons q r ih =>
  intro M pt mvb h hup hb hL
  simp only [qk3] at hb ⊢
  obtain ⟨hq0, hqn, hql⟩ := hL q (by simp)
  obtain ⟨k, hlv⟩ := h.lv
  have hmv := h.mv
  obtain ⟨ln, hln⟩ := qk9 hq0
  have hP := fun (k : Nat) (hlv : LV M (n + 1) sp k) => (qdB (sp := sp) (k := k) (line := ln) (period := per) (puts := pt) (d := q.2) hlv hn h.ok (by omega) hup (by omega) hql.1).1
  have hps := h.tput hn (by omega) (line := q.1) hql
  have hdef : tputs n sp per (q :: r) M pt = if (tput n sp per M pt q.1 q.2).2.2 = 0 then tputs n sp per r (tput n sp per M pt q.1 q.2).1 (tput n sp per M pt q.1 q.2).2.1 else tput n sp per M pt q.1 q.2 := rfl
  rw [hdef]
  rw [← hln] at hP
  generalize tput n sp per M pt q.1 q.2 = R at *
  have hP0 := hP k hlv
  by_cases e : R.2.2 = 0
  ·rw [if_pos e]
   have hup' : R.1.down = false := by
    rcases hP0.res with ⟨_, h, _⟩ | ⟨e', _⟩ | ⟨e', _⟩
    ·exact h
    ·omega
    ·omega
   obtain ⟨i1, i2, i3⟩ := ih hps hup' (by omega) (fun q' hq' => hL q' (by simp [hq']))
   refine ⟨fun rr hrr => by rw [i1 rr hrr, hP0.regs rr hrr], i2, fun k0 hk0 => ?_⟩
   obtain ⟨k1, hk1, hlv1, _⟩ := (hP k0 hk0).lv
   obtain ⟨k2, hk2, hlv2⟩ := i3 k1 hlv1
   exact ⟨k2, by omega, hlv2⟩
  ·rw [if_neg e]
   refine ⟨hP0.regs, fun h3 => ?_, fun k0 hk0 => ?_⟩
   ·obtain ⟨k1, hk1, hlv1, h2⟩ := hP0.lv
    have := h2 h3
    subst this
    exact hlv1
   ·obtain ⟨k1, hk1, hlv1, _⟩ := (hP k0 hk0).lv
    exact ⟨k1, hk1, hlv1⟩
theorem LV.low {k : Nat} (h : LV M n sp k) (hc : M'.cs.length = M.cs.length) (hr : ∀ r, 3 ≤ r → r < 19 → M'.regs.getD r 0 = M.regs.getD r 0) : LV M' n sp k := by
 have h16 := h.sp16
 have hk := h.kle
 have hw : ∀ i, i < sp → M'.whose i = M.whose i := fun i hi => hr _ (by omega) (by omega)
 exact ⟨by rw [hc]; exact h.len, h.n1, h.sp16, h.kle, fun i hi => by rw [hw i (by omega)]; exact h.used i hi, fun i hi hi' => by rw [hw i hi']; exact h.free i hi hi'⟩
theorem LV.set1 {k : Nat} {v : Int} (h : LV M n sp k) : LV (M.set 1 v).1 n sp k := h.low Mem.set_len fun r h1 h2 => qcg (by omega)
theorem qhK {l : List (Int × List Int)} (h : PSt n sp per M pt mvb len) (hn : 16 < n ∧ n ≤ 1000) (hup : M.down = false) (hb : mvb + 1000 < 4611686018427387904) (hok : ∀ q ∈ l, qbR q) :
  (∀ r, (r = 2 ∨ 19 ≤ r) → (comN n sp per l M pt).1.regs.getD r 0 = M.regs.getD r 0) ∧
  (MayL n l → commits M = 0 → (comN n sp per l M pt).1.down = false → (comN n sp per l M pt).2.2 = 3 ∨ commits (comN n sp per l M pt).1 ≠ 0 → LV (comN n sp per l M pt).1 (n + 1) sp sp) ∧
  (∀ k, LV M (n + 1) sp k → ∃ k', k ≤ k' ∧ LV (comN n sp per l M pt).1 (n + 1) sp k') ∧
  (MayL n l → commits M = 0 → (comN n sp per l M pt).2.2 = 0 ∨ (comN n sp per l M pt).2.2 = 2 ∨ (comN n sp per l M pt).2.2 = 3) := by
 by_cases hm : MayL n l
 rotate_left 1
 ·have e : comN n sp per l M pt = (M, pt, 1) := by unfold comN; rw [if_pos hm]
  rw [e]
  exact ⟨fun _ _ => rfl, fun h => absurd h hm, fun k hk => ⟨k, qkV _, hk⟩, fun h => absurd h hm⟩
 by_cases hc : commits M = 0
 rotate_left 1
 ·have e : comN n sp per l M pt = (M, pt, 5) := by unfold comN; rw [if_neg (fun hh => hh hm), if_neg (by simp [hup]), if_pos hc]
  rw [e]
  exact ⟨fun _ _ => rfl, fun _ h => absurd h hc, fun k hk => ⟨k, qkV _, hk⟩, fun _ h => absurd h hc⟩
 have hl14 := hm.2.2.1
 have hl1 := hm.2.1
 have hidx : idxN l.length ≤ 2 := by unfold idxN; omega
 have hlen : (rowsN l).length = idxN l.length + l.length := qbJ l (qkV _)
 have hrl := qcT l
 have hro := qc6 hok (by omega)
 have hrm : ∀ q ∈ rowPuts l, 0 ≤ q.1 ∧ q.1 < n ∧ isLine q.2 := by
  intro q hq
  have h2 := (hro q hq).line
  obtain ⟨i, hi, rfl⟩ := qd9 hq
  exact ⟨by simp only; omega, by simp only; omega, h2⟩
 obtain ⟨r1, r2, r3⟩ := qex (by omega) h hup (by omega) hrm
 obtain ⟨a1, a2, a3, a4⟩ := qck (by omega) h hup (by omega) hrm (qcV l)
 have hps := h.puts (by omega) (l := rowPuts l) (by omega) hro
 unfold comN
 rw [if_neg (fun hh => hh hm), if_neg (by simp [hup]), if_neg (by simp [hc])]
 generalize tputs n sp per (rowPuts l) M pt = R at *
 have hcR : commits R.1 = commits M := by unfold commits; exact a4 1 (.inl rfl)
 by_cases e0 : R.2.2 = 0
 rotate_left 1
 ·rw [if_pos e0]
  refine ⟨fun r hr => r1 r (by omega), fun _ _ _ hh => ?_, r3, fun _ _ => ?_⟩
  ·rcases hh with hh | hh
   ·exact r2 hh
   ·exact absurd (hcR.trans hc) hh
  ·rcases a1 with ⟨h, _⟩ | ⟨h, _⟩ | ⟨h, _⟩
   ·exact .inl h
   ·exact .inr (.inr h)
   ·exact .inr (.inl h)
 rw [if_neg (by omega)]
 have hRup : R.1.down = false := by
  rcases a1 with ⟨_, h, _⟩ | ⟨e', _⟩ | ⟨e', _⟩
  ·exact h
  ·omega
  ·omega
 obtain ⟨s1, s2⟩ := qcZ (v := (l.length : Int)) hps hRup
 have hps2 := hps.set1 (v := (l.length : Int)) (by unfold isU; omega)
 have g1 : ∀ r, (r = 2 ∨ 19 ≤ r) → (R.1.set 1 (l.length : Int)).1.regs.getD r 0 = M.regs.getD r 0 := fun r hr => by rw [qcg (by omega), r1 r (by omega)]
 have g3 : ∀ k, LV M (n + 1) sp k → ∃ k', k ≤ k' ∧ LV (R.1.set 1 (l.length : Int)).1 (n + 1) sp k' := fun k hk => by
  obtain ⟨k', h1, h2⟩ := r3 k hk
  exact ⟨k', h1, h2.set1⟩
 generalize R.1.set 1 (l.length : Int) = S at *
 by_cases e1 : S.2 = 0
 rotate_left 1
 ·rw [if_pos e1]
  refine ⟨g1, fun _ _ hd _ => ?_, g3, fun _ _ => ?_⟩
  ·rcases s1 with ⟨e', _⟩ | ⟨_, hd', _⟩
   ·exact absurd e' e1
   ·simp only at hd; rw [hd'] at hd; cases hd
  ·rcases s1 with ⟨e', _⟩ | ⟨e', _⟩
   ·exact .inl e'
   ·exact .inr (.inl e')
 rw [if_neg (by omega)]
 have hSup : S.1.down = false := by
  rcases s1 with ⟨_, h, _⟩ | ⟨e', _⟩
  ·exact h
  ·omega
 have hlm : ∀ q ∈ l, 0 ≤ q.1 ∧ q.1 < n ∧ isLine q.2 := fun q hq => by have := qcn hm hq; exact ⟨by omega, this.2, (hok q hq).line⟩
 obtain ⟨t1, t2, t3⟩ := qex (pt := R.2.1) (by omega) hps2 hSup (by omega) hlm
 obtain ⟨b1, _, _, b4⟩ := qck (pt := R.2.1) (by omega) hps2 hSup (by omega) hlm (qc4 hm)
 have hps3 := hps2.puts (by omega) (l := l) (by omega) hok
 unfold finN
 simp only
 generalize tputs n sp per l S.1 R.2.1 = T at *
 have u3 : ∀ k, LV M (n + 1) sp k → ∃ k', k ≤ k' ∧ LV T.1 (n + 1) sp k' := fun k hk => by
  obtain ⟨k', h1, h2⟩ := g3 k hk
  obtain ⟨k2, h3, h4⟩ := t3 k' h2
  exact ⟨k2, by omega, h4⟩
 have u1 : ∀ r, (r = 2 ∨ 19 ≤ r) → T.1.regs.getD r 0 = M.regs.getD r 0 := fun r hr => by rw [t1 r (by omega), g1 r hr]
 by_cases e2 : T.2.2 = 0
 ·rw [if_pos e2]
  have hTup : T.1.down = false := by
   rcases b1 with ⟨_, h, _⟩ | ⟨e', _⟩ | ⟨e', _⟩
   ·exact h
   ·omega
   ·omega
  obtain ⟨z1, z2⟩ := qcZ (v := 0) hps3 hTup
  refine ⟨fun r hr => by rw [qcg (by omega), u1 r hr], fun _ _ hd hh => ?_, fun k hk => ?_, fun _ _ => ?_⟩
  ·simp only at hd hh
   rcases z1 with ⟨e', _, c⟩ | ⟨_, hd', _⟩
   ·rcases hh with hh | hh
    ·omega
    ·exact absurd c hh
   ·rw [hd'] at hd; cases hd
  ·obtain ⟨k', h1, h2⟩ := u3 k hk
   exact ⟨k', h1, h2.set1⟩
  ·rcases z1 with ⟨e', _⟩ | ⟨e', _⟩
   ·exact .inl e'
   ·exact .inr (.inl e')
 rw [if_neg e2]
 by_cases e3 : T.2.2 = 3
 ·rw [if_pos e3]
  exact ⟨u1, fun _ _ _ _ => t2 e3, u3, fun _ _ => .inl rfl⟩
 rw [if_neg e3]
 refine ⟨u1, fun _ _ hd hh => ?_, u3, fun _ _ => ?_⟩
 ·rcases b1 with ⟨e', _⟩ | ⟨e', _⟩ | ⟨_, hd', _⟩
  ·exact absurd e' e2
  ·exact absurd e' e3
  ·rw [hd'] at hd; cases hd
 ·rcases b1 with ⟨e', _⟩ | ⟨e', _⟩ | ⟨e', _⟩
  ·exact .inl e'
  ·exact .inr (.inr e')
  ·exact .inr (.inl e')
end
section
variable {H : AH}
def atN (pt : Int) : List Bk → Nat → Int
 | [], _ => -1
 | b :: r, i => if b.1 ≤ pt ∧ 0 < b.2.1 ∧ pt - b.1 < b.2.1 then (i : Int) else atN pt r (i + 1)
end
def hdr (b : Bk) : Int := 2 * b.2.1 + (if b.2.2 = true then 1 else 0)
theorem qhO (b : Bk) : hdr b / 2 = b.2.1 := by unfold hdr; split <;> omega
theorem qkD (b : Bk) : (hdr b % 2 == 1) = b.2.2 := by
 obtain ⟨p, z, u⟩ := b
 unfold hdr
 cases u
 ·simp only [qkW, if_false]
  rw [show (2 * z + 0) % 2 = 0 by omega]; rfl
 ·simp only [if_true]
  rw [show (2 * z + 1) % 2 = 1 by omega]; rfl
theorem qd0 {b : Bk} (h : mayS b.2.1) : wordN b.2.1 b.2.2 = hdr b := by unfold wordN hdr; rw [if_pos h]
theorem qiT {ws : List Int} : ∀ {l : List Bk} {pt : Nat} {pu : Bool}, chainB ws.length pt pu l → (∀ b ∈ l, ws.getD b.1.toNat 0 = hdr b) → blkFrom ws pt = some l := by
 intro l
 induction l with
 | nil =>
  intro pt pu h _
  simp only [chainB] at h
  rw [qdc, dif_neg (by omega)]
 | cons b r ih =>
  intro pt pu h hh
  obtain ⟨h1, h2, h3, h4, h5⟩ := h
  have hs := h2
  unfold mayS at hs
  have hb := hh b (by simp)
  rw [h1, qkS] at hb
  have hm : mayS (ws.getD pt 0 / 2) := by rw [hb, qhO]; exact h2
  rw [qdc, dif_pos (by omega), dif_pos hm]
  rw [hb, qhO, qkD]
  have e : ((pt + b.2.1.toNat : Nat) : Int) = (pt : Int) + b.2.1 := by omega
  rw [ih (pt := pt + b.2.1.toNat) (pu := b.2.2) (by rw [e]; exact h5) fun b' hb' => hh b' (by simp [hb'])]
  simp only [qlg, Option.some.injEq, ql8, and_true]
  obtain ⟨b1, b2, b3⟩ := b
  simp only at h1 ⊢
  rw [h1]
theorem qh4 {ws : List Int} (h64 : qah ws) : ∀ {l : List Bk} {pt : Nat}, blkFrom ws pt = some l → ∀ b ∈ l, ws.getD b.1.toNat 0 = hdr b := by
 intro l
 induction l with
 | nil => intro pt _ b hb; cases hb
 | cons a r ih =>
  intro pt h b hb
  rw [qdc] at h
  split at h
  ·rename_i hlt
   split at h
   ·rename_i hm
    rw [Option.map_eq_some_iff] at h
    obtain ⟨r', h1, h2⟩ := h
    injection h2 with h2 h3
    subst h3
    rw [qk8] at hb
    rcases hb with rfl | hb
    ·rw [← h2]
     simp only [qkS]
     have hv : 0 ≤ ws.getD pt 0 := by
      rw [qkP, qkO hlt]
      exact (h64 _ (qk5 hlt)).1
     generalize ws.getD pt 0 = v at *
     unfold hdr
     simp only [beq_iff_eq]
     split <;> omega
    ·exact ih h1 b hb
   ·cases h
  ·injection h with h; cases h
theorem qhY {ws : List Int} {l : List Bk} (h64 : qah ws) : blocksN ws = some l ↔ MayB l ws.length ∧ ∀ b ∈ l, ws.getD b.1.toNat 0 = hdr b := by
 constructor
 ·intro h
  refine ⟨qa0 h, ?_⟩
  unfold blocksN at h
  rw [Option.bind_eq_some_iff] at h
  obtain ⟨l', h1, h2⟩ := h
  split at h2
  ·injection h2 with h2; subst h2; exact qh4 h64 h1
  ·cases h2
 ·intro ⟨h1, h2⟩
  unfold blocksN
  rw [qiT (pt := 0) h1.2 h2, Option.bind_some, if_pos h1]
abbrev Ex : Type := Int × Int × List Int
def gapB (p q : Int) : List Bk := if p < q then [(p, q - p, false)] else []
def bg : Int → List Ex → List Bk
 | _, [] => []
 | p, x :: r => gapB p x.1 ++ (x.1, x.2.1, true) :: bg (x.1 + x.2.1) r
def endX : Int → List Ex → Int
 | p, [] => p
 | _, x :: r => endX (x.1 + x.2.1) r
def blkX (words : Int) (ext : List Ex) : List Bk := bg 0 ext ++ gapB (endX 0 ext) words
def tailB (words : Int) : List Ex → List Bk
 | [] => []
 | x :: r => (x.1, x.2.1, true) :: (bg (x.1 + x.2.1) r ++ gapB (endX (x.1 + x.2.1) r) words)
def startX (words : Int) : List Ex → Int
 | [] => words
 | x :: _ => x.1
theorem qdE (words p : Int) (e : List Ex) : bg p e ++ gapB (endX p e) words = gapB p (startX words e) ++ tailB words e := by
 cases e with
 | nil => simp [bg, endX, startX, tailB]
 | cons x r => simp [bg, endX, startX, tailB]
theorem bg_app : ∀ (e1 e2 : List Ex) (p : Int), bg p (e1 ++ e2) = bg p e1 ++ bg (endX p e1) e2 := by
 intro e1
 induction e1 with
 | nil => intro e2 p; rfl
 | cons x r ih => intro e2 p; simp [bg, endX, ih]
theorem qen : ∀ (e1 e2 : List Ex) (p : Int), endX p (e1 ++ e2) = endX (endX p e1) e2 := by
 intro e1
 induction e1 with
 | nil => intro e2 p; rfl
 | cons x r ih => intro e2 p; simp [endX, ih]
theorem qcc (words : Int) (e1 e2 : List Ex) : blkX words (e1 ++ e2) = bg 0 e1 ++ (gapB (endX 0 e1) (startX words e2) ++ tailB words e2) := by
 unfold blkX
 rw [bg_app, qen, qmb, qdE]
def ExPre (words : Int) : Int → List Ex → Prop
 | _, [] => True
 | p, x :: r => (p = x.1 ∨ p + 2 ≤ x.1) ∧ 2 ≤ x.2.1 ∧ x.1 + x.2.1 ≤ words ∧ ExPre words (x.1 + x.2.1) r
def ExOK (words p : Int) (e : List Ex) : Prop := ExPre words p e ∧ (endX p e = words ∨ endX p e + 2 ≤ words)
theorem qjr {words : Int} : ∀ {e1 e2 : List Ex} {p : Int}, ExPre words p (e1 ++ e2) ↔ ExPre words p e1 ∧ ExPre words (endX p e1) e2 := by
 intro e1
 induction e1 with
 | nil => intro e2 p; simp [ExPre, endX]
 | cons x r ih => intro e2 p; simp only [qlr, ExPre, endX, ih]; constructor <;> (rintro h; simp_all)
theorem qcJ {words p : Int} {e1 e2 : List Ex} : ExOK words p (e1 ++ e2) ↔ ExPre words p e1 ∧ ExOK words (endX p e1) e2 := by
 unfold ExOK
 rw [qjr, qen, and_assoc]
theorem qc3 {words : Int} : ∀ {e : List Ex} {p : Int}, ExPre words p e → p ≤ endX p e ∧ (p ≤ words → endX p e ≤ words) := by
 intro e
 induction e with
 | nil => intro p _; exact ⟨Int.le_refl _, fun h => h⟩
 | cons x r ih =>
  intro p h
  obtain ⟨h1, h2, h3, h4⟩ := h
  have := ih h4
  simp only [endX]
  exact ⟨by omega, fun _ => this.2 h3⟩
theorem qdy {words p : Int} {e : List Ex} (h : ExOK words p e) : p = startX words e ∨ p + 2 ≤ startX words e := by
 cases e with
 | nil => exact h.2
 | cons x r => exact h.1.1
theorem qeJ {words p : Int} {e : List Ex} (h : ExOK words p e) : startX words e ≤ words := by
 cases e with
 | nil => exact Int.le_refl _
 | cons x r => have := h.1.2.1; have := h.1.2.2.1; simp only [startX]; omega
theorem qgS {words p q : Int} {e : List Ex} (h : ExOK words p e) (hq : q = startX words e ∨ q + 2 ≤ startX words e) : ExOK words q e := by
 cases e with
 | nil => exact ⟨trivial, hq⟩
 | cons x r => exact ⟨⟨hq, h.1.2⟩, h.2⟩
theorem qc5 {words p : Int} {x : Ex} {e : List Ex} (h : ExOK words p (x :: e)) : (p = x.1 ∨ p + 2 ≤ x.1) ∧ 2 ≤ x.2.1 ∧ x.1 + x.2.1 ≤ words ∧ ExOK words (x.1 + x.2.1) e :=
 ⟨h.1.1, h.1.2.1, h.1.2.2.1, h.1.2.2.2, h.2⟩
theorem qgD {words p : Int} {x : Ex} {e : List Ex} (h1 : p = x.1 ∨ p + 2 ≤ x.1) (h2 : 2 ≤ x.2.1) (h3 : x.1 + x.2.1 ≤ words) (h : ExOK words (x.1 + x.2.1) e) : ExOK words p (x :: e) :=
 ⟨⟨h1, h2, h3, h.1⟩, h.2⟩
theorem qi1 {words : Int} (hw : mayW words) : ∀ {e : List Ex} {p : Int}, 0 ≤ p → ExOK words p e → chainB words p true (bg p e ++ gapB (endX p e) words) := by
 have hw' := hw
 unfold mayW at hw'
 intro e
 induction e with
 | nil =>
  intro p hp h
  have h2 := h.2
  simp only [endX] at h2
  simp only [bg, endX, qlA]
  unfold gapB
  split
  ·simp only [chainB]
   refine ⟨trivial, ?_, Int.le_refl _, .inl trivial, by omega⟩
   unfold mayS; omega
  ·simp only [chainB]; omega
 | cons x r ih =>
  intro p hp h
  obtain ⟨h1, h2, h3, h4⟩ := qc5 h
  have hc := ih (p := x.1 + x.2.1) (by omega) h4
  simp only [bg, endX, qmb, qlr]
  unfold gapB at *
  split
  ·simp only [qlr, qlA, chainB]
   refine ⟨trivial, by unfold mayS; omega, by omega, .inl trivial, by omega, by unfold mayS; omega, by omega, .inr trivial, ?_⟩
   rw [show p + (x.1 - p) + x.2.1 = x.1 + x.2.1 by omega]
   exact hc
  ·simp only [qlA, chainB]
   refine ⟨by omega, by unfold mayS; omega, by omega, .inl trivial, ?_⟩
   rw [show p + x.2.1 = x.1 + x.2.1 by omega]
   exact hc
theorem qj7 {words : Int} (hw : mayW words) {e : List Ex} (h : ExOK words 0 e) : MayB (blkX words e) words := ⟨hw, qi1 hw (Int.le_refl 0) h⟩
theorem bg_mem {words : Int} : ∀ {e : List Ex} {p : Int}, ExPre words p e → ∀ b ∈ bg p e, p ≤ b.1 ∧ b.1 + b.2.1 ≤ endX p e ∧ 2 ≤ b.2.1 := by
 intro e
 induction e with
 | nil => intro p _ b hb; cases hb
 | cons x r ih =>
  intro p h b hb
  obtain ⟨h1, h2, h3, h4⟩ := h
  have he := qc3 h4
  simp only [bg, qk4, qk8] at hb
  simp only [endX]
  rcases hb with hb | rfl | hb
  ·unfold gapB at hb
   split at hb
   ·simp only [qk8, qma, or_false] at hb; subst hb; simp only; omega
   ·cases hb
  ·simp only; omega
  ·have := ih h4 b hb; omega
theorem ex_mem {words : Int} : ∀ {e : List Ex} {p : Int}, ExPre words p e → ∀ x ∈ e, p ≤ x.1 ∧ x.1 + x.2.1 ≤ endX p e ∧ 2 ≤ x.2.1 := by
 intro e
 induction e with
 | nil => intro p _ b hb; cases hb
 | cons x r ih =>
  intro p h b hb
  obtain ⟨h1, h2, h3, h4⟩ := h
  have he := qc3 h4
  simp only [endX]
  rw [qk8] at hb
  rcases hb with rfl | hb
  ·omega
  ·have := ih h4 b hb; omega
theorem qeq {words : Int} {e : List Ex} {p : Int} (h : ExOK words p e) : ∀ b ∈ tailB words e, startX words e ≤ b.1 := by
 cases e with
 | nil => intro b hb; cases hb
 | cons x r =>
  obtain ⟨h1, h2, h3, h4⟩ := qc5 h
  intro b hb
  simp only [tailB, qk8, qk4] at hb
  simp only [startX]
  have he := qc3 h4.1
  rcases hb with rfl | hb | hb
  ·exact Int.le_refl _
  ·have := bg_mem h4.1 b hb; omega
  ·unfold gapB at hb
   split at hb
   ·simp only [qk8, qma, or_false] at hb; subst hb; simp only; omega
   ·cases hb
theorem qiE {words : Int} : ∀ {e : List Ex} {p : Int} {i : Nat} {b : Bk}, (bg p e ++ gapB (endX p e) words)[i]? = some b → b.2.2 = false →
  ∃ e1 e2, e = e1 ++ e2 ∧ i = (bg p e1).length ∧ b = (endX p e1, startX words e2 - endX p e1, false) ∧ endX p e1 < startX words e2 := by
 intro e
 induction e with
 | nil =>
  intro p i b h hu
  simp only [bg, endX, qlA] at h
  unfold gapB at h
  split at h
  ·cases i with
   | zero => simp at h; subst h; exact ⟨[], [], rfl, rfl, rfl, by simpa [endX, startX]⟩
   | succ i => simp at h
  ·simp at h
 | cons x r ih =>
  intro p i b h hu
  simp only [bg, endX, qmb, qlr] at h
  unfold gapB at h
  split at h
  ·rename_i hlt
   cases i with
   | zero => simp at h; subst h; exact ⟨[], x :: r, rfl, rfl, rfl, by simpa [endX, startX]⟩
   | succ i =>
    cases i with
    | zero => simp at h; subst h; simp at hu
    | succ i =>
     simp only [qlr, qlA, qlx] at h
     obtain ⟨e1, e2, h1, h2, h3, h4⟩ := ih (i := i) h hu
     refine ⟨x :: e1, e2, by rw [h1]; rfl, ?_, by simpa [endX] using h3, by simpa [endX] using h4⟩
     simp only [bg, qlt, qk3]
     unfold gapB
     rw [if_pos hlt]; simp; omega
  ·rename_i hlt
   cases i with
   | zero => simp at h; subst h; simp at hu
   | succ i =>
    simp only [qlA, qlx] at h
    obtain ⟨e1, e2, h1, h2, h3, h4⟩ := ih (i := i) h hu
    refine ⟨x :: e1, e2, by rw [h1]; rfl, ?_, by simpa [endX] using h3, by simpa [endX] using h4⟩
    simp only [bg, qlt, qk3]
    unfold gapB
    rw [if_neg hlt]; simp; omega
theorem qgd {words : Int} : ∀ {e : List Ex} {p : Int} {i : Nat} {b : Bk}, (bg p e ++ gapB (endX p e) words)[i]? = some b → b.2.2 = true →
  ∃ e1 x e2, e = e1 ++ x :: e2 ∧ i = (bg p e1).length + (gapB (endX p e1) x.1).length ∧ b = (x.1, x.2.1, true) := by
 intro e
 induction e with
 | nil =>
  intro p i b h hu
  simp only [bg, endX, qlA] at h
  unfold gapB at h
  split at h
  ·cases i with
   | zero => simp at h; subst h; simp at hu
   | succ i => simp at h
  ·simp at h
 | cons x r ih =>
  intro p i b h hu
  simp only [bg, endX, qmb, qlr] at h
  unfold gapB at h
  split at h
  ·rename_i hlt
   cases i with
   | zero => simp at h; subst h; simp at hu
   | succ i =>
    cases i with
    | zero =>
     simp at h; subst h
     refine ⟨[], x, r, rfl, ?_, rfl⟩
     have e0 : (gapB p x.1).length = 1 := by unfold gapB; rw [if_pos hlt]; rfl
     show 0 + 1 = 0 + (gapB p x.1).length
     omega
    | succ i =>
     simp only [qlr, qlA, qlx] at h
     obtain ⟨e1, y, e2, h1, h2, h3⟩ := ih (i := i) h hu
     refine ⟨x :: e1, y, e2, by rw [h1]; rfl, ?_, h3⟩
     simp only [bg, endX, qlt, qk3]
     have e0 : (gapB p x.1).length = 1 := by unfold gapB; rw [if_pos hlt]; rfl
     omega
  ·rename_i hlt
   cases i with
   | zero =>
    simp at h; subst h
    refine ⟨[], x, r, rfl, ?_, rfl⟩
    have e0 : (gapB p x.1).length = 0 := by unfold gapB; rw [if_neg hlt]; rfl
    show 0 = 0 + (gapB p x.1).length
    omega
   | succ i =>
    simp only [qlA, qlx] at h
    obtain ⟨e1, y, e2, h1, h2, h3⟩ := ih (i := i) h hu
    refine ⟨x :: e1, y, e2, by rw [h1]; rfl, ?_, h3⟩
    simp only [bg, endX, qlt, qk3]
    have e0 : (gapB p x.1).length = 0 := by unfold gapB; rw [if_neg hlt]; rfl
    omega
theorem qg7 {words : Int} {e : List Ex} {b : Bk} (hb : b ∈ blkX words e) (hu : b.2.2 = true) : ∃ x ∈ e, b = (x.1, x.2.1, true) := by
 obtain ⟨i, hi⟩ := List.mem_iff_getElem?.1 hb
 obtain ⟨e1, x, e2, h1, _, h3⟩ := qgd hi hu
 exact ⟨x, by rw [h1]; simp, h3⟩
theorem ex_used {words : Int} {e1 e2 : List Ex} {x : Ex} : (blkX words (e1 ++ x :: e2))[(bg 0 e1).length + (gapB (endX 0 e1) x.1).length]? = some (x.1, x.2.1, true) := by
 rw [qcc, qld (by omega), qld (by simp [startX])]
 simp [startX, tailB]
theorem qha {words : Int} {e : List Ex} {x : Ex} (hx : x ∈ e) : (x.1, x.2.1, true) ∈ blkX words e := by
 obtain ⟨e1, e2, rfl⟩ := ql2 hx
 exact qkY ex_used
theorem ex_uniq {words : Int} : ∀ {e1 e2 e1' e2' : List Ex} {x x' : Ex} {p : Int}, ExPre words p (e1 ++ x :: e2) → e1 ++ x :: e2 = e1' ++ x' :: e2' → x.1 = x'.1 → e1 = e1' ∧ x = x' ∧ e2 = e2' := by
 intro e1
 induction e1 with
 | nil =>
  intro e2 e1' e2' x x' p h he hx
  cases e1' with
  | nil => simp only [qlA, ql8] at he; exact ⟨rfl, he.1, he.2⟩
  | cons y r =>
   simp only [qlA, qlr, ql8] at he
   obtain ⟨rfl, rfl⟩ := he
   obtain ⟨h1, h2, h3, h4⟩ := h
   have := ex_mem h4 x' (by simp)
   omega
 | cons y r ih =>
  intro e2 e1' e2' x x' p h he hx
  cases e1' with
  | nil =>
   simp only [qlA, qlr, ql8] at he
   obtain ⟨rfl, rfl⟩ := he
   obtain ⟨h1, h2, h3, h4⟩ := h
   have := ex_mem h4 x (by simp)
   omega
  | cons y' r' =>
   simp only [qlr, ql8] at he
   obtain ⟨rfl, he⟩ := he
   obtain ⟨h1, h2, h3, h4⟩ := h
   obtain ⟨a, b, c⟩ := ih h4 he hx
   exact ⟨by rw [a], b, c⟩
theorem qgb (ws : List Int) (a b : List (Int × Int)) : applyE ws (a ++ b) = applyE (applyE ws a) b := List.foldl_append ..
theorem qdS {ws : List Int} {i : Nat} {v : Int} (w : Nat) (hi : i < ws.length) : (putE ws ((i : Int), v)).getD w 0 = if w = i then v else ws.getD w 0 := by
 unfold putE
 rw [if_pos ⟨by simp only; omega, by simp only; omega⟩]
 simp only [qkS, qkP]
 by_cases h : w = i
 ·subst h; rw [if_pos rfl, List.getElem?_set_self hi]; rfl
 ·rw [if_neg h, qle (by omega)]
theorem qgf {ws : List Int} {p : Nat} {tk : Int} : ∀ {j : Nat}, 1 ≤ j → p + j ≤ ws.length → ∀ w, (applyE ws (carveTo (p : Int) tk j)).getD w 0 = if w = p then wordN tk true else if p < w ∧ w < p + j then 0 else ws.getD w 0 := by
 intro j
 induction j with
 | zero => intro h; omega
 | succ j ih =>
  intro _ hp w
  by_cases hj : j = 0
  ·subst hj
   have e : applyE ws (carveTo (p : Int) tk (0 + 1)) = putE ws ((p : Int), wordN tk true) := rfl
   rw [e, qdS w (by omega)]
   by_cases hw : w = p
   ·rw [if_pos hw, if_pos hw]
   ·rw [if_neg hw, if_neg hw, if_neg (by omega)]
  ·rw [qe4 _ _ (by omega), qgb]
   have e : ∀ v : List Int, applyE v [((p : Int) + (j : Int), (0 : Int))] = putE v (((p + j : Nat) : Int), 0) := fun v => by
    show putE v _ = _
    rw [show (p : Int) + (j : Int) = ((p + j : Nat) : Int) by omega]
   rw [e, qdS w (by rw [qaf]; omega), ih (by omega) (by omega) w]
   by_cases hw : w = p + j
   ·rw [if_pos hw, if_neg (by omega), if_pos (by omega)]
   ·rw [if_neg hw]
    by_cases h1 : w = p
    ·rw [if_pos h1, if_pos h1]
    ·rw [if_neg h1, if_neg h1]
     by_cases h2 : p < w ∧ w < p + j
     ·rw [if_pos h2, if_pos (by omega)]
     ·rw [if_neg h2, if_neg (by omega)]
theorem qdJ {sz need : Int} (hn : 2 ≤ need ∧ need ≤ sz) : 2 ≤ takesN sz need ∧ takesN sz need ≤ sz ∧ need ≤ takesN sz need ∧ (takesN sz need = sz ∨ takesN sz need + 2 ≤ sz) := by
 unfold takesN
 rw [if_pos hn]
 split <;> omega
theorem qiu {ws : List Int} {b : Bk} {need : Int} {p : Nat} (hp : b.1 = (p : Int)) (hn : 2 ≤ need ∧ need ≤ b.2.1) (hfit : b.1 + b.2.1 ≤ ws.length) (w : Nat) :
  (applyE ws (carveE b need)).getD w 0 = if w = p then wordN (takesN b.2.1 need) true else if p < w ∧ w < p + (takesN b.2.1 need).toNat then 0 else
   if w = p + (takesN b.2.1 need).toNat ∧ takesN b.2.1 need < b.2.1 then wordN (b.2.1 - takesN b.2.1 need) false else ws.getD w 0 := by
 obtain ⟨t1, t2, _, _⟩ := qdJ hn
 unfold carveE
 rw [qgb, hp]
 generalize takesN b.2.1 need = tk at *
 have hto := qgf (ws := ws) (p := p) (tk := tk) (j := tk.toNat) (by omega) (by omega)
 by_cases hlt : tk < b.2.1
 ·rw [if_pos hlt]
  have e : ∀ v : List Int, applyE v [((p : Int) + tk, wordN (b.2.1 - tk) false)] = putE v (((p + tk.toNat : Nat) : Int), wordN (b.2.1 - tk) false) := fun v => by
   show putE v _ = _
   rw [show (p : Int) + tk = ((p + tk.toNat : Nat) : Int) by omega]
  rw [e, qdS w (by rw [qaf]; omega), hto]
  by_cases h1 : w = p + tk.toNat
  ·rw [if_pos h1, if_neg (by omega), if_neg (by omega), if_pos ⟨h1, hlt⟩]
  ·rw [if_neg h1]
   by_cases h2 : w = p
   ·rw [if_pos h2, if_pos h2]
   ·rw [if_neg h2, if_neg h2]
    split
    ·rfl
    ·rw [if_neg (by omega)]
 ·rw [if_neg hlt]
  show (applyE ws _).getD w 0 = _
  rw [hto]
  by_cases h2 : w = p
  ·rw [if_pos h2, if_pos h2]
  ·rw [if_neg h2, if_neg h2]
   split
   ·rfl
   ·rw [if_neg (by omega)]
theorem qcU {ws ws' : List Int} {a n : Nat} (h : ∀ w, a / 8 ≤ w → w * 8 < a + n → ws'.getD w 0 = ws.getD w 0) : bytesOf ws' a n = bytesOf ws a n := by
 unfold bytesOf
 refine List.map_congr_left fun j hj => ?_
 rw [qlC] at hj
 unfold byteAt
 rw [h ((a + j) / 8) (by omega) (by omega)]
theorem qg5 {ws : List Int} {a n : Nat} (h : ∀ w, a / 8 ≤ w → w * 8 < a + n → ws.getD w 0 = 0) : bytesOf ws a n = qkQ n 0 := by
 unfold bytesOf
 apply qlb
 intro i
 by_cases hi : i < n
 ·rw [qkZ, qlc hi, qmf, if_pos hi, qlg]
  unfold byteAt
  rw [h ((a + i) / 8) (by omega) (by omega)]
  simp [getB]
 ·rw [qkT (by simp; omega), qkT (by simp; omega)]
theorem qd5 (ws : List Int) (a n : Nat) : (bytesOf ws a n).length = n := by simp [bytesOf]
structure MR (words : Int) (ext : List Ex) (ws : List Int) : Prop where
 len : (ws.length : Int) = words
 mw : mayW words
 u : qah ws
 ok : ExOK words 0 ext
 hd : ∀ b ∈ blkX words ext, ws.getD b.1.toNat 0 = hdr b
 by8 : ∀ x ∈ ext, x.2.2 = bytesOf ws ((x.1.toNat + 1) * 8) ((x.2.1.toNat - 1) * 8)
section
variable {words : Int} {ext : List Ex} {ws : List Int}
theorem MR.may (h : MR words ext ws) : MayB (blkX words ext) words := qj7 h.mw h.ok
theorem MR.blocks (h : MR words ext ws) : blocksN ws = some (blkX words ext) := (qhY h.u).2 ⟨by rw [h.len]; exact h.may, h.hd⟩
theorem MR.range (h : MR words ext ws) : 8 ≤ words ∧ words ≤ 512 := ⟨h.mw.1, h.mw.2.1⟩
theorem MR.mem (h : MR words ext ws) {x : Ex} (hx : x ∈ ext) : 0 ≤ x.1 ∧ x.1 + x.2.1 ≤ words ∧ 2 ≤ x.2.1 := by
 have h1 := ex_mem h.ok.1 x hx
 have h2 := (qc3 h.ok.1).2 (by have := h.range; omega)
 omega
theorem MR.blen (h : MR words ext ws) {x : Ex} (hx : x ∈ ext) : x.2.2.length = (x.2.1.toNat - 1) * 8 := by rw [h.by8 x hx, qd5]
theorem MR.first (hw : mayW words) : MR words [] (firstN words) := by
 have hw' := hw
 unfold mayW at hw'
 have hl : (firstN words).length = words.toNat := by unfold firstN; rw [if_pos hw]; simp; omega
 refine ⟨by omega, hw, qdC _, ⟨trivial, .inr (by simp only [endX]; omega)⟩, ?_, fun x hx => (by cases hx)⟩
 intro b hb
 have e0 : blkX words [] = [((0 : Int), words - 0, false)] := by
  show gapB 0 words = _
  unfold gapB
  rw [if_pos (by omega)]
 rw [e0] at hb
 simp only [qk8, qma, or_false] at hb
 subst hb
 unfold firstN
 rw [if_pos hw]
 simp only [Int.toNat_zero, List.getD_cons_zero, Int.sub_zero]
 exact qd0 (b := (0, words, false)) (by unfold mayS; simp only; omega)
theorem MR.alloc (h : MR words ext ws) {i : Nat} {b : Bk} {need : Int} (hb : (blkX words ext)[i]? = some b) (hu : b.2.2 = false) (hn : 2 ≤ need ∧ need ≤ b.2.1) :
  ∃ e1 e2, ext = e1 ++ e2 ∧ (∀ x ∈ e1, x.1 < b.1) ∧ (∀ x ∈ e2, b.1 < x.1) ∧ MR words (e1 ++ (b.1, takesN b.2.1 need, qkQ (((takesN b.2.1 need).toNat - 1) * 8) 0) :: e2) (applyE ws (carveE b need)) := by
 obtain ⟨e1, e2, he, hi, hbe, hlt⟩ := qiE hb hu
 have hmb := h.may.mem (qkY hb)
 have hok := h.ok
 rw [he] at hok
 obtain ⟨hp1, hok2⟩ := qcJ.1 hok
 have hst := qeJ hok2
 have hs2 := qdy hok2
 obtain ⟨t1, t2, t3, t4⟩ := qdJ hn
 obtain ⟨p, hp⟩ := qk9 hmb.1
 have hb1 : b.1 = endX 0 e1 := by rw [hbe]
 have hb2 : b.2.1 = startX words e2 - endX 0 e1 := by rw [hbe]
 have hget := qiu (ws := ws) (b := b) (need := need) (p := p) hp hn (by rw [h.len]; omega)
 have hcu := (qfK (b := b) hn).1
 have hm1 := fun x hx => ex_mem hp1 x hx
 have hge2 : ∀ x ∈ e2, startX words e2 ≤ x.1 := by
  intro x hx
  have hmem := qeq (words := words) (e := e2) (p := endX 0 e1) hok2 (x.1, x.2.1, true) (by
   cases e2 with
   | nil => cases hx
   | cons y r =>
    have h3 := (qc5 hok2).2.2.2
    rw [qk8] at hx
    simp only [tailB, qk8, qk4]
    rcases hx with hx | hx
    ·left; rw [hx]
    ·right
     obtain ⟨a1, a2, ha⟩ := ql2 hx
     have := qkY (ex_used (words := words) (e1 := a1) (e2 := a2) (x := x))
     left
     rw [ha, bg_app]
     simp only [bg, qk4, qk8]
     exact .inr (.inr (.inl trivial)))
  exact hmem
 have hsplit := fun x (hx : x ∈ e1) => (by have := hm1 x hx; omega : x.1 < b.1)
 refine ⟨e1, e2, he, hsplit, fun x hx => by have := hge2 x hx; omega, ?_⟩
 generalize htk : takesN b.2.1 need = tk at *
 have hokn : ExOK words 0 (e1 ++ (b.1, tk, qkQ ((tk.toNat - 1) * 8) 0) :: e2) := by
  refine qcJ.2 ⟨hp1, qgD (.inl hb1.symm) t1 (by simp only; omega) (qgS hok2 (by simp only; omega))⟩
 refine ⟨by rw [qaf]; exact h.len, h.mw, qfB _ _ h.u fun e he => (hcu e he).2.2, hokn, ?_, ?_⟩
 ·intro b' hb'
  rw [qcc] at hb'
  simp only [qk4] at hb'
  have hold : b' ∈ blkX words ext → (b'.1 + b'.2.1 ≤ b.1 ∨ startX words e2 ≤ b'.1) → (applyE ws (carveE b need)).getD b'.1.toNat 0 = hdr b' := by
   intro hm hout
   have hmb' := h.may.mem hm
   rw [hget, if_neg (by omega), if_neg (by omega), if_neg (by omega)]
   exact h.hd b' hm
  rcases hb' with hb' | hb' | hb'
  ·have := bg_mem hp1 b' hb'
   exact hold (by rw [he, qcc]; simp [hb']) (.inl (by omega))
  ·simp only [startX] at hb'
   unfold gapB at hb'
   rw [if_neg (by omega)] at hb'
   cases hb'
  ·simp only [tailB, qk8] at hb'
   rcases hb' with rfl | hb'
   ·simp only
    rw [hget, hp, qkS, if_pos rfl]
    exact qd0 (b := ((p : Int), tk, true)) (by unfold mayS; simp only; omega)
   ·rw [qdE] at hb'
    simp only [qk4] at hb'
    rcases hb' with hb' | hb'
    ·unfold gapB at hb'
     split at hb'
     ·rename_i hg
      simp only [qk8, qma, or_false] at hb'
      subst hb'
      simp only
      rw [hget, if_neg (by omega), if_neg (by omega), if_pos (by omega)]
      have e : startX words e2 - (b.1 + tk) = b.2.1 - tk := by omega
      rw [e]
      exact qd0 (b := (b.1 + tk, b.2.1 - tk, false)) (by unfold mayS; simp only; omega)
     ·cases hb'
    ·have := qeq hok2 b' hb'
     exact hold (by rw [he, qcc]; simp [hb']) (.inr this)
 ·intro x hx
  rw [qk4, qk8] at hx
  rcases hx with hx | rfl | hx
  ·have hxm := hm1 x hx
   have hx0 := h.mem (x := x) (by rw [he]; simp [hx])
   rw [h.by8 x (by rw [he]; simp [hx])]
   symm
   refine qcU fun w h1 h2 => ?_
   rw [hget, if_neg (by omega), if_neg (by omega), if_neg (by omega)]
  ·simp only
   rw [hp, qkS]
   symm
   refine qg5 fun w h1 h2 => ?_
   rw [hget, if_neg (by omega), if_pos (by omega)]
  ·have hxm := hge2 x hx
   have hx0 := h.mem (x := x) (by rw [he]; simp [hx])
   rw [h.by8 x (by rw [he]; simp [hx])]
   symm
   refine qcU fun w h1 h2 => ?_
   rw [hget, if_neg (by omega), if_neg (by omega), if_neg (by omega)]
theorem bg_last : ∀ {e : List Ex} {p : Int}, 0 < (bg p e).length → (bkAt (bg p e) ((bg p e).length - 1)).2.2 = true := by
 intro e
 induction e with
 | nil => intro p h; simp [bg] at h
 | cons x r ih =>
  intro p _
  by_cases hr : (bg (x.1 + x.2.1) r).length = 0
  ·simp only [bg, qlt, qk3, hr]
   unfold bkAt
   rw [qkP, qld (by omega)]
   simp
  ·have := ih (p := x.1 + x.2.1) (by omega)
   simp only [bg, qlt, qk3]
   unfold bkAt at this ⊢
   rw [qkP] at this ⊢
   rw [qld (by omega), show (gapB p x.1).length + ((bg (x.1 + x.2.1) r).length + 1) - 1 - (gapB p x.1).length = ((bg (x.1 + x.2.1) r).length - 1) + 1 by omega, qlx]
   exact this
theorem qjp {e1 e2 : List Ex} {x : Ex} (hok : ExOK words 0 (e1 ++ x :: e2)) {i : Nat} (hi : i = (bg 0 e1).length + (gapB (endX 0 e1) x.1).length) :
  (bkAt (blkX words (e1 ++ x :: e2)) (mFrom (blkX words (e1 ++ x :: e2)) i)).1 = endX 0 e1 ∧
  sumTo (blkX words (e1 ++ x :: e2)) (mFrom (blkX words (e1 ++ x :: e2)) i) (mTo (blkX words (e1 ++ x :: e2)) i - mFrom (blkX words (e1 ++ x :: e2)) i) = startX words e2 - endX 0 e1 := by
 obtain ⟨hp1, hok2⟩ := qcJ.1 hok
 obtain ⟨h1, h2, h3, h4⟩ := qc5 hok2
 have hs := qdy h4
 have hL : blkX words (e1 ++ x :: e2) = bg 0 e1 ++ (gapB (endX 0 e1) x.1 ++ ((x.1, x.2.1, true) :: (gapB (x.1 + x.2.1) (startX words e2) ++ tailB words e2))) := by
  rw [qcc]
  show bg 0 e1 ++ (gapB (endX 0 e1) x.1 ++ ((x.1, x.2.1, true) :: (bg (x.1 + x.2.1) e2 ++ gapB (endX (x.1 + x.2.1) e2) words))) = _
  rw [qdE]
 have at0 : ∀ j, bkAt (blkX words (e1 ++ x :: e2)) ((bg 0 e1).length + j) = bkAt (gapB (endX 0 e1) x.1 ++ ((x.1, x.2.1, true) :: (gapB (x.1 + x.2.1) (startX words e2) ++ tailB words e2))) j := by
  intro j
  rw [hL]
  unfold bkAt
  rw [qkP, qld (by omega), Nat.add_sub_cancel_left, ← qkP]
 have hlen : (blkX words (e1 ++ x :: e2)).length = (bg 0 e1).length + ((gapB (endX 0 e1) x.1).length + (1 + ((gapB (x.1 + x.2.1) (startX words e2)).length + (tailB words e2).length))) := by
  rw [hL]; simp; omega
 have tl : (bkAt (tailB words e2) 0).2.2 = false → (tailB words e2).length = 0 := by
  cases e2 with
  | nil => intro _; rfl
  | cons y r => intro h; simp [tailB, bkAt] at h
 have last : 0 < (bg 0 e1).length → (bkAt (blkX words (e1 ++ x :: e2)) ((bg 0 e1).length - 1)).2.2 = true := by
  intro h
  have := bg_last h
  rw [hL]
  unfold bkAt at this ⊢
  rw [qkP] at this ⊢
  rw [qll (by omega)]
  exact this
 generalize blkX words (e1 ++ x :: e2) = L at *
 by_cases g1 : endX 0 e1 < x.1
 ·have gl : gapB (endX 0 e1) x.1 = [(endX 0 e1, x.1 - endX 0 e1, false)] := by unfold gapB; rw [if_pos g1]
  rw [gl] at at0 hlen hi
  simp only [qk3, qlL] at hi hlen
  have a0 := at0 0
  have a1 := at0 1
  have a2 := at0 2
  simp only [qlr, qlA] at a0 a1 a2
  have b0 : bkAt L ((bg 0 e1).length + 0) = (endX 0 e1, x.1 - endX 0 e1, false) := a0
  have b1 : bkAt L ((bg 0 e1).length + 1) = (x.1, x.2.1, true) := a1
  have hf : mFrom L i = (bg 0 e1).length := by
   unfold mFrom
   rw [if_pos ⟨by omega, by rw [show i - 1 = (bg 0 e1).length + 0 by omega, b0]⟩]; omega
  by_cases g2 : x.1 + x.2.1 < startX words e2
  ·have gl2 : gapB (x.1 + x.2.1) (startX words e2) = [(x.1 + x.2.1, startX words e2 - (x.1 + x.2.1), false)] := by unfold gapB; rw [if_pos g2]
   rw [gl2] at a2 hlen
   have b2 : bkAt L ((bg 0 e1).length + 2) = (x.1 + x.2.1, startX words e2 - (x.1 + x.2.1), false) := a2
   simp only [qk3, qlL] at hlen
   have ht : mTo L i = i + 2 := by
    unfold mTo
    rw [if_pos ⟨by omega, by rw [show i + 1 = (bg 0 e1).length + 2 by omega, b2]⟩]
   rw [hf, ht, show i + 2 - (bg 0 e1).length = 3 by omega]
   refine ⟨by rw [show (bg 0 e1).length = (bg 0 e1).length + 0 by omega, b0], ?_⟩
   simp only [sumTo, b0, b1, b2]; omega
  ·have gl2 : gapB (x.1 + x.2.1) (startX words e2) = [] := by unfold gapB; rw [if_neg g2]
   rw [gl2] at a2 hlen
   have b2 : bkAt L ((bg 0 e1).length + 2) = bkAt (tailB words e2) 0 := a2
   simp only [qlL] at hlen
   have ht : mTo L i = i + 1 := by
    unfold mTo
    rw [if_neg]
    intro ⟨c1, c2⟩
    rw [show i + 1 = (bg 0 e1).length + 2 by omega, b2] at c2
    have := tl c2; omega
   rw [hf, ht, show i + 1 - (bg 0 e1).length = 2 by omega]
   refine ⟨by rw [show (bg 0 e1).length = (bg 0 e1).length + 0 by omega, b0], ?_⟩
   simp only [sumTo, b0, b1]; omega
 ·have gl : gapB (endX 0 e1) x.1 = [] := by unfold gapB; rw [if_neg g1]
  rw [gl] at at0 hlen hi
  simp only [qlL] at hi hlen
  have a0 := at0 0
  have a1 := at0 1
  simp only [qlA] at a0 a1
  have b0 : bkAt L ((bg 0 e1).length + 0) = (x.1, x.2.1, true) := a0
  have hf : mFrom L i = (bg 0 e1).length := by
   unfold mFrom
   rw [if_neg]
   ·omega
   ·intro ⟨c1, c2⟩
    rw [show i - 1 = (bg 0 e1).length - 1 by omega, last (by omega)] at c2
    cases c2
  by_cases g2 : x.1 + x.2.1 < startX words e2
  ·have gl2 : gapB (x.1 + x.2.1) (startX words e2) = [(x.1 + x.2.1, startX words e2 - (x.1 + x.2.1), false)] := by unfold gapB; rw [if_pos g2]
   rw [gl2] at a1 hlen
   have b1 : bkAt L ((bg 0 e1).length + 1) = (x.1 + x.2.1, startX words e2 - (x.1 + x.2.1), false) := a1
   simp only [qk3, qlL] at hlen
   have ht : mTo L i = i + 2 := by
    unfold mTo
    rw [if_pos ⟨by omega, by rw [show i + 1 = (bg 0 e1).length + 1 by omega, b1]⟩]
   rw [hf, ht, show i + 2 - (bg 0 e1).length = 2 by omega]
   refine ⟨by rw [show (bg 0 e1).length = (bg 0 e1).length + 0 by omega, b0]; simp only; omega, ?_⟩
   simp only [sumTo, b0, b1]; omega
  ·have gl2 : gapB (x.1 + x.2.1) (startX words e2) = [] := by unfold gapB; rw [if_neg g2]
   rw [gl2] at a1 hlen
   have b1 : bkAt L ((bg 0 e1).length + 1) = bkAt (tailB words e2) 0 := a1
   simp only [qlL] at hlen
   have ht : mTo L i = i + 1 := by
    unfold mTo
    rw [if_neg]
    intro ⟨c1, c2⟩
    rw [show i + 1 = (bg 0 e1).length + 1 by omega, b1] at c2
    have := tl c2; omega
   rw [hf, ht, show i + 1 - (bg 0 e1).length = 1 by omega]
   refine ⟨by rw [show (bg 0 e1).length = (bg 0 e1).length + 0 by omega, b0]; simp only; omega, ?_⟩
   simp only [sumTo, b0]; omega
theorem MR.free {e1 e2 : List Ex} {x : Ex} (h : MR words (e1 ++ x :: e2) ws) : MR words (e1 ++ e2) (applyE ws [(endX 0 e1, wordN (startX words e2 - endX 0 e1) false)]) := by
 have hok := h.ok
 obtain ⟨hp1, hok2⟩ := qcJ.1 hok
 obtain ⟨h1, h2, h3, h4⟩ := qc5 hok2
 have hs := qdy h4
 have hst := qeJ h4
 have hge := (qc3 hp1).1
 have hrange := h.range
 obtain ⟨p, hp⟩ := qk9 hge
 have hget : ∀ w, (applyE ws [(endX 0 e1, wordN (startX words e2 - endX 0 e1) false)]).getD w 0 = if w = p then wordN (startX words e2 - endX 0 e1) false else ws.getD w 0 := by
  intro w
  have hlen := h.len
  rw [hp]
  exact qdS w (by omega)
 have hmS : mayS (startX words e2 - endX 0 e1) := by unfold mayS; omega
 refine ⟨by rw [qaf]; exact h.len, h.mw, qfB _ _ h.u fun e he => ?_, qcJ.2 ⟨hp1, qgS h4 (by omega)⟩, ?_, ?_⟩
 ·simp only [qk8, qma, or_false] at he
  subst he; exact wordN_u _ _
 ·intro b hb
  rw [qcc] at hb
  simp only [qk4] at hb
  rcases hb with hb | hb | hb
  ·have hm := bg_mem hp1 b hb
   rw [hget, if_neg (by omega)]
   exact h.hd b (by rw [qcc]; simp [hb])
  ·unfold gapB at hb
   split at hb
   ·simp only [qk8, qma, or_false] at hb
    subst hb
    simp only
    rw [hget, hp, qkS, if_pos rfl, ← hp]
    exact qd0 (b := (endX 0 e1, startX words e2 - endX 0 e1, false)) hmS
   ·cases hb
  ·have hm := qeq h4 b hb
   rw [hget, if_neg (by omega)]
   refine h.hd b ?_
   rw [qcc]
   simp only [tailB, qk4, qk8]
   right; right; right
   have : b ∈ bg (x.1 + x.2.1) e2 ++ gapB (endX (x.1 + x.2.1) e2) words := by
    rw [qdE]; simp [hb]
   simpa using this
 ·intro y hy
  have hym : y ∈ e1 ++ x :: e2 := by simp at hy ⊢; rcases hy with h | h <;> simp [h]
  rw [h.by8 y hym]
  have hy0 := h.mem hym
  symm
  refine qcU fun w w1 w2 => ?_
  rw [hget, if_neg]
  intro hw
  rw [qk4] at hy
  rcases hy with hy | hy
  ·have := ex_mem hp1 y hy; omega
  ·have := ex_mem h4.1 y hy; omega
def putL (l : List Int) (k : Nat) (bs : List Int) : List Int := l.take k ++ bs ++ l.drop (k + bs.length)
theorem qkk {l bs : List Int} {k i : Nat} (h : k + bs.length ≤ l.length) : (putL l k bs)[i]? = if k ≤ i ∧ i < k + bs.length then bs[i - k]? else l[i]? := by
 unfold putL
 by_cases h1 : i < k
 ·rw [if_neg (by omega), qmb, qll (by simp; omega), List.getElem?_take_of_lt h1]
 ·by_cases h2 : i < k + bs.length
  ·rw [if_pos ⟨by omega, h2⟩, qmb, qld (by simp; omega), qll (by simp; omega)]
   congr 1; simp; omega
  ·rw [if_neg (by omega), qld (by simp; omega), qlE]
   congr 1; simp; omega
theorem MR.write {e1 e2 : List Ex} {x : Ex} {off : Nat} {bs : List Int} (h : MR words (e1 ++ x :: e2) ws) (h8 : qbW bs) (h1 : (x.1.toNat + 1) * 8 ≤ off) (h2 : off + bs.length ≤ (x.1.toNat + x.2.1.toNat) * 8) :
  MR words (e1 ++ (x.1, x.2.1, putL x.2.2 (off - (x.1.toNat + 1) * 8) bs) :: e2) (putBs ws off bs) := by
 have hx := h.mem (x := x) (by simp)
 have hlen := h.len
 have hfit : off + bs.length ≤ ws.length * 8 := by omega
 have hbx : ∀ e : List Ex, bg 0 (e1 ++ (x.1, x.2.1, putL x.2.2 (off - (x.1.toNat + 1) * 8) bs) :: e2) = bg 0 (e1 ++ x :: e2) := fun _ => by rw [bg_app, bg_app]; rfl
 have hex : endX 0 (e1 ++ (x.1, x.2.1, putL x.2.2 (off - (x.1.toNat + 1) * 8) bs) :: e2) = endX 0 (e1 ++ x :: e2) := by rw [qen, qen]; rfl
 have hbl : blkX words (e1 ++ (x.1, x.2.1, putL x.2.2 (off - (x.1.toNat + 1) * 8) bs) :: e2) = blkX words (e1 ++ x :: e2) := by unfold blkX; rw [hbx [], hex]
 have hok := h.ok
 obtain ⟨hp1, hok2⟩ := qcJ.1 hok
 obtain ⟨o1, o2, o3, o4⟩ := qc5 hok2
 have hok' : ExOK words 0 (e1 ++ (x.1, x.2.1, putL x.2.2 (off - (x.1.toNat + 1) * 8) bs) :: e2) := qcJ.2 ⟨hp1, qgD o1 o2 o3 o4⟩
 -- words out of the block are as they were
 have hfar : ∀ w, (w ≤ x.1.toNat ∨ x.1.toNat + x.2.1.toNat ≤ w) → (putBs ws off bs).getD w 0 = ws.getD w 0 := fun w hw => qe5 _ _ _ _ (by omega) hfit
 have hbyte := fun p (hp : p / 8 < ws.length) => qeV bs ws off p h.u h8 hfit hp
 refine ⟨by rw [qch]; exact h.len, h.mw, qdt _ _ _ h.u, hok', ?_, ?_⟩
 ·rw [hbl]
  intro b hb
  rw [hfar b.1.toNat ?_]
  ·exact h.hd b hb
  ·have hm := h.may.mem hb
   rw [qcc] at hb
   simp only [qk4, startX, tailB, qk8] at hb
   rcases hb with hb | hb | rfl | hb
   ·have := bg_mem hp1 b hb; omega
   ·unfold gapB at hb
    split at hb
    ·simp only [qk8, qma, or_false] at hb; subst hb; simp only; omega
    ·cases hb
   ·simp only; omega
   ·have : b ∈ gapB (x.1 + x.2.1) (startX words e2) ++ tailB words e2 := by rw [← qdE]; simpa using hb
    rw [qk4] at this
    rcases this with hb | hb
    ·unfold gapB at hb
     split at hb
     ·simp only [qk8, qma, or_false] at hb; subst hb; simp only; omega
     ·cases hb
    ·have := qeq o4 b hb
     have := qdy o4; omega
 ·intro y hy
  rw [qk4, qk8] at hy
  have other : y ∈ e1 ++ x :: e2 → (y.1 + y.2.1 ≤ x.1 ∨ x.1 + x.2.1 ≤ y.1) → y.2.2 = bytesOf (putBs ws off bs) ((y.1.toNat + 1) * 8) ((y.2.1.toNat - 1) * 8) := by
   intro hy ho
   have hy0 := h.mem hy
   rw [h.by8 y hy]
   symm
   exact qcU fun w w1 w2 => hfar w (by omega)
  rcases hy with hy | rfl | hy
  ·refine other (by simp [hy]) (.inl ?_)
   have := ex_mem hp1 y hy; omega
  ·simp only
   have hb8 := h.by8 x (by simp)
   have hbl' := h.blen (x := x) (by simp)
   apply qlb
   intro i
   rw [qkk (by omega)]
   by_cases hi : i < (x.2.1.toNat - 1) * 8
   ·unfold bytesOf
    rw [qkZ, qlc hi, qlg, hbyte _ (by omega)]
    by_cases hin : off - (x.1.toNat + 1) * 8 ≤ i ∧ i < off - (x.1.toNat + 1) * 8 + bs.length
    ·rw [if_pos hin, if_pos (by omega)]
     rw [show (x.1.toNat + 1) * 8 + i - off = i - (off - (x.1.toNat + 1) * 8) by omega]
     rw [qkP, qkO (by omega)]; rfl
    ·rw [if_neg hin, if_neg (by omega), hb8]
     unfold bytesOf
     rw [qkZ, qlc hi]; rfl
   ·rw [if_neg (by omega), qkT (by omega), qkT (by rw [qd5]; omega)]
  ·refine other (by simp [hy]) (.inr ?_)
   have := ex_mem o4.1 y hy; omega
end
def exV (x : Ex × Nat) : List Value := [.int .i64 x.1.1, .int .i64 x.1.2.1, .slice (some ⟨x.2, 0, none⟩) x.1.2.2.length 1]
def Kp (F : Nat → Prop) (H H' : AH) : Prop := H.size ≤ H'.size ∧ ∀ b, b < H.size → ¬ F b → H'.get b = H.get b
def Up (F : Nat → Prop) (H : AH) (F' : Nat → Prop) (H' : AH) : Prop := Kp F H H' ∧ ∀ b, F' b → F b ∨ (H.size ≤ b ∧ b < H'.size)
def Lt (F : Nat → Prop) (H : AH) : Prop := ∀ b, F b → b < H.size
theorem qa.kp {F : Nat → Prop} {H H' : AH} (h : qa H H') : Kp F H H' := ⟨h.1, fun b hb _ => h.2 b hb⟩
structure MdAt (F : Nat → Prop) (H : AH) (p : Nat) (words : Int) (s : Sl) (E : List (Ex × Nat)) (root : Int) : Prop where
 obj : H.get p = ⟨[.int .i64 words, s.val, .int .i64 root], .rw, 0⟩
 own : Own 0 H s 3 exV E
 bys : ∀ x ∈ E, H.get x.2 = ⟨x.1.2.2.flatMap bU, .rw, 1⟩
 fp : F p
 fs : ∀ a, s.a = some a → F a.block
 fx : ∀ x ∈ E, F x.2
 lt : Lt F H
 np : ∀ a, s.a = some a → a.block ≠ p
 nx : ∀ x ∈ E, x.2 ≠ p ∧ ∀ a, s.a = some a → a.block ≠ x.2
 nd : (E.map (·.2)).Nodup
def MW (F : Nat → Prop) (H : AH) (p : Nat) (ws : List Int) (root : Int) : Prop := ∃ s E, MdAt F H p ws.length s E root ∧ MR ws.length (E.map (·.1)) ws
section
variable {F : Nat → Prop} {H : AH} {p : Nat} {words root : Int} {s : Sl} {E : List (Ex × Nat)}
def blkL (ws : List Int) : List Bk := (blocksN ws).getD []
def fitO (ws : List Int) (n : Int) : List Int := (fitsL (blkL ws) (needN n)).map fun i => offN (bkAt (blkL ws) i).1
theorem MW.blk {ws : List Int} (h : MR words (E.map (·.1)) ws) : blkL ws = blkX words (E.map (·.1)) := by unfold blkL; rw [h.blocks]; rfl
end
theorem qkc {off : Int} : ∀ {l : List Bk} {i : Nat}, isN off l i = -1 → ∀ b ∈ l, ¬ (b.2.2 = true ∧ offN b.1 = off) := by
 intro l
 induction l with
 | nil => intro i _ b hb; cases hb
 | cons a r ih =>
  intro i h b hb
  unfold isN at h
  split at h
  ·omega
  ·rename_i hn
   rw [qk8] at hb
   rcases hb with rfl | hb
   ·exact hn
   ·exact ih h b hb
section
variable {words off : Int} {e e1 e2 : List Ex} {x : Ex} {ws : List Int}
theorem MR.offx (h : MR words e ws) (hx : x ∈ e) : offN x.1 = (x.1 + 1) * 8 := by
 have := h.mem hx
 have := h.range
 unfold offN; rw [if_pos (by omega)]
theorem MR.is_none (h : MR words e ws) (hn : ∀ x ∈ e, (x.1 + 1) * 8 ≠ off) : isN off (blkX words e) 0 = -1 := by
 rcases qdp off (blkX words e) 0 with h0 | ⟨j, h1, h2, h3, h4⟩
 ·exact h0
 ·exfalso
  obtain ⟨x, hx, hb⟩ := qg7 (qkY (qaF h2)) h3
  rw [hb] at h4
  simp only at h4
  rw [h.offx hx] at h4
  exact hn x hx h4
theorem MR.is_at (h : MR words (e1 ++ x :: e2) ws) (ho : (x.1 + 1) * 8 = off) : isN off (blkX words (e1 ++ x :: e2)) 0 = (((bg 0 e1).length + (gapB (endX 0 e1) x.1).length : Nat) : Int) := by
 have hxm : x ∈ e1 ++ x :: e2 := by simp
 rcases qdp off (blkX words (e1 ++ x :: e2)) 0 with h0 | ⟨j, h1, h2, h3, h4⟩
 ·exfalso
  exact qkc h0 _ (qha hxm) ⟨rfl, by simp only; rw [h.offx hxm]; exact ho⟩
 ·obtain ⟨e1', y, e2', hE, hj, hb⟩ := qgd (qaF h2) h3
  have hb' : bkAt (blkX words (e1 ++ x :: e2)) j = (y.1, y.2.1, true) := hb
  rw [hb'] at h4
  simp only at h4
  have hym : y ∈ e1 ++ x :: e2 := by rw [hE]; simp
  rw [h.offx hym] at h4
  obtain ⟨u1, u2, u3⟩ := ex_uniq h.ok.1 hE (show x.1 = y.1 by omega)
  rw [h1, hj, u1, u2]
  congr 1; omega
theorem MR.imgFree_none (h : MR words e ws) (hn : ∀ x ∈ e, (x.1 + 1) * 8 ≠ off) : imgFree ws off = ([], 1) := by
 unfold imgFree
 rw [h.blocks]
 simp only
 rw [h.is_none hn, if_pos (by omega)]
theorem MR.imgFree_at (h : MR words (e1 ++ x :: e2) ws) (ho : (x.1 + 1) * 8 = off) : imgFree ws off = ([(endX 0 e1, wordN (startX words e2 - endX 0 e1) false)], 0) := by
 unfold imgFree
 rw [h.blocks]
 simp only
 rw [h.is_at ho, if_neg (by omega), qkS]
 obtain ⟨m1, m2⟩ := qjp h.ok rfl
 rw [m1, m2]
theorem MR.within (h : MR words e ws) {n : Int} : withinN (blkX words e) off n ↔ 0 ≤ n ∧ n ≤ 448 ∧ ∃ x ∈ e, (x.1 + 1) * 8 ≤ off ∧ off + n ≤ (x.1 + x.2.1) * 8 := by
 unfold withinN inB
 constructor
 ·rintro ⟨h1, h2, b, hb, h3, h4, h5, h6⟩
  obtain ⟨x, hx, rfl⟩ := qg7 hb h3
  simp only at h4 h5 h6
  rw [h.offx hx] at h4
  exact ⟨h1, h2, x, hx, by omega⟩
 ·rintro ⟨h1, h2, x, hx, h3, h4⟩
  refine ⟨h1, h2, _, qha hx, rfl, ?_⟩
  simp only
  rw [h.offx hx]; omega
end
def aWrite (ws : List Int) (off : Int) (bs : List Int) : Int × List Int := if (imgWrite ws off bs).2 = 0 then (0, applyE ws (imgWrite ws off bs).1) else ((imgWrite ws off bs).2, ws)
def aRead (ws : List Int) (off n : Int) : List Int × Int := if withinN (blkL ws) off n then (bytesOf ws off.toNat n.toNat, 0) else ([], 1)
section
variable {F : Nat → Prop} {H : AH} {p : Nat} {ws : List Int} {root : Int}
theorem qhe {ws : List Int} {o m a n : Nat} (h : a + n ≤ m) : ((bytesOf ws o m).drop a).take n = bytesOf ws (o + a) n := by
 unfold bytesOf
 apply qlb
 intro i
 rw [qlD]
 by_cases hi : i < n
 ·rw [if_pos hi, qlE, qkZ, qkZ, qlc (by omega), qlc hi, qlg, qlg]
  congr 2; omega
 ·rw [if_neg hi, qkT (by simp; omega)]
end
section
variable {F : Nat → Prop} {H : AH} {p : Nat} {ws : List Int} {root words : Int}
theorem qjD {off : Int} {bs : List Int} {E : List (Ex × Nat)} (hR : MR ws.length (E.map (·.1)) ws) (hw : withinN (blkL ws) off bs.length) : aWrite ws off bs = (0, putBs ws off.toNat bs) := by
 unfold aWrite imgWrite
 have hb := hR.blocks
 have he : blkL ws = blkX ws.length (E.map (·.1)) := MW.blk hR
 rw [hb]
 rw [he] at hw
 simp only
 rw [if_pos hw]
 simp only [if_true]
 have hin := qcz hR.may hw
 unfold inside at hin
 rw [qhm (by omega)]
theorem qiA {off : Int} {bs : List Int} {E : List (Ex × Nat)} (hR : MR ws.length (E.map (·.1)) ws) (hw : ¬ withinN (blkL ws) off bs.length) : aWrite ws off bs = (1, ws) := by
 unfold aWrite imgWrite
 have hb := hR.blocks
 have he : blkL ws = blkX ws.length (E.map (·.1)) := MW.blk hR
 rw [hb]
 rw [he] at hw
 simp only
 rw [if_neg hw]
 simp
end
def fitI (ws : List Int) (n : Int) : List Nat := fitsL (blkL ws) (needN n)
def aAlloc (ws : List Int) (n off : Int) : Bool × List Int :=
 match (fitI ws n).find? (fun i => offN (bkAt (blkL ws) i).1 == off) with
 | some i => (true, applyE ws (carveE (bkAt (blkL ws) i) (needN n)))
 | none => (false, ws)
theorem qeM (ws : List Int) (n off : Int) : (off ∉ fitO ws n ∧ aAlloc ws n off = (false, ws)) ∨
  (off ∈ fitO ws n ∧ ∃ i, i ∈ fitI ws n ∧ offN (bkAt (blkL ws) i).1 = off ∧ aAlloc ws n off = (true, applyE ws (carveE (bkAt (blkL ws) i) (needN n)))) := by
 unfold aAlloc
 cases hf : (fitI ws n).find? (fun i => offN (bkAt (blkL ws) i).1 == off) with
 | none =>
  refine .inl ⟨fun hm => ?_, rfl⟩
  unfold fitO at hm
  rw [qlk] at hm
  obtain ⟨i, hi, he⟩ := hm
  have := List.find?_eq_none.1 hf i hi
  exact this (by simpa using he)
 | some i =>
  have h1 := List.mem_of_find?_eq_some hf
  have h2 := List.find?_some hf
  have h2 : offN (bkAt (blkL ws) i).1 = off := by simpa using h2
  refine .inr ⟨?_, i, h1, h2, rfl⟩
  unfold fitO
  rw [qlk]
  exact ⟨i, h1, h2⟩
theorem qhj {ws : List Int} {n : Int} {i : Nat} (h : i ∈ fitI ws n) : i < (blkL ws).length ∧ (bkAt (blkL ws) i).2.2 = false ∧ needN n ≤ (bkAt (blkL ws) i).2.1 ∧ 2 ≤ needN n := by
 unfold fitI fitsL at h
 split at h
 ·cases h
 ·have := qdv h
  exact ⟨this.1, this.2.1, this.2.2, by omega⟩
theorem atN_at {words : Int} : ∀ {l : List Bk} {pt : Int} {pu : Bool} {i j : Nat}, chainB words pt pu l → i < l.length → atN (bkAt l i).1 l j = ((j + i : Nat) : Int) := by
 intro l
 induction l with
 | nil => intro pt pu i j _ h; simp at h
 | cons b r ih =>
  intro pt pu i j h hi
  have hm := chainB.mem h
  have hb := hm b (by simp)
  obtain ⟨h1, h2, h3, h4, h5⟩ := h
  unfold mayS at h2
  cases i with
  | zero =>
   show atN b.1 (b :: r) j = _
   unfold atN
   rw [if_pos (by omega)]; rfl
  | succ i =>
   show atN (bkAt r i).1 (b :: r) j = _
   have hi' : i < r.length := by simpa using hi
   have hm2 := chainB.mem h5 _ (qkY (qaF hi'))
   unfold atN
   rw [if_neg (by omega), ih h5 hi']
   congr 1; omega
def Ok (ws : List Int) : Prop := ∃ e, MR ws.length e ws
theorem Ok.len {ws : List Int} (h : Ok ws) : 8 ≤ ws.length ∧ ws.length ≤ 512 ∧ qah ws := by obtain ⟨e, h⟩ := h; have := h.range; exact ⟨by omega, by omega, h.u⟩
theorem Ok.blocks {ws : List Int} (h : Ok ws) : blocksN ws = some (blkL ws) := by obtain ⟨e, h⟩ := h; unfold blkL; rw [h.blocks]; rfl
theorem Ok.may {ws : List Int} (h : Ok ws) : MayB (blkL ws) ws.length := qa0 h.blocks
theorem Ok.blen {ws : List Int} (h : Ok ws) : (blkL ws).length ≤ 256 ∧ ∀ b ∈ blkL ws, 0 ≤ b.1 ∧ b.1 + b.2.1 ≤ ws.length ∧ 2 ≤ b.2.1 := by
 have h1 := h.may.len
 have h2 := h.len
 refine ⟨by omega, fun b hb => ?_⟩
 have := h.may.mem hb
 omega
structure CP (pd : Int) (M : Mem) (now kept : List Int) (cb : Int) : Prop where
 kl : kept.length = now.length
 ok : ∀ i, i < now.length → 0 ≤ kept.getD i 0 ∧ kept.getD i 0 ≤ now.getD i 0 ∧ now.getD i 0 ≤ cb
 lag : M.down = false → ∀ i, i < now.length → now.getD i 0 - kept.getD i 0 < pd ∧ M.regs.getD (19 + i) 0 = kept.getD i 0
 rg : ∀ i, i < now.length → M.regs.getD (19 + i) 0 ≤ cb
def bump (now : List Int) (ls : List Int) : List Int := ls.foldl (fun c ln => c.set (ln / 4).toNat (c.getD (ln / 4).toNat 0 + 1)) now
theorem CP.mono {pd : Int} {M : Mem} {now kept : List Int} {cb cb' : Int} (h : CP pd M now kept cb) (hc : cb ≤ cb') : CP pd M now kept cb' :=
 ⟨h.kl, fun i hi => by have := h.ok i hi; omega, h.lag, fun i hi => by have := h.rg i hi; omega⟩
theorem qid (pd : Int) (ln : Int) (r : List Int) (M : Mem) (now kept : List Int) : notesN pd (ln :: r) M now kept =
  if (noteN pd now kept (ln / 4).toNat).2.2.2 = true then
   if (M.set (19 + ln / 4) (noteN pd now kept (ln / 4).toNat).2.2.1).2 = 0 then notesN pd r (M.set (19 + ln / 4) (noteN pd now kept (ln / 4).toNat).2.2.1).1 (noteN pd now kept (ln / 4).toNat).1 (noteN pd now kept (ln / 4).toNat).2.1
   else ((M.set (19 + ln / 4) (noteN pd now kept (ln / 4).toNat).2.2.1).1, (noteN pd now kept (ln / 4).toNat).1, (noteN pd now kept (ln / 4).toNat).2.1, (M.set (19 + ln / 4) (noteN pd now kept (ln / 4).toNat).2.2.1).2)
  else notesN pd r M (noteN pd now kept (ln / 4).toNat).1 (noteN pd now kept (ln / 4).toNat).2.1 := rfl
theorem qgC {pd : Int} (hpd : 1 ≤ pd) : ∀ {ls : List Int} {M : Mem} {now kept : List Int} {cb : Int}, CP pd M now kept cb → M.down = false → M.ok → (∀ ln ∈ ls, 0 ≤ ln ∧ (ln / 4).toNat < now.length) → now.length ≤ 16 → 0 ≤ cb → cb + ls.length < 4611686018427387904 →
  (notesN pd ls M now kept).1.cs = M.cs ∧ (∀ r, r < 19 → (notesN pd ls M now kept).1.regs.getD r 0 = M.regs.getD r 0) ∧ (notesN pd ls M now kept).1.ok ∧ CP pd (notesN pd ls M now kept).1 (notesN pd ls M now kept).2.1 (notesN pd ls M now kept).2.2.1 (cb + ls.length) ∧
  (M.cut = -1 → (notesN pd ls M now kept).1.cut = -1) ∧ (notesN pd ls M now kept).2.1.length = now.length ∧
  (((notesN pd ls M now kept).2.2.2 = 0 ∧ (notesN pd ls M now kept).1.down = false ∧ (notesN pd ls M now kept).2.1 = bump now ls) ∨ ((notesN pd ls M now kept).2.2.2 = 2 ∧ (notesN pd ls M now kept).1.down = true ∧ M.cut ≠ -1)) := by
 intro ls
 induction ls with
 | nil => intro M now kept cb h hup hok _ _ _ _; exact ⟨rfl, fun _ _ => rfl, hok, h.mono (by simp), fun h => h, rfl, .inl ⟨rfl, hup, rfl⟩⟩
 | cons ln r ih =>
  intro M now kept cb h hup hok hls h16 hcb0 hcb
  obtain ⟨hl0, hli⟩ := hls ln (by simp)
  simp only [qk3] at hcb
  have hb : bump now (ln :: r) = bump (now.set (ln / 4).toNat (now.getD (ln / 4).toNat 0 + 1)) r := rfl
  have hlr : ∀ l ∈ r, 0 ≤ l ∧ (l / 4).toNat < (now.set (ln / 4).toNat (now.getD (ln / 4).toNat 0 + 1)).length := fun l hl => by rw [qlh]; exact hls l (by simp [hl])
  rw [qid, hb]
  have hidx : (19 + ln / 4 : Int) = ((19 + (ln / 4).toNat : Nat) : Int) := by omega
  rw [hidx]
  generalize (ln / 4).toNat = i at *
  have hoi := h.ok i hli
  have hlag := h.lag hup
  unfold noteN
  simp only
  have hnow : ∀ j, (now.set i (now.getD i 0 + 1)).getD j 0 = if j = i then now.getD i 0 + 1 else now.getD j 0 := fun j => qbZ hli
  by_cases hk : now.getD i 0 + 1 - kept.getD i 0 ≥ pd
  ·rw [if_pos (by simpa using hk), if_pos hk]
   have hkept : ∀ j, (kept.set i (now.getD i 0 + 1)).getD j 0 = if j = i then now.getD i 0 + 1 else kept.getD j 0 := fun j => qbZ (by rw [h.kl]; exact hli)
   have hS := Mem.set_any (M := M) (i := 19 + i) (v := now.getD i 0 + 1) hup (by omega) hok.cut.1
   have hSo := Mem.set_ok (M := M) (i := ((19 + i : Nat) : Int)) (v := now.getD i 0 + 1) hok (by unfold isU; omega)
   have hrl := hok.regs
   have hlow : ∀ r, r < 19 → (M.set ((19 + i : Nat) : Int) (now.getD i 0 + 1)).1.regs.getD r 0 = M.regs.getD r 0 := fun r hr => qcg (by omega)
   generalize M.set ((19 + i : Nat) : Int) (now.getD i 0 + 1) = S at *
   have hcp : CP pd S.1 (now.set i (now.getD i 0 + 1)) (kept.set i (now.getD i 0 + 1)) (cb + 1) := by
    refine ⟨by rw [qlh, qlh, h.kl], fun j hj => ?_, fun hd j hj => ?_, fun j hj => ?_⟩
    rotate_left 2
    ·rw [qlh] at hj
     have := h.rg j hj
     have h2 := h.ok i hli
     have hrr : S.1.regs = M.regs ∨ S.1.regs = M.regs.set (19 + i) (now.getD i 0 + 1) := by
      rcases hS.res with ⟨_, _, h⟩ | ⟨_, _, _, h⟩
      ·exact .inr h
      ·exact h
     rcases hrr with hrr | hrr
     ·rw [hrr]; omega
     ·rw [hrr, qbZ (by omega)]
      split <;> omega
    ·rw [qlh] at hj
     rw [hnow j, hkept j]
     have := h.ok j hj
     split <;> omega
    ·rw [qlh] at hj
     rw [hnow j, hkept j]
     have hr : S.1.regs = M.regs.set (19 + i) (now.getD i 0 + 1) := by
      rcases hS.res with ⟨_, _, h⟩ | ⟨_, h, _⟩
      ·exact h
      ·rw [hd] at h; cases h
     rw [hr, qbZ (by omega)]
     have := hlag j hj
     by_cases hji : j = i
     ·subst hji
      rw [if_pos rfl, if_pos rfl, if_pos rfl]
      exact ⟨by omega, rfl⟩
     ·rw [if_neg hji, if_neg hji, if_neg (by omega)]
      exact this
   by_cases he : S.2 = 0
   ·rw [if_pos he]
    have hup' : S.1.down = false := by
     rcases hS.res with ⟨_, h, _⟩ | ⟨e', _⟩
     ·exact h
     ·omega
    obtain ⟨a1, a2, a3, a4, a5, a6, a7⟩ := ih hcp hup' hSo hlr (by rw [qlh]; exact h16) (by omega) (by omega)
    refine ⟨a1.trans hS.cs, fun r hr => (a2 r hr).trans (hlow r hr), a3, by have := a4; simp only [qk3]; exact this.mono (by omega), fun hc => a5 (hS.cut hc), by rw [a6, qlh], ?_⟩
    rcases a7 with a7 | ⟨a, b, c⟩
    ·exact .inl a7
    ·exact .inr ⟨a, b, fun hc => c (hS.cut hc)⟩
   ·rw [if_neg he]
    refine ⟨hS.cs, hlow, hSo, hcp.mono (by simp only [qk3]; omega), hS.cut, by simp, ?_⟩
    rcases hS.res with ⟨h, _⟩ | ⟨a, b, c, _⟩
    ·exact absurd h he
    ·exact .inr ⟨a, b, c⟩
  ·rw [if_neg (by simpa using hk), if_neg hk]
   have hcp : CP pd M (now.set i (now.getD i 0 + 1)) kept (cb + 1) := by
    refine ⟨by rw [qlh, h.kl], fun j hj => ?_, fun hd j hj => ?_, fun j hj => by rw [qlh] at hj; have := h.rg j hj; omega⟩
    ·rw [qlh] at hj
     rw [hnow j]
     have := h.ok j hj
     by_cases hji : j = i
     ·subst hji; rw [if_pos rfl]; omega
     ·rw [if_neg hji]; omega
    ·rw [qlh] at hj
     rw [hnow j]
     have := hlag j hj
     by_cases hji : j = i
     ·subst hji; rw [if_pos rfl]; exact ⟨by omega, this.2⟩
     ·rw [if_neg hji]; exact this
   obtain ⟨a1, a2, a3, a4, a5, a6, a7⟩ := ih hcp hup hok hlr (by rw [qlh]; exact h16) (by omega) (by omega)
   exact ⟨a1, a2, a3, by simp only [qk3]; exact a4.mono (by omega), a5, by rw [a6, qlh], a7⟩
section
variable {n sp per : Nat} {M M' : Mem} {mvb len pt : Nat} {ws : List (List Int)}
theorem qjo (hc : M'.cs = M.cs) (hr : ∀ r, r < 19 → r ≠ 2 → M'.regs.getD r 0 = M.regs.getD r 0) (hsp : sp ≤ 16) (s : Nat) : M'.tview n sp s = M.tview n sp s := by
 unfold Mem.tview Mem.view
 have hw : ∀ i, i < sp → M'.whose i = M.whose i := fun i hi => hr _ (by omega) (by omega)
 rw [mv_same (hr 0 (by omega) (by omega)), qcD (M' := M') (M := M) fun j hj => by rw [hw j hj]]
 have : ∀ i, M'.cl i = M.cl i := fun i => by unfold Mem.cl; rw [hc]
 rw [this]
theorem Sd.low (h : Sd n sp M ws) (hn : 16 < n) (hc : M'.cs = M.cs) (hr : ∀ r, r < 19 → r ≠ 2 → M'.regs.getD r 0 = M.regs.getD r 0) (hsp : sp ≤ 16) : Sd n sp M' ws :=
 h.congr hn (hr 1 (by omega) (by omega)) fun s _ => qjo hc hr hsp s
theorem PSt.low (h : PSt n sp per M pt mvb len) (hc : M'.cs = M.cs) (hr : ∀ r, r < 19 → r ≠ 2 → M'.regs.getD r 0 = M.regs.getD r 0) (hok : M'.ok) : PSt n sp per M' pt mvb len := by
 obtain ⟨k, hlv⟩ := h.lv
 exact ⟨⟨k, hlv.low (by rw [hc]) fun r _ h => hr r h (by omega)⟩, hok, h.pl, by rw [mv_same (hr 0 (by omega) (by omega))]; exact h.mv, by rw [hc]; exact h.len⟩
end
structure HP (pa pb pc pd : Int) (s : HS) (ws : List Int) (root : Int) (mvb : Nat) (cb : Int) : Prop where
 may : mayP pa pb pc pd = true
 ps : PSt (16 + pa.toNat) pb.toNat pc.toNat s.M s.pt mvb (16 + pa.toNat + 1 + pb.toNat)
 sd : Sd (16 + pa.toNat) pb.toNat s.M (linesOf pa.toNat ws)
 ok : Ok ws
 len : (ws.length : Int) = 8 * pa
 rt : s.M.regs.getD 2 0 = root
 ru : root = 0 ∨ isUsed ws root = true
 pg : (s.now.length : Int) = pagesP pa pb pc pd
 cp : CP pd s.M s.now s.kept cb
 wl : s.stuck → LV s.M (16 + pa.toNat + 1) pb.toNat pb.toNat
 c0 : 0 ≤ cb
section
variable {pa pb pc pd : Int} {s : HS} {ws : List Int} {root : Int} {mvb : Nat} {cb : Int}
theorem HP.mono (h : HP pa pb pc pd s ws root mvb cb) {mvb' : Nat} {cb' : Int} (h1 : mvb ≤ mvb') (h2 : cb ≤ cb') : HP pa pb pc pd s ws root mvb' cb' :=
 ⟨h.may, h.ps.mono h1, h.sd, h.ok, h.len, h.rt, h.ru, h.pg, h.cp.mono h2, h.wl, by have := h.c0; omega⟩
theorem HP.words (h : HP pa pb pc pd s ws root mvb cb) (hup : s.M.down = false) : wordsH pa pb s.M = ws := by
 have hm := qJ.1 h.may
 exact qgB (by omega) hup h.len h.sd
theorem HP.now16 (h : HP pa pb pc pd s ws root mvb cb) : s.now.length ≤ 16 ∧ (s.now.length : Int) = (pa + 3) / 4 := by
 have hm := qJ.1 h.may
 have := h.pg
 unfold pagesP at this
 rw [if_pos h.may] at this
 omega
theorem qf0 {E : List (Int × Int)} (h : HP pa pb pc pd s ws root mvb cb) (hup : s.M.down = false) (hst : ¬ s.stuck) (hin : EdIn E ws.length) (h1 : 1 ≤ (eLines E).length) (h14 : (eLines E).length ≤ 14)
    (hok' : Ok (applyE ws E)) (hru' : root = 0 ∨ isUsed (applyE ws E) root = true) (hb : mvb + 2000 < 4611686018427387904) (hcb : cb + 100 < 4611686018427387904) :
    (s.M.cut = -1 → (commitH pa pb pc pd ws E s).1.M.cut = -1) ∧
    (((commitH pa pb pc pd ws E s).2 = 0 ∧ (commitH pa pb pc pd ws E s).1.M.down = false ∧ HP pa pb pc pd (commitH pa pb pc pd ws E s).1 (applyE ws E) root (mvb + 40) (cb + 14) ∧ (commitH pa pb pc pd ws E s).1.worn = false ∧ (commitH pa pb pc pd ws E s).1.now = bump s.now (eLines E)) ∨
     ((commitH pa pb pc pd ws E s).2 = 3 ∧ (commitH pa pb pc pd ws E s).1.M.down = false ∧ HP pa pb pc pd (commitH pa pb pc pd ws E s).1 ws root (mvb + 40) (cb + 14) ∧ (commitH pa pb pc pd ws E s).1.worn = true ∧ (commitH pa pb pc pd ws E s).1.now = s.now) ∨
     ((commitH pa pb pc pd ws E s).2 = 2 ∧ (commitH pa pb pc pd ws E s).1.M.down = true ∧ s.M.cut ≠ -1 ∧ (HP pa pb pc pd (commitH pa pb pc pd ws E s).1 ws root (mvb + 40) (cb + 14) ∨ HP pa pb pc pd (commitH pa pb pc pd ws E s).1 (applyE ws E) root (mvb + 40) (cb + 14)))) ∧
    (∀ k, LV s.M (16 + pa.toNat + 1) pb.toNat k → ∃ k', k ≤ k' ∧ LV (commitH pa pb pc pd ws E s).1.M (16 + pa.toNat + 1) pb.toNat k') := by
  have hm := qJ.1 h.may
  obtain ⟨hn16, hpg⟩ := h.now16
  have hlen := h.len
  have hc0 := h.c0
  obtain ⟨l8, l512, h64⟩ := hok'.len
  have hlenA : (applyE ws E).length = ws.length := qaf E ws
  have hwf : s.worn = false := by cases hw : s.worn with | false => rfl | true => exact absurd (.inl hw) hst
  have hcm : commits s.M = 0 := by
    by_cases hc : commits s.M = 0
    · exact hc
    · exact absurd (.inr ⟨hup, hc⟩) hst
  have hls : ∀ ln ∈ eLines E, 0 ≤ ln ∧ ln < ((pa.toNat : Nat) : Int) := by
    intro ln hln
    obtain ⟨e, he, h0, rfl⟩ := qcm.1 hln
    have := hin.mem e he
    omega
  have hmay := qf4 (m := pa.toNat) (W := applyE ws E) hls h1 h14
  have hhok := qgO (m := pa.toNat) (W := applyE ws E) h64 (by omega) (by omega) hls
  obtain ⟨c1, c2⟩ := com_any h.ps (by omega) hup (by omega) hhok (by rw [qcs]; omega) h.sd
  obtain ⟨d1, d2, d3, d4⟩ := qhK h.ps (by omega) hup (by omega) hhok
  have hps := h.ps.com (by omega) (by omega) hhok
  rw [qjJ (by omega) (fun e he => by have := hin.mem e he; omega)] at c1
  have hd2 := d2 hmay hcm
  have hd4 := d4 hmay hcm
  unfold commitH
  simp only
  generalize comN (16 + pa.toNat) pb.toNat pc.toNat (homesC (applyE ws E) (eLines E)) s.M s.pt = C at *
  have hrt : C.1.regs.getD 2 0 = root := (d1 2 (.inl rfl)).trans h.rt
  have cp0 : (C.1.down = false ∨ True) → CP pd C.1 s.now s.kept cb := fun _ => ⟨h.cp.kl, h.cp.ok, fun _ i hi => by rw [d1 (19 + i) (.inr (by omega))]; exact h.cp.lag hup i hi, fun i hi => by rw [d1 (19 + i) (.inr (by omega))]; exact h.cp.rg i hi⟩
  by_cases he : C.2.2 = 0
  rotate_left 1
  · rw [if_pos he]
    have mk : ∀ (w : Bool) (ws' : List Int), (ws' = ws ∨ ws' = applyE ws E) → Sd (16 + pa.toNat) pb.toNat C.1 (linesOf pa.toNat ws') → ((⟨C.1, C.2.1, s.now, s.kept, w⟩ : HS).stuck → LV C.1 (16 + pa.toNat + 1) pb.toNat pb.toNat) → HP pa pb pc pd ⟨C.1, C.2.1, s.now, s.kept, w⟩ ws' root (mvb + 40) (cb + 14) := by
      intro w ws' hw hsd hwl
      refine ⟨h.may, hps, hsd, ?_, ?_, hrt, ?_, h.pg, (cp0 (.inr trivial)).mono (by omega), hwl, by omega⟩
      · rcases hw with rfl | rfl; exact h.ok; exact hok'
      · rcases hw with rfl | rfl; exact hlen; rw [hlenA]; exact hlen
      · rcases hw with rfl | rfl; exact h.ru; exact hru'
    refine ⟨fun hc => c2 hc, ?_, d3⟩
    have case2 : C.2.2 = 2 → C.1.down = true → s.M.cut ≠ -1 → ∀ ws', (ws' = ws ∨ ws' = applyE ws E) → Sd (16 + pa.toNat) pb.toNat C.1 (linesOf pa.toNat ws') →
        HP pa pb pc pd ⟨C.1, C.2.1, s.now, s.kept, s.worn || (C.2.2 == 3)⟩ ws' root (mvb + 40) (cb + 14) := by
      intro h2 hd hcut ws' hw hsd
      refine mk _ ws' hw hsd ?_
      intro hs
      rcases hs with hs | ⟨hs, _⟩
      · rw [hwf, h2] at hs; simp at hs
      · simp only at hs; rw [hd] at hs; cases hs
    rcases c1 with ⟨hsd, ⟨e0, e2, hd⟩ | ⟨e2, hd, hcut⟩⟩ | ⟨_, _, hsd, ⟨e0, _⟩ | ⟨e2, hd, hcut⟩⟩
    · have e3 : C.2.2 = 3 := by omega
      refine .inr (.inl ⟨e3, hd, ?_, by rw [e3]; simp, rfl⟩)
      exact mk _ ws (.inl rfl) hsd (fun _ => hd2 hd (.inl e3))
    · exact .inr (.inr ⟨e2, hd, hcut, .inl (case2 e2 hd hcut ws (.inl rfl) hsd)⟩)
    · exact absurd e0 he
    · exact .inr (.inr ⟨e2, hd, hcut, .inr (case2 e2 hd hcut _ (.inr rfl) hsd)⟩)
  rw [if_neg (by simpa using he)]
  have c1' : Sd (16 + pa.toNat) pb.toNat C.1 (linesOf pa.toNat (applyE ws E)) ∧ C.1.down = false := by
    rcases c1 with ⟨_, ⟨e0, _⟩ | ⟨e2, _⟩⟩ | ⟨_, _, hsd, ⟨_, hd⟩ | ⟨e2, _⟩⟩
    · exact absurd he e0
    · omega
    · exact ⟨hsd, hd⟩
    · omega
  obtain ⟨hsd, hCup⟩ := c1'
  obtain ⟨n1, n2, n3, n4, n5, n6, n7⟩ := qgC (pd := pd) (by omega) (ls := eLines E) (cp0 (.inl hCup)) hCup hps.ok (fun ln hln => by have := hls ln hln; omega) hn16 hc0 (by omega)
  generalize notesN pd (eLines E) C.1 s.now s.kept = N at *
  have hP : HP pa pb pc pd ⟨N.1, C.2.1, N.2.1, N.2.2.1, s.worn⟩ (applyE ws E) root (mvb + 40) (cb + 14) := by
    refine ⟨h.may, hps.low n1 (fun r hr _ => n2 r hr) n3, hsd.low (by omega) n1 (fun r hr _ => n2 r hr) (by omega), hok', by rw [hlenA]; exact hlen, (n2 2 (by omega)).trans hrt, hru', by show (N.2.1.length : Int) = _; rw [n6]; exact h.pg, n4.mono (by omega), fun hs => ?_, by omega⟩
    rcases hs with hs | ⟨hs, hc⟩
    · simp only at hs; rw [hwf] at hs; cases hs
    · have hcC : commits C.1 ≠ 0 := fun hx => hc (by show N.1.regs.getD 1 0 = 0; rw [n2 1 (by omega)]; exact hx)
      exact (hd2 hCup (.inr hcC)).low (by rw [n1]) fun r _ hr => n2 r hr
  refine ⟨fun hc => n5 (c2 hc), ?_, fun k hk => ?_⟩
  · rcases n7 with ⟨a, b, c⟩ | ⟨a, b, c⟩
    · exact .inl ⟨a, b, hP, hwf, c⟩
    · exact .inr (.inr ⟨a, b, fun hc => c (c2 hc), .inr hP⟩)
  · obtain ⟨k', hk', hlv'⟩ := d3 k hk
    exact ⟨k', hk', hlv'.low (by rw [n1]) fun r _ hr => n2 r hr⟩
end
theorem qiJ (v : Int) (j : Nat) : 0 ≤ getB v j ∧ getB v j ≤ 255 := by unfold getB; omega
theorem qgI (ws : List Int) (o n : Nat) : qbW (bytesOf ws o n) := by
 intro v hv
 unfold bytesOf at hv
 rw [qlk] at hv
 obtain ⟨j, _, rfl⟩ := hv
 exact qiJ _ _
section
variable {H : AH}
theorem MR.blk' {words : Int} {e : List Ex} {ws : List Int} (h : MR words e ws) : blkL ws = blkX words e := by unfold blkL; rw [h.blocks]; rfl
theorem qif {n words : Int} (hw : mayW words) (hn : 1 ≤ n ∧ n ≤ 448) (hfit : needN n ≤ words) :
  fitO (firstN words) n = [8] ∧ ∃ tk, takesN words (needN n) = tk ∧ (aAlloc (firstN words) n 8).1 = true ∧ MR words [(0, tk, qkQ ((tk.toNat - 1) * 8) 0)] (aAlloc (firstN words) n 8).2 := by
 have hm := MR.first hw
 have hw' := hw
 unfold mayW at hw'
 have hb : blkL (firstN words) = [(0, words, false)] := by
  rw [hm.blk']
  show gapB 0 words = _
  unfold gapB
  rw [if_pos (by omega), Int.sub_zero]
 have hneed : 2 ≤ needN n := by unfold needN; rw [if_pos hn]; omega
 have hf : fitI (firstN words) n = [0] := by
  unfold fitI fitsL
  rw [if_neg (by omega), hb]
  show fitStep _ _ [] 0 = [0]
  unfold fitStep
  have h1 : bkAt [((0 : Int), words, false)] 0 = (0, words, false) := rfl
  rw [h1, if_neg (by simp; omega)]
  rfl
 have hfo : fitO (firstN words) n = [8] := by
  show (fitI (firstN words) n).map _ = _
  rw [hf, hb]; rfl
 refine ⟨hfo, takesN words (needN n), rfl, ?_⟩
 rcases qeM (firstN words) n 8 with ⟨h0, _⟩ | ⟨_, i, hi, _, hA⟩
 ·rw [hfo] at h0; simp at h0
 ·rw [hf] at hi
  have hi0 : i = 0 := by simpa using hi
  subst hi0
  rw [hA]
  refine ⟨rfl, ?_⟩
  have hbk : bkAt (blkL (firstN words)) 0 = (0, words, false) := by rw [hb]; rfl
  rw [hbk]
  obtain ⟨e1, e2, hE, _, _, hMR⟩ := hm.alloc (i := 0) (b := (0, words, false)) (need := needN n) (by rw [← hm.blk', hb]; rfl) rfl ⟨hneed, hfit⟩
  have h2 : e1 = [] ∧ e2 = [] := by
   cases e1 <;> cases e2 <;> simp at hE ⊢
  rw [h2.1, h2.2] at hMR
  exact hMR
end
section
variable {words root off : Int} {e : List Ex} {ws : List Int}
theorem emap (e : List Ex) : (e.map fun x => ((x, 0) : Ex × Nat)).map (·.1) = e := by
 induction e with
 | nil => rfl
 | cons a r ih => simp only [List.map_cons, ih]
theorem MR.wr (h : MR words e ws) {bs : List Int} (hw : 0 ≤ (bs.length : Int) ∧ (bs.length : Int) ≤ 448 ∧ ∃ x ∈ e, (x.1 + 1) * 8 ≤ off ∧ off + bs.length ≤ (x.1 + x.2.1) * 8) : aWrite ws off bs = (0, putBs ws off.toNat bs) := by
 have hl := h.len
 refine qjD (E := e.map fun x => (x, 0)) (by rw [emap, hl]; exact h) ?_
 rw [h.blk', h.within]; exact hw
theorem MR.wr0 (h : MR words e ws) {bs : List Int} (hw : ¬ (0 ≤ (bs.length : Int) ∧ (bs.length : Int) ≤ 448 ∧ ∃ x ∈ e, (x.1 + 1) * 8 ≤ off ∧ off + bs.length ≤ (x.1 + x.2.1) * 8)) : aWrite ws off bs = (1, ws) := by
 have hl := h.len
 refine qiA (E := e.map fun x => (x, 0)) (by rw [emap, hl]; exact h) ?_
 rw [h.blk', h.within]; exact hw
theorem MR.rd (h : MR words e ws) {n : Int} (hw : 0 ≤ n ∧ n ≤ 448 ∧ ∃ x ∈ e, (x.1 + 1) * 8 ≤ off ∧ off + n ≤ (x.1 + x.2.1) * 8) : aRead ws off n = (bytesOf ws off.toNat n.toNat, 0) := by
 unfold aRead
 rw [if_pos]
 rw [h.blk', h.within]; exact hw
end
section
variable {ws : List Int} {e : List Ex} {off root : Int}
theorem MR.self {words : Int} {ext : List Ex} {W : List Int} (h : MR words ext W) (hl : (W.length : Int) = words) : MR W.length ext W := by rw [hl]; exact h
theorem MR.used (h : MR ws.length e ws) : isUsed ws off = true ↔ ∃ x ∈ e, (x.1 + 1) * 8 = off := by
 unfold isUsed
 rw [h.blocks]
 simp only [decide_eq_true_eq]
 constructor
 ·intro hh
  by_cases hx : ∃ x ∈ e, (x.1 + 1) * 8 = off
  ·exact hx
  ·have := h.is_none (off := off) (fun x hx' ho => hx ⟨x, hx', ho⟩)
   omega
 ·rintro ⟨x, hx, ho⟩
  obtain ⟨e1, e2, rfl⟩ := ql2 hx
  rw [h.is_at ho]; omega
theorem Ok.used_range (h : Ok ws) (hu : isUsed ws off = true) : 8 ≤ off ∧ off ≤ 8 * (ws.length : Int) := by
 obtain ⟨e, h⟩ := h
 obtain ⟨x, hx, ho⟩ := h.used.1 hu
 have := h.mem hx
 omega
theorem qdu {E : List (Int × Int)} (h : ∃ e ∈ E, 0 ≤ e.1) : 1 ≤ (eLines E).length := by
 obtain ⟨e, he, h0⟩ := h
 exact List.length_pos_of_mem (qcm.2 ⟨e, he, h0, rfl⟩)
theorem qcH (K b : Int) (n : Nat) : linesP K b n ≤ 14 := by
 unfold linesP
 split
 ·split <;> omega
 ·split
  ·split <;> omega
  ·split <;> omega
theorem qj3 {i j : Nat} (hok : Ok ws) (hi : i < (blkL ws).length) (hj : j < (blkL ws).length) (h : (bkAt (blkL ws) i).1 = (bkAt (blkL ws) j).1) : i = j := by
 have hc := hok.may.2
 have h1 := atN_at (j := 0) hc hi
 have h2 := atN_at (j := 0) hc hj
 rw [h, h2] at h1
 omega
theorem qes {n : Int} {cs : List Int} (hok : Ok ws) (hE : (imgAlloc ws n cs).2.2 = 0) :
  Ok (applyE ws (imgAlloc ws n cs).1) ∧ (∀ root, isUsed ws root = true → isUsed (applyE ws (imgAlloc ws n cs).1) root = true) ∧ 1 ≤ (eLines (imgAlloc ws n cs).1).length ∧ aAlloc ws n (imgAlloc ws n cs).2.1 = (true, applyE ws (imgAlloc ws n cs).1) ∧
  (∀ root, isUsed ws root = true → root ≠ (imgAlloc ws n cs).2.1) ∧ isUsed (applyE ws (imgAlloc ws n cs).1) (imgAlloc ws n cs).2.1 = true := by
 have hok0 := hok
 have hbl := hok.blocks
 have hlen := hok.len
 obtain ⟨e, h⟩ := hok
 unfold imgAlloc at hE ⊢
 rw [hbl] at hE ⊢
 by_cases hn0 : needN n = 0
 ·rw [if_pos hn0] at hE; simp at hE
 rw [if_neg hn0] at hE ⊢
 simp only at hE ⊢
 by_cases hc : chooseN (blkL ws) (needN n) cs < 0
 ·rw [if_pos hc] at hE; simp at hE
 rw [if_neg hc] at hE ⊢
 have hch : ∃ i : Nat, chooseN (blkL ws) (needN n) cs = (i : Int) ∧ i ∈ fitsL (blkL ws) (needN n) := by
  unfold chooseN at hc ⊢
  rcases qer (l := blkL ws) (cs := cs) (f := fitsL (blkL ws) (needN n)) (b := -1) with h | ⟨i, hi, h⟩
  ·omega
  ·exact ⟨i, h, hi⟩
 obtain ⟨i, hx, hin⟩ := hch
 obtain ⟨hi, hu, hn1, hn2⟩ := qhj (ws := ws) (n := n) hin
 rw [hx, qkS]
 simp only
 have hgi := qaF hi
 have hbx : blkL ws = blkX ws.length e := h.blk'
 have hbm := hok0.blen.2 _ (qkY hgi)
 obtain ⟨e1, e2, he, hl1, hl2, hMR⟩ := h.alloc (by rw [← hbx]; exact hgi) hu ⟨hn2, hn1⟩
 have hlen' : (applyE ws (carveE (bkAt (blkL ws) i) (needN n))).length = ws.length := qaf _ _
 have hMR' := MR.self hMR (by rw [hlen'])
 have hoff : offN (bkAt (blkL ws) i).1 = ((bkAt (blkL ws) i).1 + 1) * 8 := by unfold offN; rw [if_pos (by omega)]
 refine ⟨⟨_, hMR'⟩, fun root hr => ?_, ?_, ?_, fun root hr => ?_, ?_⟩
 ·obtain ⟨x, hx, ho⟩ := h.used.1 hr
  refine hMR'.used.2 ⟨x, ?_, ho⟩
  rw [he, qk4] at hx
  rw [qk4, qk8]
  rcases hx with hx | hx
  ·exact .inl hx
  ·exact .inr (.inr hx)
 ·refine qdu ⟨_, qme .., by simp only; omega⟩
 ·have hmem : offN (bkAt (blkL ws) i).1 ∈ fitO ws n := by
   unfold fitO
   exact List.mem_map_of_mem (f := fun i => offN (bkAt (blkL ws) i).1) hin
  rcases qeM ws n (offN (bkAt (blkL ws) i).1) with ⟨hno, _⟩ | ⟨_, j, hj, ho, hA⟩
  ·exact absurd hmem hno
  ·obtain ⟨hjl, hju, _, _⟩ := qhj hj
   have hbj := hok0.blen.2 _ (qkY (qaF hjl))
   have hij : j = i := qj3 hok0 hjl hi (by
    rw [hoff] at ho
    unfold offN at ho
    rw [if_pos (by omega)] at ho
    omega)
   rw [hA, hij]
 ·obtain ⟨x, hx, ho⟩ := h.used.1 hr
  intro hc
  rw [hoff] at hc
  rw [he, qk4] at hx
  rcases hx with hx | hx
  ·have := hl1 x hx; omega
  ·have := hl2 x hx; omega
 ·exact hMR'.used.2 ⟨_, List.mem_append_right _ (qme ..), hoff.symm⟩
theorem qeO (hok : Ok ws) (hE : (imgFree ws off).2 = 0) :
  Ok (applyE ws (imgFree ws off).1) ∧ (∀ root, isUsed ws root = true → root ≠ off → isUsed (applyE ws (imgFree ws off).1) root = true) ∧ 1 ≤ (eLines (imgFree ws off).1).length ∧ isUsed ws off = true := by
 obtain ⟨e, h⟩ := hok
 by_cases hx : ∃ x ∈ e, (x.1 + 1) * 8 = off
 rotate_left 1
 ·rw [h.imgFree_none (fun x hx' ho => hx ⟨x, hx', ho⟩)] at hE; simp at hE
 have hus := h.used.2 hx
 obtain ⟨x, hx, ho⟩ := hx
 obtain ⟨e1, e2, rfl⟩ := ql2 hx
 rw [h.imgFree_at ho]
 simp only
 have hMR := h.free
 have hlen' : (applyE ws [(endX 0 e1, wordN (startX (ws.length : Int) e2 - endX 0 e1) false)]).length = ws.length := qaf _ _
 have hMR' := MR.self hMR (by rw [hlen'])
 refine ⟨⟨_, hMR'⟩, fun root hr hne => ?_, ?_, hus⟩
 ·obtain ⟨y, hy, hyo⟩ := h.used.1 hr
  refine hMR'.used.2 ⟨y, ?_, hyo⟩
  rw [qk4, qk8] at hy
  rw [qk4]
  rcases hy with hy | hy | hy
  ·exact .inl hy
  ·subst hy; exact absurd (hyo.symm.trans ho) hne
  ·exact .inr hy
 ·have := (qc3 (qcJ.1 h.ok).1).1
  exact qdu ⟨_, qme .., by simp only; omega⟩
theorem qe3 {bs : List Int} {E : List (Int × Int)} (hE : imgWrite ws off bs = (E, 0)) : (E.length = 0 ↔ bs.length = 0) ∧ (0 < bs.length → ∃ e ∈ E, 0 ≤ e.1) := by
 unfold imgWrite at hE
 split at hE
 ·simp at hE
 split at hE
 rotate_left 1
 ·simp at hE
 injection hE with h1 h2
 subst h1
 unfold editsOf touched
 refine ⟨?_, fun hb => ?_⟩
 ·rw [qlO, List.length_range]
  split <;> omega
 ·rw [if_neg (by omega)]
  exact ⟨_, List.mem_map_of_mem (List.mem_range.2 (show 0 < _ by omega)), by simp only; omega⟩
theorem qfN {bs : List Int} (hok : Ok ws) (h8 : qbW bs) (hE : (imgWrite ws off bs).2 = 0) :
  Ok (applyE ws (imgWrite ws off bs).1) ∧ (∀ root, isUsed ws root = true → isUsed (applyE ws (imgWrite ws off bs).1) root = true) := by
 have hA : aWrite ws off bs = (0, applyE ws (imgWrite ws off bs).1) := by unfold aWrite; rw [if_pos hE]
 obtain ⟨e, h⟩ := hok
 by_cases hw : 0 ≤ (bs.length : Int) ∧ (bs.length : Int) ≤ 448 ∧ ∃ x ∈ e, (x.1 + 1) * 8 ≤ off ∧ off + bs.length ≤ (x.1 + x.2.1) * 8
 rotate_left 1
 ·rw [h.wr0 hw] at hA; simp at hA
 rw [h.wr hw] at hA
 injection hA with _ hA
 rw [← hA]
 obtain ⟨_, _, x, hx, ho1, ho2⟩ := hw
 have hxm := h.mem hx
 obtain ⟨e1, e2, rfl⟩ := ql2 hx
 have hMR := h.write (off := off.toNat) (bs := bs) h8 (by omega) (by omega)
 have hlen' : (putBs ws off.toNat bs).length = ws.length := qch _ _ _
 have hMR' := MR.self hMR (by rw [hlen'])
 refine ⟨⟨_, hMR'⟩, fun root hr => ?_⟩
 obtain ⟨y, hy, hyo⟩ := h.used.1 hr
 rw [qk4, qk8] at hy
 rcases hy with hy | hy | hy
 ·exact hMR'.used.2 ⟨y, by simp [hy], hyo⟩
 ·subst hy; exact hMR'.used.2 ⟨_, List.mem_append_right _ (qme ..), hyo⟩
 ·exact hMR'.used.2 ⟨y, by simp [hy], hyo⟩
end
def ChOut (pa pb pc pd : Int) (s : HS) (ws : List Int) (root : Int) (mvb : Nat) (cb : Int) (err : Int) (E : List (Int × Int)) (s' : HS) (e : Int) : Prop :=
 (e = 0 ∧ err = 0 ∧ ¬ s.stuck ∧ s'.M.down = false ∧ HP pa pb pc pd s' (applyE ws E) root (mvb + 40) (cb + 14) ∧ s'.worn = false ∧ s'.now = bump s.now (eLines E)) ∨
 (e = 3 ∧ s'.M.down = false ∧ HP pa pb pc pd s' ws root (mvb + 40) (cb + 14) ∧ s'.stuck ∧ s'.now = s.now ∧ (s.stuck → s' = s) ∧ (¬ s.stuck → err = 0 ∧ s'.worn = true)) ∨
 (e = err ∧ s' = s ∧ (err = 0 → E = [])) ∨
 (e = 2 ∧ err = 0 ∧ ¬ s.stuck ∧ s'.M.down = true ∧ s.M.cut ≠ -1 ∧ (HP pa pb pc pd s' ws root (mvb + 40) (cb + 14) ∨ HP pa pb pc pd s' (applyE ws E) root (mvb + 40) (cb + 14)))
structure Side (pa pb : Int) (s s' : HS) : Prop where
 cut : s.M.cut = -1 → s'.M.cut = -1
 lv : ∀ k, LV s.M (16 + pa.toNat + 1) pb.toNat k → ∃ k', k ≤ k' ∧ LV s'.M (16 + pa.toNat + 1) pb.toNat k'
theorem Side.refl {pa pb : Int} (s : HS) : Side pa pb s s := ⟨fun h => h, fun k h => ⟨k, qkV _, h⟩⟩
def errFree (ws : List Int) (root off : Int) : Int := if (imgFree ws off).2 ≠ 0 then (imgFree ws off).2 else if root = off then 5 else 0
section
variable {pa pb pc pd : Int} {s : HS} {ws : List Int} {root : Int} {mvb : Nat} {cb : Int}
theorem HP.rootN (h : HP pa pb pc pd s ws root mvb cb) : rootN s.M = root ∧ 0 ≤ root ∧ root ≤ 4096 := by
 have hr : 0 ≤ root ∧ root ≤ 4096 := by
  rcases h.ru with h0 | hu
  ·omega
  ·have := h.ok.used_range hu
   have := h.ok.len
   omega
 unfold Go.Proofs.YtdcbkjgoaknmkaaGreat.rootN
 rw [h.rt, qe (by omega) (by omega)]
 exact ⟨rfl, hr⟩
theorem qek {E : List (Int × Int)} (h : HP pa pb pc pd s ws root mvb cb) (hup : s.M.down = false) (hst : ¬ s.stuck) (hin : EdIn E ws.length) (h1 : 1 ≤ (eLines E).length) (h14 : (eLines E).length ≤ 14)
  (hok' : Ok (applyE ws E)) (hru' : root = 0 ∨ isUsed (applyE ws E) root = true) (hb : mvb + 2000 < 4611686018427387904) (hcb : cb + 100 < 4611686018427387904) :
  ChOut pa pb pc pd s ws root mvb cb 0 E (commitH pa pb pc pd ws E s).1 (commitH pa pb pc pd ws E s).2 ∧ Side pa pb s (commitH pa pb pc pd ws E s).1 := by
 obtain ⟨c1, c2, c3⟩ := qf0 h hup hst hin h1 h14 hok' hru' hb hcb
 refine ⟨?_, c1, c3⟩
 rcases c2 with ⟨a, b, c, d, e⟩ | ⟨a, b, c, d, e⟩ | ⟨a, b, c, d⟩
 ·exact .inl ⟨a, rfl, hst, b, c, d, e⟩
 ·exact .inr (.inl ⟨a, b, c, .inl d, e, fun h => absurd h hst, fun _ => ⟨rfl, d⟩⟩)
 ·exact .inr (.inr (.inr ⟨a, rfl, hst, b, c, d⟩))
theorem ChOut.stuck3 {E : List (Int × Int)} {err : Int} (h : HP pa pb pc pd s ws root mvb cb) (hup : s.M.down = false) (hs : s.stuck) : ChOut pa pb pc pd s ws root mvb cb err E s 3 :=
 .inr (.inl ⟨rfl, hup, h.mono (by omega) (by omega), hs, rfl, fun _ => rfl, fun hn => absurd hs hn⟩)
theorem qeQ {n : Int} (h : HP pa pb pc pd s ws root mvb cb) (hup : s.M.down = false) (hb : mvb + 2000 < 4611686018427387904) (hcb : cb + 100 < 4611686018427387904) :
  ChOut pa pb pc pd s ws root mvb cb (imgAlloc ws n s.now).2.2 (imgAlloc ws n s.now).1 (allocH pa pb pc pd s n).1 (allocH pa pb pc pd s n).2.1 ∧ Side pa pb s (allocH pa pb pc pd s n).1 ∧
  ((allocH pa pb pc pd s n).2.1 = 3 → (imgAlloc ws n s.now).2.2 ≠ 1) ∧ (s.stuck → (allocH pa pb pc pd s n).2.1 ≠ 3 → (imgAlloc ws n s.now).2.2 = 1) ∧ ((allocH pa pb pc pd s n).2.1 = 0 → (imgAlloc ws n s.now).2.2 = 0 ∧ ¬ s.stuck ∧ (allocH pa pb pc pd s n).2.2 = (imgAlloc ws n s.now).2.1) := by
 have hE6 : (imgAlloc ws n s.now).2.2 = 0 ∨ (imgAlloc ws n s.now).2.2 = 4 ∨ (imgAlloc ws n s.now).2.2 = 6 ∨ ((imgAlloc ws n s.now).2.2 = 1 ∧ needN n = 0) := by
  unfold imgAlloc
  by_cases h0 : needN n = 0
  ·rw [if_pos h0]; exact .inr (.inr (.inr ⟨rfl, h0⟩))
  ·rw [if_neg h0]
   split
   ·exact .inr (.inr (.inl rfl))
   ·split
    ·exact .inr (.inl rfl)
    ·exact .inl rfl
 unfold allocH
 rw [if_neg (by simp [hup]), h.words hup]
 by_cases h0 : needN n = 0
 ·rw [if_pos h0]
  have e1 : (imgAlloc ws n s.now).2.2 = 1 := by unfold imgAlloc; rw [if_pos h0]
  rw [e1]
  exact ⟨.inr (.inr (.inl ⟨rfl, rfl, fun hh => by omega⟩)), Side.refl s, fun hh => by simp at hh, fun _ _ => rfl, fun hh => by simp at hh⟩
 rw [if_neg h0]
 by_cases hs : s.stuck
 ·rw [if_pos hs]
  exact ⟨ChOut.stuck3 h hup hs, Side.refl s, fun _ hh => by omega, fun _ hh => by simp at hh, fun hh => by simp at hh⟩
 rw [if_neg hs]
 by_cases he : (imgAlloc ws n s.now).2.2 = 0
 rotate_left 1
 ·rw [if_pos he]
  refine ⟨.inr (.inr (.inl ⟨rfl, rfl, fun hh => absurd hh he⟩)), Side.refl s, fun hh => by simp only at hh; omega, fun hh => absurd hh hs, fun hh => absurd hh he⟩
 rw [if_neg (by simpa using he)]
 obtain ⟨k1, k2, k3, _, _, _⟩ := qes h.ok he
 have hml := (qfn (ws := ws) (n := n) (cs := s.now)).most
 have := qcH 1 n 0
 obtain ⟨c1, c2⟩ := qek (E := (imgAlloc ws n s.now).1) h hup hs qd7 k3 (by omega) k1 (h.ru.imp id (k2 root)) hb hcb
 rw [he]
 exact ⟨c1, c2, fun _ => by omega, fun hh => absurd hh hs, fun _ => ⟨rfl, hs, rfl⟩⟩
theorem qkn {off : Int} (h : HP pa pb pc pd s ws root mvb cb) (hup : s.M.down = false) (hb : mvb + 2000 < 4611686018427387904) (hcb : cb + 100 < 4611686018427387904) :
  ChOut pa pb pc pd s ws root mvb cb (errFree ws root off) (imgFree ws off).1 (freeH pa pb pc pd s off).1 (freeH pa pb pc pd s off).2 ∧ Side pa pb s (freeH pa pb pc pd s off).1 ∧
  ((freeH pa pb pc pd s off).2 = 3 → errFree ws root off = 0) := by
 have hE6 : (imgFree ws off).2 = 0 ∨ (imgFree ws off).2 = 1 ∨ (imgFree ws off).2 = 6 := by
  unfold imgFree
  split
  ·exact .inr (.inr rfl)
  ·split
   ·exact .inr (.inl rfl)
   ·exact .inl rfl
 have hF : freeH pa pb pc pd s off = if (imgFree ws off).2 ≠ 0 then (s, (imgFree ws off).2) else if root = off then (s, 5) else if s.stuck then (s, 3) else commitH pa pb pc pd ws (imgFree ws off).1 s := by
  unfold freeH
  rw [if_neg (by simp [hup]), h.words hup, h.rootN.1]
 rw [hF]
 by_cases he : (imgFree ws off).2 = 0
 rotate_left 1
 ·have eF : errFree ws root off = (imgFree ws off).2 := by unfold errFree; rw [if_pos he]
  rw [if_pos he, eF]
  exact ⟨.inr (.inr (.inl ⟨rfl, rfl, fun hh => absurd hh he⟩)), Side.refl s, fun hh => by simp only at hh; omega⟩
 rw [if_neg (by simpa using he)]
 by_cases hr : root = off
 ·have eF : errFree ws root off = 5 := by unfold errFree; rw [if_neg (by simpa using he), if_pos hr]
  rw [if_pos hr, eF]
  exact ⟨.inr (.inr (.inl ⟨rfl, rfl, fun hh => by omega⟩)), Side.refl s, fun hh => by simp at hh⟩
 have eF : errFree ws root off = 0 := by unfold errFree; rw [if_neg (by simpa using he), if_neg hr]
 rw [if_neg hr, eF]
 by_cases hs : s.stuck
 ·rw [if_pos hs]
  exact ⟨ChOut.stuck3 h hup hs, Side.refl s, fun _ => rfl⟩
 rw [if_neg hs]
 obtain ⟨k1, k2, k3, _⟩ := qeO h.ok he
 have hml := (qeh (ws := ws) (off := off)).most
 have := qcH 2 0 0
 obtain ⟨c1, c2⟩ := qek (E := (imgFree ws off).1) h hup hs qdx k3 (by omega) k1 (h.ru.imp id (fun hu => k2 root hu (fun e => hr e))) hb hcb
 exact ⟨c1, c2, fun _ => rfl⟩
theorem qgT {off : Int} {bs : List Int} (h8 : qbW bs) (h : HP pa pb pc pd s ws root mvb cb) (hup : s.M.down = false) (hb : mvb + 2000 < 4611686018427387904) (hcb : cb + 100 < 4611686018427387904) :
  ChOut pa pb pc pd s ws root mvb cb (imgWrite ws off bs).2 (imgWrite ws off bs).1 (writeH pa pb pc pd s off bs).1 (writeH pa pb pc pd s off bs).2 ∧ Side pa pb s (writeH pa pb pc pd s off bs).1 ∧
  ((writeH pa pb pc pd s off bs).2 = 3 → (imgWrite ws off bs).2 = 0 ∧ 0 < bs.length) ∧ ((imgWrite ws off bs).2 = 0 → bs.length = 0 → writeH pa pb pc pd s off bs = (s, 0)) ∧ ((imgWrite ws off bs).2 = 0 → 0 < bs.length → s.stuck → writeH pa pb pc pd s off bs = (s, 3)) := by
 have hE6 : (imgWrite ws off bs).2 = 0 ∨ (imgWrite ws off bs).2 = 1 ∨ (imgWrite ws off bs).2 = 6 := by
  unfold imgWrite
  split
  ·exact .inr (.inr rfl)
  ·split
   ·exact .inl rfl
   ·exact .inr (.inl rfl)
 unfold writeH
 rw [if_neg (by simp [hup]), h.words hup]
 by_cases he : (imgWrite ws off bs).2 = 0
 rotate_left 1
 ·rw [if_pos he]
  exact ⟨.inr (.inr (.inl ⟨rfl, rfl, fun hh => absurd hh he⟩)), Side.refl s, fun hh => by simp only at hh; omega, fun hh => absurd hh he, fun hh => absurd hh he⟩
 rw [if_neg (by simpa using he)]
 obtain ⟨l1, l2⟩ := qe3 (E := (imgWrite ws off bs).1) (ws := ws) (off := off) (bs := bs) (Prod.ext rfl he)
 by_cases hz : (imgWrite ws off bs).1.length = 0
 ·rw [if_pos hz, he]
  have hb0 := l1.1 hz
  exact ⟨.inr (.inr (.inl ⟨rfl, rfl, fun _ => List.length_eq_zero_iff.1 hz⟩)), Side.refl s, fun hh => by simp at hh, fun _ _ => rfl, fun _ hh => by omega⟩
 rw [if_neg hz]
 have hb0 : 0 < bs.length := by
  rcases Nat.eq_zero_or_pos bs.length with h0 | h0
  ·exact absurd (l1.2 h0) hz
  ·exact h0
 by_cases hs : s.stuck
 ·rw [if_pos hs]
  exact ⟨ChOut.stuck3 h hup hs, Side.refl s, fun _ => ⟨he, hb0⟩, fun _ hh => by omega, fun _ _ _ => rfl⟩
 rw [if_neg hs]
 obtain ⟨k1, k2⟩ := qfN h.ok h8 he
 have hml := (qfm (ws := ws) h.ok.len.2.2 (off := off) (bs := bs)).most
 have := qcH 4 0 bs.length
 obtain ⟨c1, c2⟩ := qek (E := (imgWrite ws off bs).1) h hup hs (qd8 h.ok.len.2.2 (by have := h.ok.len; omega)) (qdu (l2 hb0)) (by omega) k1 (h.ru.imp id (k2 root)) hb hcb
 rw [he]
 exact ⟨c1, c2, fun _ => ⟨rfl, hb0⟩, fun _ hh => by omega, fun _ _ hh => absurd hh hs⟩
theorem qhR {off : Int} (hoff : isI off) (h : HP pa pb pc pd s ws root mvb cb) (hup : s.M.down = false) :
    Side pa pb s (setRootH pa pb s off).1 ∧ (setRootH pa pb s off).1.now = s.now ∧ (setRootH pa pb s off).1.worn = s.worn ∧
    ((off ≠ 0 ∧ isUsed ws off = false ∧ setRootH pa pb s off = (s, 1)) ∨
     ((off = 0 ∨ isUsed ws off = true) ∧ s.stuck ∧ setRootH pa pb s off = (s, 3)) ∨
     ((off = 0 ∨ isUsed ws off = true) ∧ ¬ s.stuck ∧ (setRootH pa pb s off).2 = 0 ∧ (setRootH pa pb s off).1.M.down = false ∧ ¬ (setRootH pa pb s off).1.stuck ∧ HP pa pb pc pd (setRootH pa pb s off).1 ws off mvb cb) ∨
     ((off = 0 ∨ isUsed ws off = true) ∧ ¬ s.stuck ∧ (setRootH pa pb s off).2 = 2 ∧ (setRootH pa pb s off).1.M.down = true ∧ s.M.cut ≠ -1 ∧ (HP pa pb pc pd (setRootH pa pb s off).1 ws root mvb cb ∨ HP pa pb pc pd (setRootH pa pb s off).1 ws off mvb cb))) := by
  have hm := qJ.1 h.may
  unfold setRootH
  rw [if_neg (by simp [hup]), h.words hup]
  by_cases hu : off ≠ 0 ∧ isUsed ws off = false
  · rw [if_pos hu]
    exact ⟨Side.refl s, rfl, rfl, .inl ⟨hu.1, hu.2, rfl⟩⟩
  rw [if_neg hu]
  have hu' : off = 0 ∨ isUsed ws off = true := by
    by_cases h0 : off = 0
    · exact .inl h0
    · right
      cases hx : isUsed ws off with
      | true => rfl
      | false => exact absurd ⟨h0, hx⟩ hu
  by_cases hs : s.stuck
  · rw [if_pos hs]
    exact ⟨Side.refl s, rfl, rfl, .inr (.inl ⟨hu', hs, rfl⟩)⟩
  rw [if_neg hs]
  have hr : 0 ≤ off ∧ off ≤ 4096 := by
    rcases hu' with h0 | hu'
    · omega
    · have := h.ok.used_range hu'
      have := h.ok.len
      omega
  rw [qbe (by omega) (by omega)]
  have hS := Mem.set_any (M := s.M) (i := 2) (v := off) hup (by omega) h.ps.ok.cut.1
  have hSo := Mem.set_ok (M := s.M) (i := 2) (v := off) h.ps.ok (by unfold isU; omega)
  have hlow : ∀ r : Nat, r ≠ 2 → (s.M.set 2 off).1.regs.getD r 0 = s.M.regs.getD r 0 := fun r hr => qcg (by omega)
  have hrl := h.ps.ok.regs
  rw [show ((2 : Nat) : Int) = 2 from rfl] at hS
  generalize s.M.set 2 off = S at *
  have hcm : commits S.1 = commits s.M := hlow 1 (by omega)
  have hlv : ∀ k, LV s.M (16 + pa.toNat + 1) pb.toNat k → LV S.1 (16 + pa.toNat + 1) pb.toNat k := fun k hk => hk.low (by rw [hS.cs]) fun r h1 _ => hlow r (by omega)
  have mk : ∀ root', (root' = root ∨ root' = off) → S.1.regs.getD 2 0 = root' → HP pa pb pc pd { s with M := S.1 } ws root' mvb cb := by
    intro root' hor hreg
    refine ⟨h.may, h.ps.low hS.cs (fun r _ hr => hlow r hr) hSo, h.sd.low (by omega) hS.cs (fun r _ hr => hlow r hr) (by omega), h.ok, h.len, hreg, ?_, h.pg, ⟨h.cp.kl, h.cp.ok, fun hd i hi => ?_, fun i hi => by show S.1.regs.getD (19 + i) 0 ≤ _; rw [hlow (19 + i) (by omega)]; exact h.cp.rg i hi⟩, fun hst => ?_, h.c0⟩
    · rcases hor with rfl | rfl
      · exact h.ru
      · exact hu'
    · show _ ∧ S.1.regs.getD (19 + i) 0 = _
      rw [hlow (19 + i) (by omega)]
      exact h.cp.lag hup i hi
    · refine absurd ?_ hs
      rcases hst with hst | ⟨hst, hc⟩
      · exact .inl hst
      · exact .inr ⟨hup, by rw [← hcm]; exact hc⟩
  refine ⟨⟨hS.cut, fun k hk => ⟨k, qkV _, hlv k hk⟩⟩, rfl, rfl, ?_⟩
  rcases hS.res with ⟨a, b, c⟩ | ⟨a, b, c, d⟩
  · refine .inr (.inr (.inl ⟨hu', hs, a, b, ?_, mk off (.inr rfl) (by rw [c, qbZ (by omega), if_pos rfl])⟩))
    intro hst
    refine hs ?_
    rcases hst with hst | ⟨hst, hc⟩
    · exact .inl hst
    · exact .inr ⟨hup, by rw [← hcm]; exact hc⟩
  · refine .inr (.inr (.inr ⟨hu', hs, a, b, c, ?_⟩))
    rcases d with d | d
    · left; exact mk root (.inl rfl) (by rw [d]; exact h.rt)
    · right; exact mk off (.inr rfl) (by rw [d, qbZ (by omega), if_pos rfl])
theorem qhz {off n : Int} (h : HP pa pb pc pd s ws root mvb cb) (hup : s.M.down = false) : readH pa pb s off n = imgRead ws off n := by
 unfold readH
 rw [if_neg (by simp [hup]), h.words hup]
theorem HP.hok {H : AH} {L : Pl} (h : HP pa pb pc pd s ws root mvb cb) (ha : HA H L pa pb pc pd s) (hb : mvb + 2000 < 4611686018427387904) (hcb : cb + 1000 < 4611686018427387904) : HOK H L pa pb pc pd s mvb cb :=
 ⟨ha, h.ps, by omega, fun j hj => (h.cp.ok j hj).2.2, hcb⟩
end
section
variable {n sp per : Nat} {M : Mem} {mvb len pt : Nat}
theorem qke {l : List (Int × List Int)} (h : PSt n sp per M pt mvb len) (hn : 16 < n ∧ n ≤ 1000) (hup : M.down = false) (hb : mvb + 100 < 4611686018427387904) (hok : ∀ q ∈ l, qbR q) (hm : MayL n l) :
  (∀ r, (r = 2 ∨ 19 ≤ r) → (finN n sp per l M pt).1.regs.getD r 0 = M.regs.getD r 0) ∧
  ((finN n sp per l M pt).1.down = false → commits (finN n sp per l M pt).1 ≠ 0 → LV (finN n sp per l M pt).1 (n + 1) sp sp) ∧
  (∀ k, LV M (n + 1) sp k → ∃ k', k ≤ k' ∧ LV (finN n sp per l M pt).1 (n + 1) sp k') := by
 have hl14 := hm.2.2.1
 have hlm : ∀ q ∈ l, 0 ≤ q.1 ∧ q.1 < n ∧ isLine q.2 := fun q hq => by have := qcn hm hq; exact ⟨by omega, this.2, (hok q hq).line⟩
 obtain ⟨t1, t2, t3⟩ := qex (by omega) h hup (by omega) hlm
 obtain ⟨b1, _, _, b4⟩ := qck (by omega) h hup (by omega) hlm (qc4 hm)
 have hps3 := h.puts (by omega) (l := l) (by omega) hok
 unfold finN
 simp only
 generalize tputs n sp per l M pt = T at *
 by_cases e2 : T.2.2 = 0
 ·rw [if_pos e2]
  have hTup : T.1.down = false := by
   rcases b1 with ⟨_, h, _⟩ | ⟨e', _⟩ | ⟨e', _⟩
   ·exact h
   ·omega
   ·omega
  obtain ⟨z1, z2⟩ := qcZ (v := 0) hps3 hTup
  refine ⟨fun r hr => by rw [qcg (by omega), t1 r (by omega)], fun hd hh => ?_, fun k hk => ?_⟩
  ·simp only at hd hh
   rcases z1 with ⟨_, _, c⟩ | ⟨_, hd', _⟩
   ·exact absurd c hh
   ·rw [hd'] at hd; cases hd
  ·obtain ⟨k', h1, h2⟩ := t3 k hk
   exact ⟨k', h1, h2.set1⟩
 rw [if_neg e2]
 by_cases e3 : T.2.2 = 3
 ·rw [if_pos e3]
  exact ⟨fun r hr => t1 r (by omega), fun _ _ => t2 e3, t3⟩
 rw [if_neg e3]
 refine ⟨fun r hr => t1 r (by omega), fun hd _ => ?_, t3⟩
 rcases b1 with ⟨e', _⟩ | ⟨e', _⟩ | ⟨_, hd', _⟩
 ·exact absurd e' e2
 ·exact absurd e' e3
 ·rw [hd'] at hd; cases hd
theorem qdT (hup : M.down = false) (hc : commits M = 0) : recN n sp per M pt = (M, pt, 0) := by
 have hh : homesN n sp M = ([], 0) := by unfold homesN; rw [if_neg (by simp [hup]), hc, if_neg (by omega)]; rfl
 unfold recN
 rw [hh, if_neg (by simp), if_pos (by rfl)]
theorem qhE {ws : List (List Int)} (h : PSt n sp per M pt mvb len) (hn : 16 < n ∧ n ≤ 1000) (hup : M.down = false) (hb : mvb + 100 < 4611686018427387904) (hs : Sd n sp M ws) :
  PSt n sp per (recN n sp per M pt).1 (recN n sp per M pt).2.1 (mvb + 14) len ∧
  (∀ r, (r = 2 ∨ 19 ≤ r) → (recN n sp per M pt).1.regs.getD r 0 = M.regs.getD r 0) ∧
  ((recN n sp per M pt).1.down = false → commits (recN n sp per M pt).1 ≠ 0 → LV (recN n sp per M pt).1 (n + 1) sp sp) ∧
  (∀ k, LV M (n + 1) sp k → ∃ k', k ≤ k' ∧ LV (recN n sp per M pt).1 (n + 1) sp k') := by
 rcases hs with ⟨h1, h2⟩ | ⟨l, hp⟩
 ·rw [qdT hup h1]
  exact ⟨h.mono (by omega), fun _ _ => rfl, fun _ hc => absurd h1 hc, fun k hk => ⟨k, qkV _, hk⟩⟩
 ·have hl1 := hp.may.2.1
  have hl14 := hp.may.2.2.1
  have hh := qep hp.may hn.2 hup hp.cm hp.rows
  have e : recN n sp per M pt = finN n sp per l M pt := by
   unfold recN
   rw [hh]
   simp only
   rw [if_neg (by simp), if_neg (by omega), if_neg (fun hx => hx hp.may)]
  rw [e]
  exact ⟨(h.fin (by omega) (by omega) hp.ok).mono (by omega), qke h hn hup hb hp.ok hp.may⟩
end
structure MP (pa pb pc pd : Int) (M : Mem) (ws : List Int) (root : Int) (mvb : Nat) (cb : Int) : Prop where
 may : mayP pa pb pc pd = true
 lv : ∃ k, LV M (16 + pa.toNat + 1) pb.toNat k
 mok : M.ok
 mv : M.mv ≤ mvb
 mlen : M.cs.length = 16 + pa.toNat + 1 + pb.toNat
 sd : Sd (16 + pa.toNat) pb.toNat M (linesOf pa.toNat ws)
 ok : Ok ws
 len : (ws.length : Int) = 8 * pa
 rt : M.regs.getD 2 0 = root
 ru : root = 0 ∨ isUsed ws root = true
 rg : ∀ i : Nat, (i : Int) < pagesP pa pb pc pd → M.regs.getD (19 + i) 0 ≤ cb
 c0 : 0 ≤ cb
def keptOf (M : Mem) (m : Nat) : List Int := (qlw m).map fun i => M.regs.getD (19 + i) 0
theorem qcw {M : Mem} {m : Nat} : (keptOf M m).length = m := by simp [keptOf]
theorem qfh {M : Mem} {m i : Nat} (hi : i < m) : (keptOf M m).getD i 0 = M.regs.getD (19 + i) 0 := by
 unfold keptOf
 rw [qkP, qkZ, qlc hi]; rfl
section
variable {pa pb pc pd : Int} {s : HS} {M : Mem} {ws : List Int} {root : Int} {mvb : Nat} {cb : Int}
theorem HP.mp (h : HP pa pb pc pd s ws root mvb cb) : MP pa pb pc pd s.M ws root mvb cb :=
 ⟨h.may, h.ps.lv, h.ps.ok, h.ps.mv, h.ps.len, h.sd, h.ok, h.len, h.rt, h.ru, fun i hi => h.cp.rg i (by rw [← h.pg] at hi; omega), h.c0⟩
theorem MP.mono (h : MP pa pb pc pd M ws root mvb cb) {mvb' : Nat} {cb' : Int} (h1 : mvb ≤ mvb') (h2 : cb ≤ cb') : MP pa pb pc pd M ws root mvb' cb' :=
 ⟨h.may, h.lv, h.mok, qlS h.mv h1, h.mlen, h.sd, h.ok, h.len, h.rt, h.ru, fun i hi => by have := h.rg i hi; omega, by have := h.c0; omega⟩
theorem MP.pst (h : MP pa pb pc pd M ws root mvb cb) : PSt (16 + pa.toNat) pb.toNat pc.toNat M 0 mvb (16 + pa.toNat + 1 + pb.toNat) := by
 have hm := qJ.1 h.may
 exact ⟨h.lv, h.mok, by omega, h.mv, h.mlen⟩
theorem MP.pages (h : MP pa pb pc pd M ws root mvb cb) : pagesP pa pb pc pd = (pa + 3) / 4 ∧ 1 ≤ (pa + 3) / 4 ∧ (pa + 3) / 4 ≤ 16 := by
 have hm := qJ.1 h.may
 unfold pagesP
 rw [if_pos h.may]
 exact ⟨rfl, by omega, by omega⟩
theorem MP.power (h : MP pa pb pc pd M ws root mvb cb) : MP pa pb pc pd M.power ws root mvb cb := by
 have hm := qJ.1 h.may
 obtain ⟨k, hk⟩ := h.lv
 refine ⟨h.may, ⟨k, hk.same rfl rfl⟩, ?_, h.mv, h.mlen, h.sd.power (by omega), h.ok, h.len, h.rt, h.ru, h.rg, h.c0⟩
 exact Mem.power_ok h.mok
theorem MP.setCut (h : MP pa pb pc pd M ws root mvb cb) {a b : Int} (ha : a ≤ 9223372036854775807) : MP pa pb pc pd (M.setCut a b) ws root mvb cb := by
 have hm := qJ.1 h.may
 obtain ⟨k, hk⟩ := h.lv
 refine ⟨h.may, ⟨k, hk.same rfl rfl⟩, ?_, h.mv, h.mlen, h.sd.setCut (by omega) a b, h.ok, h.len, h.rt, h.ru, h.rg, h.c0⟩
 exact Mem.setCut_ok h.mok ha
def openS (pa pb pc pd : Int) (M : Mem) : HS := ⟨(recN (16 + pa.toNat) pb.toNat pc.toNat M 0).1, (recN (16 + pa.toNat) pb.toNat pc.toNat M 0).2.1, keptOf (recN (16 + pa.toNat) pb.toNat pc.toNat M 0).1 (pagesP pa pb pc pd).toNat, keptOf (recN (16 + pa.toNat) pb.toNat pc.toNat M 0).1 (pagesP pa pb pc pd).toNat, false⟩
theorem MP.opened (h : MP pa pb pc pd M ws root mvb cb) (hup : M.down = false) (hb : mvb + 2000 < 4611686018427387904) :
    (M.cut = -1 → (openS pa pb pc pd M).M.cut = -1) ∧ (∀ k, LV M (16 + pa.toNat + 1) pb.toNat k → ∃ k', k ≤ k' ∧ LV (openS pa pb pc pd M).M (16 + pa.toNat + 1) pb.toNat k') ∧
    (((recN (16 + pa.toNat) pb.toNat pc.toNat M 0).2.2 = 0 ∧ (openS pa pb pc pd M).M.down = false ∧ HP pa pb pc pd (openS pa pb pc pd M) ws root (mvb + 14) cb) ∨
     ((recN (16 + pa.toNat) pb.toNat pc.toNat M 0).2.2 = 2 ∧ (openS pa pb pc pd M).M.down = true ∧ M.cut ≠ -1 ∧ MP pa pb pc pd (openS pa pb pc pd M).M ws root (mvb + 14) cb)) := by
  have hm := qJ.1 h.may
  obtain ⟨hpg, hpg1, hpg16⟩ := h.pages
  obtain ⟨r1, r2, r3⟩ := rec_any h.pst (by omega) hup (by omega) h.sd
  obtain ⟨q1, q2, q3, q4⟩ := qhE h.pst (by omega) hup (by omega) h.sd
  unfold openS
  generalize recN (16 + pa.toNat) pb.toNat pc.toNat M 0 = R at *
  refine ⟨r3, q4, ?_⟩
  rcases r2 with ⟨a, b⟩ | ⟨a, b, c⟩
  · refine .inl ⟨a, b, h.may, q1, r1, h.ok, h.len, (q2 2 (.inl rfl)).trans h.rt, h.ru, by show ((keptOf R.1 _).length : Int) = _; rw [qcw]; omega, ⟨rfl, fun i hi => ?_, fun _ i hi => ?_, fun i hi => ?_⟩, fun hs => ?_, h.c0⟩
    · simp only [qcw] at hi
      simp only
      rw [qfh hi, q2 (19 + i) (.inr (by omega))]
      have := h.rg i (by omega)
      have := reg_U h.mok (i := 19 + i) (by omega)
      unfold isU at this
      omega
    · simp only [qcw] at hi
      simp only
      rw [qfh hi]
      exact ⟨by omega, rfl⟩
    · simp only [qcw] at hi
      rw [q2 (19 + i) (.inr (by omega))]
      exact h.rg i (by omega)
    · rcases hs with hs | ⟨hs, hc⟩
      · cases hs
      · exact q3 hs hc
  · refine .inr ⟨a, b, c, ⟨h.may, q1.lv, q1.ok, q1.mv, q1.len, r1, h.ok, h.len, (q2 2 (.inl rfl)).trans h.rt, h.ru, fun i hi => ?_, h.c0⟩⟩
    simp only
    rw [q2 (19 + i) (.inr (by omega))]
    exact h.rg i hi
end
structure FrO (H H' : AH) (p c : Nat) : Prop where
 size : H.size ≤ H'.size
 get : ∀ b, b < H.size → b ≠ p → b ≠ c → H'.get b = H.get b
theorem FrO.trans {H H' H2 : AH} {p c : Nat} (h : FrO H H' p c) (h' : FrO H' H2 p c) : FrO H H2 p c :=
 ⟨qlS h.size h'.size, fun b hb h1 h2 => (h'.get b (by have := h.size; omega) h1 h2).trans (h.get b hb h1 h2)⟩
theorem FrO.of_keeps {H H' : AH} {p c : Nat} (h : qa H H') : FrO H H' p c := ⟨h.1, fun b hb _ _ => h.2 b hb⟩
theorem FrO.keeps {H0 H H' : AH} {p c : Nat} (h : FrO H H' p c) (hk : qa H0 H) (hp : H0.size ≤ p) (hc : H0.size ≤ c) : qa H0 H' :=
 ⟨qlS hk.1 h.size, fun b hb => by rw [h.get b (by have := hk.1; omega) (by omega) (by omega)]; exact hk.2 b hb⟩
theorem FrO.own {α : Type} {B : Nat} {H H' : AH} {p c : Nat} {s : Sl} {z : Nat} {f : α → List Value} {l : List α} (h : FrO H H' p c) (hp : p < B) (hc : c < B) (hO : Own B H s z f l) : Own B H' s z f l :=
 hO.keep h.size (fun b h1 h2 => h.get b h2 (by omega) (by omega))
section
variable {H H' : AH} {o : Nat} {pa pb pc pd : Int} {e : Nat}
theorem plg_row (hg : H.get o = ⟨pl pa pb pc pd, .rw, e⟩) : AH.row? H ⟨o, 0, none⟩ 4 = some (pl pa pb pc pd) := by
 simp [AH.row?, hg, pl, qo]
theorem qdh (hg : H.get o = ⟨pl pa pb pc pd, .rw, e⟩) (i : Nat) : AH.cell? H (qkN ⟨o, 0, none⟩ i) = (pl pa pb pc pd)[i]? := by
 rw [ql, qla]
 simp [AH.cell?, hg]
theorem MP.good {M : Mem} {ws : List Int} {root : Int} {mvb : Nat} {cb : Int} (h : MP pa pb pc pd M ws root mvb cb) (hup : M.down = false) (hb : mvb ≤ 1099511627776) : qb0 M (16 + pa) pb pc := by
 have hm := qJ.1 h.may
 obtain ⟨k, hk⟩ := h.lv
 have h1 := hk.may
 have h2 := h.mlen
 have h3 := h.mv
 refine ⟨by omega, by omega, by omega, by omega, by omega, by omega, hup, ?_, by omega⟩
 rw [show (16 + pa + 1 : Int) = ((16 + pa.toNat + 1 : Nat) : Int) by omega]
 exact h1
theorem qik {k : Option Addr → Int → AH → Prop} {o3 o30 p c : Nat} {M : Mem} (hm : qv H p c M) (hup : M.down = false) (hmay : mayP pa pb pc pd = true) (h3 : H.get o3 = ⟨pl pa pb pc pd, .rw, e⟩) (hl3 : o3 < H.size) {cells : List Value} (h30 : H.get o30 = ⟨cells, .rw, 0⟩) (hcl : cells.length = 9) (hl30 : o30 < H.size) (ho : o3 ≠ o30)
  (hrg : ∀ i : Nat, (i : Int) < pagesP pa pb pc pd → 0 ≤ M.regs.getD (19 + i) 0 ∧ M.regs.getD (19 + i) 0 ≤ 1099511627776)
  (hk : ∀ H' ct q1 q2, CAt H' ct q1 q2 pd (keptOf M (pagesP pa pb pc pd).toNat) (keptOf M (pagesP pa pb pc pd).toNat) → H.size ≤ H'.size → (∀ b, b < H.size → b ≠ o30 → H'.get b = H.get b) → H'.get o30 = ⟨cells.set 7 (.pointer (some ⟨ct, 0, none⟩)), .rw, 0⟩ → H.size ≤ ct → H.size ≤ q1 → H.size ≤ q2 → k (some ⟨o30, 0, none⟩) 0 H') :
  qN.j3 (some ⟨p, 0, none⟩) k o3 o30 false H := by
 have hmp := qJ.1 hmay
 unfold qN.j3
 rw [qc, qs (plg_row h3)]
 refine qb2.s ?_
 have hpg : pagesP pa pb pc pd = (pa + 3) / 4 := by unfold pagesP; rw [if_pos hmay]
 obtain ⟨m, hmE⟩ : ∃ m : Nat, pagesP pa pb pc pd = (m : Int) := ⟨(pagesP pa pb pc pd).toNat, by omega⟩
 rw [hmE] at hrg hk ⊢
 have hm16 : 1 ≤ m ∧ m ≤ 16 := by omega
 rw [qkS] at hk
 refine qL (t := ((none, (0 : Int), ⟨none, 0, 0⟩, (0 : Int)) : Option Addr × Int × Sl × Int)) (I := fun (t : Option Addr × Int × Sl × Int) H' => ∃ j : Nat, t.2.2.2 = (j : Int) ∧ j ≤ m ∧ qa H H' ∧ Own H.size H' t.2.2.1 1 iV (keptOf M j)) (m := fun (t : Option Addr × Int × Sl × Int) _ => qkX ((m : Int) - t.2.2.2)) ?_ ⟨0, rfl, by omega, qa.refl H, .inl ⟨rfl, rfl⟩⟩
 intro t H1 hI it hit
 obtain ⟨t1, t2, s, t4⟩ := t
 obtain ⟨j, e1, hj, hk1, hO⟩ := hI
 simp only at e1 hO
 subst e1
 unfold qN.l2
 simp only [qj, decide_eq_true_eq]
 by_cases hlt : (j : Int) < (m : Int)
 ·rw [if_pos hlt, qe (n := 19 + (j : Int)) (by omega) (by omega)]
  refine qE.s (hm.keeps hk1) ?_
  have hreg : M.reg (19 + (j : Int)) = (M.regs.getD (19 + j) 0, 0) := by
   unfold Mem.reg
   rw [if_pos ⟨by omega, by omega⟩, if_neg (by simp [hup]), show (19 + (j : Int)).toNat = 19 + j by omega]
  rw [hreg, if_neg (by simp)]
  have hrj := hrg j hlt
  rw [qt]
  simp only
  rw [if_neg (show ¬ (1099511627776 : Int) < M.regs.getD (19 + j) 0 by omega), qe (by omega) (by omega)]
  refine qbL (H0 := H) (B := H.size) (f := iV) (fun _ => rfl) rfl hO (qkV _) hk1.1 hk1 (by rw [qcw]; simp only [lim]; omega) ?_
  intro s' H' hO' hk' _ _
  rw [qe (n := (j : Int) + 1) (by omega) (by omega)]
  refine hit _ _ ⟨j + 1, by simp, by omega, hk', ?_⟩ (by simp only; omega)
  have : keptOf M (j + 1) = keptOf M j ++ [M.regs.getD (19 + j) 0] := by unfold keptOf; rw [qlW, List.map_append]; rfl
  rw [this]; exact hO'
 ·rw [if_neg hlt]
  have : j = m := by omega
  subst this
  unfold qN.j1
  rw [qdh (by rw [hk1.2 _ hl3]; exact h3) 3]
  show elI .i64 (some (.int .i64 pd)) _
  rw [qg]
  refine qaI.s (hO.rows (fun _ => rfl) (fun _ => rfl)) (by omega) (by rw [qcw]; exact hm16) (fun v hv => ?_) ?_
  ·unfold keptOf at hv
   rw [qlk] at hv
   obtain ⟨i, hi, rfl⟩ := hv
   rw [qlC] at hi
   exact hrg i (by omega)
  intro H2 ct q1 q2 hC hk2 hct hq1 hq2
  have h30' : H2.get o30 = ⟨cells, .rw, 0⟩ := by rw [hk2.2 _ (by have := hk1.1; omega), hk1.2 _ hl30]; exact h30
  have hs1 := hk1.1
  have hs2 := hk2.1
  rw [ql, qla, qaL]
  refine ⟨⟨rfl, by rw [h30'], by rw [h30']; simp only [qk3, qlL]; omega⟩, ?_⟩
  have eput : AH.put H2 ⟨o30, 7, none⟩ [.pointer (some ⟨ct, 0, none⟩)] = H2.upd o30 ⟨cells.set 7 (.pointer (some ⟨ct, 0, none⟩)), .rw, 0⟩ := by
   simp only [AH.put, h30', setMany]
  rw [eput]
  have hg : ∀ b, b ≠ o30 → (H2.upd o30 ⟨cells.set 7 (.pointer (some ⟨ct, 0, none⟩)), .rw, 0⟩).get b = H2.get b := fun b hb => by rw [qA, if_neg hb]
  refine hk _ ct q1 q2 ⟨by rw [hg _ (by omega)]; exact hC.hct, by rw [hg _ (by omega)]; exact hC.h1, by rw [hg _ (by omega)]; exact hC.h2, hC.len, hC.l16, hC.lc, hC.l1, hC.l2, hC.ne, hC.ok⟩ (by show H.size ≤ H2.size; omega)
   (fun b hb hne => by rw [hg b hne, hk2.2 _ (by omega), hk1.2 _ hb]) (by rw [qA, if_pos rfl]) (by omega) (by omega) (by omega)
end
section
variable {H : AH} {p c : Nat} {M : Mem} {pa pb pc pd : Int}
theorem qiN {k : Option Addr → Int → AH → Prop} {ws : List Int} {mvb : Nat} (hm : qv H p c M) (hmay : mayP pa pb pc pd = true) (hup : M.down = false)
  (hps : PSt (16 + pa.toNat) pb.toNat pc.toNat M 0 mvb (16 + pa.toNat + 1 + pb.toNat)) (hg : qb0 M (16 + pa) pb pc) (hb : mvb + 100 < 4611686018427387904) (hsd : Sd (16 + pa.toNat) pb.toNat M (linesOf pa.toNat ws)) (hwl : (ws.length : Int) = 8 * pa)
  (hbad : (recN (16 + pa.toNat) pb.toNat pc.toNat M 0).2.2 ≠ 0 → ∀ H', qv H' p c (recN (16 + pa.toNat) pb.toNat pc.toNat M 0).1 → FrO H H' p c → k none (recN (16 + pa.toNat) pb.toNat pc.toNat M 0).2.2 H')
  (hgo : (recN (16 + pa.toNat) pb.toNat pc.toNat M 0).2.2 = 0 → ∀ H' o3 o30 g t x s', qv H' p c (recN (16 + pa.toNat) pb.toNat pc.toNat M 0).1 → FrO H H' p c → H'.get o3 = ⟨pl pa pb pc pd, .rw, 0⟩ → H.size ≤ o3 → o3 < o30 → o30 < H'.size → H.size ≤ t → t < o30 → H.size ≤ x → x < o30 → o30 < g →
   H'.get o30 = ⟨[.pointer (some ⟨p, 0, none⟩), .int .i64 pa, .int .i64 pb, .int .i64 pc, .int .i64 pd, .pointer (some ⟨t, 0, none⟩), .pointer (some ⟨g, 0, none⟩), .pointer none, .bool false], .rw, 0⟩ →
   GAt H' g t x p c (16 + pa.toNat) pb.toNat pc.toNat (recN (16 + pa.toNat) pb.toNat pc.toNat M 0).2.1 (recN (16 + pa.toNat) pb.toNat pc.toNat M 0).1 → Own H.size H' s' 1 wU ws →
   qI s' H' fun s71a b71b H71 => bcase (!b71b) (qN.j3 (some ⟨p, 0, none⟩) k o3 o30 true H71) (bcase (((recN (16 + pa.toNat) pb.toNat pc.toNat M 0).1.regs.getD 2 0 : Int) != (0 : Int)) (bcase (decide (((recN (16 + pa.toNat) pb.toNat pc.toNat M 0).1.regs.getD 2 0 : Int) > (1048576 : Int))) (qN.j3 (some ⟨p, 0, none⟩) k o3 o30 true H71) (qb1 s' (qkM .i64 ((recN (16 + pa.toNat) pb.toNat pc.toNat M 0).1.regs.getD 2 0)) H71 fun b86 H86 => qN.j3 (some ⟨p, 0, none⟩) k o3 o30 (!b86) H86)) (qN.j3 (some ⟨p, 0, none⟩) k o3 o30 false H71))) :
  qN (some ⟨p, 0, none⟩) (pl pa pb pc pd) H k := by
 have hmp := qJ.1 hmay
 have hdev : (M.cs.length : Int) = deviceP pa pb pc pd := by
  have := hps.len
  unfold deviceP; rw [if_pos hmay]; omega
 obtain ⟨r1, r2, r3⟩ := rec_any hps (by omega) hup (by omega) hsd
 refine qN.link ?_
 unfold qN.b
 rw [qt, pl_ld]
 have hk3 : qa H (H.push ⟨pl pa pb pc pd, .rw, 0⟩) := (qa.refl H).push _
 have g3 : (H.push ⟨pl pa pb pc pd, .rw, 0⟩).get H.size = ⟨pl pa pb pc pd, .rw, 0⟩ := by rw [qp, if_pos rfl]
 have hl3 : H.size < (H.push ⟨pl pa pb pc pd, .rw, 0⟩).size := by simp [qi]
 generalize H.push ⟨pl pa pb pc pd, .rw, 0⟩ = H3 at *
 have hm3 := hm.keeps hk3
 refine qbf.s hm3 ?_
 rw [if_pos ⟨hmay, hdev⟩, if_neg (by simp [hup]), show ((0 : Int) != 0) = false from rfl, qc, qs (plg_row g3), qs (plg_row g3)]
 refine qbj.s hm3 hmay (fun hn => absurd hg hn) ?_
 intro _ H28 t x hT hk28 ht hx
 have g28 : H28.get H.size = ⟨pl pa pb pc pd, .rw, 0⟩ := by rw [hk28.2 _ hl3]; exact g3
 have hkk28 := hk3.trans hk28
 have hs28 := hk28.1
 refine ⟨plg_row g28, rfl, ?_⟩
 rw [qt]
 have ecell : (List.set (setMany [(qkR (some ⟨p, 0, none⟩)), (qkL .i64 (0 : Int)), (qkL .i64 (0 : Int)), (qkL .i64 (0 : Int)), (qkL .i64 (0 : Int)), (qkR none), (qkR none), (qkR none), (Value.bool false)] 1 (pl pa pb pc pd)) 5 (qkR (some ⟨t, 0, none⟩))) = [.pointer (some ⟨p, 0, none⟩), .int .i64 pa, .int .i64 pb, .int .i64 pc, .int .i64 pd, .pointer (some ⟨t, 0, none⟩), .pointer none, .pointer none, .bool false] := rfl
 rw [ecell]
 have htl := hT.lt
 have hxl := hT.l.lx
 have hn1 : (16 + pa).toNat = 16 + pa.toNat := by omega
 rw [hn1] at hT
 obtain ⟨H30, hH30⟩ : ∃ H30, H30 = H28.push ⟨[.pointer (some ⟨p, 0, none⟩), .int .i64 pa, .int .i64 pb, .int .i64 pc, .int .i64 pd, .pointer (some ⟨t, 0, none⟩), .pointer none, .pointer none, .bool false], .rw, 0⟩ := ⟨_, rfl⟩
 rw [← hH30]
 have g30 : H30.get H28.size = ⟨[.pointer (some ⟨p, 0, none⟩), .int .i64 pa, .int .i64 pb, .int .i64 pc, .int .i64 pd, .pointer (some ⟨t, 0, none⟩), .pointer none, .pointer none, .bool false], .rw, 0⟩ := by rw [hH30, qp, if_pos rfl]
 have hk30 : qa H28 H30 := by rw [hH30]; exact (qa.refl H28).push _
 have hl30 : H28.size < H30.size := by rw [hH30]; simp [qi]
 have hT30 := hT.keeps hk30
 clear hH30
 have cellw : ∀ {H' : AH} {vs : List Value} (i : Nat), H'.get H28.size = ⟨vs, .rw, 0⟩ → AH.cell? H' (qkN ⟨H28.size, 0, none⟩ i) = vs[i]? := fun i hg => by
  rw [ql, qla]; simp [AH.cell?, hg]
 rw [cellw 5 g30]
 show elP (some (.pointer (some ⟨t, 0, none⟩))) _
 rw [qC]
 refine log_New.s (q := 0) (u := 0) hT30 (fun hh => by omega) ?_
 intro _ H37 g hG hk37 hgl
 have hs37 := hk37.1
 have g37 : H37.get H28.size = ⟨[.pointer (some ⟨p, 0, none⟩), .int .i64 pa, .int .i64 pb, .int .i64 pc, .int .i64 pd, .pointer (some ⟨t, 0, none⟩), .pointer none, .pointer none, .bool false], .rw, 0⟩ := by rw [hk37.2 _ hl30]; exact g30
 rw [ql, qla, qaL]
 refine ⟨⟨rfl, by rw [g37], by rw [g37]; simp⟩, ?_⟩
 have eput : AH.put H37 ⟨H28.size, 6, none⟩ [.pointer (some ⟨g, 0, none⟩)] = H37.upd H28.size ⟨[.pointer (some ⟨p, 0, none⟩), .int .i64 pa, .int .i64 pb, .int .i64 pc, .int .i64 pd, .pointer (some ⟨t, 0, none⟩), .pointer (some ⟨g, 0, none⟩), .pointer none, .bool false], .rw, 0⟩ := by
  simp only [AH.put, g37, setMany]; rfl
 rw [eput]
 obtain ⟨H38, hH38⟩ : ∃ H38, H38 = H37.upd H28.size ⟨[.pointer (some ⟨p, 0, none⟩), .int .i64 pa, .int .i64 pb, .int .i64 pc, .int .i64 pd, .pointer (some ⟨t, 0, none⟩), .pointer (some ⟨g, 0, none⟩), .pointer none, .bool false], .rw, 0⟩ := ⟨_, rfl⟩
 rw [← hH38]
 have g38 : H38.get H28.size = ⟨[.pointer (some ⟨p, 0, none⟩), .int .i64 pa, .int .i64 pb, .int .i64 pc, .int .i64 pd, .pointer (some ⟨t, 0, none⟩), .pointer (some ⟨g, 0, none⟩), .pointer none, .bool false], .rw, 0⟩ := by rw [hH38, qA, if_pos rfl]
 have ne38 : ∀ b, b ≠ H28.size → H38.get b = H37.get b := fun b hb => by rw [hH38, qA, if_neg hb]
 have sz38 : H38.size = H37.size := by rw [hH38]; rfl
 clear hH38
 have lp := hm3.lp
 have lc := hm3.lc
 have hG38 : GAt H38 g t x p c (16 + pa.toNat) pb.toNat pc.toNat 0 M := hG.other (o := H28.size) ⟨by omega, by omega, by omega, by omega, by omega⟩ ne38 sz38
 have hk38 : qa H3 H38 := ⟨by omega, fun b hb => by rw [ne38 b (by omega), hk37.2 b (by omega), hk30.2 b (by omega), hk28.2 b hb]⟩
 have hk38' : qa H H38 := hk3.trans hk38
 have c6 : AH.cell? H38 ⟨H28.size, 6, none⟩ = some (.pointer (some ⟨g, 0, none⟩)) := by simp [AH.cell?, g38]
 rw [c6, qC, qk1, qc, qC]
 refine qh0.s hG38 hps (by omega) ?_
 intro H49 hG49 f49 z49
 have rps := (qhE hps (by omega) hup (by omega) hsd).1
 have hfro : FrO H H49 p c := ⟨by have := hk38'.1; omega, fun b hb h1 h2 => by rw [f49.get b (by have := hk38'.1; omega) (by omega) h1 h2, hk38'.2 b hb]⟩
 generalize recN (16 + pa.toNat) pb.toNat pc.toNat M 0 = R at *
 rcases r2 with ⟨he, hRup⟩ | ⟨he, hRd, _⟩
 rotate_left 1
 ·rw [he, show ((2 : Int) != 0) = true from rfl, qk]
  have := hbad (by omega) H49 hG49.tn.l.m hfro
  rw [he] at this
  exact this
 rw [he, show ((0 : Int) != 0) = false from rfl, qc]
 have g49 : H49.get H28.size = ⟨[.pointer (some ⟨p, 0, none⟩), .int .i64 pa, .int .i64 pb, .int .i64 pc, .int .i64 pd, .pointer (some ⟨t, 0, none⟩), .pointer (some ⟨g, 0, none⟩), .pointer none, .bool false], .rw, 0⟩ := by
  rw [f49.get _ (by omega) (by omega) (by omega) (by omega), g38]
 have g49o : H49.get H.size = ⟨pl pa pb pc pd, .rw, 0⟩ := by
  rw [f49.get _ (by omega) (by omega) (by have := hm.lp; omega) (by have := hm.lc; omega), hk38.2 _ (by omega), g3]
 have hW : HW H49 H28.size g t x p c pa pb pc pd R.2.1 R.1 := ⟨⟨_, _, rfl, g49⟩, by omega, hmay, hG49⟩
 refine qev.w hW (fun hd => by rw [hRup] at hd; cases hd) ?_
 intro _ s' H55 hk55 hO55
 rw [show ((0 : Int) != 0) = false from rfl, qc, qgB (by omega) hRup hwl r1] at *
 have hm55 := hG49.tn.l.m.keeps hk55
 refine qE.s hm55 ?_
 have hreg : R.1.reg 2 = (R.1.regs.getD 2 0, 0) := by
  unfold Mem.reg
  rw [if_pos ⟨by omega, by omega⟩, if_neg (by simp [hRup])]; rfl
 rw [hreg]
 simp only
 rw [show ((0 : Int) != 0) = false from rfl, qc]
 have hs55 := hk55.1
 have hs38 := hk38'.1
 exact hgo he H55 H.size H28.size g t x s' hm55 (hfro.trans (FrO.of_keeps hk55)) (by rw [hk55.2 _ (by omega)]; exact g49o) (qkV _) (by omega) (by omega) (by omega) htl (by omega) hxl (by omega)
  (by rw [hk55.2 _ (by omega)]; exact g49) (hG49.keeps hk55) (qci hO55 (by omega))
end
section
variable {H : AH} {p c : Nat} {M : Mem} {pa pb pc pd : Int} {ws : List Int} {root : Int} {mvb : Nat} {cb : Int}
theorem qN.s {k : Option Addr → Int → AH → Prop} (h : MP pa pb pc pd M ws root mvb cb) (hm : qv H p c M) (hup : M.down = false) (hb : mvb ≤ 1000000000) (hcb : cb ≤ 1000000000)
  (hbad : (recN (16 + pa.toNat) pb.toNat pc.toNat M 0).2.2 ≠ 0 → ∀ H', qv H' p c (openS pa pb pc pd M).M → FrO H H' p c → k none (recN (16 + pa.toNat) pb.toNat pc.toNat M 0).2.2 H')
  (hgo : (recN (16 + pa.toNat) pb.toNat pc.toNat M 0).2.2 = 0 → ∀ H' L, HA H' L pa pb pc pd (openS pa pb pc pd M) → L.p = p → L.c = c → H.size ≤ L.h → H.size ≤ L.g → H.size ≤ L.t → H.size ≤ L.x → H.size ≤ L.ct → H.size ≤ L.q1 → H.size ≤ L.q2 → FrO H H' p c → k (some ⟨L.h, 0, none⟩) 0 H') :
  qN (some ⟨p, 0, none⟩) (pl pa pb pc pd) H k := by
 have hmp := qJ.1 h.may
 obtain ⟨hpg, hpg1, hpg16⟩ := h.pages
 refine qiN hm h.may hup h.pst (h.good hup (by omega)) (by omega) h.sd h.len hbad ?_
 intro he H1 o3 o30 g t x s' hm1 hfro g3 ho3 ho330 hl30 ht ht30 hx hx30 hg30 g30 hG hO
 obtain ⟨_, _, hop⟩ := h.opened hup (by omega)
 have hP : HP pa pb pc pd (openS pa pb pc pd M) ws root (mvb + 14) cb := by
  rcases hop with ⟨_, _, hP⟩ | ⟨e2, _⟩
  ·exact hP
  ·omega
 have hRup : (openS pa pb pc pd M).M.down = false := by
  rcases hop with ⟨_, hd, _⟩ | ⟨e2, _⟩
  ·exact hd
  ·omega
 have hlen := h.ok.len
 have hroot := hP.rt
 have hrr := hP.rootN.2
 have hreg : ∀ i : Nat, (i : Int) < pagesP pa pb pc pd → 0 ≤ (openS pa pb pc pd M).M.regs.getD (19 + i) 0 ∧ (openS pa pb pc pd M).M.regs.getD (19 + i) 0 ≤ 1099511627776 := by
  intro i hi
  have h1 := reg_U hP.ps.ok (i := 19 + i) (by omega)
  have h2 := hP.mp.rg i hi
  unfold isU at h1
  omega
 have hSdef : openS pa pb pc pd M = ⟨(recN (16 + pa.toNat) pb.toNat pc.toNat M 0).1, (recN (16 + pa.toNat) pb.toNat pc.toNat M 0).2.1, keptOf (recN (16 + pa.toNat) pb.toNat pc.toNat M 0).1 (pagesP pa pb pc pd).toNat, keptOf (recN (16 + pa.toNat) pb.toNat pc.toNat M 0).1 (pagesP pa pb pc pd).toNat, false⟩ := rfl
 have eM : (openS pa pb pc pd M).M = (recN (16 + pa.toNat) pb.toNat pc.toNat M 0).1 := rfl
 rw [eM] at hroot hRup hreg
 generalize recN (16 + pa.toNat) pb.toNat pc.toNat M 0 = R at *
 rw [hroot]
 have fin : ∀ H', qa H1 H' → qN.j3 (some ⟨p, 0, none⟩) k o3 o30 false H' := by
  intro H' hk
  have hs1 := hfro.size
  have hs' := hk.1
  refine qik (hm1.keeps hk) hRup h.may (by rw [hk.2 _ (by omega)]; exact g3) (by omega) (by rw [hk.2 _ hl30]; exact g30) rfl (by omega) (by omega) hreg ?_
  intro H2 ct q1 q2 hC hs2 hfr hg30' hct hq1 hq2
  have hG' := hG.keeps hk
  have lg := hG'.lg; have lt := hG'.tn.lt; have lx := hG'.tn.l.lx; have lp := hm1.lp; have lc := hm1.lc
  have hnp := hm.lp; have hnc := hm.lc
  have hG2 : GAt H2 g t x p c (16 + pa.toNat) pb.toNat pc.toNat R.2.1 R.1 := by
   have hl := hG'.tn.l
   have n1 := hG'.ne
   refine ⟨by rw [hfr g lg (by omega), hG'.hg], by omega, hG'.ne, ⟨by rw [hfr t lt (by omega), hG'.tn.ht], by omega, hG'.tn.tp, hG'.tn.tc, hG'.tn.tx,
    ⟨by rw [hfr x lx (by omega), hl.hx], by omega, hl.xp, hl.xc, hl.m.keep (by omega) (hfr p hl.m.lp (by omega)) (hfr c hl.m.lc (by omega)), hl.len, hl.n1, hl.sp16⟩, hG'.tn.n1, hG'.tn.per, hG'.tn.pl, hG'.tn.mv⟩, hG'.n16⟩
  refine hgo he H2 ⟨o30, g, t, x, p, c, ct, q1, q2⟩ ?_ rfl rfl (by simp only; omega) (by simp only; omega) ht hx (by simp only; omega) (by simp only; omega) (by simp only; omega)
   ⟨by omega, fun b hb h1 h2 => by rw [hfr b (by omega) (by omega), hk.2 b (by omega), hfro.get b hb h1 h2]⟩
  rw [hSdef]
  refine ⟨hg30', by simp only; omega, h.may, hG2, hC, ⟨by simp only; omega, by simp only; omega, by simp only; omega, by simp only; omega, by simp only; omega, by simp only; omega, by simp only; omega, by simp only; omega⟩, ?_, ?_⟩
  ·intro b hb
   simp only at hb ⊢
   refine ⟨by omega, by omega, by omega, by omega, by omega⟩
  ·show ((keptOf R.1 _).length : Int) = _
   rw [qcw]; omega
 refine qI.s (hO.rows (fun _ => rfl) (fun _ => rfl)) hlen.2.2 (by omega) ?_ (fun hbn => by rw [h.ok.blocks] at hbn; cases hbn)
 intro l hl s2 H2 hk2 hO2
 rw [qlm, qc]
 rcases h.ru with h0 | hu
 ·rw [h0, show ((0 : Int) != 0) = false from rfl, qc]
  exact fin H2 hk2
 ·have hur := h.ok.used_range hu
  rw [show (root != 0) = true by simp; omega, qk, decide_eq_false (show ¬ root > 1048576 by omega), qc, qe (n := root) (by omega) (by omega)]
  refine qb1.s ((hO.rows (fun _ => rfl) (fun _ => rfl)).keep hk2) hlen.2.2 (by omega) ?_
  rw [hu, qlm]
  exact fin H2 hk2
end
def formN (pa pb pc : Int) (limits : List Int) : Mem × Nat × Int :=
 tput (16 + pa.toNat) pb.toNat pc.toNat (Mem.new (16 + pa.toNat + 1 + pb.toNat) limits) 0 16 (lineOf (firstN (8 * pa)) 0)
theorem qcj {n : Int} (h : mayW n) : (firstN n).length = n.toNat := by
 have h' := h
 unfold mayW at h'
 unfold firstN
 rw [if_pos h]
 simp
 omega
theorem qfi {pa : Int} (h : 1 ≤ pa ∧ pa ≤ 64) {i : Nat} (h0 : 1 ≤ i) (hi : (i : Int) < pa) : lineOf (firstN (8 * pa)) i = qkQ 8 0 := by
 have hm : mayW (8 * pa) := by unfold mayW; omega
 have hl := qcj hm
 unfold lineOf
 apply qlb
 intro j
 rw [qlD, qlE, qmf]
 by_cases hj : j < 8
 ·rw [if_pos hj, if_pos hj]
  unfold firstN
  rw [if_pos hm, show 8 * i + j = (8 * i + j - 1) + 1 by omega, qlx, qmf, if_pos (by omega)]
 ·rw [if_neg hj, if_neg hj]
theorem qe6 {pa : Int} (h : 1 ≤ pa ∧ pa ≤ 64) : lineOf (firstN (8 * pa)) 0 ≠ qkQ 8 0 ∧ isLine (lineOf (firstN (8 * pa)) 0) := by
 have hm : mayW (8 * pa) := by unfold mayW; omega
 have hl := qcj hm
 refine ⟨fun he => ?_, qcE (qdC _) (by omega)⟩
 have : (lineOf (firstN (8 * pa)) 0)[0]? = (qkQ 8 (0 : Int))[0]? := by rw [he]
 unfold lineOf at this
 rw [qlD, if_pos (by omega), qlE] at this
 unfold firstN at this
 rw [if_pos hm] at this
 simp [wordN, mayS] at this
 omega
section
variable {pa pb pc pd : Int} {limits : List Int}
theorem new_lv (h : 1 ≤ pa ∧ pa ≤ 64 ∧ 0 ≤ pb ∧ pb ≤ 16) : LV (Mem.new (16 + pa.toNat + 1 + pb.toNat) limits) (16 + pa.toNat + 1) pb.toNat 0 := LV.zero (by simp [Mem.new]) (by omega) (by omega) fun i hi => qgP (by omega)
theorem new_pst (h : 1 ≤ pa ∧ pa ≤ 64 ∧ 0 ≤ pb ∧ pb ≤ 16 ∧ 1 ≤ pc ∧ pc ≤ 1000) : PSt (16 + pa.toNat) pb.toNat pc.toNat (Mem.new (16 + pa.toNat + 1 + pb.toNat) limits) 0 0 (16 + pa.toNat + 1 + pb.toNat) :=
 ⟨⟨0, new_lv (by omega)⟩, Mem.new_ok (by omega), by omega, qkV _, by simp [Mem.new]⟩
theorem qgx (h : 1 ≤ pa ∧ pa ≤ 64 ∧ 0 ≤ pb ∧ pb ≤ 16) {s : Nat} (hs : s < 16 + pa.toNat) : (Mem.new (16 + pa.toNat + 1 + pb.toNat) limits).tview (16 + pa.toNat) pb.toNat s = qkQ 8 0 := by
 have hzero : ∀ i, i < pb.toNat → (Mem.new (16 + pa.toNat + 1 + pb.toNat) limits).whose i = 0 := fun i hi => qgP (by omega)
 unfold Mem.tview
 have hsl := qcY (mv := (Mem.new (16 + pa.toNat + 1 + pb.toNat) limits).mv) (line := s) (n := 16 + pa.toNat) (by omega)
 rw [qjm hzero, Mem.new_cl (by omega)]
theorem reg_new {n r : Nat} : (Mem.new n limits).regs.getD r 0 = 0 := by
 show (qkQ 35 (0 : Int)).getD r 0 = 0
 rw [qkP, qmf]
 split <;> rfl
theorem formed (hmay : mayP pa pb pc pd = true) :
  (formN pa pb pc limits).1.down = false ∧ (formN pa pb pc limits).1.cut = -1 ∧ (limits = [] → (formN pa pb pc limits).2.2 = 0 ∧ NL (formN pa pb pc limits).1) ∧ (∀ s : Nat, s < 16 + pa.toNat → s ≠ 16 → (formN pa pb pc limits).1.tview (16 + pa.toNat) pb.toNat s = qkQ 8 0) ∧
  PSt (16 + pa.toNat) pb.toNat pc.toNat (formN pa pb pc limits).1 (formN pa pb pc limits).2.1 1 (16 + pa.toNat + 1 + pb.toNat) ∧
  (((formN pa pb pc limits).2.2 = 0 ∧ MP pa pb pc pd (formN pa pb pc limits).1 (firstN (8 * pa)) 0 1 0 ∧ commits (formN pa pb pc limits).1 = 0) ∨ (formN pa pb pc limits).2.2 = 3) := by
 have hm := qJ.1 hmay
 have hmw : mayW (8 * pa) := by unfold mayW; omega
 obtain ⟨l0, l1⟩ := qe6 (pa := pa) (by omega)
 have hps := new_pst (pa := pa) (pb := pb) (pc := pc) (limits := limits) (by omega)
 have hT := (qdB (line := 16) (period := pc.toNat) (puts := 0) (d := lineOf (firstN (8 * pa)) 0) (new_lv (limits := limits) (pa := pa) (pb := pb) (by omega)) (by omega) hps.ok (by rw [mv_new]; omega) rfl (by omega) l1.1).1
 have hps1 := hps.tput (by omega) (by omega) (line := 16) l1
 have hnl : limits = [] → (formN pa pb pc limits).2.2 ≠ 3 ∧ NL (formN pa pb pc limits).1 := fun h => by
  subst h
  exact NL.tput NL.new
 unfold formN at hnl ⊢
 rw [show ((16 : Nat) : Int) = 16 from rfl] at hT
 generalize tput (16 + pa.toNat) pb.toNat pc.toNat (Mem.new (16 + pa.toNat + 1 + pb.toNat) limits) 0 16 (lineOf (firstN (8 * pa)) 0) = F at *
 have hcut : F.1.cut = -1 := hT.cut rfl
 have hother : ∀ s : Nat, s < 16 + pa.toNat → s ≠ 16 → F.1.tview (16 + pa.toNat) pb.toNat s = qkQ 8 0 := fun s hs hne => by
  rw [hT.other s hs (by simpa using fun h => hne h.symm), qgx (by omega) hs]
 have hreg : ∀ r, (r = 1 ∨ r = 2 ∨ 19 ≤ r) → F.1.regs.getD r 0 = 0 := fun r hr => by rw [hT.regs r hr, reg_new]
 rcases hT.res with ⟨e, hd, hv⟩ | ⟨e, hd, hv⟩ | ⟨e, hd, hc, _⟩
 ·refine ⟨hd, hcut, fun h => ⟨e, (hnl h).2⟩, hother, hps1, .inl ⟨e, ⟨hmay, hps1.lv, hps1.ok, hps1.mv, hps1.len, .inl ⟨hreg 1 (.inl rfl), fun s h1 h2 => ?_⟩, ⟨[], ?_⟩, ?_, hreg 2 (.inr (.inl rfl)), .inl rfl, fun i hi => by rw [hreg (19 + i) (by omega)]; omega, by omega⟩, hreg 1 (.inl rfl)⟩⟩
  ·rw [qc7 (by omega)]
   by_cases hs : s = 16
   ·subst hs; rw [hv 16 rfl]
   ·rw [hother s h2 hs, qfi (by omega) (by omega) (by omega)]
  ·exact MR.self (MR.first hmw) (by rw [qcj hmw]; omega)
  ·rw [qcj hmw]; omega
 ·exact ⟨hd, hcut, fun h => absurd e (hnl h).1, hother, hps1, .inr e⟩
 ·exact absurd rfl hc
end
section
variable {H : AH} {p c : Nat} {M : Mem} {pa pb pc pd : Int} {limits : List Int}
theorem reg_up {i : Nat} (hup : M.down = false) (hi : i < 35) : M.reg (i : Int) = (M.regs.getD i 0, 0) := by
 unfold Mem.reg
 rw [if_pos ⟨by omega, by omega⟩, if_neg (by simp [hup]), qkS]
theorem qB.s {k : Int → AH → Prop} (hm : qv H p c (Mem.new (16 + pa.toNat + 1 + pb.toNat) limits)) (hmay : mayP pa pb pc pd = true)
  (hk : ∀ H', qv H' p c (formN pa pb pc limits).1 → FrO H H' p c → k (formN pa pb pc limits).2.2 H') : qB (some ⟨p, 0, none⟩) (pl pa pb pc pd) H k := by
 have hmp := qJ.1 hmay
 have hmw : mayW (8 * pa) := by unfold mayW; omega
 obtain ⟨hFd, _, _, hFo, hFp, hF⟩ := formed (limits := limits) hmay
 obtain ⟨l0, l1⟩ := qe6 (pa := pa) (by omega)
 have hNup : (Mem.new (16 + pa.toNat + 1 + pb.toNat) limits).down = false := rfl
 have hcl : ((Mem.new (16 + pa.toNat + 1 + pb.toNat) limits).cs.length : Int) = deviceP pa pb pc pd := by
  unfold deviceP; rw [if_pos hmay]; simp [Mem.new]; omega
 have hlv := new_lv (pa := pa) (pb := pb) (limits := limits) (by omega)
 have hmv : (Mem.new (16 + pa.toNat + 1 + pb.toNat) limits).mv = 0 := rfl
 have hregs : ∀ r, (Mem.new (16 + pa.toNat + 1 + pb.toNat) limits).regs.getD r 0 = 0 := fun r => reg_new
 have htv := fun s hs => qgx (pa := pa) (pb := pb) (limits := limits) (s := s) (by omega) hs
 have hgood : qb0 (Mem.new (16 + pa.toNat + 1 + pb.toNat) limits) (16 + pa) pb pc := by
  have h1 := hlv.may
  refine ⟨by omega, by omega, by omega, by omega, by omega, by simp [Mem.new]; omega, rfl, ?_, by rw [hmv]; omega⟩
  rw [show (16 + pa + 1 : Int) = ((16 + pa.toNat + 1 : Nat) : Int) by omega]
  exact h1
 have hFdef : formN pa pb pc limits = tput (16 + pa.toNat) pb.toNat pc.toNat (Mem.new (16 + pa.toNat + 1 + pb.toNat) limits) 0 16 (lineOf (firstN (8 * pa)) 0) := rfl
 refine qB.link ?_
 unfold qB.b
 rw [qt, pl_ld]
 have hk3 : qa H (H.push ⟨pl pa pb pc pd, .rw, 0⟩) := (qa.refl H).push _
 have g3 : (H.push ⟨pl pa pb pc pd, .rw, 0⟩).get H.size = ⟨pl pa pb pc pd, .rw, 0⟩ := by rw [qp, if_pos rfl]
 have hl3 : H.size < (H.push ⟨pl pa pb pc pd, .rw, 0⟩).size := by simp [qi]
 generalize H.push ⟨pl pa pb pc pd, .rw, 0⟩ = H3 at *
 have hm3 := hm.keeps hk3
 refine qbf.s hm3 ?_
 rw [if_pos ⟨hmay, hcl⟩, if_neg (by simp [hNup]), show ((0 : Int) != 0) = false from rfl, qc]
 generalize Mem.new (16 + pa.toNat + 1 + pb.toNat) limits = M0 at *
 refine qL (t := (((0 : Int), (0 : Int)) : Int × Int)) (I := fun (t : Int × Int) H' => ∃ i : Nat, t.2 = (i : Int) ∧ i ≤ 35 ∧ H' = H3) (m := fun (t : Int × Int) _ => qkX (35 - t.2)) ?_ ⟨0, rfl, by omega, rfl⟩
 rintro ⟨t1, t2⟩ H1 ⟨i, e1, hi, rfl⟩ it hit
 simp only at e1
 subst e1
 unfold qB.l5
 by_cases hlt : (i : Int) < 35
 ·rw [decide_eq_true hlt, qk]
  refine qE.s hm3 ?_
  rw [reg_up hNup (by omega), hregs i, show ((0 : Int) != 0) = false from rfl, qc, qe (n := (i : Int) + 1) (by omega) (by omega)]
  exact hit _ _ ⟨i + 1, by simp, by omega, rfl⟩ (by simp only; omega)
 rw [decide_eq_false hlt, qc]
 clear hit it
 unfold qB.j4
 rw [qs (plg_row g3)]
 refine qbj.s hm3 hmay (fun hn => absurd hgood hn) ?_
 intro _ H34 t x hT hk34 ht hx
 have hn1 : (16 + pa).toNat = 16 + pa.toNat := by omega
 rw [hn1] at hT
 have g34 : H34.get H.size = ⟨pl pa pb pc pd, .rw, 0⟩ := by rw [hk34.2 _ hl3]; exact g3
 rw [qs (plg_row g34)]
 refine qb5.s ?_
 rw [show wordsP pa pb pc pd = 8 * pa by unfold wordsP; rw [if_pos hmay]]
 refine qbT.s ?_
 intro s37 H37 hk37 hO37
 have hk37' := hk34.trans hk37
 rw [qdh (by rw [hk37'.2 _ hl3]; exact g3) 0]
 show elI .i64 (some (.int .i64 pa)) _
 rw [qg]
 have hs3 := hk3.1
 have hs34 := hk34.1
 have hs37 := hk37.1
 have hfl := qcj hmw
 have lp := hm.lp
 have lc := hm.lc
 refine qL (t := ((t1, (0 : Int)) : Int × Int)) (I := fun (t' : Int × Int) H' => ∃ j : Nat, t'.2 = (j : Int) ∧ (j : Int) ≤ pa ∧ FrO H H' p c ∧ H'.get H.size = ⟨pl pa pb pc pd, .rw, 0⟩ ∧ H37.size ≤ H'.size ∧ Own H34.size H' s37 1 wU (firstN (8 * pa)) ∧
   ((j = 0 ∧ TAt H' t x p c (16 + pa.toNat) pb.toNat pc.toNat 0 M0) ∨ (1 ≤ j ∧ (formN pa pb pc limits).2.2 = 0 ∧ TAt H' t x p c (16 + pa.toNat) pb.toNat pc.toNat (formN pa pb pc limits).2.1 (formN pa pb pc limits).1))) (m := fun (t' : Int × Int) _ => qkX (pa - t'.2)) ?_
  ⟨0, rfl, by omega, FrO.of_keeps (hk3.trans hk37'), by rw [hk37'.2 _ hl3]; exact g3, qkV _, hO37, .inl ⟨rfl, hT.keeps hk37⟩⟩
 rintro ⟨u1, u2⟩ H5 ⟨j, e1, hj, f5, g5, hsz5, hO5, hst⟩ it hit
 simp only at e1
 subst e1
 unfold qB.l3
 by_cases hlt : (j : Int) < pa
 rotate_left 1
 ·rw [decide_eq_false hlt, qc]
  rcases hst with ⟨h0, _⟩ | ⟨_, e0, hT5⟩
  ·omega
  ·rw [e0] at hk
   exact hk H5 hT5.l.m f5
 rw [decide_eq_true hlt, qk, qs (plg_row g5)]
 refine qa4.s ?_
 have hh : homeP pa pb pc pd (j : Int) = ((16 + j : Nat) : Int) := by unfold homeP; rw [if_pos ⟨hmay, by omega, hlt⟩]; omega
 rw [hh]
 have hO5r := hO5.rows (fun _ => rfl) (fun _ => rfl)
 -- one line
 have go : ∀ (Mj : Mem) (pj : Nat), TAt H5 t x p c (16 + pa.toNat) pb.toNat pc.toNat pj Mj → Mj.down = false → Mj.tview (16 + pa.toNat) pb.toNat (16 + j) = qkQ 8 0 ∨ Mj.tview (16 + pa.toNat) pb.toNat (16 + j) = lineOf (firstN (8 * pa)) j → isLine (Mj.tview (16 + pa.toNat) pb.toNat (16 + j)) →
   (∀ H6, TAt H6 t x p c (16 + pa.toNat) pb.toNat pc.toNat pj Mj → FrO H5 H6 p c → H5.size ≤ H6.size → qB.j2 k H.size (some ⟨t, 0, none⟩) s37 (u1, (j : Int)) it 0 (!(Mj.tview (16 + pa.toNat) pb.toNat (16 + j) == lineOf (firstN (8 * pa)) j)) H6) →
   qaE (some ⟨t, 0, none⟩) ((16 + j : Nat) : Int) H5 fun c48a n48b H48 => newC H48 ⟨[(qkL .u64 (0 : Int)), (qkL .u64 (0 : Int)), (qkL .u64 (0 : Int)), (qkL .u64 (0 : Int)), (qkL .u64 (0 : Int)), (qkL .u64 (0 : Int)), (qkL .u64 (0 : Int)), (qkL .u64 (0 : Int))], .rw, 0⟩ fun o12 H12 => (qk0 c48a = 8 ∧ List.all c48a qo = true) ∧ stC H12 ⟨o12, 0, none⟩ c48a fun Hs2 => bcase ((n48b : Int) == (0 : Int)) (ldA Hs2 ⟨o12, 0, none⟩ 8 fun c54 => qaU s37 (j : Int) Hs2 fun c57 H57 => AH.row? H57 ⟨o12, 0, none⟩ 8 = some c54 ∧ elO (eqCells (qkQ 8 (K.int .u64)) c54 c57) fun e58 => qB.j2 k H.size (some ⟨t, 0, none⟩) s37 (u1, (j : Int)) it n48b (!e58) H57) (qB.j2 k H.size (some ⟨t, 0, none⟩) s37 (u1, (j : Int)) it n48b false Hs2) := by
  intro Mj pj hTj hup _ hln hgo
  refine qej.s hTj ?_
  have hget : tget (16 + pa.toNat) pb.toNat Mj ((16 + j : Nat) : Int) = (Mj.tview (16 + pa.toNat) pb.toNat (16 + j), 0) := by
   unfold tget
   rw [if_pos ⟨by omega, by omega⟩, if_neg (by simp [hup]), qkS]
  rw [hget]
  generalize Mj.tview (16 + pa.toNat) pb.toNat (16 + j) = v at *
  rw [qt]
  refine ⟨⟨qn hln.1, qai _⟩, ?_⟩
  rw [qaL]
  have hz : [(qkL .u64 (0 : Int)), (qkL .u64 (0 : Int)), (qkL .u64 (0 : Int)), (qkL .u64 (0 : Int)), (qkL .u64 (0 : Int)), (qkL .u64 (0 : Int)), (qkL .u64 (0 : Int)), (qkL .u64 (0 : Int))] = lineV (qkQ 8 0) := rfl
  rw [hz]
  have gN : (H5.push ⟨lineV (qkQ 8 0), .rw, 0⟩).get H5.size = ⟨lineV (qkQ 8 0), .rw, 0⟩ := by rw [qp, if_pos rfl]
  refine ⟨⟨rfl, by rw [gN], by rw [gN]; simp [lineV]; exact Nat.le_of_eq hln.1⟩, ?_⟩
  rw [qc1 (by simp) hln.1 gN]
  have hkN : qa H5 ((H5.push ⟨lineV (qkQ 8 0), .rw, 0⟩).upd H5.size ⟨lineV v, .rw, 0⟩) := ((qa.refl H5).push _).upd (qkV _) _
  have gU : ((H5.push ⟨lineV (qkQ 8 0), .rw, 0⟩).upd H5.size ⟨lineV v, .rw, 0⟩).get H5.size = ⟨lineV v, .rw, 0⟩ := by rw [qA, if_pos rfl]
  generalize (H5.push ⟨lineV (qkQ 8 0), .rw, 0⟩).upd H5.size ⟨lineV v, .rw, 0⟩ = H6 at *
  have hrow : AH.row? H6 ⟨H5.size, 0, none⟩ 8 = some (lineV v) := by
   have := qn hln.1
   simp only [AH.row?, gU, qk7, qkW, if_false, List.drop_zero]
   rw [if_neg (by simp), qlH (by omega), if_pos ⟨by omega, qai _⟩]
  simp only
  rw [show ((0 : Int) == 0) = true from rfl, qk, qs hrow]
  refine qaU.s (hO5r.keep hkN) (qdC _) (by omega) (by omega) ?_
  refine ⟨hrow, ?_⟩
  rw [eq_line hln (qcE (qdC _) (by omega))]
  exact hgo H6 (hTj.keeps hkN) (FrO.of_keeps hkN) hkN.1
 rcases hst with ⟨h0, hT5⟩ | ⟨h1, e0, hT5⟩
 ·subst h0
  refine go M0 0 hT5 hNup (.inl (htv _ (by omega))) (by rw [htv _ (by omega)]; exact qaH) ?_
  intro H6 hT6 f6 hs6
  rw [htv _ (by omega), show (!(qkQ 8 (0 : Int) == lineOf (firstN (8 * pa)) 0)) = true by simp; exact fun h => l0 h.symm]
  unfold qB.j2
  have g6 : H6.get H.size = ⟨pl pa pb pc pd, .rw, 0⟩ := by rw [f6.get _ (by omega) (by omega) (by omega)]; exact g5
  rw [qk, qs (plg_row g6)]
  refine qa4.s ?_
  rw [hh]
  have hO6 : Own H34.size H6 s37 1 wU (firstN (8 * pa)) := f6.own (by omega) (by omega) hO5
  refine qaU.s (hO6.rows (fun _ => rfl) (fun _ => rfl)) (qdC _) (by omega) (by omega) ?_
  refine qfy.s hT6 hlv (by rw [hmv]; omega) l1 ?_
  intro H7 hT7 f7 z7
  have e16 : ((16 + 0 : Nat) : Int) = 16 := rfl
  rw [e16, ← hFdef] at hT7 ⊢
  have f56 := f5.trans f6
  have htl := hT.lt
  have f67 : FrO H H7 p c := ⟨qlS f56.size f7.size, fun b hb h1 h2 => by
   rw [f7.get b (by have := f56.size; omega) (by omega) h1 h2, f56.get b hb h1 h2]⟩
  unfold qB.j1
  rcases hF with ⟨e, _⟩ | e
  ·rw [e, show ((0 : Int) != 0) = false from rfl, qc, qe (n := ((0 : Nat) : Int) + 1) (by omega) (by omega)]
   refine hit _ _ ⟨1, by simp, by omega, f67, by rw [f7.get _ (by omega) (by omega) (by omega) (by omega)]; exact g6, by omega, ?_, .inr ⟨by omega, e, hT7⟩⟩ (by simp only; omega)
   rcases hO6 with h0 | ⟨b, h1, h2, h3, h4⟩
   ·exact .inl h0
   ·exact .inr ⟨b, h1, h2, by omega, by rw [f7.get b h3 (by omega) (by omega) (by omega)]; exact h4⟩
  ·rw [e, show ((3 : Int) != 0) = true from rfl, qk]
   rw [e] at hk
   exact hk H7 hT7.l.m f67
 ·have hv : (formN pa pb pc limits).1.tview (16 + pa.toNat) pb.toNat (16 + j) = qkQ 8 0 := hFo _ (by omega) (by omega)
  refine go _ _ hT5 hFd (.inl hv) (by rw [hv]; exact qaH) ?_
  intro H6 hT6 f6 hs6
  rw [hv, qfi (by omega) h1 hlt, show (!(qkQ 8 (0 : Int) == qkQ 8 0)) = false by simp]
  unfold qB.j2 qB.j1
  rw [qc, show ((0 : Int) != 0) = false from rfl, qc, qe (n := (j : Int) + 1) (by omega) (by omega)]
  exact hit _ _ ⟨j + 1, by simp, by omega, f5.trans f6, by rw [f6.get _ (by omega) (by omega) (by omega)]; exact g5, by omega, f6.own (by omega) (by omega) hO5, .inr ⟨by omega, e0, hT6⟩⟩ (by simp only; omega)
end
section
variable {H : AH}
theorem qgW {sz need : Int} (hn : 2 ≤ need ∧ need ≤ sz) : 2 ≤ takesN sz need ∧ takesN sz need ≤ sz ∧ need ≤ takesN sz need ∧ (takesN sz need = sz ∨ takesN sz need + 2 ≤ sz) := qdJ hn
end
def ansl (cd m : Int) (sl : Sl) : List Value := [.int .i64 cd, .int .i64 m, sl.val]
def AnAt (H : AH) (o : Nat) (cd m : Int) (sl : Sl) : Prop := ∃ e, H.get o = ⟨ansl cd m sl, .rw, e⟩
section
variable {H : AH} {o : Nat} {cd m : Int} {sl : Sl}
theorem AnAt.c0 (h : AnAt H o cd m sl) : AH.cell? H (qkN ⟨o, 0, none⟩ 0) = some (.int .i64 cd) := by obtain ⟨e, h⟩ := h; simp [ql, AH.cell?, h, ansl]
theorem AnAt.c1 (h : AnAt H o cd m sl) : AH.cell? H (qkN ⟨o, 0, none⟩ 1) = some (.int .i64 m) := by obtain ⟨e, h⟩ := h; simp [ql, AH.cell?, h, ansl]
theorem AnAt.c2 (h : AnAt H o cd m sl) : AH.cell? H (qkN ⟨o, 0, none⟩ 2) = some (.slice sl.a sl.n sl.k) := by obtain ⟨e, h⟩ := h; simp [ql, AH.cell?, h, ansl, Sl.val]
theorem AnAt.row (h : AnAt H o cd m sl) : AH.row? H ⟨o, 0, none⟩ 3 = some (ansl cd m sl) := by
 obtain ⟨e, h⟩ := h
 simp only [AH.row?, h, qk7, qkW, if_false]
 rw [if_neg (by simp)]
 rfl
theorem AnAt.keep {H' : AH} (h : AnAt H o cd m sl) (hg : H'.get o = H.get o) : AnAt H' o cd m sl := by obtain ⟨e, h⟩ := h; exact ⟨e, hg.trans h⟩
theorem AnAt.new {e : Nat} : AnAt (H.push ⟨ansl cd m sl, .rw, e⟩) H.size cd m sl := ⟨e, by rw [qp, if_pos rfl]⟩
end
section
variable {H : AH}
theorem umod5 {x m : Int} (hm : 0 < m ∧ m ≤ 1000000) : ∃ r, 0 ≤ r ∧ r < m ∧ qkM .i64 (Int.tmod (qkM .u64 x) m) = r := by
 obtain ⟨h1, h2⟩ := umod hm.1 x
 exact ⟨_, h1, h2, qe (by omega) (by omega)⟩
theorem qaK.s {x0 x1 x2 x3 : Int} {k : List Value → AH → Prop} (h : ∀ pa pb pc pd, 1 ≤ pa ∧ pa ≤ 24 → 0 ≤ pb ∧ pb ≤ 16 → 1 ≤ pc ∧ pc ≤ 30 → 1 ≤ pd ∧ pd ≤ 10 → k (pl pa pb pc pd) H) : qaK x0 x1 x2 x3 H k := by
 obtain ⟨a, a0, a1, ea⟩ := umod5 (x := x0) (m := 24) (by omega)
 obtain ⟨b, b0, b1, eb⟩ := umod5 (x := x1) (m := 17) (by omega)
 obtain ⟨c, c0, c1, ec⟩ := umod5 (x := x2) (m := 30) (by omega)
 obtain ⟨d, d0, d1, ed⟩ := umod5 (x := x3) (m := 10) (by omega)
 refine qco (κ := .agg) (v := pl (1 + a) b (1 + c) (1 + d)) (H2 := H) (by simp) rfl (qaK.link ?_) (h _ _ _ _ (by omega) (by omega) (by omega) (by omega))
 unfold qaK.b
 rw [ea, eb, ec, ed, qe (n := 1 + a) (by omega) (by omega), qe (n := 1 + c) (by omega) (by omega), qe (n := 1 + d) (by omega) (by omega), qt]
 refine ⟨by decide, by decide, by decide, by decide, ⟨rfl, rfl⟩, ?_⟩
 rw [qaL]
 refine ⟨qb4.2 (by simp), ?_⟩
 have e2 : AH.put (H.push ⟨[(qkL .i64 (0 : Int)), (qkL .i64 (0 : Int)), (qkL .i64 (0 : Int)), (qkL .i64 (0 : Int))], .rw, 0⟩) ⟨H.size, 0, none⟩ (pl (1 + a) b (1 + c) (1 + d)) = H.push ⟨pl (1 + a) b (1 + c) (1 + d), .rw, 0⟩ := by
  rw [qcP]; rfl
 show ldA (AH.put _ _ (pl (1 + a) b (1 + c) (1 + d))) _ _ _
 refine qs (cs := pl (1 + a) b (1 + c) (1 + d)) (by rw [e2]; exact pl_row) |>.mpr ?_
 exact ⟨At.of_keeps (((qa.refl H).push _).upd (qkV _) _), rfl⟩
end
def Pl.has (L : Pl) (b : Nat) : Prop := b = L.h ∨ b = L.g ∨ b = L.t ∨ b = L.x ∨ b = L.p ∨ b = L.c ∨ b = L.ct ∨ b = L.q1 ∨ b = L.q2
section
variable {H H' H0 : AH} {L : Pl} {F F' : Nat → Prop} {w : Nat} {pa pb pc pd : Int} {s : HS} {ws : List Int} {root : Int} {mvb : Nat} {cb : Int}
theorem HA.lt (h : HA H L pa pb pc pd s) {b : Nat} (hb : L.has b) : b < H.size := by
 have hbl := HAt.below h
 have hga := HAt.ga h
 have hca := HAt.ca h
 rcases hb with rfl | rfl | rfl | rfl | rfl | rfl | rfl | rfl | rfl
 ·exact hbl.h
 ·exact hga.lg
 ·exact hbl.t
 ·exact hga.tn.l.lx
 ·exact hbl.p
 ·exact hbl.c
 ·exact hca.lc
 ·exact hbl.q1
 ·exact hbl.q2
theorem HA.congr (h : HA H L pa pb pc pd s) (hs : H.size ≤ H'.size) (hg : ∀ b, L.has b → H'.get b = H.get b) : HA H' L pa pb pc pd s := by
 have hga := HAt.ga h
 have hl := hga.tn.l
 have lt := fun b hb => HA.lt h (b := b) hb
 have l1 := lt L.h (by simp [Pl.has]); have l2 := lt L.g (by simp [Pl.has]); have l3 := lt L.t (by simp [Pl.has]); have l4 := lt L.x (by simp [Pl.has]); have l5 := lt L.p (by simp [Pl.has]); have l6 := lt L.c (by simp [Pl.has])
 exact ⟨by rw [hg _ (by simp [Pl.has]), HAt.hh h], by omega, HAt.may h,
  ⟨by rw [hg _ (by simp [Pl.has]), hga.hg], by omega, hga.ne, ⟨by rw [hg _ (by simp [Pl.has]), hga.tn.ht], by omega, hga.tn.tp, hga.tn.tc, hga.tn.tx,
   ⟨by rw [hg _ (by simp [Pl.has]), hl.hx], by omega, hl.xp, hl.xc, hl.m.keep hs (hg _ (by simp [Pl.has])) (hg _ (by simp [Pl.has])), hl.len, hl.n1, hl.sp16⟩, hga.tn.n1, hga.tn.per, hga.tn.pl, hga.tn.mv⟩, hga.n16⟩,
  HAt.ca_keep h hs (fun b hb => hg b (by rcases hb with rfl | rfl | rfl <;> simp [Pl.has])), HAt.ne h, HAt.nc h, HAt.pages h⟩
theorem Frh.base (f : Frh H H' L) (hk : qa H0 H) (lo : ∀ b, L.has b → H0.size ≤ b) : qa H0 H' :=
 ⟨qlS hk.1 f.size, fun b hb => by
  have h0 := hk.1
  have no : ∀ x, L.has x → b ≠ x := fun x hx e => by have := lo x hx; omega
  rw [f.get b (by omega) (no _ (by simp [Pl.has])) (no _ (by simp [Pl.has])) (no _ (by simp [Pl.has])) (no _ (by simp [Pl.has])) (no _ (by simp [Pl.has])) (no _ (by simp [Pl.has])), hk.2 b hb]⟩
theorem qfM (h : Ok ws) (off n : Int) : imgRead ws off n = aRead ws off n := by
 unfold imgRead aRead
 rw [h.blocks]
theorem do_read (h : HP pa pb pc pd s ws root mvb cb) (hup : s.M.down = false) {off n : Int} {bs : List Int} : doH pa pb pc pd s 3 off n bs = (s, (aRead ws off n).2, 0, if (aRead ws off n).2 = 0 then (aRead ws off n).1 else []) := by
 unfold doH
 rw [if_neg (by omega), if_neg (by omega), if_pos rfl, qhz h hup, qfM h.ok]
end
section
variable {H0 H H' : AH} {L : Pl} {F F2 F2' : Nat → Prop} {w p2 o5 o11 : Nat} {pa pb pc pd : Int} {s s' : HS} {ws : List Int} {root : Int} {ws2 ws3 : List Int} {root2 root3 : Int} {K off n mask : Int} {x : Sl} {e offR : Int} {xR : Sl} {mvb : Nat} {cb : Int}
def wornB (s : HS) : Bool := (s.worn || decide (s.M.down = false ∧ commits s.M ≠ 0))
theorem qjq {s : HS} : wornB s = true ↔ s.stuck := by unfold wornB HS.stuck; simp
end
structure FreeS (s : HS) : Prop where
 up : s.M.down = false
 cut : s.M.cut = -1
 nl : NL s.M
 ns : ¬ s.stuck
section
variable {pa pb pc pd : Int} {s : HS} {ws : List Int} {root : Int} {mvb : Nat} {cb : Int}
theorem qeR {E : List (Int × Int)} (h : HP pa pb pc pd s ws root mvb cb) (hf : FreeS s) (hin : EdIn E ws.length) (h1 : 1 ≤ (eLines E).length) (h14 : (eLines E).length ≤ 14)
  (hok' : Ok (applyE ws E)) (hb : mvb + 2000 < 4611686018427387904) (hcb : cb + 100 < 4611686018427387904) : (commitH pa pb pc pd ws E s).2 = 0 ∧ FreeS (commitH pa pb pc pd ws E s).1 := by
 have hm := qJ.1 h.may
 obtain ⟨hn16, hpg⟩ := h.now16
 have hlen := h.len
 have hc0 := h.c0
 obtain ⟨l8, l512, h64⟩ := hok'.len
 have hlenA : (applyE ws E).length = ws.length := qaf E ws
 have hup := hf.up
 have hst := hf.ns
 have hwf : s.worn = false := by cases hw : s.worn with | false => rfl | true => exact absurd (.inl hw) hst
 have hcm : commits s.M = 0 := by
  by_cases hc : commits s.M = 0
  ·exact hc
  ·exact absurd (.inr ⟨hup, hc⟩) hst
 have hls : ∀ ln ∈ eLines E, 0 ≤ ln ∧ ln < ((pa.toNat : Nat) : Int) := by
  intro ln hln
  obtain ⟨e, he, h0, rfl⟩ := qcm.1 hln
  have := hin.mem e he
  omega
 have hmay := qf4 (m := pa.toNat) (W := applyE ws E) hls h1 h14
 have hhok := qgO (m := pa.toNat) (W := applyE ws E) h64 (by omega) (by omega) hls
 obtain ⟨c1, c2⟩ := com_any h.ps (by omega) hup (by omega) hhok (by rw [qcs]; omega) h.sd
 obtain ⟨d1, d2, d3, d4⟩ := qhK h.ps (by omega) hup (by omega) hhok
 obtain ⟨n1, n2⟩ := com_nl h.ps hf.nl (by omega) hup hf.cut (by omega) hhok hmay hcm
 have n3 := (hf.nl.com (n := 16 + pa.toNat) (sp := pb.toNat) (per := pc.toNat) (pt := s.pt) (l := homesC (applyE ws E) (eLines E))).2
 have hps := h.ps.com (by omega) (by omega) hhok
 unfold commitH
 simp only
 generalize comN (16 + pa.toNat) pb.toNat pc.toNat (homesC (applyE ws E) (eLines E)) s.M s.pt = C at *
 rw [if_neg (by simpa using n1)]
 have hCup : C.1.down = false := by
  rcases c1 with ⟨_, ⟨e0, _⟩ | ⟨e2, _⟩⟩ | ⟨_, _, _, ⟨_, hd⟩ | ⟨e2, _⟩⟩
  ·exact absurd n1 e0
  ·omega
  ·exact hd
  ·omega
 have cp0 : CP pd C.1 s.now s.kept cb := ⟨h.cp.kl, h.cp.ok, fun _ i hi => by rw [d1 (19 + i) (.inr (by omega))]; exact h.cp.lag hup i hi, fun i hi => by rw [d1 (19 + i) (.inr (by omega))]; exact h.cp.rg i hi⟩
 obtain ⟨m1, m2, m3, m4, m5, m6, m7⟩ := qgC (pd := pd) (by omega) (ls := eLines E) cp0 hCup hps.ok (fun ln hln => by have := hls ln hln; omega) hn16 hc0 (by omega)
 generalize notesN pd (eLines E) C.1 s.now s.kept = N at *
 rcases m7 with ⟨a, b, c⟩ | ⟨a, b, c⟩
 ·refine ⟨a, b, m5 (c2 hf.cut), n3.cs m1, fun hs => ?_⟩
  rcases hs with hs | ⟨_, hs⟩
  ·simp only at hs; rw [hwf] at hs; cases hs
  ·exact hs (by show N.1.regs.getD 1 0 = 0; rw [m2 1 (by omega)]; exact n2)
 ·exact absurd (c2 hf.cut) c
theorem do_free {K off n : Int} {bs : List Int} (hio : isI off) (h8 : qbW bs) (h : HP pa pb pc pd s ws root mvb cb) (hf : FreeS s) (hb : mvb + 2000 < 4611686018427387904) (hcb : cb + 100 < 4611686018427387904) :
  FreeS (doH pa pb pc pd s K off n bs).1 ∧ (doH pa pb pc pd s K off n bs).2.1 ≠ 3 ∧ (doH pa pb pc pd s K off n bs).2.1 ≠ 2 := by
 have hup := hf.up
 have hst := hf.ns
 unfold doH
 by_cases k1 : K = 1
 ·rw [if_pos k1]
  simp only
  unfold allocH
  rw [if_neg (by simp [hup]), h.words hup]
  by_cases h0 : needN n = 0
  ·rw [if_pos h0]; exact ⟨hf, by simp, by simp⟩
  rw [if_neg h0, if_neg hst]
  have hE6 : (imgAlloc ws n s.now).2.2 = 0 ∨ (imgAlloc ws n s.now).2.2 = 4 ∨ (imgAlloc ws n s.now).2.2 = 6 := by
   unfold imgAlloc
   rw [if_neg h0]
   split
   ·exact .inr (.inr rfl)
   ·split
    ·exact .inr (.inl rfl)
    ·exact .inl rfl
  by_cases he : (imgAlloc ws n s.now).2.2 = 0
  rotate_left 1
  ·rw [if_pos he]; exact ⟨hf, by simp only; omega, by simp only; omega⟩
  rw [if_neg (by simpa using he)]
  obtain ⟨q1, q2, q3, _, _, _⟩ := qes h.ok he
  have hml := (qfn (ws := ws) (n := n) (cs := s.now)).most
  have := qcH 1 n 0
  obtain ⟨c1, c2⟩ := qeR (E := (imgAlloc ws n s.now).1) h hf qd7 q3 (by omega) q1 hb hcb
  exact ⟨c2, by simp only; omega, by simp only; omega⟩
 rw [if_neg k1]
 by_cases k2 : K = 2
 ·rw [if_pos k2]
  simp only
  have hE6 : (imgFree ws off).2 = 0 ∨ (imgFree ws off).2 = 1 ∨ (imgFree ws off).2 = 6 := by
   unfold imgFree
   split
   ·exact .inr (.inr rfl)
   ·split
    ·exact .inr (.inl rfl)
    ·exact .inl rfl
  unfold freeH
  rw [if_neg (by simp [hup]), h.words hup, h.rootN.1]
  by_cases he : (imgFree ws off).2 = 0
  rotate_left 1
  ·rw [if_pos he]; exact ⟨hf, by simp only; omega, by simp only; omega⟩
  rw [if_neg (by simpa using he)]
  by_cases hr : root = off
  ·rw [if_pos hr]; exact ⟨hf, by simp, by simp⟩
  rw [if_neg hr, if_neg hst]
  obtain ⟨q1, q2, q3, _⟩ := qeO h.ok he
  have hml := (qeh (ws := ws) (off := off)).most
  have := qcH 2 0 0
  obtain ⟨c1, c2⟩ := qeR (E := (imgFree ws off).1) h hf qdx q3 (by omega) q1 hb hcb
  exact ⟨c2, by omega, by omega⟩
 rw [if_neg k2]
 by_cases k3 : K = 3
 ·rw [if_pos k3, qhz h hup, qfM h.ok]
  simp only
  refine ⟨hf, ?_, ?_⟩ <;> (unfold aRead; split <;> simp)
 rw [if_neg k3]
 by_cases k4 : K = 4
 ·rw [if_pos k4]
  simp only
  have hE6 : (imgWrite ws off bs).2 = 0 ∨ (imgWrite ws off bs).2 = 1 ∨ (imgWrite ws off bs).2 = 6 := by
   unfold imgWrite
   split
   ·exact .inr (.inr rfl)
   ·split
    ·exact .inl rfl
    ·exact .inr (.inl rfl)
  unfold writeH
  rw [if_neg (by simp [hup]), h.words hup]
  by_cases he : (imgWrite ws off bs).2 = 0
  rotate_left 1
  ·rw [if_pos he]; exact ⟨hf, by simp only; omega, by simp only; omega⟩
  rw [if_neg (by simpa using he)]
  obtain ⟨l1, l2⟩ := qe3 (E := (imgWrite ws off bs).1) (ws := ws) (off := off) (bs := bs) (Prod.ext rfl he)
  by_cases hz : (imgWrite ws off bs).1.length = 0
  ·rw [if_pos hz]; exact ⟨hf, by simp, by simp⟩
  rw [if_neg hz, if_neg hst]
  obtain ⟨q1, q2⟩ := qfN h.ok h8 he
  have hml := (qfm (ws := ws) h.ok.len.2.2 (off := off) (bs := bs)).most
  have := qcH 4 0 bs.length
  have hb0 : 0 < bs.length := by
   rcases Nat.eq_zero_or_pos bs.length with h0 | h0
   ·exact absurd (l1.2 h0) hz
   ·exact h0
  obtain ⟨c1, c2⟩ := qeR (E := (imgWrite ws off bs).1) h hf (qd8 h.ok.len.2.2 (by have := h.ok.len; omega)) (qdu (l2 hb0)) (by omega) q1 hb hcb
  exact ⟨c2, by omega, by omega⟩
 rw [if_neg k4]
 by_cases k5 : K = 5
 ·rw [if_pos k5]
  simp only
  obtain ⟨c2, c3, c4, c1⟩ := qhR (off := off) hio h hup
  have hnl : NL (setRootH pa pb s off).1.M := by
   unfold setRootH
   repeat' split
   all_goals first
    | exact hf.nl
    | exact (hf.nl.set).2
  rcases c1 with ⟨_, _, u2⟩ | ⟨_, u1, _⟩ | ⟨_, u1, u2, u3, u4, u5⟩ | ⟨_, _, _, _, u, _⟩
  ·rw [u2]; exact ⟨hf, by simp, by simp⟩
  ·exact absurd u1 hst
  ·exact ⟨⟨u3, c2.cut hf.cut, hnl, u4⟩, by omega, by omega⟩
  ·exact absurd hf.cut u
 rw [if_neg k5]
 by_cases k6 : K = 6
 ·rw [if_pos k6, if_neg (by simp [hup])]; exact ⟨hf, by simp, by simp⟩
 ·rw [if_neg k6]; exact ⟨hf, by simp, by simp⟩
theorem qeG {n words : Int} {cs : List Int} (hw : mayW words) (hn : 1 ≤ n ∧ n ≤ 448) (hfit : needN n ≤ words) :
  (imgAlloc (firstN words) n cs).2.2 = 0 ∧ (imgAlloc (firstN words) n cs).2.1 = 8 ∧ ∃ tk, takesN words (needN n) = tk ∧ MR words [(0, tk, qkQ ((tk.toNat - 1) * 8) 0)] (applyE (firstN words) (imgAlloc (firstN words) n cs).1) := by
 obtain ⟨h1, tk, h2, h3, h4⟩ := qif hw hn hfit
 have hok : Ok (firstN words) := ⟨[], MR.self (MR.first hw) (by rw [qcj hw]; unfold mayW at hw; omega)⟩
 have hneed : needN n ≠ 0 := by unfold needN; rw [if_pos hn]; omega
 have hE : (imgAlloc (firstN words) n cs).2.2 = 0 ∧ (imgAlloc (firstN words) n cs).2.1 = 8 := by
  unfold fitO at h1
  unfold imgAlloc
  rw [if_neg hneed, hok.blocks]
  simp only
  obtain ⟨i, hi⟩ : ∃ i, fitsL (blkL (firstN words)) (needN n) = [i] := by
   have := congrArg qk0 h1
   rw [qlO] at this
   exact List.length_eq_one_iff.1 this
  rw [hi] at h1
  simp only [List.map_cons, List.map_nil, ql8, and_true] at h1
  have hch : chooseN (blkL (firstN words)) (needN n) cs = (i : Int) := by
   unfold chooseN
   rw [hi]
   simp [chStep]
  rw [hch, if_neg (by omega), qkS]
  exact ⟨rfl, h1⟩
 have hA := (qes (cs := cs) hok hE.1).2.2.2.1
 rw [hE.2] at hA
 rw [hA] at h4
 exact ⟨hE.1, hE.2, tk, h2, h4⟩
end
section
variable {H H' H0 : AH} {L : Pl} {pa pb pc pd : Int} {s : HS} {ws : List Int} {root : Int} {mvb : Nat} {cb : Int}
theorem Frh.out {o : Nat} (f : Frh H H' L) (ho : o < H.size) (hn : ¬ L.has o) : H'.get o = H.get o :=
 f.get o ho (fun e => hn (by simp [Pl.has, e])) (fun e => hn (by simp [Pl.has, e])) (fun e => hn (by simp [Pl.has, e])) (fun e => hn (by simp [Pl.has, e])) (fun e => hn (by simp [Pl.has, e])) (fun e => hn (by simp [Pl.has, e]))
theorem HP.len8 (h : HP pa pb pc pd s (firstN (8 * pa)) root mvb cb) : mayW (8 * pa) := by
 have hm := qJ.1 h.may
 unfold mayW; omega
theorem qgg {n off : Int} {bs : List Int} (h : HP pa pb pc pd s (firstN (8 * pa)) root mvb cb) (hf : FreeS s) (hn : 1 ≤ n ∧ n ≤ 448) (hfit : needN n ≤ 8 * pa) (hb : mvb + 2000 < 4611686018427387904) (hcb : cb + 100 < 4611686018427387904) :
  (doH pa pb pc pd s 1 off n bs).2 = (0, 8, []) ∧ FreeS (doH pa pb pc pd s 1 off n bs).1 ∧ ∃ ws1 tk, takesN (8 * pa) (needN n) = tk ∧ MR (8 * pa) [(0, tk, qkQ ((tk.toNat - 1) * 8) 0)] ws1 ∧ HP pa pb pc pd (doH pa pb pc pd s 1 off n bs).1 ws1 root (mvb + 40) (cb + 14) := by
 obtain ⟨a1, a2, tk, a3, a4⟩ := qeG (cs := s.now) h.len8 hn hfit
 obtain ⟨c1, c2, c3, c4, c5⟩ := qeQ (n := n) h hf.up hb hcb
 have hne : needN n ≠ 0 := by unfold needN; rw [if_pos hn]; omega
 obtain ⟨f1, f2, f3⟩ : FreeS (allocH pa pb pc pd s n).1 ∧ (allocH pa pb pc pd s n).2.1 ≠ 3 ∧ (allocH pa pb pc pd s n).2.1 ≠ 2 := by
  have := do_free (K := 1) (off := 0) (n := n) (bs := []) (by unfold isI; omega) (fun v hv => by cases hv) h hf hb hcb
  unfold doH at this
  rw [if_pos rfl] at this
  exact this
 have he : (allocH pa pb pc pd s n).2.1 = 0 := by
  rcases c1 with ⟨b, _⟩ | ⟨b, _⟩ | ⟨b, _⟩ | ⟨b, _⟩
  ·exact b
  ·exact absurd b f2
  ·rw [b, a1]
  ·exact absurd b f3
 obtain ⟨d1, d2, d3⟩ := c5 he
 have hP : HP pa pb pc pd (allocH pa pb pc pd s n).1 (applyE (firstN (8 * pa)) (imgAlloc (firstN (8 * pa)) n s.now).1) root (mvb + 40) (cb + 14) := by
  rcases c1 with ⟨_, _, _, _, b, _⟩ | ⟨b, _⟩ | ⟨_, b, c⟩ | ⟨b, _⟩
  ·exact b
  ·omega
  ·have := c a1
   rw [this, b]; exact h.mono (by omega) (by omega)
  ·omega
 have eD : doH pa pb pc pd s 1 off n bs = ((allocH pa pb pc pd s n).1, (allocH pa pb pc pd s n).2.1, (if (allocH pa pb pc pd s n).2.1 = 0 then (allocH pa pb pc pd s n).2.2 else 0), []) := by unfold doH; rw [if_pos rfl]
 rw [eD]
 refine ⟨?_, f1, _, tk, a3, a4, hP⟩
 simp only
 rw [if_pos he, he, d3, a2]
end
section
variable {H H' H0 : AH} {L : Pl} {F F' : Nat → Prop} {w : Nat} {pa pb pc pd : Int} {s : HS} {ws : List Int} {root : Int} {mvb : Nat} {cb : Int}
theorem qiZ (h1 : 1 ≤ pa ∧ pa ≤ 24) (h2 : 0 ≤ pb ∧ pb ≤ 16) (h3 : 1 ≤ pc ∧ pc ≤ 30) (h4 : 1 ≤ pd ∧ pd ≤ 10) : mayP pa pb pc pd = true := qJ.2 (by omega)
theorem Kp.base {G : Nat → Prop} (h : Kp G H H') (hk : qa H0 H) (lo : ∀ b, G b → H0.size ≤ b) : qa H0 H' :=
 ⟨qlS hk.1 h.1, fun b hb => by rw [h.2 b (by have := hk.1; omega) (fun hh => by have := lo b hh; omega), hk.2 b hb]⟩
theorem left_le (h : HP pa pb pc pd s ws root mvb cb) (hup : s.M.down = false) : ((lleft s.M pb.toNat : Nat) : Int) ≤ pb ∧ (s.stuck → lleft s.M pb.toNat = 0) := by
 have hm := qJ.1 h.may
 obtain ⟨k, hk⟩ := h.ps.lv
 have e : ∀ k, LV s.M (16 + pa.toNat + 1) pb.toNat k → lleft s.M pb.toNat = pb.toNat - k := fun k hk => by
  unfold lleft; rw [if_neg (by simp [hup]), hk.left]
 refine ⟨by rw [e k hk]; omega, fun hs => by rw [e _ (h.wl hs)]; omega⟩
end
section
variable {H H' H0 : AH} {L : Pl} {pa pb pc pd : Int} {s : HS} {ws : List Int} {root : Int} {mvb : Nat} {cb : Int}
theorem do_down {K off n : Int} {bs : List Int} (hd : s.M.down = true) : doH pa pb pc pd s K off n bs = (s, if 1 ≤ K ∧ K ≤ 6 then 2 else 1, 0, []) := by
 have h2 : 1 ≤ K ∧ K ≤ 6 → (if 1 ≤ K ∧ K ≤ 6 then (2 : Int) else 1) = 2 := fun h => if_pos h
 unfold doH
 by_cases k1 : K = 1
 ·rw [if_pos k1, h2 (by omega)]; unfold allocH; rw [if_pos hd]; rfl
 rw [if_neg k1]
 by_cases k2 : K = 2
 ·rw [if_pos k2, h2 (by omega)]; unfold freeH; rw [if_pos hd]
 rw [if_neg k2]
 by_cases k3 : K = 3
 ·rw [if_pos k3, h2 (by omega)]; unfold readH; rw [if_pos hd]; rfl
 rw [if_neg k3]
 by_cases k4 : K = 4
 ·rw [if_pos k4, h2 (by omega)]; unfold writeH; rw [if_pos hd]
 rw [if_neg k4]
 by_cases k5 : K = 5
 ·rw [if_pos k5, h2 (by omega)]; unfold setRootH; rw [if_pos hd]
 rw [if_neg k5]
 by_cases k6 : K = 6
 ·rw [if_pos k6, h2 (by omega), if_pos hd]
 ·rw [if_neg k6, if_neg (by omega)]
end
section
variable {F : Nat → Prop} {H : AH} {j : Nat} {ws : List Int} {root : Int} {worn : Bool} {K a b c cd m : Int} {sl al : Sl} {bs av : List Int} {k : Bool → AH → Prop}
theorem qcd : qbW [] := fun v hv => by cases hv
end
structure TS where
 s : HS
 on : Bool
def twOpen (pa pb pc pd : Int) (M : Mem) (s : HS) : TS × Int :=
 if (recN (16 + pa.toNat) pb.toNat pc.toNat M 0).2.2 = 0 then (⟨openS pa pb pc pd M, true⟩, 0)
 else (⟨{ s with M := (openS pa pb pc pd M).M }, false⟩, (recN (16 + pa.toNat) pb.toNat pc.toNat M 0).2.2)
def twDoes (pa pb pc pd : Int) (T : TS) (K off n mask : Int) (bs : List Int) : TS × Int × Int × List Int :=
 if K = 7 then (⟨{ T.s with M := T.s.M.setCut n mask }, T.on⟩, 0, 0, [])
 else if K = 8 then ((twOpen pa pb pc pd T.s.M.power T.s).1, (twOpen pa pb pc pd T.s.M.power T.s).2, 0, [])
 else if T.on = false then (T, 5, 0, [])
 else (⟨(doH pa pb pc pd T.s K off n bs).1, true⟩, (doH pa pb pc pd T.s K off n bs).2)
def TW (pa pb pc pd : Int) (T : TS) (mvb : Nat) (cb : Int) : Prop :=
 (T.on = true → ∃ ws root, HP pa pb pc pd T.s ws root mvb cb) ∧ (T.on = false → T.s.M.down = true ∧ ∃ ws root, MP pa pb pc pd T.s.M ws root mvb cb)
section
variable {pa pb pc pd : Int} {s : HS} {T : TS} {M : Mem} {ws : List Int} {root : Int} {mvb : Nat} {cb : Int}
theorem HP.setCut (h : HP pa pb pc pd s ws root mvb cb) {a b : Int} (ha : a ≤ 9223372036854775807) : HP pa pb pc pd { s with M := s.M.setCut a b } ws root mvb cb := by
 have hm := qJ.1 h.may
 have hok : (s.M.setCut a b).ok := Mem.setCut_ok h.ps.ok ha
 refine ⟨h.may, h.ps.low (M' := s.M.setCut a b) rfl (fun r _ _ => rfl) hok, h.sd.low (M' := s.M.setCut a b) (by omega) rfl (fun r _ _ => rfl) (by omega), h.ok, h.len, h.rt, h.ru, h.pg, ⟨h.cp.kl, h.cp.ok, fun hd i hi => h.cp.lag hd i hi, fun i hi => h.cp.rg i hi⟩, fun hs => ?_, h.c0⟩
 have hs' : s.stuck := hs
 exact (h.wl hs').low (M' := s.M.setCut a b) rfl fun r _ _ => rfl
theorem qfG {err e : Int} {E : List (Int × Int)} {s' : HS} (h : HP pa pb pc pd s ws root mvb cb) (c : ChOut pa pb pc pd s ws root mvb cb err E s' e) : ∃ W, HP pa pb pc pd s' W root (mvb + 40) (cb + 14) := by
 rcases c with ⟨_, _, _, _, c, _, _⟩ | ⟨_, _, c, _⟩ | ⟨_, b, _⟩ | ⟨_, _, _, _, _, c⟩
 ·exact ⟨_, c⟩
 ·exact ⟨_, c⟩
 ·exact ⟨ws, by rw [b]; exact h.mono (by omega) (by omega)⟩
 ·rcases c with c | c
  ·exact ⟨_, c⟩
  ·exact ⟨_, c⟩
theorem do_hp {K off n : Int} {bs : List Int} (hio : isI off) (h8 : qbW bs) (h : HP pa pb pc pd s ws root mvb cb) (hb : mvb + 2000 < 4611686018427387904) (hcb : cb + 100 < 4611686018427387904) :
  ∃ W r, HP pa pb pc pd (doH pa pb pc pd s K off n bs).1 W r (mvb + 40) (cb + 14) := by
 have h' : HP pa pb pc pd s ws root (mvb + 40) (cb + 14) := h.mono (by omega) (by omega)
 cases hup : s.M.down with
 | true => rw [do_down hup]; exact ⟨ws, root, h'⟩
 | false =>
  unfold doH
  by_cases k1 : K = 1
  ·rw [if_pos k1]
   obtain ⟨W, w⟩ := qfG h (qeQ (n := n) h hup hb hcb).1
   exact ⟨W, root, w⟩
  rw [if_neg k1]
  by_cases k2 : K = 2
  ·rw [if_pos k2]
   obtain ⟨W, w⟩ := qfG h (qkn (off := off) h hup hb hcb).1
   exact ⟨W, root, w⟩
  rw [if_neg k2]
  by_cases k3 : K = 3
  ·rw [if_pos k3]; exact ⟨ws, root, h'⟩
  rw [if_neg k3]
  by_cases k4 : K = 4
  ·rw [if_pos k4]
   obtain ⟨W, w⟩ := qfG h (qgT (off := off) (bs := bs) h8 h hup hb hcb).1
   exact ⟨W, root, w⟩
  rw [if_neg k4]
  by_cases k5 : K = 5
  ·rw [if_pos k5]
   obtain ⟨_, _, _, r⟩ := qhR (off := off) hio h hup
   rcases r with ⟨_, _, e⟩ | ⟨_, _, e⟩ | ⟨_, _, _, _, _, c⟩ | ⟨_, _, _, _, _, c⟩
   ·rw [e]; exact ⟨ws, root, h'⟩
   ·rw [e]; exact ⟨ws, root, h'⟩
   ·exact ⟨ws, off, c.mono (by omega) (by omega)⟩
   ·rcases c with c | c
    ·exact ⟨ws, root, c.mono (by omega) (by omega)⟩
    ·exact ⟨ws, off, c.mono (by omega) (by omega)⟩
  rw [if_neg k5]
  by_cases k6 : K = 6
  ·rw [if_pos k6, if_neg (by simp [hup])]; exact ⟨ws, root, h'⟩
  ·rw [if_neg k6]; exact ⟨ws, root, h'⟩
theorem TW.mp (h : TW pa pb pc pd T mvb cb) : ∃ ws root, MP pa pb pc pd T.s.M ws root mvb cb := by
 cases ho : T.on with
 | true => obtain ⟨ws, root, h⟩ := h.1 ho; exact ⟨ws, root, h.mp⟩
 | false => exact (h.2 ho).2
theorem TW.open_ (hMP : MP pa pb pc pd M ws root mvb cb) (hup : M.down = false) (hb : mvb + 2000 < 4611686018427387904) : TW pa pb pc pd (twOpen pa pb pc pd M s).1 (mvb + 14) cb := by
 obtain ⟨_, _, o⟩ := hMP.opened hup hb
 unfold twOpen
 rcases o with ⟨a, _, c⟩ | ⟨a, b, _, c⟩
 ·rw [if_pos a]; exact ⟨fun _ => ⟨ws, root, c⟩, fun h => by cases h⟩
 ·rw [if_neg (by omega)]; exact ⟨fun h => (by cases h), fun _ => ⟨b, ws, root, c⟩⟩
theorem TW.does {K off n mask : Int} {bs : List Int} (h : TW pa pb pc pd T mvb cb) (hio : isI off) (hin : isI n) (h8 : qbW bs) (hb : mvb + 2000 < 4611686018427387904) (hcb : cb + 100 < 4611686018427387904) :
  TW pa pb pc pd (twDoes pa pb pc pd T K off n mask bs).1 (mvb + 40) (cb + 14) := by
 have hin' := hin
 unfold isI at hin'
 unfold twDoes
 by_cases k7 : K = 7
 ·rw [if_pos k7]
  refine ⟨fun ho => ?_, fun ho => ?_⟩
  ·obtain ⟨ws, root, h⟩ := h.1 ho
   exact ⟨ws, root, (h.setCut (by omega)).mono (by omega) (by omega)⟩
  ·obtain ⟨hd, ws, root, h⟩ := h.2 ho
   exact ⟨hd, ws, root, (h.setCut (by omega)).mono (by omega) (by omega)⟩
 rw [if_neg k7]
 by_cases k8 : K = 8
 ·rw [if_pos k8]
  obtain ⟨ws, root, hMP⟩ := h.mp
  have := TW.open_ (s := T.s) hMP.power rfl hb
  refine ⟨fun ho => ?_, fun ho => ?_⟩
  ·obtain ⟨ws, root, h⟩ := this.1 ho
   exact ⟨ws, root, h.mono (by omega) (by omega)⟩
  ·obtain ⟨hd, ws, root, h⟩ := this.2 ho
   exact ⟨hd, ws, root, h.mono (by omega) (by omega)⟩
 rw [if_neg k8]
 by_cases ho : T.on = false
 ·rw [if_pos ho]
  refine ⟨fun hh => (by rw [ho] at hh; cases hh), fun _ => ?_⟩
  obtain ⟨hd, ws, root, h⟩ := h.2 ho
  exact ⟨hd, ws, root, h.mono (by omega) (by omega)⟩
 ·rw [if_neg ho]
  obtain ⟨ws, root, hP⟩ := h.1 (by simpa using ho)
  obtain ⟨W, r, w⟩ := do_hp (K := K) (off := off) (n := n) (bs := bs) hio h8 hP hb hcb
  exact ⟨fun _ => ⟨W, r, w⟩, fun hh => by cases hh⟩
end
def twObj (pa pb pc pd : Int) (p : Nat) (h : Option Addr) (cost : Int) : AObj := ⟨[.int .i64 pa, .int .i64 pb, .int .i64 pc, .int .i64 pd, .pointer (some ⟨p, 0, none⟩), .pointer h, .int .i64 cost], .rw, 0⟩
structure TwAt (G : Nat → Prop) (H : AH) (t p c : Nat) (L : Pl) (pa pb pc pd : Int) (T : TS) (cost : Int) : Prop where
 ht : H.get t = twObj pa pb pc pd p (if T.on then some ⟨L.h, 0, none⟩ else none) cost
 tp : t ≠ p
 tc : t ≠ c
 m : qv H p c T.s.M
 gt : G t
 gp : G p
 gc : G c
 gl : ∀ b, G b → b < H.size
 hp : T.on = true → HA H L pa pb pc pd T.s ∧ L.p = p ∧ L.c = c ∧ ¬ L.has t ∧ (∀ b, L.has b → G b)
section
variable {G G' : Nat → Prop} {H H' : AH} {t p c : Nat} {L : Pl} {pa pb pc pd cost : Int} {T : TS} {s0 : HS} {M : Mem} {ws : List Int} {root : Int} {mvb : Nat} {cb : Int} {h : Option Addr}
theorem tw_c4 (ht : H.get t = twObj pa pb pc pd p h cost) : AH.cell? H (qkN ⟨t, 0, none⟩ 4) = some (.pointer (some ⟨p, 0, none⟩)) := by simp [ql, AH.cell?, ht, twObj]
theorem tw_c5 (ht : H.get t = twObj pa pb pc pd p h cost) : AH.cell? H (qkN ⟨t, 0, none⟩ 5) = some (.pointer h) := by simp [ql, AH.cell?, ht, twObj]
theorem tw_row (ht : H.get t = twObj pa pb pc pd p h cost) : AH.row? H (qkN ⟨t, 0, none⟩ 0) 4 = some (pl pa pb pc pd) := by
 rw [ql]
 simp [AH.row?, ht, twObj, pl, qo]
theorem tw_set5 {h' : Option Addr} {k : AH → Prop} (ht : H.get t = twObj pa pb pc pd p h cost) (hk : k (H.upd t (twObj pa pb pc pd p h' cost))) : stC H (qkN ⟨t, 0, none⟩ 5) [(qkR h')] k := by
 rw [ql, qla, qaL]
 refine ⟨⟨rfl, by rw [ht]; rfl, by rw [ht]; simp [twObj]⟩, ?_⟩
 have e : AH.put H ⟨t, 5, none⟩ [qkR h'] = H.upd t (twObj pa pb pc pd p h' cost) := by simp only [AH.put, ht]; rfl
 rw [e]; exact hk
theorem tw_set6 {v : Int} {k : AH → Prop} (ht : H.get t = twObj pa pb pc pd p h cost) (hk : k (H.upd t (twObj pa pb pc pd p h v))) : stC H (qkN ⟨t, 0, none⟩ 6) [(qkL .i64 v)] k := by
 rw [ql, qla, qaL]
 refine ⟨⟨rfl, by rw [ht]; rfl, by rw [ht]; simp [twObj]⟩, ?_⟩
 have e : AH.put H ⟨t, 6, none⟩ [qkL .i64 v] = H.upd t (twObj pa pb pc pd p h v) := by simp only [AH.put, ht]; rfl
 rw [e]; exact hk
theorem TwAt.congr (h : TwAt G H t p c L pa pb pc pd T cost) (hs : H.size ≤ H'.size) (hg : ∀ b, G b → H'.get b = H.get b) : TwAt G H' t p c L pa pb pc pd T cost :=
 ⟨by rw [hg _ h.gt]; exact h.ht, h.tp, h.tc, h.m.keep hs (hg _ h.gp) (hg _ h.gc), h.gt, h.gp, h.gc, fun b hb => by have := h.gl b hb; omega,
  fun ho => by obtain ⟨a, b, c, d, e⟩ := h.hp ho; exact ⟨HA.congr a hs fun x hx => hg x (e x hx), b, c, d, e⟩⟩
theorem TwAt.keeps (h : TwAt G H t p c L pa pb pc pd T cost) (hk : qa H H') : TwAt G H' t p c L pa pb pc pd T cost := h.congr hk.1 fun b hb => hk.2 b (h.gl b hb)
theorem qge.s {k : Int → AH → Prop} (ht : H.get t = twObj pa pb pc pd p h cost) (tp : t ≠ p) (tc : t ≠ c) (hm : qv H p c M) (hMP : MP pa pb pc pd M ws root mvb cb) (hup : M.down = false) (hb : mvb ≤ 1000000) (hcb : cb ≤ 1000000)
  (gt : G t) (gp : G p) (gc : G c) (gl : ∀ b, G b → b < H.size)
  (hk : ∀ G' H' L, Up G H G' H' → TwAt G' H' t p c L pa pb pc pd (twOpen pa pb pc pd M s0).1 cost → k (twOpen pa pb pc pd M s0).2 H') : qaG (some ⟨t, 0, none⟩) H k := by
 refine qaG.link ?_
 unfold qaG.b
 rw [qd, tw_c4 ht, qC, qd, qs (tw_row ht)]
 have lt := gl t gt
 unfold twOpen at hk
 have upG : ∀ {H' : AH} {o : AObj}, FrO H H' p c → Up G H (fun b => G b ∨ (H.size ≤ b ∧ b < H'.size)) (H'.upd t o) := fun {H' o} fr =>
  ⟨⟨fr.size, fun b hb hn => by rw [qA, if_neg (show ¬ b = t from fun e => hn (e ▸ gt)), fr.get b hb (fun e => hn (e ▸ gp)) (fun e => hn (e ▸ gc))]⟩, fun b hb => hb⟩
 refine qN.s hMP hm hup (by omega) (by omega) ?_ ?_
 ·intro hne H' hM' fr
  rw [if_neg hne] at hk
  have ht' : H'.get t = twObj pa pb pc pd p h cost := by rw [fr.get t lt tp tc]; exact ht
  rw [qd]
  refine tw_set5 ht' ?_
  have hs := fr.size
  refine hk _ _ ⟨0, 0, 0, 0, 0, 0, 0, 0, 0⟩ (upG fr) ⟨by rw [qA, if_pos rfl]; rfl, tp, tc, hM'.keep (qkV _) (by rw [qA, if_neg (Ne.symm tp)]) (by rw [qA, if_neg (Ne.symm tc)]), .inl gt, .inl gp, .inl gc, fun b hb => ?_, fun hh => by cases hh⟩
  show b < H'.size
  rcases hb with hb | hb
  ·have := gl b hb; omega
  ·exact hb.2
 ·intro he H' L hA hp hc l1 l2 l3 l4 l5 l6 l7 fr
  rw [if_pos he] at hk
  have ht' : H'.get t = twObj pa pb pc pd p h cost := by rw [fr.get t lt tp tc]; exact ht
  rw [qd]
  refine tw_set5 ht' ?_
  have hs := fr.size
  have hnew : ∀ b, L.has b → b ≠ p → b ≠ c → H.size ≤ b := by
   intro b hb n1 n2
   rcases hb with e | e | e | e | e | e | e | e | e <;> first | omega | exact absurd (e.trans hp) n1 | exact absurd (e.trans hc) n2
  have hnt : ¬ L.has t := fun hh => by have := hnew t hh tp tc; omega
  have hA' : HA (H'.upd t (twObj pa pb pc pd p (some ⟨L.h, 0, none⟩) cost)) L pa pb pc pd (openS pa pb pc pd M) := HA.congr hA (qkV _) fun b hb => by rw [qA, if_neg (show ¬ b = t from fun e => hnt (e ▸ hb))]
  have hm' := (HAt.ga hA').tn.l.m
  rw [hp, hc] at hm'
  refine hk _ _ L (upG fr) ⟨by rw [qA, if_pos rfl]; rfl, tp, tc, hm', .inl gt, .inl gp, .inl gc, fun b hb => ?_, fun _ => ⟨hA', hp, hc, hnt, fun b hb => ?_⟩⟩
  ·show b < H'.size
   rcases hb with hb | hb
   ·have := gl b hb; omega
   ·exact hb.2
  ·by_cases n1 : b = p
   ·rw [n1]; exact .inl gp
   by_cases n2 : b = c
   ·rw [n2]; exact .inl gc
   exact .inr ⟨hnew b hb n1 n2, HA.lt hA hb⟩
end
section
variable {G : Nat → Prop} {H : AH} {t p c : Nat} {L : Pl} {pa pb pc pd cost : Int} {T : TS} {mvb : Nat} {cb : Int}
theorem qdG {o : Nat} {a b e m : Int} {y x : Sl} {k : List Value → AH → Prop} (h : AnAt H o a b y) (hk : ∀ H', H'.size = H.size → AnAt H' o e m x → (∀ i, i ≠ o → H'.get i = H.get i) → k (anV e m x) H') :
  ((anV e m x).length = 3 ∧ (anV e m x).all qo = true) ∧ stC H ⟨o, 0, none⟩ (anV e m x) fun Hs => ldA Hs ⟨o, 0, none⟩ 3 fun r0 => k r0 Hs := by
 obtain ⟨z, hg⟩ := h
 refine ⟨⟨rfl, rfl⟩, ?_⟩
 rw [qaL]
 refine ⟨⟨rfl, by rw [hg], by rw [hg]; simp [ansl, anV]⟩, ?_⟩
 have e1 : AH.put H ⟨o, 0, none⟩ (anV e m x) = H.upd o ⟨anV e m x, .rw, z⟩ := by simp only [AH.put, hg]; rfl
 rw [e1]
 have hA : AnAt (H.upd o ⟨anV e m x, .rw, z⟩) o e m x := ⟨z, by rw [qA, if_pos rfl]; rfl⟩
 rw [qs hA.row]
 exact hk _ rfl hA fun i hi => by rw [qA, if_neg hi]
theorem qiW.s {K off n mask : Int} {x : Sl} {bs : List Int} {k : List Value → AH → Prop} (h : TwAt G H t p c L pa pb pc pd T cost) (hw : TW pa pb pc pd T mvb cb) (hb : mvb ≤ 100000) (hcb : cb ≤ 100000)
  (hio : isI off) (hin : isI n) (hx : qli H x 1 bU bs) (h8 : qbW bs)
  (hk : ∀ G' H' L' x', Up G H G' H' → TwAt G' H' t p c L' pa pb pc pd (twDoes pa pb pc pd T K off n mask bs).1 cost → Own H.size H' x' 1 bU (twDoes pa pb pc pd T K off n mask bs).2.2.2 → (∀ a, x'.a = some a → ¬ G' a.block) →
   k (anV (twDoes pa pb pc pd T K off n mask bs).2.1 (twDoes pa pb pc pd T K off n mask bs).2.2.1 x') H') : qaS (some ⟨t, 0, none⟩) (opV K off n mask x) H k := by
 refine qaS.link ?_
 unfold qaS.b
 rw [qt, qt]
 have hk4 : qa H ((H.push ⟨opV K off n mask x, .rw, 0⟩).push ⟨anV 0 0 ⟨none, 0, 0⟩, .rw, 0⟩) := ((qa.refl H).push _).push _
 have hO4 : OpAt ((H.push ⟨opV K off n mask x, .rw, 0⟩).push ⟨anV 0 0 ⟨none, 0, 0⟩, .rw, 0⟩) H.size K off n mask x := (OpAt.new (H := H) (e := 0)).keep (qG (by simp [qi]))
 have hA4 : AnAt ((H.push ⟨opV K off n mask x, .rw, 0⟩).push ⟨anV 0 0 ⟨none, 0, 0⟩, .rw, 0⟩) (H.push ⟨opV K off n mask x, .rw, 0⟩).size 0 0 ⟨none, 0, 0⟩ := AnAt.new
 have hz4 : ((H.push ⟨opV K off n mask x, .rw, 0⟩).push ⟨anV 0 0 ⟨none, 0, 0⟩, .rw, 0⟩).size = H.size + 2 := by simp [qi]
 have ho4 : (H.push ⟨opV K off n mask x, .rw, 0⟩).size = H.size + 1 := by simp [qi]
 rw [show ({ cells := [(qkL .i64 (0 : Int)), (qkL .i64 (0 : Int)), (qk2 none 0 0)], md := .rw, esz := 0 } : AObj) = ⟨anV 0 0 ⟨none, 0, 0⟩, .rw, 0⟩ from rfl]
 generalize (H.push ⟨opV K off n mask x, .rw, 0⟩).push ⟨anV 0 0 ⟨none, 0, 0⟩, .rw, 0⟩ = H4 at *
 rw [ho4] at hA4 ⊢
 have h4 := h.keeps hk4
 have gH : ∀ {b}, G b → b < H.size := fun hb => h.gl _ hb
 have uk : Up G H G H4 := ⟨qa.kp hk4, fun b hb => .inl hb⟩
 rw [hO4.c0, qg]
 unfold twDoes at hk
 by_cases k7 : K = 7
 ·rw [if_pos k7] at hk
  rw [show (K == 7) = true by simpa using k7, qk, qd, tw_c4 h4.ht, qC, hO4.c2, qg, hO4.c3, qg]
  refine qaB.g h4.m (by unfold isI at hin; omega) ?_
  intro H17 hM17 f17
  refine qdG (H := H17) (a := 0) (b := 0) (y := ⟨none, 0, 0⟩) (e := 0) (m := 0) (x := ⟨none, 0, 0⟩) (hA4.keep (f17.get _ (by have := gH h.gp; omega) (by have := gH h.gc; omega))) ?_
  intro H' hs' _ hg'
  have hs17 := f17.size
  have gne : ∀ b, G b → b ≠ H.size + 1 := fun b hb => by have := gH hb; omega
  have get' : ∀ b, G b → b ≠ p → b ≠ c → H'.get b = H4.get b := fun b hb n1 n2 => by rw [hg' b (gne b hb), f17.get b n1 n2]
  refine hk G H' L ⟨none, 0, 0⟩ ⟨⟨by have := hk4.1; omega, fun b hb hn => ?_⟩, fun b hb => .inl hb⟩ ?_ (.inl ⟨rfl, rfl⟩) (fun a ha => by cases ha)
  ·rw [hg' b (by omega), f17.get b (fun e => hn (e ▸ h.gp)) (fun e => hn (e ▸ h.gc)), hk4.2 b hb]
  ·have hm' : qv H' p c (T.s.M.setCut n mask) := hM17.keep (by omega) (hg' p (gne p h.gp)) (hg' c (gne c h.gc))
   refine ⟨by rw [get' t h.gt h.tp h.tc]; exact h4.ht, h.tp, h.tc, hm', h.gt, h.gp, h.gc, fun b hb => by have := gH hb; omega, fun ho => ?_⟩
   obtain ⟨a1, a2, a3, a4, a5⟩ := h4.hp ho
   have hA17 : HA H17 L pa pb pc pd { T.s with M := T.s.M.setCut n mask } := HAt.mset a1 (by rw [a2, a3]; exact hM17) (by rw [a2, a3]; exact f17) rfl rfl
   exact ⟨HA.congr hA17 (by omega) fun b hb => hg' b (gne b (a5 b hb)), a2, a3, a4, a5⟩
 rw [if_neg k7] at hk
 rw [show (K == 7) = false by simpa using k7, qc, qg]
 by_cases k8 : K = 8
 ·rw [if_pos k8] at hk
  rw [show (K == 8) = true by simpa using k8, qk, qd, tw_c4 h4.ht, qC]
  refine qao.g h4.m ?_
  intro H27 hM27 f27
  have hs27 := f27.size
  obtain ⟨ws, root, hMP⟩ := hw.mp
  have ht27 : H27.get t = twObj pa pb pc pd p (if T.on then some ⟨L.h, 0, none⟩ else none) cost := by rw [f27.get t h.tp h.tc]; exact h4.ht
  refine qge.s (s0 := T.s) (G := G) ht27 h.tp h.tc hM27 hMP.power rfl (by omega) (by omega) h.gt h.gp h.gc (fun b hb => by have := gH hb; omega) ?_
  intro G' H29 L' hu hT
  have ne1 : ∀ b, G' b → b ≠ H.size + 1 := fun b hb e => by
   rcases hu.2 b hb with hb | hb
   ·have := gH hb; omega
   ·omega
  have hgo : H29.get (H.size + 1) = H27.get (H.size + 1) := hu.1.2 _ (by omega) (fun hh => by have := gH hh; omega)
  refine qdG (H := H29) (a := 0) (b := 0) (y := ⟨none, 0, 0⟩) (e := _) (m := 0) (x := ⟨none, 0, 0⟩) ((hA4.keep (f27.get _ (by have := gH h.gp; omega) (by have := gH h.gc; omega))).keep hgo) ?_
  intro H' hs' _ hg'
  have hu1 := hu.1.1
  refine hk G' H' L' ⟨none, 0, 0⟩ ⟨⟨by omega, fun b hb hn => ?_⟩, fun b hb => ?_⟩ (hT.congr (by omega) fun b hb => hg' b (ne1 b hb)) (.inl ⟨rfl, rfl⟩) (fun a ha => by cases ha)
  ·rw [hg' b (by omega), hu.1.2 b (by omega) hn, f27.get b (fun e => hn (e ▸ h.gp)) (fun e => hn (e ▸ h.gc)), hk4.2 b hb]
  ·rcases hu.2 b hb with hb | hb
   ·exact .inl hb
   ·exact .inr ⟨by omega, by omega⟩
 rw [if_neg k8] at hk
 rw [show (K == 8) = false by simpa using k8, qc, qd, tw_c5 h4.ht, qC]
 by_cases ho : T.on = false
 ·rw [if_pos ho] at hk
  rw [ho]
  simp only [qkW, if_false]
  rw [Option.isNone_none, qk]
  refine qdG (H := H4) (a := 0) (b := 0) (y := ⟨none, 0, 0⟩) (e := 5) (m := 0) (x := ⟨none, 0, 0⟩) hA4 ?_
  intro H' hs' _ hg'
  refine hk G H' L ⟨none, 0, 0⟩ ⟨⟨by omega, fun b hb hn => ?_⟩, fun b hb => .inl hb⟩ (h4.congr (by omega) fun b hb => hg' b (by have := gH hb; omega)) (.inl ⟨rfl, rfl⟩) (fun a ha => by cases ha)
  rw [hg' b (by omega), hk4.2 b hb]
 rw [if_neg ho] at hk
 have ho' : T.on = true := by simpa using ho
 obtain ⟨a1, a2, a3, a4, a5⟩ := h4.hp ho'
 obtain ⟨ws, root, hP⟩ := hw.1 ho'
 have hif : (if T.on = true then some (⟨L.h, 0, none⟩ : Addr) else none) = some ⟨L.h, 0, none⟩ := if_pos ho'
 rw [hif, qk1, qc, qd, tw_c5 h4.ht, qC, hif, qs hO4.row]
 have hx4 := hx.keep hk4
 refine qdU (K := K) (off := off) (n := n) (mask := mask) (x := x) (bs := bs) (hP.hok a1 (by omega) (by omega)) hio hin (fun _ => ⟨hx4, h8⟩) ?_
 intro H43 x43 hA43 f43 hO43
 have hs43 := f43.size
 have no4 : ¬ L.has (H.size + 1) := fun hh => by have := gH (a5 _ hh); omega
 refine qdG (H := H43) (a := 0) (b := 0) (y := ⟨none, 0, 0⟩) (hA4.keep (f43.out (by omega) no4)) ?_
 intro H' hs' _ hg'
 refine hk G H' L x43 ⟨⟨by omega, fun b hb hn => ?_⟩, fun b hb => .inl hb⟩ ?_ ?_ ?_
 ·rw [hg' b (by omega), f43.out (by omega) (fun hh => hn (a5 b hh)), hk4.2 b hb]
 ·have gne : ∀ b, G b → b ≠ H.size + 1 := fun b hb => by have := gH hb; omega
  have hA' : HA H' L pa pb pc pd (doH pa pb pc pd T.s K off n bs).1 := HA.congr hA43 (by omega) fun b hb => hg' b (gne b (a5 b hb))
  have hm' := (HAt.ga hA').tn.l.m
  rw [a2, a3] at hm'
  refine ⟨?_, h.tp, h.tc, hm', h.gt, h.gp, h.gc, fun b hb => by have := gH hb; omega, fun _ => ⟨hA', a2, a3, a4, a5⟩⟩
  rw [hg' t (gne t h.gt), f43.out (by have := gH h.gt; omega) a4, h4.ht, hif]
  rfl
 ·have hO' : Own H4.size H' x43 1 bU (doH pa pb pc pd T.s K off n bs).2.2.2 := hO43.keep (by omega) fun b hb _ => hg' b (by omega)
  exact qci hO' hk4.1
 ·intro a ha hG
  rcases hO43 with ⟨e, _⟩ | ⟨b, e, hb1, _, _⟩
  ·rw [e] at ha; cases ha
  ·rw [e] at ha; cases ha
   have := gH hG
   simp only at this
   omega
end
section
variable {G : Nat → Prop} {H : AH} {t p c : Nat} {L : Pl} {pa pb pc pd cost : Int} {T : TS} {mvb : Nat} {cb : Int}
def twCost (pa pb pc pd : Int) (T : TS) (K off n mask : Int) (bs : List Int) : Int := qkM .i64 ((twDoes pa pb pc pd T K off n mask bs).1.s.M.writes - T.s.M.writes)
theorem TwAt.cost' {v : Int} (h : TwAt G H t p c L pa pb pc pd T cost) : TwAt G (H.upd t (twObj pa pb pc pd p (if T.on then some ⟨L.h, 0, none⟩ else none) v)) t p c L pa pb pc pd T v := by
 refine ⟨by rw [qA, if_pos rfl], h.tp, h.tc, h.m.keep (qkV _) (by rw [qA, if_neg (Ne.symm h.tp)]) (by rw [qA, if_neg (Ne.symm h.tc)]), h.gt, h.gp, h.gc, h.gl, fun ho => ?_⟩
 obtain ⟨a1, a2, a3, a4, a5⟩ := h.hp ho
 exact ⟨HA.congr a1 (qkV _) fun b hb => by rw [qA, if_neg (show ¬ b = t from fun e => a4 (e ▸ hb))], a2, a3, a4, a5⟩
theorem qdK.s {K off n mask : Int} {x : Sl} {bs : List Int} {k : List Value → AH → Prop} (h : TwAt G H t p c L pa pb pc pd T cost) (hw : TW pa pb pc pd T mvb cb) (hb : mvb ≤ 100000) (hcb : cb ≤ 100000)
  (hio : isI off) (hin : isI n) (hx : qli H x 1 bU bs) (h8 : qbW bs)
  (hk : ∀ G' H' L' x', Up G H G' H' → TwAt G' H' t p c L' pa pb pc pd (twDoes pa pb pc pd T K off n mask bs).1 (twCost pa pb pc pd T K off n mask bs) → Own H.size H' x' 1 bU (twDoes pa pb pc pd T K off n mask bs).2.2.2 → (∀ a, x'.a = some a → ¬ G' a.block) →
   k (anV (twDoes pa pb pc pd T K off n mask bs).2.1 (twDoes pa pb pc pd T K off n mask bs).2.2.1 x') H') : qad (some ⟨t, 0, none⟩) (opV K off n mask x) H k := by
 refine qad.link ?_
 unfold qad.b
 rw [qt, qt]
 have hk4 : qa H ((H.push ⟨opV K off n mask x, .rw, 0⟩).push ⟨anV 0 0 ⟨none, 0, 0⟩, .rw, 0⟩) := ((qa.refl H).push _).push _
 have hO4 : OpAt ((H.push ⟨opV K off n mask x, .rw, 0⟩).push ⟨anV 0 0 ⟨none, 0, 0⟩, .rw, 0⟩) H.size K off n mask x := (OpAt.new (H := H) (e := 0)).keep (qG (by simp [qi]))
 have hA4 : AnAt ((H.push ⟨opV K off n mask x, .rw, 0⟩).push ⟨anV 0 0 ⟨none, 0, 0⟩, .rw, 0⟩) (H.push ⟨opV K off n mask x, .rw, 0⟩).size 0 0 ⟨none, 0, 0⟩ := AnAt.new
 have hz4 : ((H.push ⟨opV K off n mask x, .rw, 0⟩).push ⟨anV 0 0 ⟨none, 0, 0⟩, .rw, 0⟩).size = H.size + 2 := by simp [qi]
 have ho4 : (H.push ⟨opV K off n mask x, .rw, 0⟩).size = H.size + 1 := by simp [qi]
 rw [show ({ cells := [(qkL .i64 (0 : Int)), (qkL .i64 (0 : Int)), (qk2 none 0 0)], md := .rw, esz := 0 } : AObj) = ⟨anV 0 0 ⟨none, 0, 0⟩, .rw, 0⟩ from rfl]
 generalize (H.push ⟨opV K off n mask x, .rw, 0⟩).push ⟨anV 0 0 ⟨none, 0, 0⟩, .rw, 0⟩ = H4 at *
 rw [ho4] at hA4 ⊢
 have h4 := h.keeps hk4
 have gH : ∀ {b}, G b → b < H.size := fun hb => h.gl _ hb
 rw [qk1, qc, qd, tw_c4 h4.ht, qC]
 refine qap.s h4.m ?_
 rw [qs hO4.row]
 refine qiW.s (K := K) (off := off) (n := n) (mask := mask) (x := x) (bs := bs) h4 hw hb hcb hio hin (hx.keep hk4) h8 ?_
 intro G' H17 L' x' hu hT hO hne
 unfold twCost at hk
 generalize twDoes pa pb pc pd T K off n mask bs = R at *
 have hs17 := hu.1.1
 have noG : ∀ b, G' b → b ≠ H.size + 1 := fun b hb e => by
  rcases hu.2 b hb with hb | hb
  ·have := gH hb; omega
  ·omega
 have hA17 : AnAt H17 (H.size + 1) 0 0 ⟨none, 0, 0⟩ := hA4.keep (hu.1.2 _ (by omega) (fun hh => by have := gH hh; omega))
 refine qbX (n := 3) rfl rfl rfl ?_
 have hAn : AnAt (H17.push ⟨anV R.2.1 R.2.2.1 x', .rw, 0⟩) H17.size R.2.1 R.2.2.1 x' := AnAt.new
 have hk18 : qa H17 (H17.push ⟨anV R.2.1 R.2.2.1 x', .rw, 0⟩) := (qa.refl H17).push _
 have hz18 : (H17.push ⟨anV R.2.1 R.2.2.1 x', .rw, 0⟩).size = H17.size + 1 := by simp [qi]
 generalize H17.push ⟨anV R.2.1 R.2.2.1 x', .rw, 0⟩ = H18 at *
 have hT18 := hT.keeps hk18
 rw [qd, tw_c4 hT18.ht, qC]
 refine qap.s hT18.m ?_
 rw [qd]
 refine tw_set6 hT18.ht ?_
 have hT19 := hT18.cost' (v := qkM .i64 (R.1.s.M.writes - T.s.M.writes))
 have hzt : t < H.size := gH h.gt
 have g19 : ∀ b, b ≠ t → (H18.upd t (twObj pa pb pc pd p (if R.1.on then some ⟨L'.h, 0, none⟩ else none) (qkM .i64 (R.1.s.M.writes - T.s.M.writes)))).get b = H18.get b := fun b hb => by rw [qA, if_neg hb]
 have z19 : (H18.upd t (twObj pa pb pc pd p (if R.1.on then some ⟨L'.h, 0, none⟩ else none) (qkM .i64 (R.1.s.M.writes - T.s.M.writes)))).size = H18.size := rfl
 generalize H18.upd t (twObj pa pb pc pd p (if R.1.on then some ⟨L'.h, 0, none⟩ else none) (qkM .i64 (R.1.s.M.writes - T.s.M.writes))) = H19 at *
 have hAn19 : AnAt H19 H17.size R.2.1 R.2.2.1 x' := hAn.keep (g19 _ (by omega))
 rw [qs hAn19.row]
 have hA19 : AnAt H19 (H.size + 1) 0 0 ⟨none, 0, 0⟩ := (hA17.keep (hk18.2 _ (by omega))).keep (g19 _ (by omega))
 refine qdG (H := H19) (a := 0) (b := 0) (y := ⟨none, 0, 0⟩) hA19 ?_
 intro H' hs' _ hg'
 refine hk G' H' L' x' ⟨⟨by omega, fun b hb hn => ?_⟩, fun b hb => ?_⟩ (hT19.congr (by omega) fun b hb => hg' b (noG b hb)) ?_ hne
 ·rw [hg' b (by omega), g19 b (fun e => hn (e ▸ h.gt)), hk18.2 b (by omega), hu.1.2 b (by omega) hn, hk4.2 b hb]
 ·rcases hu.2 b hb with hb | hb
  ·exact .inl hb
  ·exact .inr ⟨by omega, by omega⟩
 ·exact qci (hO.keep (by omega) fun b hb hb2 => by rw [hg' b (by omega), g19 b (by omega), hk18.2 b hb2]) (show H.size ≤ H4.size by omega)
end
def twStart (pa pb pc pd : Int) (limits : List Int) : TS := ⟨openS pa pb pc pd (formN pa pb pc limits).1, true⟩
section
variable {G : Nat → Prop} {H : AH} {t p c : Nat} {L : Pl} {pa pb pc pd cost : Int} {T : TS} {mvb : Nat} {cb : Int}
theorem qbO.s {x1 : Sl} {limits : List Int} {k : Option Addr → Int → AH → Prop} (hr : qli H x1 1 iV limits)
  (hbad : mayP pa pb pc pd = false → ∀ H', qa H H' → k none 1 H')
  (hworn : mayP pa pb pc pd = true → (formN pa pb pc limits).2.2 = 3 → ∀ H', qa H H' → k none 3 H')
  (hgo : mayP pa pb pc pd = true → (formN pa pb pc limits).2.2 = 0 → ∀ G H' t p c L, qa H H' → (∀ b, G b → H.size ≤ b) → TwAt G H' t p c L pa pb pc pd (twStart pa pb pc pd limits) 0 → TW pa pb pc pd (twStart pa pb pc pd limits) 15 0 → k (some ⟨t, 0, none⟩) 0 H') :
  qbO (pl pa pb pc pd) x1 H k := by
 refine qbO.link ?_
 unfold qbO.b
 rw [qt, pl_ld]
 have hk1 : qa H (H.push ⟨pl pa pb pc pd, .rw, 0⟩) := (qa.refl H).push _
 have g1 : (H.push ⟨pl pa pb pc pd, .rw, 0⟩).get H.size = ⟨pl pa pb pc pd, .rw, 0⟩ := by rw [qp, if_pos rfl]
 have hsz1 : (H.push ⟨pl pa pb pc pd, .rw, 0⟩).size = H.size + 1 := by simp [qi]
 generalize H.push ⟨pl pa pb pc pd, .rw, 0⟩ = H1 at *
 refine qaM.s ?_
 cases hmay : mayP pa pb pc pd with
 | false =>
  rw [Bool.not_false, qk]
  exact hbad hmay _ hk1
 | true =>
  rw [qlm, qc, qs (plg_row g1), qs (plg_row g1)]
  have hmp := qJ.1 hmay
  refine qaz.s ?_
  refine ⟨plg_row g1, ?_⟩
  have hdev : deviceP pa pb pc pd = ((16 + pa.toNat + 1 + pb.toNat : Nat) : Int) := by unfold deviceP; rw [if_pos hmay]; omega
  rw [hdev]
  refine nvm_New.s (hr.keep hk1) ?_ (fun hn => absurd (by omega) hn)
  intro _ H2 hM2 hk2 hs2
  rw [qkS] at hM2
  have g2 : H2.get H.size = ⟨pl pa pb pc pd, .rw, 0⟩ := by rw [hk2.2 _ (by omega)]; exact g1
  refine ⟨plg_row g2, rfl, ?_⟩
  have eo : (List.set (setMany [(qkL .i64 (0 : Int)), (qkL .i64 (0 : Int)), (qkL .i64 (0 : Int)), (qkL .i64 (0 : Int)), (qkR none), (qkR none), (qkL .i64 (0 : Int))] 0 (pl pa pb pc pd)) 4 (qkR (some ⟨H1.size + 1, 0, none⟩))) = (twObj pa pb pc pd (H1.size + 1) none 0).cells := rfl
  rw [eo, qt]
  have hk3 : qa H2 (H2.push ⟨(twObj pa pb pc pd (H1.size + 1) none 0).cells, .rw, 0⟩) := (qa.refl H2).push _
  have g3 : (H2.push ⟨(twObj pa pb pc pd (H1.size + 1) none 0).cells, .rw, 0⟩).get H2.size = twObj pa pb pc pd (H1.size + 1) none 0 := by rw [qp, if_pos rfl]; rfl
  have hsz3 : (H2.push ⟨(twObj pa pb pc pd (H1.size + 1) none 0).cells, .rw, 0⟩).size = H2.size + 1 := by simp [qi]
  generalize H2.push ⟨(twObj pa pb pc pd (H1.size + 1) none 0).cells, .rw, 0⟩ = H3 at *
  have g13 : H3.get H.size = ⟨pl pa pb pc pd, .rw, 0⟩ := by rw [hk3.2 _ (by omega)]; exact g2
  rw [tw_c4 g3, qC, qs (plg_row g13)]
  obtain ⟨f1, f2, f3, _, _, f4⟩ := formed (limits := limits) hmay
  have hM3 := hM2.keeps hk3
  refine qB.s hM3 hmay ?_
  intro H4 hM4 fr4
  have hs4 := fr4.size
  have hkk : qa H H4 := fr4.keeps ((hk1.trans hk2).trans hk3) (by omega) (by omega)
  rcases f4 with ⟨e, hMP, hc⟩ | e
  ·rw [e, show ((0 : Int) != 0) = false from rfl, qc]
   have hrc : recN (16 + pa.toNat) pb.toNat pc.toNat (formN pa pb pc limits).1 0 = ((formN pa pb pc limits).1, 0, 0) := qdT f1 hc
   have g4 : H4.get H2.size = twObj pa pb pc pd (H1.size + 1) none 0 := by rw [fr4.get _ (by omega) (by omega) (by omega)]; exact g3
   have eT : twOpen pa pb pc pd (formN pa pb pc limits).1 ⟨(formN pa pb pc limits).1, 0, [], [], false⟩ = (twStart pa pb pc pd limits, 0) := by
    unfold twOpen twStart
    rw [if_pos (by rw [hrc])]
   refine qge.s (s0 := ⟨(formN pa pb pc limits).1, 0, [], [], false⟩) (G := fun b => b = H2.size ∨ b = H1.size + 1 ∨ b = H1.size) g4 (by omega) (by omega) hM4 hMP f1 (by omega) (by omega) (.inl rfl) (.inr (.inl rfl)) (.inr (.inr rfl)) (fun b hb => by omega) ?_
   intro G' H5 L' hu hT
   have hTW := TW.open_ (s := ⟨(formN pa pb pc limits).1, 0, [], [], false⟩) hMP f1 (by omega)
   rw [eT] at hT hTW ⊢
   rw [show ((0 : Int) != 0) = false from rfl, qc]
   refine hgo hmay e G' H5 _ _ _ L' ?_ ?_ hT hTW
   ·refine ⟨by have := hkk.1; have := hu.1.1; omega, fun b hb => ?_⟩
    have h0 := hkk.1
    rw [hu.1.2 b (by omega) (by omega), hkk.2 b hb]
   ·intro b hb
    have h0 := hkk.1
    rcases hu.2 b hb with hb | hb <;> omega
  ·rw [e, show ((3 : Int) != 0) = true from rfl, qk]
   exact hworn hmay e _ hkk
end
section
variable {H : AH} {pa pb pc pd : Int}
theorem qjZ {limits : List Int} (hmay : mayP pa pb pc pd = true) (he : (formN pa pb pc limits).2.2 = 0) :
  HP pa pb pc pd (twStart pa pb pc pd limits).s (firstN (8 * pa)) 0 15 0 ∧ (twStart pa pb pc pd limits).s.M.down = false ∧ (twStart pa pb pc pd limits).s.M.cut = -1 ∧ ¬ (twStart pa pb pc pd limits).s.stuck ∧ (limits = [] → NL (twStart pa pb pc pd limits).s.M) ∧ (twStart pa pb pc pd limits).s.M = (formN pa pb pc limits).1 := by
 obtain ⟨f1, f2, f3, _, _, f4⟩ := formed (limits := limits) hmay
 rcases f4 with ⟨_, hMP, hc⟩ | e
 rotate_left 1
 ·omega
 have hrc : recN (16 + pa.toNat) pb.toNat pc.toNat (formN pa pb pc limits).1 0 = ((formN pa pb pc limits).1, 0, 0) := qdT f1 hc
 have hop := hMP.opened f1 (by omega)
 have hP : HP pa pb pc pd (openS pa pb pc pd (formN pa pb pc limits).1) (firstN (8 * pa)) 0 (1 + 14) 0 := by
  rcases hop.2.2 with ⟨_, _, hP⟩ | ⟨e2, _⟩
  ·exact hP
  ·rw [hrc] at e2; simp at e2
 have eM : (openS pa pb pc pd (formN pa pb pc limits).1).M = (formN pa pb pc limits).1 := by unfold openS; rw [hrc]
 refine ⟨hP, by show (openS pa pb pc pd _).M.down = false; rw [eM]; exact f1, by show (openS pa pb pc pd _).M.cut = -1; rw [eM]; exact f2, fun hst => ?_, fun hl => by show NL (openS pa pb pc pd _).M; rw [eM]; exact (f3 hl).2, eM⟩
 rcases hst with hst | ⟨_, hst⟩
 ·cases hst
 ·have hst' : commits (openS pa pb pc pd (formN pa pb pc limits).1).M ≠ 0 := hst
  rw [eM] at hst'; exact hst' hc
theorem qgE (hmay : mayP pa pb pc pd = true) : (formN pa pb pc []).2.2 = 0 := ((formed (limits := []) hmay).2.2.1 rfl).1
theorem qi6 (hmay : mayP pa pb pc pd = true) : HP pa pb pc pd (twStart pa pb pc pd []).s (firstN (8 * pa)) 0 15 0 ∧ FreeS (twStart pa pb pc pd []).s := by
 obtain ⟨a, b, c, d, e, _⟩ := qjZ (limits := []) hmay (qgE hmay)
 exact ⟨a, b, c, e rfl, d⟩
end
section
variable {M : Mem} {n sp per pt k mvb len : Nat} {d : List Int}
theorem qkl {i : Nat} (hd : M.down = false) (hc : M.cut = 0) (hi : i < M.cs.length) : (M.put i d).2 = 2 := by
 unfold Mem.put
 rw [if_pos (show M.has i from ⟨by omega, by omega⟩), if_neg (by simp [hd])]
 have hw : M.wr.down = true := by unfold Mem.wr; rw [if_pos hc]
 simp only
 split
 ·simp [Mem.told, hw]
 ·simp [Mem.told, hw]
theorem qgK {slot : Nat} (h : LV M n sp k) (hd : M.down = false) (hc : M.cut = 0) (hs : slot < n) : (lput n sp M slot d).2 = 2 := by
 unfold lput
 have hl := h.len
 have hp : M.place n slot sp < M.cs.length := by
  rcases qcC M n slot sp with e | ⟨j, hj, e, _⟩ <;> omega
 rw [if_pos (by omega), if_neg (by simp [hd])]
 simp only [qkS]
 have := qkl (d := d) hd hc hp
 rw [if_neg (by omega)]
 exact this
theorem qju {line : Nat} (h : LV M (n + 1) sp k) (hn : 1 ≤ n) (hd : M.down = false) (hc : M.cut = 0) (hl : line < n) : (tput n sp per M pt line d).2.2 = 2 := by
 unfold tput
 rw [if_pos (by omega), if_neg (by simp [hd])]
 split
 ·have hg : gapN n M.mv < n + 1 := by have := gapN_le (n := n) (mv := M.mv); omega
  have h2 : (tmove n sp M).2 = 2 := by
   unfold tmove
   have := qgK (d := M.view (n + 1) sp (fromN n M.mv)) h hd hc hg
   simp only
   rw [if_neg (by omega)]
   exact this
  simp only
  rw [if_neg (by omega)]
  exact h2
 ·have hsl := qcY (mv := M.mv) (line := line) hn
  simp only [qkS]
  exact qgK h hd hc (by omega)
theorem qiv {L : List (Int × List Int)} (h : LV M (n + 1) sp k) (hn : 1 ≤ n) (hd : M.down = false) (hc : M.cut = 0) (hL : L ≠ []) (hin : ∀ q ∈ L, 0 ≤ q.1 ∧ q.1 < n) : (tputs n sp per L M pt).2.2 = 2 := by
 cases L with
 | nil => exact absurd rfl hL
 | cons q r =>
  obtain ⟨h0, h1⟩ := hin q (by simp)
  obtain ⟨ln, hln⟩ := qk9 h0
  have := qju (per := per) (pt := pt) (d := q.2) h hn hd hc (line := ln) (by omega)
  unfold tputs
  rw [hln, this, if_neg (by omega)]
  exact this
end
section
variable {pa pb pc pd : Int} {s : HS} {ws : List Int} {root : Int} {mvb : Nat} {cb : Int}
theorem qfY {l : List (Int × List Int)} (hl1 : 1 ≤ l.length) (hl : l.length ≤ 14) : rowPuts l ≠ [] ∧ (∀ q ∈ rowPuts l, 0 ≤ q.1 ∧ q.1 < 16 ∧ isLine q.2 ∨ ¬ (∀ q ∈ l, isLine q.2)) ∧ (∀ q ∈ rowPuts l, 0 ≤ q.1 ∧ q.1 < 16) ∧ ((rowPuts l).map (·.1)).Nodup ∧ (rowPuts l).length ≤ 16 := by
 have hlen : (rowsN l).length = idxN l.length + l.length := qbJ l (qkV _)
 have hidx : idxN l.length ≤ 2 := by unfold idxN; omega
 have hin : ∀ q ∈ rowPuts l, 0 ≤ q.1 ∧ q.1 < 16 := fun q hq => by
  unfold rowPuts at hq
  rw [qlk] at hq
  obtain ⟨i, hi, rfl⟩ := hq
  rw [qlC] at hi
  simp only
  omega
 refine ⟨?_, fun q hq => ?_, hin, ?_, ?_⟩
 ·intro h
  have := congrArg qk0 h
  unfold rowPuts at this
  rw [qlO, List.length_range, qlL] at this
  omega
 ·by_cases hh : ∀ q ∈ l, isLine q.2
  ·left
   refine ⟨(hin q hq).1, (hin q hq).2, ?_⟩
   unfold rowPuts at hq
   rw [qlk] at hq
   obtain ⟨i, hi, rfl⟩ := hq
   rw [qlC] at hi
   simp only
   rw [qkP, qkO hi]
   have hm := qk5 hi
   generalize (rowsN l)[i] = x at *
   unfold rowsN rowsTo at hm
   rw [qk4] at hm
   rcases hm with hm | hm
   ·rw [qlk] at hm
    obtain ⟨j, _, rfl⟩ := hm
    exact qcQ _ _ _
   ·rw [qlk] at hm
    obtain ⟨q, hq, rfl⟩ := hm
    exact hh q (List.mem_of_mem_take hq)
  ·exact .inr hh
 ·exact qcV l
 ·unfold rowPuts
  rw [qlO, List.length_range]; omega
theorem qh7 {E : List (Int × Int)} (h : HP pa pb pc pd s ws root mvb cb) (hup : s.M.down = false) (hcut : s.M.cut = 0) (hst : ¬ s.stuck) (hin : EdIn E ws.length) (h1 : 1 ≤ (eLines E).length) (h14 : (eLines E).length ≤ 14)
  (hok' : Ok (applyE ws E)) (hru' : root = 0 ∨ isUsed (applyE ws E) root = true) (hb : mvb + 2000 < 4611686018427387904) (hcb : cb + 100 < 4611686018427387904) :
  (commitH pa pb pc pd ws E s).2 = 2 ∧ (commitH pa pb pc pd ws E s).1.M.down = true ∧ HP pa pb pc pd (commitH pa pb pc pd ws E s).1 ws root (mvb + 40) (cb + 14) := by
 have hm := qJ.1 h.may
 have hcm : commits s.M = 0 := by
  by_cases hc : commits s.M = 0
  ·exact hc
  ·exact absurd (.inr ⟨hup, hc⟩) hst
 obtain ⟨_, c2, _⟩ := qf0 h hup hst hin h1 h14 hok' hru' hb hcb
 obtain ⟨k, hlv⟩ := h.ps.lv
 have hhl : (homesC (applyE ws E) (eLines E)).length = (eLines E).length := by unfold homesC; rw [qlO]
 obtain ⟨r1, _, r3, _⟩ := qfY (l := homesC (applyE ws E) (eLines E)) (by omega) (by omega)
 have hT2 : (tputs (16 + pa.toNat) pb.toNat pc.toNat (rowPuts (homesC (applyE ws E) (eLines E))) s.M s.pt).2.2 = 2 :=
  qiv hlv (by omega) hup hcut r1 fun q hq => by have := r3 q hq; omega
 have hC : (comN (16 + pa.toNat) pb.toNat pc.toNat (homesC (applyE ws E) (eLines E)) s.M s.pt).2.2 = 1 ∨ comN (16 + pa.toNat) pb.toNat pc.toNat (homesC (applyE ws E) (eLines E)) s.M s.pt = tputs (16 + pa.toNat) pb.toNat pc.toNat (rowPuts (homesC (applyE ws E) (eLines E))) s.M s.pt := by
  unfold comN
  split
  ·exact .inl rfl
  ·rw [if_neg (by simp [hup]), if_neg (by simpa using hcm), if_pos (by omega)]
   exact .inr rfl
 have hCH : (commitH pa pb pc pd ws E s).2 = (comN (16 + pa.toNat) pb.toNat pc.toNat (homesC (applyE ws E) (eLines E)) s.M s.pt).2.2 ∧ (commitH pa pb pc pd ws E s).1.M = (comN (16 + pa.toNat) pb.toNat pc.toNat (homesC (applyE ws E) (eLines E)) s.M s.pt).1 := by
  unfold commitH
  simp only
  rw [if_pos]
  ·exact ⟨rfl, rfl⟩
  ·rcases hC with e | e
   ·omega
   ·rw [e]; omega
 rw [hCH.1] at c2 ⊢
 rcases hC with e | e
 ·rcases c2 with ⟨a, _⟩ | ⟨a, _⟩ | ⟨a, _⟩ <;> omega
 rw [e] at c2 hCH ⊢
 refine ⟨hT2, ?_⟩
 rcases c2 with ⟨a, _⟩ | ⟨a, _⟩ | ⟨_, hdn, _, hh⟩
 ·omega
 ·omega
 refine ⟨hdn, ?_⟩
 rcases hh with hh | hh
 ·exact hh
 refine ⟨h.may, hh.ps, ?_, h.ok, h.len, hh.rt, h.ru, hh.pg, hh.cp, hh.wl, hh.c0⟩
 -- the home lines are as they were
 have hok8 : ∀ q ∈ homesC (applyE ws E) (eLines E), isLine q.2 := by
  intro q hq
  unfold homesC at hq
  rw [qlk] at hq
  obtain ⟨ln, hln, rfl⟩ := hq
  simp only
  have hEl := (qcm (l := E)).1 hln
  obtain ⟨e0, he0, he1, he2⟩ := hEl
  refine qcE hok'.len.2.2 ?_
  rw [qaf]
  have hl := h.len
  have := hin.1 e0 he0
  omega
 obtain ⟨_, r2, r3, r4, r5⟩ := qfY (l := homesC (applyE ws E) (eLines E)) (by omega) (by omega)
 have hr : ∀ q ∈ rowPuts (homesC (applyE ws E) (eLines E)), 0 ≤ q.1 ∧ q.1 < ((16 + pa.toNat : Nat) : Int) ∧ isLine q.2 := fun q hq => by
  rcases r2 q hq with ⟨a, b, c⟩ | hn
  ·exact ⟨a, by omega, c⟩
  ·exact absurd hok8 hn
 obtain ⟨_, _, t3, t4⟩ := qck (n := 16 + pa.toNat) (sp := pb.toNat) (per := pc.toNat) (by omega) h.ps hup (by omega) hr r4
 rw [hCH.2]
 rcases h.sd with ⟨_, hv⟩ | ⟨l, hp⟩
 ·exact .inl ⟨(t4 1 (.inl rfl)).trans hcm, fun s' a b => by rw [t3 s' b fun q hq hqe => by have := r3 q hq; omega]; exact hv s' a b⟩
 ·have := hp.cm; have := hp.may.2.1; omega
theorem qjC {off n : Int} {bs : List Int} (h : HP pa pb pc pd s ws root mvb cb) (hup : s.M.down = false) (hcut : s.M.cut = 0) (hst : ¬ s.stuck) (he : (imgFree ws off).2 = 0) (hr : root ≠ off) (hb : mvb + 2000 < 4611686018427387904) (hcb : cb + 100 < 4611686018427387904) :
  (doH pa pb pc pd s 2 off n bs).2 = (2, 0, []) ∧ (doH pa pb pc pd s 2 off n bs).1.M.down = true ∧ HP pa pb pc pd (doH pa pb pc pd s 2 off n bs).1 ws root (mvb + 40) (cb + 14) := by
 have eD : doH pa pb pc pd s 2 off n bs = ((freeH pa pb pc pd s off).1, (freeH pa pb pc pd s off).2, 0, []) := by unfold doH; rw [if_neg (by omega), if_pos rfl]
 have hF : freeH pa pb pc pd s off = commitH pa pb pc pd ws (imgFree ws off).1 s := by
  unfold freeH
  rw [if_neg (by simp [hup]), h.words hup, h.rootN.1, if_neg (by simpa using he), if_neg hr, if_neg hst]
 obtain ⟨k1, k2, k3, _⟩ := qeO h.ok he
 have hml := (qeh (ws := ws) (off := off)).most
 have := qcH 2 0 0
 obtain ⟨a, b, c⟩ := qh7 (E := (imgFree ws off).1) h hup hcut hst qdx k3 (by omega) k1 (h.ru.imp id (fun hu => k2 root hu (fun e => hr e))) hb hcb
 rw [eD, hF]
 exact ⟨by simp only; rw [a], b, c⟩
end
section
variable {H : AH}
theorem qfQ {s : HS} {a b : Int} (h : ¬ s.stuck) : ¬ ({ s with M := s.M.setCut a b } : HS).stuck := fun hh => h hh
theorem qcp {k : Bool → AH → Prop} (hk : k true H) : qR H k := by
 refine gcB true (qR.link (_u := ()) ?_) hk
 unfold qR.b
 have hmay : mayP 4 1 2 2 = true := by decide
 have hff := qgE hmay
 show qbO (pl 4 1 2 2) _ _ _
 refine qbO.s (limits := []) qfz (fun h => by rw [hmay] at h; cases h) (fun _ h => by rw [hff] at h; exact absurd h (by decide)) ?_
 intro _ _ G H9 t p c L hk9 lo hT hW
 rw [show ((0 : Int) != 0) = false from rfl, qc, qk1]
 unfold qR.j1
 rw [qc]
 obtain ⟨hP, hF⟩ := qi6 hmay
 have hon : (twStart 4 1 2 2 []).on = true := rfl
 generalize twStart 4 1 2 2 [] = T0 at *
 obtain ⟨s0, on0⟩ := T0
 simp only at hon hP hF
 subst hon
 -- a block is taken
 obtain ⟨d1, d2, ws1, tk, d3, d4, d5⟩ := qgg (off := 0) (bs := []) (n := 9) hP hF (by omega) (by decide) (by omega) (by omega)
 have htk : tk = 3 := by rw [← d3]; decide
 subst htk
 have e1 : ∀ x y, twDoes 4 1 2 2 ⟨s0, true⟩ 1 0 9 0 [] = (⟨x, true⟩, y) ↔ doH 4 1 2 2 s0 1 0 9 [] = (x, y) := fun x y => by
  have : twDoes 4 1 2 2 ⟨s0, true⟩ 1 0 9 0 [] = (⟨(doH 4 1 2 2 s0 1 0 9 []).1, true⟩, (doH 4 1 2 2 s0 1 0 9 []).2) := rfl
  rw [this]
  constructor
  ·intro h; injection h with h1 h2; injection h1 with h1; exact Prod.ext h1 h2
  ·intro h; rw [h]
 have e1' := (e1 _ _).2 (Prod.ext rfl d1 : doH 4 1 2 2 s0 1 0 9 [] = ((doH 4 1 2 2 s0 1 0 9 []).1, 0, 8, []))
 show qad _ (opV 1 0 9 0 ⟨none, 0, 0⟩) _ _
 refine qdK.s (K := 1) (off := 0) (n := 9) (mask := 0) (x := ⟨none, 0, 0⟩) (bs := []) hT hW (by omega) (by omega) (by unfold isI; omega) (by unfold isI; omega) qc2 qcd ?_
 have hW1 := hW.does (K := 1) (off := 0) (n := 9) (mask := 0) (bs := []) (by unfold isI; omega) (by unfold isI; omega) qcd (by omega) (by omega)
 rw [e1'] at hW1 ⊢
 generalize (doH 4 1 2 2 s0 1 0 9 []).1 = s1 at *
 intro G1 H20 L1 x1 hu1 hT1 _ _
 refine qbX (n := 3) rfl rfl rfl ?_
 have hA3 : AnAt (H20.push ⟨anV 0 8 x1, .rw, 0⟩) H20.size 0 8 x1 := AnAt.new
 have hk3 : qa H20 (H20.push ⟨anV 0 8 x1, .rw, 0⟩) := (qa.refl H20).push _
 have hz3 : (H20.push ⟨anV 0 8 x1, .rw, 0⟩).size = H20.size + 1 := by simp [qi]
 generalize H20.push ⟨anV 0 8 x1, .rw, 0⟩ = H3 at *
 -- the power will go
 show qad _ (opV 7 0 0 0 ⟨none, 0, 0⟩) _ _
 have e2 : twDoes 4 1 2 2 ⟨s1, true⟩ 7 0 0 0 [] = (⟨{ s1 with M := s1.M.setCut 0 0 }, true⟩, 0, 0, []) := rfl
 refine qdK.s (K := 7) (off := 0) (n := 0) (mask := 0) (x := ⟨none, 0, 0⟩) (bs := []) (hT1.keeps hk3) hW1 (by omega) (by omega) (by unfold isI; omega) (by unfold isI; omega) qc2 qcd ?_
 have hW2 := hW1.does (K := 7) (off := 0) (n := 0) (mask := 0) (bs := []) (by unfold isI; omega) (by unfold isI; omega) qcd (by omega) (by omega)
 rw [e2] at hW2 ⊢
 have hP2 := d5.setCut (a := 0) (b := 0) (by omega)
 have hns2 : ¬ ({ s1 with M := s1.M.setCut 0 0 } : HS).stuck := qfQ d2.ns
 have hup2 : ({ s1 with M := s1.M.setCut 0 0 } : HS).M.down = false := d2.up
 have hcut2 : ({ s1 with M := s1.M.setCut 0 0 } : HS).M.cut = 0 := rfl
 generalize ({ s1 with M := s1.M.setCut 0 0 } : HS) = s2 at *
 intro G2 H23 L2 x2 hu2 hT2 _ _
 -- a block is freed
 have hlen1 : (ws1.length : Int) = 32 := by have := d4.len; omega
 have d4' : MR ws1.length [((0 : Int), (3 : Int), qkQ ((3 - 1) * 8) (0 : Int))] ws1 := MR.self d4 (by omega)
 have hif : (imgFree ws1 8).2 = 0 := by
  rw [MR.imgFree_at (e1 := []) (e2 := []) (off := 8) d4' (by decide)]
 obtain ⟨f1, f2, f3⟩ := qjC (off := 8) (n := 0) (bs := []) hP2 hup2 hcut2 hns2 hif (by omega) (by omega) (by omega)
 have e3 : twDoes 4 1 2 2 ⟨s2, true⟩ 2 8 0 0 [] = (⟨(doH 4 1 2 2 s2 2 8 0 []).1, true⟩, (doH 4 1 2 2 s2 2 8 0 []).2) := rfl
 show qad _ (opV 2 8 0 0 ⟨none, 0, 0⟩) _ _
 refine qdK.s (K := 2) (off := 8) (n := 0) (mask := 0) (x := ⟨none, 0, 0⟩) (bs := []) hT2 hW2 (by omega) (by omega) (by unfold isI; omega) (by unfold isI; omega) qc2 qcd ?_
 have hW3 := hW2.does (K := 2) (off := 8) (n := 0) (mask := 0) (bs := []) (by unfold isI; omega) (by unfold isI; omega) qcd (by omega) (by omega)
 rw [e3, f1] at hW3 ⊢
 generalize (doH 4 1 2 2 s2 2 8 0 []).1 = s3 at *
 intro G3 H26 L3 x3 hu3 hT3 _ _
 refine qbX (n := 3) rfl rfl rfl ?_
 have hA4 : AnAt (H26.push ⟨anV 2 0 x3, .rw, 0⟩) H26.size 2 0 x3 := AnAt.new
 have hk4 : qa H26 (H26.push ⟨anV 2 0 x3, .rw, 0⟩) := (qa.refl H26).push _
 have hz4 : (H26.push ⟨anV 2 0 x3, .rw, 0⟩).size = H26.size + 1 := by simp [qi]
 generalize H26.push ⟨anV 2 0 x3, .rw, 0⟩ = H4 at *
 -- the power comes
 have e4 : twDoes 4 1 2 2 ⟨s3, true⟩ 8 0 0 0 [] = ((twOpen 4 1 2 2 s3.M.power s3).1, (twOpen 4 1 2 2 s3.M.power s3).2, 0, []) := rfl
 have hMP := f3.mp.power
 obtain ⟨o1, _, o2⟩ := hMP.opened rfl (by omega)
 have o3 : (recN (16 + (4 : Int).toNat) (1 : Int).toNat (2 : Int).toNat s3.M.power 0).2.2 = 0 ∧ (openS 4 1 2 2 s3.M.power).M.down = false ∧ HP 4 1 2 2 (openS 4 1 2 2 s3.M.power) ws1 0 (15 + 40 + 40 + 14) (0 + 14 + 14) := by
  rcases o2 with o2 | ⟨_, _, hc, _⟩
  ·exact o2
  ·exact absurd rfl hc
 have e5 : twOpen 4 1 2 2 s3.M.power s3 = (⟨openS 4 1 2 2 s3.M.power, true⟩, 0) := by unfold twOpen; rw [if_pos o3.1]
 rw [e5] at e4
 show qad _ (opV 8 0 0 0 ⟨none, 0, 0⟩) _ _
 refine qdK.s (K := 8) (off := 0) (n := 0) (mask := 0) (x := ⟨none, 0, 0⟩) (bs := []) (hT3.keeps hk4) hW3 (by omega) (by omega) (by unfold isI; omega) (by unfold isI; omega) qc2 qcd ?_
 have hW4 := hW3.does (K := 8) (off := 0) (n := 0) (mask := 0) (bs := []) (by unfold isI; omega) (by unfold isI; omega) qcd (by omega) (by omega)
 rw [e4] at hW4 ⊢
 obtain ⟨_, o4, o5⟩ := o3
 generalize openS 4 1 2 2 s3.M.power = s4 at *
 intro G4 H29 L4 x4 hu4 hT4 _ _
 refine qbX (n := 3) rfl rfl rfl ?_
 have hA5 : AnAt (H29.push ⟨anV 0 0 x4, .rw, 0⟩) H29.size 0 0 x4 := AnAt.new
 have hk5 : qa H29 (H29.push ⟨anV 0 0 x4, .rw, 0⟩) := (qa.refl H29).push _
 have hz5 : (H29.push ⟨anV 0 0 x4, .rw, 0⟩).size = H29.size + 1 := by simp [qi]
 generalize H29.push ⟨anV 0 0 x4, .rw, 0⟩ = H5 at *
 -- it is read
 have hrd : aRead ws1 8 9 = (bytesOf ws1 8 9, 0) := d4'.rd ⟨by decide, by decide, _, qme .., by decide, by decide⟩
 have e6 : twDoes 4 1 2 2 ⟨s4, true⟩ 3 8 9 0 [] = (⟨s4, true⟩, 0, 0, bytesOf ws1 8 9) := by
  have : twDoes 4 1 2 2 ⟨s4, true⟩ 3 8 9 0 [] = (⟨(doH 4 1 2 2 s4 3 8 9 []).1, true⟩, (doH 4 1 2 2 s4 3 8 9 []).2) := rfl
  rw [this, do_read o5 o4, hrd]
  rfl
 show qad _ (opV 3 8 9 0 ⟨none, 0, 0⟩) _ _
 refine qdK.s (K := 3) (off := 8) (n := 9) (mask := 0) (x := ⟨none, 0, 0⟩) (bs := []) (hT4.keeps hk5) hW4 (by omega) (by omega) (by unfold isI; omega) (by unfold isI; omega) qc2 qcd ?_
 rw [e6]
 intro G5 H32 L5 x5 hu5 hT5 hO5 _
 refine qbX (n := 3) rfl rfl rfl ?_
 have hA6 : AnAt (H32.push ⟨anV 0 0 x5, .rw, 0⟩) H32.size 0 0 x5 := AnAt.new
 have hk6 : qa H32 (H32.push ⟨anV 0 0 x5, .rw, 0⟩) := (qa.refl H32).push _
 have hz6 : (H32.push ⟨anV 0 0 x5, .rw, 0⟩).size = H32.size + 1 := by simp [qi]
 generalize H32.push ⟨anV 0 0 x5, .rw, 0⟩ = H6 at *
 have z1 := hu1.1.1; have z2 := hu2.1.1; have z3 := hu3.1.1; have z4 := hu4.1.1; have z5 := hu5.1.1
 have g1 : ∀ b, G1 b → b < H20.size := hT1.gl
 have n2 : ∀ b, G2 b → b ≠ H20.size := fun b hb e => by
  rcases hu2.2 b hb with hb | hb
  ·have := g1 b hb; omega
  ·omega
 have n3 : ∀ b, G3 b → b ≠ H20.size := fun b hb e => by
  rcases hu3.2 b hb with hb | hb
  ·exact n2 b hb e
  ·omega
 have g3 : ∀ b, G3 b → b < H26.size := hT3.gl
 have n4 : ∀ b, G4 b → b ≠ H20.size ∧ b ≠ H26.size := fun b hb => by
  rcases hu4.2 b hb with hb | hb
  ·exact ⟨n3 b hb, by have := g3 b hb; omega⟩
  ·exact ⟨by omega, by omega⟩
 have hA3' : AnAt H6 H20.size 0 8 x1 := by
  have a1 := hA3.keep (hu2.1.2 _ (by omega) fun hb => by have := g1 _ hb; omega)
  have a2 := a1.keep (hu3.1.2 _ (by omega) fun hb => n2 _ hb rfl)
  have a3 := a2.keep (hk4.2 _ (by omega))
  have a4 := a3.keep (hu4.1.2 _ (by omega) fun hb => n3 _ hb rfl)
  have a5 := a4.keep (hk5.2 _ (by omega))
  have a6 := a5.keep (hu5.1.2 _ (by omega) fun hb => (n4 _ hb).1 rfl)
  exact a6.keep (hk6.2 _ (by omega))
 have hA4' : AnAt H6 H26.size 2 0 x3 := by
  have a4 := hA4.keep (hu4.1.2 _ (by omega) fun hb => by have := g3 _ hb; omega)
  have a5 := a4.keep (hk5.2 _ (by omega))
  have a6 := a5.keep (hu5.1.2 _ (by omega) fun hb => (n4 _ hb).2 rfl)
  exact a6.keep (hk6.2 _ (by omega))
 have hA5' : AnAt H6 H29.size 0 0 x4 := by
  have a6 := hA5.keep (hu5.1.2 _ (by omega) fun hb => by have := hT4.gl _ hb; omega)
  exact a6.keep (hk6.2 _ (by omega))
 rw [hA3'.c1, qg, show ((8 : Int) == 8) = true from rfl, qk, hA4'.c0, qg, show ((2 : Int) == 2) = true from rfl, qk, hA5'.c0, qg, show ((0 : Int) == 0) = true from rfl, qk, hA6.c2, qaT, own_len hO5, qd5]
 refine ⟨?_, rfl⟩
 have k1 : qa H H20 := hu1.1.base hk9 lo
 have lo1 : ∀ b, G1 b → H.size ≤ b := fun b hb => (hu1.2 b hb).elim (lo b) fun h => by have := hk9.1; omega
 have k2 : qa H H23 := hu2.1.base (k1.trans hk3) lo1
 have lo2 : ∀ b, G2 b → H.size ≤ b := fun b hb => (hu2.2 b hb).elim (lo1 b) fun h => by have := k1.1; omega
 have k3 : qa H H26 := hu3.1.base k2 lo2
 have lo3 : ∀ b, G3 b → H.size ≤ b := fun b hb => (hu3.2 b hb).elim (lo2 b) fun h => by have := k2.1; omega
 have k4 : qa H H29 := hu4.1.base (k3.trans hk4) lo3
 have lo4 : ∀ b, G4 b → H.size ≤ b := fun b hb => (hu4.2 b hb).elim (lo3 b) fun h => by have := k3.1; omega
 have k5 : qa H H32 := hu5.1.base (k4.trans hk5) lo4
 exact k5.trans hk6
end
section
variable {H : AH} {L : Pl} {F : Nat → Prop} {pa pb pc pd : Int} {s : HS} {ws : List Int} {root : Int} {mvb : Nat} {cb : Int}
theorem made_in {o e : Nat} {x1 : Sl} {limits : List Int} {BAD : AH → Prop} {GO : Option Addr → Option Addr → Int → AH → Prop} (g : H.get o = ⟨pl pa pb pc pd, .rw, e⟩) (ho : o < H.size) (hr : qli H x1 1 iV limits) (hmay : mayP pa pb pc pd = true)
  (h0 : limits ≠ [] → ∀ H', qa H H' → BAD H')
  (h1 : ∀ H' L s p, HA H' L pa pb pc pd s → HP pa pb pc pd s (firstN (8 * pa)) 0 15 0 → s.M.down = false → s.M.cut = -1 → ¬ s.stuck → (limits = [] → NL s.M) → (∀ b, L.has b → H.size ≤ b) → qa H H' → GO p (some ⟨L.h, 0, none⟩) 0 H') :
  qaz (pl pa pb pc pd) H fun n28 H28 => nvm_New n28 x1 H28 fun p30 H30 => ldA H30 ⟨o, 0, none⟩ 4 fun c32 => qB p30 c32 H30 fun n33 H33 => bcase ((n33 : Int) != (0 : Int)) (BAD H33) (ldA H33 ⟨o, 0, none⟩ 4 fun c43 => qN p30 c43 H33 fun p44a n44b H44 => GO p30 p44a n44b H44) := by
 have hmp := qJ.1 hmay
 refine qaz.s ?_
 have hdev : deviceP pa pb pc pd = ((16 + pa.toNat + 1 + pb.toNat : Nat) : Int) := by unfold deviceP; rw [if_pos hmay]; omega
 rw [hdev]
 refine nvm_New.s hr ?_ (fun hn => absurd (by omega) hn)
 intro _ H2 hM2 hk2 hs2
 rw [qkS] at hM2
 have g2 : H2.get o = ⟨pl pa pb pc pd, .rw, e⟩ := by rw [hk2.2 _ ho]; exact g
 rw [qs (plg_row g2)]
 obtain ⟨f1, f2, f3, _, _, f4⟩ := formed (limits := limits) hmay
 refine qB.s hM2 hmay ?_
 intro H3 hM3 fr3
 have g3 : H3.get o = ⟨pl pa pb pc pd, .rw, e⟩ := by rw [fr3.get _ (by omega) (by omega) (by omega)]; exact g2
 have hkk : qa H H3 := fr3.keeps hk2 (by omega) (by omega)
 rcases f4 with ⟨e0, hMP, hc⟩ | e0
 ·rw [e0, show ((0 : Int) != 0) = false from rfl, qc, qs (plg_row g3)]
  have hrc : recN (16 + pa.toNat) pb.toNat pc.toNat (formN pa pb pc limits).1 0 = ((formN pa pb pc limits).1, 0, 0) := qdT f1 hc
  have hop := hMP.opened f1 (by omega)
  refine qN.s hMP hM3 f1 (by omega) (by omega) (fun hh => by rw [hrc] at hh; exact absurd rfl hh) ?_
  intro he H4 L hA hp hcc l1 l2 l3 l4 l5 l6 l7 fr4
  have hs := fr3.size
  have hP : HP pa pb pc pd (openS pa pb pc pd (formN pa pb pc limits).1) (firstN (8 * pa)) 0 (1 + 14) 0 := by
   rcases hop.2.2 with ⟨_, _, hP⟩ | ⟨e2, _⟩
   ·exact hP
   ·omega
  have eM : (openS pa pb pc pd (formN pa pb pc limits).1).M = (formN pa pb pc limits).1 := by unfold openS; rw [hrc]
  have hpl : L.p = H.size + 1 := hp
  have hcl : L.c = H.size := hcc
  refine h1 H4 L _ _ hA hP (by rw [eM]; exact f1) (by rw [eM]; exact f2) ?_ (fun hl => by rw [eM]; exact (f3 hl).2) ?_ (fr4.keeps hkk (by omega) (by omega))
  ·intro hst
   rcases hst with hst | ⟨_, hst⟩
   ·cases hst
   ·rw [eM] at hst; exact hst hc
  ·intro b hb
   rcases hb with rfl | rfl | rfl | rfl | rfl | rfl | rfl | rfl | rfl <;> omega
 ·rw [e0, show ((3 : Int) != 0) = true from rfl, qk]
  exact h0 (fun hl => by have := (f3 hl).1; omega) _ hkk
end
section
variable {H : AH} {pa pb pc pd : Int} {s : HS} {ws : List Int} {root : Int} {mvb : Nat} {cb : Int}
theorem qeX {a b c d : Int} {k : List Value → AH → Prop} (h : ∀ pa pb pc pd, 1 ≤ pa ∧ pa ≤ 24 → 0 ≤ pb ∧ pb ≤ 16 → 1 ≤ pc ∧ pc ≤ 30 → 1 ≤ pd ∧ pd ≤ 10 → ∀ H', qa H H' → k (pl pa pb pc pd) H') : qbq (pl a b c d) H k := by
 refine qbq.link ?_
 unfold qbq.b
 rw [qt, qt]
 have g1 : ((H.push ⟨pl a b c d, .rw, 0⟩).push ⟨[(qkL .i64 (0 : Int)), (qkL .i64 (0 : Int)), (qkL .i64 (0 : Int)), (qkL .i64 (0 : Int))], .rw, 0⟩).get H.size = ⟨pl a b c d, .rw, 0⟩ := by rw [qG (by simp [qi]), qp, if_pos rfl]
 have g2 : ((H.push ⟨pl a b c d, .rw, 0⟩).push ⟨[(qkL .i64 (0 : Int)), (qkL .i64 (0 : Int)), (qkL .i64 (0 : Int)), (qkL .i64 (0 : Int))], .rw, 0⟩).get (H.push ⟨pl a b c d, .rw, 0⟩).size = ⟨pl 0 0 0 0, .rw, 0⟩ := by rw [qp, if_pos rfl]; rfl
 have hk : qa H ((H.push ⟨pl a b c d, .rw, 0⟩).push ⟨[(qkL .i64 (0 : Int)), (qkL .i64 (0 : Int)), (qkL .i64 (0 : Int)), (qkL .i64 (0 : Int))], .rw, 0⟩) := ((qa.refl H).push _).push _
 have ho : H.size ≤ (H.push ⟨pl a b c d, .rw, 0⟩).size := by simp [qi]
 generalize (H.push ⟨pl a b c d, .rw, 0⟩).size = o at *
 generalize (H.push ⟨pl a b c d, .rw, 0⟩).push ⟨[(qkL .i64 (0 : Int)), (qkL .i64 (0 : Int)), (qkL .i64 (0 : Int)), (qkL .i64 (0 : Int))], .rw, 0⟩ = H2 at *
 rw [qdh g1 0, qdh g1 1, qdh g1 2, qdh g1 3]
 refine ⟨a, rfl, b, rfl, c, rfl, d, rfl, ?_⟩
 refine qaK.s fun pa pb pc pd h1 h2 h3 h4 => ?_
 refine ⟨⟨rfl, rfl⟩, ?_⟩
 rw [qaL]
 refine ⟨⟨rfl, by rw [g2], by rw [g2]; simp [pl]⟩, ?_⟩
 have e1 : AH.put H2 ⟨o, 0, none⟩ (pl pa pb pc pd) = H2.upd o ⟨pl pa pb pc pd, .rw, 0⟩ := by
  simp only [AH.put, g2]; rfl
 rw [e1, qs (plg_row (e := 0) (by rw [qA, if_pos rfl]))]
 exact h pa pb pc pd h1 h2 h3 h4 _ (hk.upd ho _)
end
section
variable {H : AH} {L : Pl} {pa pb pc pd : Int} {s : HS} {ws : List Int} {root : Int} {mvb : Nat} {cb : Int}
theorem qia {n off : Int} {bs : List Int} (h : HP pa pb pc pd s (firstN (8 * pa)) root mvb cb) (hup : s.M.down = false) (hcut : s.M.cut = -1) (hn : 1 ≤ n ∧ n ≤ 448) (hfit : needN n ≤ 8 * pa) (hb : mvb + 2000 < 4611686018427387904) (hcb : cb + 100 < 4611686018427387904) :
    (doH pa pb pc pd s 1 off n bs).1.M.down = false ∧ (doH pa pb pc pd s 1 off n bs).1.M.cut = -1 ∧
    (((doH pa pb pc pd s 1 off n bs).2 = (3, 0, []) ∧ (doH pa pb pc pd s 1 off n bs).1.stuck ∧ HP pa pb pc pd (doH pa pb pc pd s 1 off n bs).1 (firstN (8 * pa)) root (mvb + 40) (cb + 14)) ∨
     ((doH pa pb pc pd s 1 off n bs).2 = (0, 8, []) ∧ ∃ ws1 tk, takesN (8 * pa) (needN n) = tk ∧ MR (8 * pa) [(0, tk, qkQ ((tk.toNat - 1) * 8) 0)] ws1 ∧ HP pa pb pc pd (doH pa pb pc pd s 1 off n bs).1 ws1 root (mvb + 40) (cb + 14))) := by
  obtain ⟨a1, a2, tk, a3, a4⟩ := qeG (cs := s.now) h.len8 hn hfit
  obtain ⟨c1, c2, c3, c4, c5⟩ := qeQ (n := n) h hup hb hcb
  have eD : doH pa pb pc pd s 1 off n bs = ((allocH pa pb pc pd s n).1, (allocH pa pb pc pd s n).2.1, (if (allocH pa pb pc pd s n).2.1 = 0 then (allocH pa pb pc pd s n).2.2 else 0), []) := by unfold doH; rw [if_pos rfl]
  have hcut' : (allocH pa pb pc pd s n).1.M.cut = -1 := c2.cut hcut
  rw [eD]
  simp only
  rcases c1 with ⟨b, _, _, u, c, _⟩ | ⟨b, u, c, d, _⟩ | ⟨b, c, d⟩ | ⟨_, _, _, _, b, _⟩
  · obtain ⟨_, _, d3⟩ := c5 b
    refine ⟨u, hcut', .inr ⟨?_, _, tk, a3, a4, c⟩⟩
    rw [if_pos b, b, d3, a2]
  · refine ⟨u, hcut', .inl ⟨?_, d, c⟩⟩
    rw [if_neg (by omega), b]
  · have he : (allocH pa pb pc pd s n).2.1 = 0 := by rw [b, a1]
    obtain ⟨_, _, d3⟩ := c5 he
    have hE := d a1
    rw [hE] at a4
    refine ⟨by rw [c]; exact hup, hcut', .inr ⟨?_, _, tk, a3, a4, ?_⟩⟩
    · rw [if_pos he, he, d3, a2]
    · rw [c]; exact h.mono (by omega) (by omega)
  · exact absurd hcut b
theorem qig {tk : Int} {B : List Int} {a b n : Int} (h : HP pa pb pc pd s ws root mvb cb) (hup : s.M.down = false) (hcut : s.M.cut = -1) (hM : MR ws.length [((0 : Int), tk, B)] ws) (htk : 3 ≤ tk) (ha : 0 ≤ a ∧ a ≤ 255) (hb2 : 0 ≤ b ∧ b ≤ 255) (hb : mvb + 2000 < 4611686018427387904) (hcb : cb + 100 < 4611686018427387904) :
    (doH pa pb pc pd s 4 8 n [a, b]).1.M.down = false ∧ (doH pa pb pc pd s 4 8 n [a, b]).1.M.cut = -1 ∧
    (((doH pa pb pc pd s 4 8 n [a, b]).2 = (3, 0, []) ∧ (doH pa pb pc pd s 4 8 n [a, b]).1.stuck ∧ HP pa pb pc pd (doH pa pb pc pd s 4 8 n [a, b]).1 ws root (mvb + 40) (cb + 14)) ∨
     ((doH pa pb pc pd s 4 8 n [a, b]).2 = (0, 0, []) ∧ ∃ B', MR (putBs ws 8 [a, b]).length [((0 : Int), tk, B')] (putBs ws 8 [a, b]) ∧ bytesOf (putBs ws 8 [a, b]) 8 2 = [a, b] ∧ HP pa pb pc pd (doH pa pb pc pd s 4 8 n [a, b]).1 (putBs ws 8 [a, b]) root (mvb + 40) (cb + 14))) := by
  have h8 : qbW [a, b] := fun v hv => by
    simp only [qk8, qma, or_false] at hv
    rcases hv with rfl | rfl <;> omega
  have hxm := hM.mem (x := ((0 : Int), tk, B)) (by simp)
  have hwin : 0 ≤ (([a, b] : List Int).length : Int) ∧ (([a, b] : List Int).length : Int) ≤ 448 ∧ ∃ x ∈ [((0 : Int), tk, B)], (x.1 + 1) * 8 ≤ (8 : Int) ∧ 8 + (([a, b] : List Int).length : Int) ≤ (x.1 + x.2.1) * 8 := ⟨by simp, by simp, _, qme .., by simp, by simp; omega⟩
  have hwr := hM.wr hwin
  have hE4 : (imgWrite ws 8 [a, b]).2 = 0 ∧ applyE ws (imgWrite ws 8 [a, b]).1 = putBs ws 8 [a, b] := by
    unfold aWrite at hwr
    by_cases h0 : (imgWrite ws 8 [a, b]).2 = 0
    · rw [if_pos h0] at hwr
      exact ⟨h0, (Prod.ext_iff.1 hwr).2⟩
    · rw [if_neg h0] at hwr
      exact absurd (Prod.ext_iff.1 hwr).1 h0
  obtain ⟨c1, c2, _⟩ := qgT (off := 8) (bs := [a, b]) h8 h hup hb hcb
  have eD : doH pa pb pc pd s 4 8 n [a, b] = ((writeH pa pb pc pd s 8 [a, b]).1, (writeH pa pb pc pd s 8 [a, b]).2, 0, []) := by unfold doH; rw [if_neg (by omega), if_neg (by omega), if_neg (by omega), if_pos rfl]
  have hcut' : (writeH pa pb pc pd s 8 [a, b]).1.M.cut = -1 := c2.cut hcut
  rw [eD]
  simp only
  have hlen2 : (putBs ws 8 [a, b]).length = ws.length := qch _ _ _
  have hwl := h.ok.len
  have hMR2 := MR.write (e1 := []) (e2 := []) (off := 8) (bs := [a, b]) hM h8 (by simp) (by simp; omega)
  have hbs := qgX (ws := ws) (bs := [a, b]) (off := 8) hwl.2.2 h8 (by simp; omega)
  rcases c1 with ⟨b0, _, _, u, c, _⟩ | ⟨b0, u, c, d, _⟩ | ⟨b0, c, d⟩ | ⟨_, _, _, _, b0, _⟩
  · rw [hE4.2] at c
    exact ⟨u, hcut', .inr ⟨by rw [b0], _, MR.self hMR2 (by rw [hlen2]), hbs, c⟩⟩
  · exact ⟨u, hcut', .inl ⟨by rw [b0], d, c⟩⟩
  · exfalso
    obtain ⟨l1, _⟩ := qe3 (E := (imgWrite ws 8 [a, b]).1) (ws := ws) (off := 8) (bs := [a, b]) (Prod.ext rfl hE4.1)
    have := l1.1 (by rw [d hE4.1]; rfl)
    simp at this
  · exact absurd hcut b0
theorem qeD {i : Int} : 0 ≤ qkM .u8 i ∧ qkM .u8 i ≤ 255 := by
 have : qkM .u8 i = i % 256 := by unfold qkM; simp [IntKind.signed, IntKind.bits]
 rw [this]; omega
theorem qg0 {i : Int} (h : 0 ≤ i ∧ i ≤ 1000000) : qkM .u8 (qkM .i64 (i + 1)) = qkM .u8 (qkM .u8 i + 1) := by
 have e : ∀ j, qkM .u8 j = j % 256 := fun j => by unfold qkM; simp [IntKind.signed, IntKind.bits]
 rw [qe (by omega) (by omega), e, e, e]
 omega
theorem qit {H0 : AH} {x2 : Int} {o10 : Nat} {x10 : Sl} {tk : Int} {B : List Int} {x1 : Int} (hk0 : qa H0 H) (hA : HA H L pa pb pc pd s) (hP : HP pa pb pc pd s ws 0 55 14) (hup : s.M.down = false) (hcut : s.M.cut = -1) (lo : ∀ b, L.has b → H0.size ≤ b) (h10 : AnAt H o10 0 8 x10) (n10 : ¬ L.has o10) (l10 : o10 < H.size)
  (hM : MR ws.length [((0 : Int), tk, B)] ws) (htk : 3 ≤ tk) (hby : bytesOf ws 8 2 = [0, x1]) (aw : ∀ H', qh.j1 (fun r _ => r = true) H') :
  loopT (qh.l5 x2 (fun r _ => r = true) (some ⟨L.h, 0, none⟩) o10) ((false, (0 : Int), (0 : Int)) : Bool × Int × Int) H := by
 obtain ⟨N, hN0, hN1, hN2⟩ := umod5 (x := x2) (m := 120) (by omega)
 refine qL (t := ((false, (0 : Int), (0 : Int)) : Bool × Int × Int)) (I := fun (t' : Bool × Int × Int) H' => ∃ (i : Nat) (last x1 : Int) (s : HS) (ws B : List Int), t' = (false, last, (i : Int)) ∧ (i : Int) ≤ N ∧ qa H0 H' ∧ H.size ≤ H'.size ∧ HA H' L pa pb pc pd s ∧ HP pa pb pc pd s ws 0 (55 + 40 * i) (14 + 14 * i) ∧ s.M.down = false ∧ s.M.cut = -1 ∧ AnAt H' o10 0 8 x10 ∧ MR ws.length [((0 : Int), tk, B)] ws ∧ bytesOf ws 8 2 = [last, x1]) (m := fun (t' : Bool × Int × Int) _ => qkX (N - t'.2.2)) ?_
  ⟨0, 0, x1, s, ws, B, rfl, by omega, hk0, qkV _, hA, hP, hup, hcut, h10, hM, hby⟩
 clear hA hP hup hcut h10 hM hby hk0
 rintro ⟨q1, last, q3⟩ H16 ⟨i, lz, x1, s, ws, B, e1, hi, hk16, hz16, hA, hP, hup, hcut, h10, hM, hby⟩ it hit
 injection e1 with e1 e2
 injection e2 with e2 e3
 subst e1 e2 e3
 unfold qh.l5
 rw [hN2]
 simp only
 by_cases hlt : (i : Int) < N
 rotate_left 1
 ·rw [decide_eq_false hlt, qc]
  exact aw _
 rw [decide_eq_true hlt, qk, h10.c1, qg, qt]
 obtain ⟨u1, u2⟩ := qeD (i := (i : Int))
 obtain ⟨u3, u4⟩ := qeD (i := qkM .i64 ((i : Int) + 1))
 have hsu := qg0 (i := (i : Int)) (by omega)
 generalize qkM .u8 (qkM .i64 ((i : Int) + 1)) = v1 at *
 generalize qkM .u8 (i : Int) = v0 at *
 have hO86 : Own 0 (H16.push ⟨[(qkL .u8 v0), (qkL .u8 v1)], .rw, 1⟩) ⟨some ⟨H16.size, 0, none⟩, 2, 1⟩ 1 bU [v0, v1] := .inr ⟨H16.size, rfl, Nat.zero_le _, by simp [qi], by rw [qp, if_pos rfl]; rfl⟩
 have hk86 : qa H16 (H16.push ⟨[(qkL .u8 v0), (qkL .u8 v1)], .rw, 1⟩) := (qa.refl H16).push _
 have hz86 : (H16.push ⟨[(qkL .u8 v0), (qkL .u8 v1)], .rw, 1⟩).size = H16.size + 1 := by simp [qi]
 generalize H16.push ⟨[(qkL .u8 v0), (qkL .u8 v1)], .rw, 1⟩ = H86 at *
 have hA86 : HA H86 L pa pb pc pd s := HAt.keeps hA hk86
 have hw8 : qbW [v0, v1] := fun v hv => by
  simp only [qk8, qma, or_false] at hv
  rcases hv with rfl | rfl <;> omega
 refine qdU (s := s) (K := 4) (off := 8) (n := 0) (mask := 0) (x := ⟨some ⟨H16.size, 0, none⟩, 2, 1⟩) (bs := [v0, v1]) (hP.hok hA86 (by omega) (by omega)) (by unfold isI; omega) (by unfold isI; omega) (fun _ => ⟨hO86.rows (fun _ => rfl) (fun _ => rfl), hw8⟩) ?_
 intro H88 x88 hA88 f88 hO88
 obtain ⟨hup', hcut', hW⟩ := qig (n := 0) (a := v0) (b := v1) hP hup hcut hM htk ⟨u1, u2⟩ ⟨u3, u4⟩ (by omega) (by omega)
 have hcd : (doH pa pb pc pd s 4 8 0 [v0, v1]).2.1 = 0 ∨ (doH pa pb pc pd s 4 8 0 [v0, v1]).2.1 = 3 := by
  rcases hW with ⟨a, _⟩ | ⟨a, _⟩
  ·right; rw [a]
  ·left; rw [a]
 have hm0 : (doH pa pb pc pd s 4 8 0 [v0, v1]).2.2.1 = 0 := by
  rcases hW with ⟨a, _⟩ | ⟨a, _⟩ <;> rw [a]
 -- behind it, whatever came of it
 have after : ∃ (last' x1' : Int) (ws' B' : List Int), HP pa pb pc pd (doH pa pb pc pd s 4 8 0 [v0, v1]).1 ws' 0 (55 + 40 * i + 40) (14 + 14 * i + 14) ∧ MR ws'.length [((0 : Int), tk, B')] ws' ∧ bytesOf ws' 8 2 = [last', x1'] ∧ 0 ≤ x1' ∧ x1' ≤ 255 ∧ 0 ≤ last' ∧ last' ≤ 255 ∧
   (((doH pa pb pc pd s 4 8 0 [v0, v1]).2.1 = 0 ∧ last' = v0 ∧ x1' = v1) ∨ ((doH pa pb pc pd s 4 8 0 [v0, v1]).2.1 = 3 ∧ last' = last ∧ (doH pa pb pc pd s 4 8 0 [v0, v1]).1.stuck)) := by
  have hb8 : ∀ {W : List Int}, qah W → ∀ {y z : Int}, bytesOf W 8 2 = [y, z] → 0 ≤ z ∧ z ≤ 255 ∧ 0 ≤ y ∧ y ≤ 255 := fun {W} _ {y z} h => by
   have hy := qgI W 8 2 y (by rw [h]; simp)
   have hz := qgI W 8 2 z (by rw [h]; simp)
   exact ⟨hz.1, hz.2, hy.1, hy.2⟩
  rcases hW with ⟨a, c, d⟩ | ⟨a, B', c, d, e⟩
  ·obtain ⟨p1, p2, p3, p4⟩ := hb8 hP.ok.len.2.2 hby
   exact ⟨last, x1, ws, B, d, hM, hby, p1, p2, p3, p4, .inr ⟨by rw [a], rfl, c⟩⟩
  ·exact ⟨v0, v1, _, B', e, c, d, u3, u4, u1, u2, .inl ⟨by rw [a], rfl, rfl⟩⟩
 obtain ⟨last', x1', ws', B', hP', hM', hby', r1, r2, r3, r4, hcase⟩ := after
 clear hW hM hby hP
 generalize doH pa pb pc pd s 4 8 0 [v0, v1] = R at *
 obtain ⟨s', cd, m, av⟩ := R
 simp only at hA88 hO88 hcd hm0 hup' hcut' hP' hcase ⊢
 subst hm0
 have hz88 := f88.size
 refine qbX (n := 3) rfl rfl rfl ?_
 have h13 : AnAt (H88.push ⟨anV cd 0 x88, .rw, 0⟩) H88.size cd 0 x88 := AnAt.new
 have hk89 : qa H88 (H88.push ⟨anV cd 0 x88, .rw, 0⟩) := (qa.refl H88).push _
 have hz89 : (H88.push ⟨anV cd 0 x88, .rw, 0⟩).size = H88.size + 1 := by simp [qi]
 generalize H88.push ⟨anV cd 0 x88, .rw, 0⟩ = H89 at *
 have hA89 : HA H89 L pa pb pc pd s' := HAt.keeps hA88 hk89
 have n13 : ¬ L.has H88.size := fun hh => by have := HA.lt hA88 hh; omega
 have h10b : AnAt H89 o10 0 8 x10 := ((h10.keep (hk86.2 _ (by omega))).keep (f88.out (by omega) n10)).keep (hk89.2 _ (by omega))
 have hkall : qa H0 H89 := (f88.base (hk16.trans hk86) lo).trans hk89
 have j3 : qh.j3 (fun r _ => r = true) (some ⟨L.h, 0, none⟩) o10 (false, last, (i : Int)) it H88.size last' H89 := by
  unfold qh.j3
  rw [h10b.c1, qg]
  refine qdU (s := s') (K := 3) (off := 8) (n := 2) (mask := 0) (x := ⟨none, 0, 0⟩) (bs := []) (hP'.hok hA89 (by omega) (by omega)) (by unfold isI; omega) (by unfold isI; omega) (fun hh => by omega) ?_
  have hrd : aRead ws' 8 2 = ([last', x1'], 0) := by
   have hxm := hM'.mem (x := ((0 : Int), tk, B')) (by simp)
   rw [hM'.rd ⟨by omega, by omega, _, qme .., by simp, by simp; omega⟩]
   show (bytesOf ws' 8 2, (0 : Int)) = _
   rw [hby']
  rw [do_read hP' hup', hrd]
  simp only [if_true]
  intro H111 x111 hA111 f111 hO111
  refine qbX (n := 3) rfl rfl rfl ?_
  have h14 : AnAt (H111.push ⟨anV 0 0 x111, .rw, 0⟩) H111.size 0 0 x111 := AnAt.new
  have hk112 : qa H111 (H111.push ⟨anV 0 0 x111, .rw, 0⟩) := (qa.refl H111).push _
  generalize H111.push ⟨anV 0 0 x111, .rw, 0⟩ = H112 at *
  have hz111 := f111.size
  have hO112 : Own H89.size H112 x111 1 bU [last', x1'] := hO111.keep hk112.1 fun b _ hb => hk112.2 b hb
  have h13b : AnAt H112 H88.size cd 0 x88 := (h13.keep (f111.out (by omega) n13)).keep (hk112.2 _ (by omega))
  have hrows := hO112.rows (fun _ => rfl) (fun _ => rfl)
  obtain ⟨b1, o1, ha1, _, c0⟩ := qbI (g := fun v => qkL .u8 v) hrows (i := 0) (by simp)
  obtain ⟨b2, o2, ha2, _, c1⟩ := qbI (g := fun v => qkL .u8 v) hrows (i := 1) (by simp)
  rw [ha1] at ha2; cases ha2
  have hn111 : x111.n = 2 := own_len hO112
  have fin : qh.j2 (fun r _ => r = true) (false, last, (i : Int)) it last' H112 false := by
   unfold qh.j2
   rw [qc, qe (n := (i : Int) + 1) (by omega) (by omega)]
   refine hit _ _ ⟨i + 1, last', x1', s', ws', B', by simp, by omega, (f111.base hkall lo).trans hk112, by have := hk112.1; omega, HAt.keeps hA111 hk112, ?_, hup', hcut', (h10b.keep (f111.out (by omega) n10)).keep (hk112.2 _ (by omega)), hM', hby'⟩ (by simp only; omega)
   have q1 : 55 + 40 * (i + 1) = 55 + 40 * i + 40 := by omega
   have q2 : (14 : Int) + 14 * ((i + 1 : Nat) : Int) = 14 + 14 * (i : Int) + 14 := by omega
   rw [q1, q2]; exact hP'
  have second : elI .i64 (AH.cell? H112 (qkN ⟨H88.size, 0, none⟩ 0)) fun n135 => bcase ((n135 : Int) == (0 : Int)) (elL (some (qk2 x111.a x111.n x111.k)) fun s139 => (0 ≤ (1 : Int) ∧ (1 : Int) < ((s139.n : Nat) : Int)) ∧ onPtr s139.a fun a140 => elI .u8 (AH.cell? H112 (qkN a140 (qkX (1 : Int) * 1))) fun n141 => qh.j2 (fun r _ => r = true) (false, last, (i : Int)) it last' H112 ((n141 : Int) != (qkM .u8 (last' + (1 : Int))))) (qh.j2 (fun r _ => r = true) (false, last, (i : Int)) it last' H112 false) := by
   rw [h13b.c0, qg]
   rcases hcase with ⟨hc, h1, h2⟩ | ⟨hc, _⟩
   ·rw [hc, show ((0 : Int) == 0) = true from rfl, qk, qaT]
    refine ⟨⟨by omega, by rw [hn111]; omega⟩, ?_⟩
    rw [ha1, qd, show qkX (1 : Int) = 1 from rfl, c1]
    show elI .u8 (some (.int .u8 x1')) _
    rw [qg, h2, h1, hsu, show (qkM .u8 (v0 + 1) != qkM .u8 (v0 + 1)) = false by simp]
    rw [h1] at fin
    exact fin
   ·rw [hc, show ((3 : Int) == 0) = false from rfl, qc]
    exact fin
  rw [h14.c0, qg, show ((0 : Int) != 0) = false from rfl, qc, h14.c2, qaT, show ((((x111.n : Nat) : Int) : Int) != 2) = false by rw [hn111]; rfl, qc]
  cases hd : decide (((i : Int)) > 0) with
  | true =>
   rw [qk, qaT]
   refine ⟨⟨by omega, by rw [hn111]; omega⟩, ?_⟩
   rw [ha1, qd, show qkX (0 : Int) = 0 from rfl, c0]
   show elI .u8 (some (.int .u8 last')) _
   rw [qg, show (last' != last') = false by simp, qc]
   rw [ha1] at second
   exact second
  | false => rw [qc]; exact second
 rw [h13.c0, qg]
 rcases hcase with ⟨hc, h1, h2⟩ | ⟨hc, h1, h2⟩
 ·rw [hc, show ((0 : Int) == 0) = true from rfl, qk]
  rw [h1] at j3
  exact j3
 ·obtain ⟨_, hleft⟩ := left_le hP' hup'
  rw [hc, show ((3 : Int) == 0) = false from rfl, qc, qg, show ((3 : Int) != 3) = false from rfl, qc]
  refine qgH.s hA89 (qgJ.s (HAt.ga hA89).tn ?_)
  rw [hleft h2, show ((((0 : Nat) : Nat) : Int) != 0) = false from rfl, qc]
  refine qgM.s hA89 ?_
  show qh.j4 _ _ _ _ _ _ (!(wornB s')) _
  rw [qjq.2 h2, qlm]
  unfold qh.j4
  rw [qc]
  rw [h1] at j3
  exact j3
theorem qh.t {x0 x1 x2 x3 : Int} {x4 : Sl} {x5 : Int} {limits : List Int} (_ : (Lit.int .i64 x0).wf = true) (_ : (Lit.int .i64 x1).wf = true) (_ : (Lit.int .i64 x2).wf = true) (_ : (Lit.int .i64 x3).wf = true)
  (hr1 : qli H x4 1 iV limits) (_ : ∀ v ∈ limits, isI v) (_ : limits.length ≤ maxLen) (_ : (Lit.int .i64 x5).wf = true) : qh (pl x0 x1 x2 x3) x4 x5 H (fun r _ => r = true) := by
 refine qh.link ?_
 unfold qh.b
 rw [qt]
 have hk1 : qa H (H.push ⟨pl x0 x1 x2 x3, .rw, 0⟩) := (qa.refl H).push _
 have g1 : (H.push ⟨pl x0 x1 x2 x3, .rw, 0⟩).get H.size = ⟨pl x0 x1 x2 x3, .rw, 0⟩ := by rw [qp, if_pos rfl]
 have hz1 : H.size < (H.push ⟨pl x0 x1 x2 x3, .rw, 0⟩).size := by simp [qi]
 generalize H.push ⟨pl x0 x1 x2 x3, .rw, 0⟩ = H1 at *
 rw [qs (plg_row g1)]
 refine qeX ?_
 intro pa pb pc pd r1 r2 r3 r4 H16 hk16
 have hmay := qiZ r1 r2 r3 r4
 have g16 : H16.get H.size = ⟨pl x0 x1 x2 x3, .rw, 0⟩ := by rw [hk16.2 _ hz1]; exact g1
 refine ⟨⟨rfl, rfl⟩, ?_⟩
 rw [qaL]
 refine ⟨⟨rfl, by rw [g16], by rw [g16]; simp [pl]⟩, ?_⟩
 have e1 : AH.put H16 ⟨H.size, 0, none⟩ (pl pa pb pc pd) = H16.upd H.size ⟨pl pa pb pc pd, .rw, 0⟩ := by simp only [AH.put, g16]; rfl
 rw [e1]
 have hk2 : qa H (H16.upd H.size ⟨pl pa pb pc pd, .rw, 0⟩) := (hk1.trans hk16).upd (qkV _) _
 have g2 : (H16.upd H.size ⟨pl pa pb pc pd, .rw, 0⟩).get H.size = ⟨pl pa pb pc pd, .rw, 0⟩ := by rw [qA, if_pos rfl]
 have hz2 : H.size < (H16.upd H.size ⟨pl pa pb pc pd, .rw, 0⟩).size := by have := hk16.1; show H.size < H16.size; omega
 generalize H16.upd H.size ⟨pl pa pb pc pd, .rw, 0⟩ = H2 at *
 refine ⟨by decide, ?_⟩
 cases hlim : decide ((((x4.n : Nat) : Int) : Int) > (200 : Int)) with
 | true => rw [qk]; exact qcp rfl
 | false =>
 rw [qc, qs (plg_row g2)]
 refine made_in (BAD := fun H31 => bcase (decide ((((x4.n : Nat) : Int) : Int) > (0 : Int))) (qR H31 fun b37 H37 => b37 = true) (false = true)) (GO := fun p28 p42a n42b H42 => bcase ((n42b : Int) != (0 : Int)) (qh.j6 x4 x5 (fun r _ => r = true) H42 p42a true) (qh.j6 x4 x5 (fun r _ => r = true) H42 p42a (Option.isNone p42a))) g2 hz2 (hr1.keep hk2) hmay ?_ ?_
 ·intro hl H' _
  have : 0 < limits.length := List.length_pos_iff.2 hl
  rw [hr1.1, decide_eq_true (by omega), qk]
  exact qcp rfl
 intro H42 L s p28 hA hP hup hcut hns _ hlo hk42
 rw [show ((0 : Int) != 0) = false from rfl, qc, qk1]
 unfold qh.j6
 rw [qc]
 have h16 : needN 16 = 3 := by decide
 obtain ⟨u1, u2, hW⟩ := qia (n := 16) (off := 0) (bs := []) hP hup hcut (by omega) (by omega) (by omega) (by omega)
 refine qdU (s := s) (K := 1) (off := 0) (n := 16) (mask := 0) (x := ⟨none, 0, 0⟩) (bs := []) (hP.hok hA (by omega) (by omega)) (by unfold isI; omega) (by unfold isI; omega) (fun hh => by omega) ?_
 intro H59 x59 hA59 f59 hO59
 generalize doH pa pb pc pd s 1 0 16 [] = R at *
 obtain ⟨s', cd, m, av⟩ := R
 simp only at hA59 hO59 u1 u2 hW ⊢
 have hk59 := f59.base hk42 hlo
 refine qbX (n := 3) rfl rfl rfl ?_
 have h10 : AnAt (H59.push ⟨anV cd m x59, .rw, 0⟩) H59.size cd m x59 := AnAt.new
 have hk60 : qa H59 (H59.push ⟨anV cd m x59, .rw, 0⟩) := (qa.refl H59).push _
 have hz60 : (H59.push ⟨anV cd m x59, .rw, 0⟩).size = H59.size + 1 := by simp [qi]
 generalize H59.push ⟨anV cd m x59, .rw, 0⟩ = H60 at *
 have hA60 : HA H60 L pa pb pc pd s' := HAt.keeps hA59 hk60
 rw [h10.c0, qg]
 rcases hW with ⟨e, c, d⟩ | ⟨e, ws1, tk, c, d, hP'⟩
 ·injection e with e2 e3
  subst e2
  obtain ⟨_, hleft⟩ := left_le d u1
  rw [show ((3 : Int) != 0) = true from rfl, qk, qg, show ((3 : Int) == 3) = true from rfl, qk]
  refine qgH.s hA60 (qgJ.s (HAt.ga hA60).tn ?_)
  rw [hleft c, show ((((0 : Nat) : Nat) : Int) == 0) = true from rfl, qk]
  exact qcp rfl
 ·injection e with e2 e3
  injection e3 with e3 e4
  subst e2 e3
  rw [show ((0 : Int) != 0) = false from rfl, qc]
  have htk := qgW (sz := 8 * pa) (need := needN 16) (by omega)
  rw [c] at htk
  have hlen1 : (ws1.length : Int) = 8 * pa := by have := d.len; omega
  have d' : MR ws1.length [((0 : Int), tk, qkQ ((tk.toNat - 1) * 8) (0 : Int))] ws1 := MR.self d hlen1
  have hby : bytesOf ws1 8 2 = [0, 0] := by
   have hb := d'.by8 _ (qme ..)
   simp only at hb
   have h2 := qhe (ws := ws1) (o := 8) (m := (tk.toNat - 1) * 8) (a := 0) (n := 2) (by omega)
   have hb' : bytesOf ws1 8 ((tk.toNat - 1) * 8) = qkQ ((tk.toNat - 1) * 8) 0 := hb.symm
   rw [hb', List.drop_zero, List.take_replicate, Nat.add_zero] at h2
   rw [← h2, show min 2 ((tk.toNat - 1) * 8) = 2 by omega]; rfl
  refine qit (H0 := H2) (x10 := x59) (x1 := 0) (hk59.trans hk60) hA60 hP' u1 u2 hlo h10 (fun hh => by have := HA.lt hA59 hh; omega) (by omega) d' (by omega) hby fun H' => ?_
  unfold qh.j1
  exact qcp rfl
end
end Go.Proofs.YtdcbkjgoaknmkaaGreat
