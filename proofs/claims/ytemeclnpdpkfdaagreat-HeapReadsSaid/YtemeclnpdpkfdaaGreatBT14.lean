/- Lemmas for the law: an abstract machine, and what the functions do on it. No condition. -/
import Derived.Test.YtemeclnpdpkfdaaGreatBT13
set_option linter.all false
open Go.Value renaming int → qk9
open Go.IntKind renaming wrap → qla
open List renaming getElem?_eq_getElem → qlc, getElem_mem → qlp
open Int renaming toNat_natCast → qle
open BitVec renaming ofInt → qlR
set_option linter.all false
namespace Go.Proofs.YtemeclnpdpkfdaaGreat
open Go Go.Abs
section
variable {H H' H0 : AH} {L : Pl} {F : Nat → Prop} {w : Nat} {pa pb pc pd : Int} {s : HS} {ws : List Int} {root : Int} {mvb : Nat} {cb : Int}
def stepsL (x1 : Sl) (h m : Option Addr) (bad : AH → Prop) (E : Bool × Int → AH → Prop) (t9 : Bool × Int) (HL9 : AH) (it9 : (Bool × Int) → AH → Prop) : Prop :=
 bcase (decide ((t9.2 : Int) < ((x1.n : Nat) : Int))) ((0 ≤ t9.2 ∧ t9.2 < ((x1.n : Nat) : Int)) ∧ onPtr x1.a fun a51 => ldA HL9 (Addr.add a51 (Int.toNat t9.2 * 5)) 5 fun c52 => newC HL9 ⟨[(qk9 .i64 (0 : Int)), (qk9 .i64 (0 : Int)), (qk9 .i64 (0 : Int)), (qk9 .i64 (0 : Int)), (Value.slice none 0 0)], .rw, 0⟩ fun o11 H11 => (List.length c52 = 5 ∧ List.all c52 qo = true) ∧ stC H11 ⟨o11, 0, none⟩ c52 fun Hs8 => ldA Hs8 ⟨o11, 0, none⟩ 5 fun c55 => qj h m c55 Hs8 fun n56 H56 => bcase ((n56 : Int) != (0 : Int)) (bad H56) (it9 (t9.1, (qla .i64 (t9.2 + (1 : Int)))) H56)) (E t9 HL9)
theorem qjM {x1 : Sl} {l : List OpR} {bad : AH → Prop} {E : Bool × Int → AH → Prop} {J : HS → Prop} (h : Bo H0 H L F w pa pb pc pd s ws root mvb cb) (hup : s.M.down = false) (hcut : s.M.cut = -1) (hJ : J s)
  (hr : Abs.Rows H0 x1 5 opRV l) (hok : ∀ d ∈ l, opROK H0 d) (hsl : ∀ d ∈ l, d.sl.n ≤ 500) (hl : l.length ≤ 80) (hb : mvb ≤ 10000) (hcb : cb ≤ 10000)
  (hJs : ∀ s ws root mvb cb d, HP pa pb pc pd s ws root mvb cb → s.M.down = false → s.M.cut = -1 → mvb ≤ 100000 → cb ≤ 100000 → opROK H0 d → J s → J (doH pa pb pc pd s d.K d.off d.n d.bs).1)
  (hE : ∀ H' F' s' ws' root', Bo H0 H' L F' w pa pb pc pd s' ws' root' (mvb + 40 * l.length) (cb + 14 * l.length) → s'.M.down = false → s'.M.cut = -1 → J s' → E (false, (l.length : Int)) H') :
  loopT (stepsL x1 (some ⟨L.h, 0, none⟩) (some ⟨w, 0, none⟩) bad E) ((false, (0 : Int)) : Bool × Int) H := by
 refine qD (t := ((false, (0 : Int)) : Bool × Int)) (I := fun (t : Bool × Int) H' => ∃ (i : Nat) (F : Nat → Prop) (s : HS) (ws : List Int) (root : Int), t = (false, (i : Int)) ∧ i ≤ l.length ∧ Bo H0 H' L F w pa pb pc pd s ws root (mvb + 40 * i) (cb + 14 * i) ∧ s.M.down = false ∧ s.M.cut = -1 ∧ J s) (m := fun (t : Bool × Int) _ => Int.toNat ((l.length : Int) - t.2)) ?_
  ⟨0, F, s, ws, root, rfl, by omega, h.mono (by omega) (by omega), hup, hcut, hJ⟩
 rintro ⟨t1, t2⟩ H5 ⟨i, F, s, ws, root, e1, hi, hB, hup, hcut, hJ⟩ it hit
 injection e1 with e1 e2
 subst e1 e2
 unfold stepsL
 rw [hr.1]
 by_cases hlt : (i : Int) < (l.length : Int)
 rotate_left 1
 ·rw [decide_eq_false hlt, qc]
  have : i = l.length := by omega
  subst this
  exact hE H5 F s ws root hB hup hcut hJ
 rw [decide_eq_true hlt, qg]
 have hi' : i < l.length := by omega
 have hrK := hr.keep hB.k
 obtain ⟨b, o, ha, hb, hcells⟩ := qaq hrK (by omega)
 refine ⟨by omega, ?_⟩
 rw [ha, qd, qle, qr (hcells i _ (qlc hi')).1]
 have hd := hok _ (qlp hi')
 have hdn := hsl _ (qlp hi')
 generalize l[i] = d at *
 refine qbM (n := 5) rfl rfl rfl ?_
 have hO : OpAt (H5.push ⟨opRV d, .rw, 0⟩) H5.size d.K d.off d.n d.c d.sl := OpAt.new
 have hB6 := hB.keeps ((qa.refl H5).push ⟨opRV d, .rw, 0⟩)
 generalize H5.push ⟨opRV d, .rw, 0⟩ = H6 at *
 rw [qr hO.row]
 show qj _ _ (opRV d) _ _
 have hJ' := hJs s ws root _ _ d hB6.hp hup hcut (by omega) (by omega) hd hJ
 refine hB6.step hup hcut (by omega) (by omega) hd hdn ?_
 intro H53 F' ws' root' hB53 hup' hcut'
 generalize (doH pa pb pc pd s d.K d.off d.n d.bs).1 = s' at *
 rw [show ((0 : Int) != 0) = false from rfl, qc, qf (n := (i : Int) + 1) (by omega) (by omega)]
 exact hit _ _ ⟨i + 1, F', s', ws', root', by simp, by omega, hB53.mono (by omega) (by omega), hup', hcut', hJ'⟩ (by simp only; omega)
theorem qjd : ∀ (s : HS) (ws : List Int) (root : Int) (mvb : Nat) (cb : Int) (d : OpR), HP pa pb pc pd s ws root mvb cb → s.M.down = false → s.M.cut = -1 → mvb ≤ 100000 → cb ≤ 100000 → opROK H0 d → FreeS s → FreeS (doH pa pb pc pd s d.K d.off d.n d.bs).1 :=
 fun s ws root mvb cb d hp _ _ hb hcb hd hf => (do_free hd.off hd.u8 hp hf (by omega) (by omega)).1
theorem qku (n : Int) : andI .i64 n 1 = 0 ∨ andI .i64 n 1 = 1 := by
 unfold andI
 have h : (qlR IntKind.i64.bits n &&& qlR IntKind.i64.bits 1).toNat ≤ 1 := by
  rw [BitVec.toNat_and]
  have e : (qlR IntKind.i64.bits 1).toNat = 1 := by decide
  rw [e]
  exact Nat.and_le_right
 generalize (qlR IntKind.i64.bits n &&& qlR IntKind.i64.bits 1).toNat = z at *
 rw [qf (by omega) (by omega)]
 omega
theorem qA.t {x0 x1 x2 x3 : Int} {x4 x5 : Sl} {l l2 : List OpR} (_ : (Lit.int .i64 x0).wf = true) (_ : (Lit.int .i64 x1).wf = true) (_ : (Lit.int .i64 x2).wf = true) (_ : (Lit.int .i64 x3).wf = true)
  (hr : Abs.Rows H x4 5 opRV l) (hok : ∀ d ∈ l, opROK H d) (_ : l.length ≤ maxLen) (hr2 : Abs.Rows H x5 5 opRV l2) (hok2 : ∀ d ∈ l2, opROK H d) (_ : l2.length ≤ maxLen) : qA (pl x0 x1 x2 x3) x4 x5 H (fun r _ => r = true) := by
 refine qA.link ?_
 unfold qA.b
 rw [qu]
 have hk1 : qa H (H.push ⟨pl x0 x1 x2 x3, .rw, 0⟩) := (qa.refl H).push _
 have g1 : (H.push ⟨pl x0 x1 x2 x3, .rw, 0⟩).get H.size = ⟨pl x0 x1 x2 x3, .rw, 0⟩ := by rw [qq, if_pos rfl]
 have hz1 : H.size < (H.push ⟨pl x0 x1 x2 x3, .rw, 0⟩).size := by simp [qm]
 generalize H.push ⟨pl x0 x1 x2 x3, .rw, 0⟩ = H1 at *
 have tooMuch : ∀ v1 v2 : Int, 0 ≤ v1 → v1 ≤ 100 → 0 ≤ v2 → v2 ≤ 100 → 0 < v1 + v2 → decide (qla .i64 (v1 + v2) > 0) = true := fun v1 v2 h1 h2 h3 h4 h5 => by rw [qf (by omega) (by omega)]; exact decide_eq_true h5
 refine qz.b' (l := l) (hr.keep hk1) ?_ ?_
 rotate_left 1
 ·intro v hv hv2
  refine qz.b' (l := l2) (hr2.keep hk1) ?_ ?_
  ·intro _ _ _
   rw [tooMuch v 0 (by omega) hv2 (by omega) (by omega) (by omega), qg]
   exact qcM rfl
  ·intro v' hv' hv2'
   rw [tooMuch v v' (by omega) hv2 (by omega) hv2' (by omega), qg]
   exact qcM rfl
 intro hsl hl80 _
 refine qz.b' (l := l2) (hr2.keep hk1) ?_ ?_
 rotate_left 1
 ·intro v' hv' hv2'
  rw [tooMuch 0 v' (by omega) (by omega) (by omega) hv2' (by omega), qg]
  exact qcM rfl
 intro hsl2 hl280 _
 rw [show (decide (qla .i64 ((0 : Int) + 0) > 0)) = false from by decide, qc]
 refine qkC g1 ?_
 intro pa pb pc pd r1 r2 r3 r4
 have hmay := qjo r1 r2 r3 r4
 have hk2 : qa H (H1.upd H.size ⟨pl pa pb pc pd, .rw, 0⟩) := hk1.upd (Nat.le_refl _) _
 have g2 : (H1.upd H.size ⟨pl pa pb pc pd, .rw, 0⟩).get H.size = ⟨pl pa pb pc pd, .rw, 0⟩ := by rw [qS, if_pos rfl]
 have hz2 : H.size < (H1.upd H.size ⟨pl pa pb pc pd, .rw, 0⟩).size := hz1
 generalize H1.upd H.size ⟨pl pa pb pc pd, .rw, 0⟩ = H2 at *
 refine qaW.s (limits := []) qem hmay (fun h => absurd rfl h) ?_
 intro H29 L s hA hP hup hcut hns hnl hnow _ hlo hk29
 have hf : FreeS s := ⟨hup, hcut, hnl rfl, hns⟩
 rw [Option.isNone_some, qc]
 have g29 : H29.get H.size = ⟨pl pa pb pc pd, .rw, 0⟩ := by rw [hk29.2 _ hz2]; exact g2
 rw [qdy g29 0]
 show elI .i64 (some (.int .i64 pa)) _
 rw [qe, qf (n := pa * 8) (by omega) (by omega)]
 have hmw : mayW (pa * 8) := by unfold mayW; omega
 refine qa4.s (fun hn => absurd hmw hn) ?_
 intro _ F w H43 hk43 hu43 hR43
 rw [show pa * 8 = 8 * pa by omega] at hR43
 have hB0 : Bo H2 H43 L F w pa pb pc pd s (firstN (8 * pa)) 0 15 0 := Bo.start hA hP hk29 hlo hk43 hu43 hR43
 have hok' : ∀ d ∈ l, opROK H2 d := fun d hd => ⟨(hok d hd).off, (hok d hd).n, (hok d hd).rows.keep hk2, (hok d hd).u8⟩
 refine qjM (E := qA.j3 x5 (fun r _ => r = true) (some ⟨L.h, 0, none⟩) (some ⟨L.p, 0, none⟩) (some ⟨w, 0, none⟩)) (J := FreeS) hB0 hup hcut hf (hr.keep hk2) hok' hsl hl80 (by omega) (by omega) qjd ?_
 intro H5 F5 s ws root hB hup hcut hf
 unfold qA.j3
 refine qdo.s hB.ha (fun hh => by rw [hup] at hh; cases hh) ?_
 intro _ s61 H61 hk61 hO61
 rw [hB.hp.words hup] at hO61
 have hB61 := hB.keeps hk61
 refine qa2.s (HAt.ga hB61.ha).tn.l.m ?_
 refine qgN.s hB61.ha (qdM.s (HAt.ga hB61.ha).tn hup ?_)
 have hBb : L.below H5.size := HAt.below hB.ha
 have hlw := hB.hp.ok.len
 obtain ⟨b0, es, hb0, hb0', hg0⟩ : ∃ b0, s61 = ⟨some ⟨b0, 0, none⟩, ws.length, 1⟩ ∧ H5.size ≤ b0 ∧ b0 < H61.size ∧ H61.get b0 = ⟨ws.flatMap wU, .rw, 1⟩ := by
  rcases hO61 with ⟨_, h0⟩ | ⟨b, h1, h2, h3, h4⟩
  ·rw [h0] at hlw; simp at hlw
  ·exact ⟨b, h1, h2, h3, h4⟩
 have hL0 : ¬ L.has b0 := fun hh => by have := HA.lt hB.ha hh; omega
 have hF0 : ¬ F5 b0 := fun hh => by have := hB.rm.lt b0 hh; omega
 refine qD (t := ((false, (0 : Int)) : Bool × Int)) (I := fun (t : Bool × Int) H' => ∃ (i : Nat) (F : Nat → Prop) (ws' : List Int) (root' : Int), t = (false, (i : Int)) ∧ i ≤ l2.length ∧ Bo H2 H' L F w pa pb pc pd s ws' root' (15 + 40 * l.length + 40 * i) (0 + 14 * l.length + 14 * i) ∧ b0 < H'.size ∧ H'.get b0 = ⟨ws.flatMap wU, .rw, 1⟩ ∧ ¬ F b0) (m := fun (t : Bool × Int) _ => Int.toNat ((l2.length : Int) - t.2)) ?_
  ⟨0, F5, ws, root, rfl, by omega, hB61.mono (by omega) (by omega), hb0', hg0, hF0⟩
 rintro ⟨t1, t2⟩ H7 ⟨i, F7, ws', root', e1, hi, hB7, hbz, hgz, hFz⟩ it hit
 injection e1 with e1 e2
 subst e1 e2
 unfold qA.l2
 rw [hr2.1]
 by_cases hlt : (i : Int) < (l2.length : Int)
 rotate_left 1
 ·rw [decide_eq_false hlt, qc]
  unfold qA.j1
  refine qdo.s hB7.ha (fun hh => by rw [hup] at hh; cases hh) ?_
  intro _ s88 H88 hk88 hO88
  have hwsEq : wordsH pa pb s.M = ws := hB.hp.words hup
  rw [hwsEq] at hO88
  rw [show ((0 : Int) == 0) = true from rfl, qg]
  have hOs : Own 0 H88 s61 1 wU ws := .inr ⟨b0, es, Nat.zero_le _, by have := hk88.1; omega, by rw [hk88.2 _ hbz]; exact hgz⟩
  refine qad.d (hOs.rows (fun _ => rfl) (fun _ => rfl)) (hO88.rows (fun _ => rfl) (fun _ => rfl)) (by omega) ?_
  rw [decide_eq_true rfl, qg]
  have hB88 := hB7.keeps hk88
  refine qa2.s (HAt.ga hB88.ha).tn.l.m ?_
  rw [show (s.M.writes == s.M.writes) = true by simp, qg]
  refine qgN.s hB88.ha (qdM.s (HAt.ga hB88.ha).tn hup ?_)
  rw [show (((s.M.mv : Nat) : Int) == ((s.M.mv : Nat) : Int)) = true by simp, qg]
  exact qcM rfl
 rw [decide_eq_true hlt, qg]
 have hi' : i < l2.length := by omega
 have hrK := (hr2.keep (hk2.trans hB7.k))
 obtain ⟨b, o, ha, hb, hcells⟩ := qaq hrK (by omega)
 refine ⟨by omega, ?_⟩
 rw [ha, qd, qle, qr (hcells i _ (qlc hi')).1]
 have hd := hok2 _ (qlp hi')
 have hdn := hsl2 _ (qlp hi')
 generalize l2[i] = d at *
 refine qbM (n := 5) rfl rfl rfl ?_
 have g8 : (H7.push ⟨opRV d, .rw, 0⟩).get H7.size = ⟨opRV d, .rw, 0⟩ := by rw [qq, if_pos rfl]
 have hO8 : OpAt (H7.push ⟨opRV d, .rw, 0⟩) H7.size d.K d.off d.n d.c d.sl := OpAt.new
 rw [hO8.c2, qe, qk, Nat.zero_add, qbu]
 refine ⟨⟨rfl, by rw [g8], by rw [g8]; simp [opRV, opl]⟩, ?_⟩
 have ha01 := qku d.n
 obtain ⟨K', hK', hKv⟩ : ∃ K', qla .i64 ((3 : Int) + (qla .i64 ((3 : Int) * (andI .i64 d.n (1 : Int))))) = K' ∧ (K' = 3 ∨ K' = 6) := by
  rcases ha01 with h | h <;> rw [h]
  ·exact ⟨3, by decide, .inl rfl⟩
  ·exact ⟨6, by decide, .inr rfl⟩
 rw [hK']
 have eput : AH.put (H7.push ⟨opRV d, .rw, 0⟩) ⟨H7.size, 0, none⟩ [qk9 .i64 K'] = (H7.push ⟨opRV d, .rw, 0⟩).upd H7.size ⟨opRV { d with K := K' }, .rw, 0⟩ := by
  simp only [AH.put, g8]; rfl
 rw [eput]
 have hkU : qa H7 ((H7.push ⟨opRV d, .rw, 0⟩).upd H7.size ⟨opRV { d with K := K' }, .rw, 0⟩) := ((qa.refl H7).push _).upd (Nat.le_refl _) _
 have gU : ((H7.push ⟨opRV d, .rw, 0⟩).upd H7.size ⟨opRV { d with K := K' }, .rw, 0⟩).get H7.size = ⟨opRV { d with K := K' }, .rw, 0⟩ := by rw [qS, if_pos rfl]
 generalize (H7.push ⟨opRV d, .rw, 0⟩).upd H7.size ⟨opRV { d with K := K' }, .rw, 0⟩ = H8 at *
 have hOU : OpAt H8 H7.size K' d.off d.n d.c d.sl := ⟨0, gU⟩
 rw [qr hOU.row]
 have hd2 : opROK H2 { d with K := K' } := ⟨hd.off, hd.n, hd.rows.keep hk2, hd.u8⟩
 have hB8 := hB7.keeps hkU
 show qj _ _ (opRV { d with K := K' }) _ _
 have hsame : (doH pa pb pc pd s K' d.off d.n d.bs).1 = s := by
  rcases hKv with h | h <;> rw [h]
  ·rw [do_read hB8.hp hup]
  ·rw [do_get hB8.hp hup]
 refine hB8.step' hup hcut (by omega) (by omega) hd2 hdn ?_
 intro H83 F' ws2 root2 hB83 _ _ hkp hF'
 simp only at hB83
 rw [hsame] at hB83
 rw [show ((0 : Int) != 0) = false from rfl, qc, qf (n := (i : Int) + 1) (by omega) (by omega)]
 have hsz8 := hkU.1
 have hsz83 := hkp.1
 refine hit _ _ ⟨i + 1, F', ws2, root2, by simp, by omega, hB83.mono (by omega) (by omega), by omega, ?_, ?_⟩ (by simp only; omega)
 ·rw [hkp.2 b0 (by omega) (fun hh => hh.elim hL0 hFz), hkU.2 b0 hbz, hgz]
 ·intro hh
  rcases hF' b0 hh with hh | hh
  ·exact hFz hh
  ·omega
end
end Go.Proofs.YtemeclnpdpkfdaaGreat
