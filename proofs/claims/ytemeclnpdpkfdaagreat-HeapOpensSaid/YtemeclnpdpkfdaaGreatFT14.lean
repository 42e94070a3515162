/- Lemmas for the law: an abstract machine, and what the functions do on it. No condition. -/
import Derived.Test.YtemeclnpdpkfdaaGreatFT13
set_option linter.all false
open Go.Value renaming int → qlg
open Go.Addr renaming add → qli
open List renaming getElem?_eq_getElem → qlj, getD_eq_getElem?_getD → qlk, replicate → qlm, mem_cons_self → qmL
open Int renaming toNat_natCast → qll
open Option renaming isNone_some → qlF
set_option linter.all false
namespace Go.Proofs.YtemeclnpdpkfdaaGreat
open Go Go.Abs
section
variable {H H' H0 : AH} {L : Pl} {pa pb pc pd : Int} {s : HS} {ws : List Int} {root : Int} {mvb : Nat} {cb : Int}
theorem Frh.out {o : Nat} (f : Frh H H' L) (ho : o < H.size) (hn : ¬ L.has o) : H'.get o = H.get o :=
 f.get o ho (fun e => hn (by simp [Pl.has, e])) (fun e => hn (by simp [Pl.has, e])) (fun e => hn (by simp [Pl.has, e])) (fun e => hn (by simp [Pl.has, e])) (fun e => hn (by simp [Pl.has, e])) (fun e => hn (by simp [Pl.has, e]))
theorem HP.len8 (h : HP pa pb pc pd s (firstN (8 * pa)) root mvb cb) : mayW (8 * pa) := by
 have hm := qan.1 h.may
 unfold mayW; omega
theorem qg0 {n off : Int} {bs : List Int} (h : HP pa pb pc pd s (firstN (8 * pa)) root mvb cb) (hf : FreeS s) (hn : 1 ≤ n ∧ n ≤ 448) (hfit : needN n ≤ 8 * pa) (hb : mvb + 2000 < 4611686018427387904) (hcb : cb + 100 < 4611686018427387904) :
  (doH pa pb pc pd s 1 off n bs).2 = (0, 8, []) ∧ FreeS (doH pa pb pc pd s 1 off n bs).1 ∧ ∃ ws1 tk, takesN (8 * pa) (needN n) = tk ∧ MR (8 * pa) [(0, tk, qlm ((tk.toNat - 1) * 8) 0)] ws1 ∧ HP pa pb pc pd (doH pa pb pc pd s 1 off n bs).1 ws1 root (mvb + 40) (cb + 14) := by
 obtain ⟨a1, a2, tk, a3, a4⟩ := qhM (cs := s.now) h.len8 hn hfit
 obtain ⟨c1, c2, c3, c4, c5⟩ := qfH (n := n) h hf.up hb hcb
 have hne : needN n ≠ 0 := by unfold needN; rw [if_pos hn]; omega
 obtain ⟨f1, f2, f3⟩ : FreeS (allocH pa pb pc pd s n).1 ∧ (allocH pa pb pc pd s n).2.1 ≠ 3 ∧ (allocH pa pb pc pd s n).2.1 ≠ 2 := by
  have := do_free (K := 1) (off := 0) (n := n) (bs := []) (by unfold isI; omega) (fun v hv => by cases hv) h hf hb hcb
  unfold doH at this
  rw [if_pos rfl] at this
  exact this
 have he : (allocH pa pb pc pd s n).2.1 = 0 := by
  rcases c1 with ⟨b, _⟩ | ⟨b, _⟩ | ⟨b, _⟩ | ⟨b, _⟩
  ·exact b
  ·exact absurd b f2
  ·rw [b, a1]
  ·exact absurd b f3
 obtain ⟨d1, d2, d3⟩ := c5 he
 have hP : HP pa pb pc pd (allocH pa pb pc pd s n).1 (applyE (firstN (8 * pa)) (imgAlloc (firstN (8 * pa)) n s.now).1) root (mvb + 40) (cb + 14) := by
  rcases c1 with ⟨_, _, _, _, b, _⟩ | ⟨b, _⟩ | ⟨_, b, c⟩ | ⟨b, _⟩
  ·exact b
  ·omega
  ·have := c a1
   rw [this, b]; exact h.mono (by omega) (by omega)
  ·omega
 have eD : doH pa pb pc pd s 1 off n bs = ((allocH pa pb pc pd s n).1, (allocH pa pb pc pd s n).2.1, (if (allocH pa pb pc pd s n).2.1 = 0 then (allocH pa pb pc pd s n).2.2 else 0), []) := by unfold doH; rw [if_pos rfl]
 rw [eD]
 refine ⟨?_, f1, _, tk, a3, a4, hP⟩
 simp only
 rw [if_pos he, he, d3, a2]
theorem qhB {off n : Int} {bs : List Int} (hio : isI off) (h8 : qbS bs) (h : HP pa pb pc pd s ws root mvb cb) (hf : FreeS s) (hE : (imgWrite ws off bs).2 = 0) (hb : mvb + 2000 < 4611686018427387904) (hcb : cb + 100 < 4611686018427387904) :
  (doH pa pb pc pd s 4 off n bs).2 = (0, 0, []) ∧ FreeS (doH pa pb pc pd s 4 off n bs).1 ∧ HP pa pb pc pd (doH pa pb pc pd s 4 off n bs).1 (applyE ws (imgWrite ws off bs).1) root (mvb + 40) (cb + 14) := by
 obtain ⟨f1, f2, f3⟩ := do_free (K := 4) (off := off) (n := n) (bs := bs) hio h8 h hf hb hcb
 obtain ⟨c1, _⟩ := qfu (off := off) (bs := bs) h8 h hf.up hb hcb
 have eD : doH pa pb pc pd s 4 off n bs = ((writeH pa pb pc pd s off bs).1, (writeH pa pb pc pd s off bs).2, 0, []) := by unfold doH; rw [if_neg (by omega), if_neg (by omega), if_neg (by omega), if_pos rfl]
 rw [eD] at f1 f2 f3 ⊢
 simp only at f1 f2 f3 ⊢
 rcases c1 with ⟨b, _, _, _, c, _⟩ | ⟨b, _⟩ | ⟨b, c, d⟩ | ⟨b, _⟩
 ·exact ⟨by rw [b], f1, c⟩
 ·exact absurd b f2
 ·refine ⟨by rw [b, hE], f1, ?_⟩
  have := d hE
  rw [this, c]; exact h.mono (by omega) (by omega)
 ·exact absurd b f3
theorem qdP {k : Bool → AH → Prop} (hk : k true H) : qbA H k := by
 refine gcB true (qbA.link (_u := ()) ?_) hk
 unfold qbA.b
 show qa0 (pl 4 0 3 2) ⟨none, 0, 0⟩ H _
 refine qa0.s (limits := []) qdB (by decide) (fun h => absurd rfl h) ?_
 intro H8 L s hA hP hup hcut hns hnl hnow _ hlo hk8
 have hf : FreeS s := ⟨hup, hcut, hnl rfl, hns⟩
 have lo : ∀ b, L.has b → H.size ≤ b := hlo
 rw [qlF, qf]
 obtain ⟨d1, d2, ws1, tk, d3, d4, d5⟩ := qg0 (off := 0) (bs := []) (n := 8) hP hf (by omega) (by decide) (by omega) (by omega)
 refine qdH (s := s) (K := 1) (off := 0) (n := 8) (mask := 0) (x := ⟨none, 0, 0⟩) (bs := []) (hP.hok hA (by omega) (by omega)) (by unfold isI; omega) (by unfold isI; omega) (fun hh => by omega) ?_
 intro H15 x15 hA15 f15 hO15
 have htk : tk = 2 := by rw [← d3]; decide
 subst htk
 generalize doH 4 0 3 2 s 1 0 8 [] = R1 at *
 rw [d1] at hO15 ⊢
 have kk15 : qe H H15 := f15.base hk8 lo
 refine qbG (n := 3) rfl rfl rfl ?_
 have hAn3 : AnAt (H15.push ⟨anV 0 8 x15, .rw, 0⟩) H15.size 0 8 x15 := AnAt.new
 have hk16 : qe H15 (H15.push ⟨anV 0 8 x15, .rw, 0⟩) := (qe.refl H15).push _
 have hz16 : H15.size < (H15.push ⟨anV 0 8 x15, .rw, 0⟩).size := by simp [qp]
 have no3 : ¬ L.has H15.size := fun hh => by have := HA.lt hA15 hh; omega
 generalize hH16 : H15.push ⟨anV 0 8 x15, .rw, 0⟩ = H16 at *
 clear hH16
 rw [qx]
 have hk17 : qe H16 (H16.push ⟨[(qlg .u8 (7 : Int))], .rw, 1⟩) := (qe.refl H16).push _
 have hO17 : Own 0 (H16.push ⟨[(qlg .u8 (7 : Int))], .rw, 1⟩) ⟨some ⟨H16.size, 0, none⟩, 1, 1⟩ 1 bU [7] := .inr ⟨H16.size, rfl, Nat.zero_le _, by simp [qp], by rw [qv, if_pos rfl]; rfl⟩
 generalize hH17 : H16.push ⟨[(qlg .u8 (7 : Int))], .rw, 1⟩ = H17 at *
 clear hH17
 have hA17 : HA H17 L 4 0 3 2 R1.1 := HAt.keeps (HAt.keeps hA15 hk16) hk17
 have hlen1 : (ws1.length : Int) = 32 := by have := d4.len; omega
 have d4' : MR ws1.length [((0 : Int), (2 : Int), qlm ((2 - 1) * 8) (0 : Int))] ws1 := MR.self d4 (by omega)
 have hw8 : qbS [7] := fun v hv => by simp at hv; omega
 have hwin : 0 ≤ (([7] : List Int).length : Int) ∧ (([7] : List Int).length : Int) ≤ 448 ∧ ∃ x ∈ [((0 : Int), (2 : Int), qlm ((2 - 1) * 8) (0 : Int))], (x.1 + 1) * 8 ≤ (8 : Int) ∧ 8 + (([7] : List Int).length : Int) ≤ (x.1 + x.2.1) * 8 := ⟨by decide, by decide, _, qmL .., by decide, by decide⟩
 have hwr := d4'.wr hwin
 have hE4 : (imgWrite ws1 8 [7]).2 = 0 ∧ applyE ws1 (imgWrite ws1 8 [7]).1 = putBs ws1 8 [7] := by
  unfold aWrite at hwr
  by_cases h0 : (imgWrite ws1 8 [7]).2 = 0
  ·rw [if_pos h0] at hwr
   exact ⟨h0, (Prod.ext_iff.1 hwr).2⟩
  ·rw [if_neg h0] at hwr
   exact absurd (Prod.ext_iff.1 hwr).1 h0
 obtain ⟨g1, g2, g3⟩ := qhB (off := 8) (n := 0) (bs := [7]) (by unfold isI; omega) hw8 d5 d2 hE4.1 (by omega) (by omega)
 rw [hE4.2] at g3
 have hMR2 := MR.write (e1 := []) (e2 := []) (off := 8) (bs := [7]) d4' hw8 (by decide) (by decide)
 refine qdH (s := R1.1) (K := 4) (off := 8) (n := 0) (mask := 0) (x := ⟨some ⟨H16.size, 0, none⟩, 1, 1⟩) (bs := [7]) (d5.hok hA17 (by omega) (by omega)) (by unfold isI; omega) (by unfold isI; omega) (fun _ => ⟨hO17.rows (fun _ => rfl) (fun _ => rfl), hw8⟩) ?_
 intro H19 x19 hA19 f19 hO19
 generalize doH 4 0 3 2 R1.1 4 8 0 [7] = R2 at *
 rw [g1] at hO19 ⊢
 refine qbG (n := 3) rfl rfl rfl ?_
 have hAn4 : AnAt (H19.push ⟨anV 0 0 x19, .rw, 0⟩) H19.size 0 0 x19 := AnAt.new
 have hk20 : qe H19 (H19.push ⟨anV 0 0 x19, .rw, 0⟩) := (qe.refl H19).push _
 have hz20 : H19.size < (H19.push ⟨anV 0 0 x19, .rw, 0⟩).size := by simp [qp]
 have no4 : ¬ L.has H19.size := fun hh => by have := HA.lt hA19 hh; omega
 generalize hH20 : H19.push ⟨anV 0 0 x19, .rw, 0⟩ = H20 at *
 clear hH20
 have hs16 := hk16.1; have hs17 := hk17.1; have hs19 := f19.size; have hs20 := hk20.1
 have hAn3b : AnAt H20 H15.size 0 8 x15 := ((hAn3.keep (hk17.2 _ hz16)).keep (f19.out (by omega) no3)).keep (hk20.2 _ (by omega))
 have hA20 : HA H20 L 4 0 3 2 R2.1 := HAt.keeps hA19 hk20
 refine qdH (s := R2.1) (K := 3) (off := 8) (n := 2) (mask := 0) (x := ⟨none, 0, 0⟩) (bs := []) (g3.hok hA20 (by omega) (by omega)) (by unfold isI; omega) (by unfold isI; omega) (fun hh => by omega) ?_
 intro H22 x22 hA22 f22 hO22
 have hlen2 : (putBs ws1 8 [7]).length = ws1.length := qcK _ _ _
 have hMR2' := MR.self hMR2 (by rw [hlen2])
 have hrd : aRead (putBs ws1 8 [7]) 8 2 = ([7, 0], 0) := by
  rw [hMR2'.rd ⟨by decide, by decide, _, qmL .., by decide, by decide⟩]
  have hb := hMR2'.by8 _ (qmL ..)
  simp only at hb
  have h2 := qiy (ws := putBs ws1 8 [7]) (o := 8) (m := 8) (a := 0) (n := 2) (by omega)
  have hb' : bytesOf (putBs ws1 8 [7]) 8 8 = [7, 0, 0, 0, 0, 0, 0, 0] := by
   rw [show bytesOf (putBs ws1 8 [7]) 8 8 = bytesOf (putBs ws1 8 [7]) (((0 : Int).toNat + 1) * 8) (((2 : Int).toNat - 1) * 8) from rfl, ← hb]
   rfl
  rw [hb'] at h2
  show (bytesOf (putBs ws1 8 [7]) 8 2, (0 : Int)) = _
  rw [show (8 : Nat) = 8 + 0 from rfl, ← h2]; rfl
 rw [do_read g3 g2.up, hrd] at hA22 hO22 ⊢
 simp only [if_true] at hA22 hO22 ⊢
 refine qbG (n := 3) rfl rfl rfl ?_
 have hAn5 : AnAt (H22.push ⟨anV 0 0 x22, .rw, 0⟩) H22.size 0 0 x22 := AnAt.new
 have hk23 : qe H22 (H22.push ⟨anV 0 0 x22, .rw, 0⟩) := (qe.refl H22).push _
 have hz23 : H22.size < (H22.push ⟨anV 0 0 x22, .rw, 0⟩).size := by simp [qp]
 generalize hH23 : H22.push ⟨anV 0 0 x22, .rw, 0⟩ = H23 at *
 clear hH23
 have hs22 := f22.size
 have hAn3c : AnAt H23 H15.size 0 8 x15 := (hAn3b.keep (f22.out (by omega) no3)).keep (hk23.2 _ (by omega))
 have hAn4c : AnAt H23 H19.size 0 0 x19 := (hAn4.keep (f22.out hz20 no4)).keep (hk23.2 _ (by omega))
 rw [hAn3c.c0, qi, show ((0 : Int) == 0) = true from rfl, qh, hAn3c.c1, qi, show ((8 : Int) == 8) = true from rfl, qh, hAn4c.c0, qi, show ((0 : Int) == 0) = true from rfl, qh, hAn5.c2, qay]
 have hO23 : Own H20.size H23 x22 1 bU [7, 0] := hO22.keep hk23.1 fun b _ hb => hk23.2 b hb
 refine own_str hO23 (fun v hv => by simp at hv; omega) ?_
 have hb : (ByteArray.toList ⟨List.toArray (([7, 0] : List Int).map fun v => UInt8.ofNat v.toNat)⟩ == ByteArray.toList ⟨#[7, 0]⟩) = true := by simp
 rw [hb, qh]
 have hA23 : HA H23 L 4 0 3 2 R2.1 := HAt.keeps hA22 hk23
 refine qeb.s hA23 ?_
 have hnw : wornB R2.1 = false := by cases hw : wornB R2.1 with | false => rfl | true => exact absurd (qc2.1 hw) g2.ns
 show bcase (!wornB R2.1) _ _
 rw [hnw, Bool.not_false, qh]
 refine qdz hA23 ?_
 intro x49 H49 hk49 hO49
 have hlenN := g3.pg
 have kk : qe H H49 := ((((f22.base ((f19.base ((kk15.trans hk16).trans hk17) lo).trans hk20) lo).trans hk23)).trans hk49)
 refine ⟨kk, ?_⟩
 rw [own_n hO49]
 have : (R2.1.now.length : Int) = 1 := hlenN
 rw [this]; rfl
end
section
variable {H H' H0 : AH} {L : Pl} {F F' : Nat → Prop} {w : Nat} {pa pb pc pd : Int} {s : HS} {ws : List Int} {root : Int} {mvb : Nat} {cb : Int}
theorem qjr (h1 : 1 ≤ pa ∧ pa ≤ 24) (h2 : 0 ≤ pb ∧ pb ≤ 16) (h3 : 1 ≤ pc ∧ pc ≤ 30) (h4 : 1 ≤ pd ∧ pd ≤ 10) : mayP pa pb pc pd = true := qan.2 (by omega)
theorem qkW {o : Nat} {a b c d : Int} {e : Nat} {Q : List Value → AH → Prop} (hg : H.get o = ⟨pl a b c d, .rw, e⟩)
  (h : ∀ pa pb pc pd, 1 ≤ pa ∧ pa ≤ 24 → 0 ≤ pb ∧ pb ≤ 16 → 1 ≤ pc ∧ pc ≤ 30 → 1 ≤ pd ∧ pd ≤ 10 → Q (pl pa pb pc pd) (H.upd o ⟨pl pa pb pc pd, .rw, e⟩)) :
  elI .i64 (AH.cell? H (qli ⟨o, 0, none⟩ 0)) fun n18 => elI .i64 (AH.cell? H (qli ⟨o, 0, none⟩ 1)) fun n20 => elI .i64 (AH.cell? H (qli ⟨o, 0, none⟩ 2)) fun n22 => elI .i64 (AH.cell? H (qli ⟨o, 0, none⟩ 3)) fun n24 =>
   qbg n18 n20 n22 n24 H fun c25 H25 => (List.length c25 = 4 ∧ List.all c25 qt = true) ∧ stC H25 ⟨o, 0, none⟩ c25 fun Hs2 => ldA Hs2 ⟨o, 0, none⟩ 4 fun c27 => Q c27 Hs2 := by
 rw [qc7 hg 0, qc7 hg 1, qc7 hg 2, qc7 hg 3]
 refine ⟨a, rfl, b, rfl, c, rfl, d, rfl, ?_⟩
 refine qbg.s fun pa pb pc pd h1 h2 h3 h4 => ?_
 refine ⟨⟨rfl, rfl⟩, ?_⟩
 rw [qbE]
 refine ⟨⟨rfl, by rw [hg], by rw [hg]; simp [pl]⟩, ?_⟩
 have e1 : AH.put H ⟨o, 0, none⟩ (pl pa pb pc pd) = H.upd o ⟨pl pa pb pc pd, .rw, e⟩ := by
  simp only [AH.put, hg]; rfl
 rw [e1, qs (plg_row (e := e) (by rw [qY, if_pos rfl]))]
 exact h pa pb pc pd h1 h2 h3 h4
structure Bo (H0 H : AH) (L : Pl) (F : Nat → Prop) (w : Nat) (pa pb pc pd : Int) (s : HS) (ws : List Int) (root : Int) (mvb : Nat) (cb : Int) : Prop where
 k : qe H0 H
 ha : HA H L pa pb pc pd s
 hp : HP pa pb pc pd s ws root mvb cb
 lo : ∀ b, L.has b → H0.size ≤ b
 rm : RM F H w ws root
 fo : ∀ b, F b → H0.size ≤ b
 dj : ∀ b, L.has b → F b → False
theorem Bo.keeps (h : Bo H0 H L F w pa pb pc pd s ws root mvb cb) (hk : qe H H') : Bo H0 H' L F w pa pb pc pd s ws root mvb cb :=
 ⟨h.k.trans hk, HAt.keeps h.ha hk, h.hp, h.lo, h.rm.keeps hk, h.fo, h.dj⟩
theorem Bo.mono (h : Bo H0 H L F w pa pb pc pd s ws root mvb cb) {mvb' : Nat} {cb' : Int} (h1 : mvb ≤ mvb') (h2 : cb ≤ cb') : Bo H0 H L F w pa pb pc pd s ws root mvb' cb' :=
 ⟨h.k, h.ha, h.hp.mono h1 h2, h.lo, h.rm, h.fo, h.dj⟩
theorem Kp.base {G : Nat → Prop} (h : Kp G H H') (hk : qe H0 H) (lo : ∀ b, G b → H0.size ≤ b) : qe H0 H' :=
 ⟨Nat.le_trans hk.1 h.1, fun b hb => by rw [h.2 b (by have := hk.1; omega) (fun hh => by have := lo b hh; omega), hk.2 b hb]⟩
theorem do_side {K off n : Int} {bs : List Int} (hio : isI off) (h8 : qbS bs) (h : HP pa pb pc pd s ws root mvb cb) (hup : s.M.down = false) (hb : mvb + 2000 < 4611686018427387904) (hcb : cb + 100 < 4611686018427387904) :
  Side pa pb s (doH pa pb pc pd s K off n bs).1 := by
 unfold doH
 by_cases k1 : K = 1
 ·rw [if_pos k1]; exact (qfH h hup hb hcb).2.1
 rw [if_neg k1]
 by_cases k2 : K = 2
 ·rw [if_pos k2]; exact (qin h hup hb hcb).2.1
 rw [if_neg k2]
 by_cases k3 : K = 3
 ·rw [if_pos k3]; exact Side.refl s
 rw [if_neg k3]
 by_cases k4 : K = 4
 ·rw [if_pos k4]; exact (qfu h8 h hup hb hcb).2.1
 rw [if_neg k4]
 by_cases k5 : K = 5
 ·rw [if_pos k5]; exact (qgt hio h hup).1
 rw [if_neg k5]
 by_cases k6 : K = 6
 ·rw [if_pos k6, if_neg (by simp [hup])]; exact Side.refl s
 ·rw [if_neg k6]; exact Side.refl s
theorem Bo.step {d : OpR} {k : Int → AH → Prop} (h : Bo H0 H L F w pa pb pc pd s ws root mvb cb) (hup : s.M.down = false) (hcut : s.M.cut = -1) (hb : mvb ≤ 1000000) (hcb : cb ≤ 1000000) (hd : opROK H0 d) (hsl : d.sl.n ≤ 500)
  (hk : ∀ H' F' ws' root', Bo H0 H' L F' w pa pb pc pd (doH pa pb pc pd s d.K d.off d.n d.bs).1 ws' root' (mvb + 40) (cb + 14) → (doH pa pb pc pd s d.K d.off d.n d.bs).1.M.down = false → (doH pa pb pc pd s d.K d.off d.n d.bs).1.M.cut = -1 → k 0 H') :
  qm (some ⟨L.h, 0, none⟩) (some ⟨w, 0, none⟩) (opRV d) H k := by
 have hrl := hd.rows.1
 have lo' : ∀ b, (L.has b ∨ F b) → H0.size ≤ b := fun b hb => hb.elim (h.lo b) (h.fo b)
 refine qfl h.ha h.hp hup hcut (by omega) (by omega) h.rm h.dj hd.off hd.n (hd.rows.keep h.k) (fun H' hkp => hd.rows.keep (hkp.base h.k lo')) hd.u8 (by omega) ?_
 intro H' F' ws' root' ha hp hup' hrm hdj hkp hF'
 have hs := do_side (K := d.K) (off := d.off) (n := d.n) (bs := d.bs) hd.off hd.u8 h.hp hup (by omega) (by omega)
 have hk1 := h.k.1
 exact hk H' F' ws' root' ⟨hkp.base h.k lo', ha, hp, h.lo, hrm, fun b hb => (hF' b hb).elim (h.fo b) (fun hh => by omega), hdj⟩ hup' (hs.cut hcut)
theorem Bo.start {F : Nat → Prop} (ha : HA H L pa pb pc pd s) (hp : HP pa pb pc pd s (firstN (8 * pa)) 0 mvb cb) (hk : qe H0 H) (lo : ∀ b, L.has b → H0.size ≤ b) (hk' : qe H H') (hu : Up (fun _ => False) H F H') (hr : RM F H' w (firstN (8 * pa)) 0) :
  Bo H0 H' L F w pa pb pc pd s (firstN (8 * pa)) 0 mvb cb :=
 ⟨hk.trans hk', HAt.keeps ha hk', hp, lo, hr, fun b hb => (hu.2 b hb).elim (fun h => h.elim) (fun h => by have := hk.1; omega), fun b h1 h2 => (hu.2 b h2).elim (fun h => h.elim) (fun h => by have := HA.lt ha h1; omega)⟩
end
section
variable {H H' H0 : AH} {L : Pl} {F : Nat → Prop} {w : Nat} {pa pb pc pd : Int} {s : HS} {ws : List Int} {root : Int} {mvb : Nat} {cb : Int}
def stepsL (x1 : Sl) (h m : Option Addr) (bad : AH → Prop) (E : Bool × Int → AH → Prop) (t9 : Bool × Int) (HL9 : AH) (it9 : (Bool × Int) → AH → Prop) : Prop :=
 bcase (decide ((t9.2 : Int) < ((x1.n : Nat) : Int))) ((0 ≤ t9.2 ∧ t9.2 < ((x1.n : Nat) : Int)) ∧ onPtr x1.a fun a51 => ldA HL9 (qli a51 (Int.toNat t9.2 * 5)) 5 fun c52 => newC HL9 ⟨[(qlg .i64 (0 : Int)), (qlg .i64 (0 : Int)), (qlg .i64 (0 : Int)), (qlg .i64 (0 : Int)), (Value.slice none 0 0)], .rw, 0⟩ fun o11 H11 => (List.length c52 = 5 ∧ List.all c52 qt = true) ∧ stC H11 ⟨o11, 0, none⟩ c52 fun Hs8 => ldA Hs8 ⟨o11, 0, none⟩ 5 fun c55 => qm h m c55 Hs8 fun n56 H56 => bcase ((n56 : Int) != (0 : Int)) (bad H56) (it9 (t9.1, (IntKind.wrap .i64 (t9.2 + (1 : Int)))) H56)) (E t9 HL9)
theorem qjP {x1 : Sl} {l : List OpR} {bad : AH → Prop} {E : Bool × Int → AH → Prop} {J : HS → Prop} (h : Bo H0 H L F w pa pb pc pd s ws root mvb cb) (hup : s.M.down = false) (hcut : s.M.cut = -1) (hJ : J s)
  (hr : Abs.Rows H0 x1 5 opRV l) (hok : ∀ d ∈ l, opROK H0 d) (hsl : ∀ d ∈ l, d.sl.n ≤ 500) (hl : l.length ≤ 80) (hb : mvb ≤ 10000) (hcb : cb ≤ 10000)
  (hJs : ∀ s ws root mvb cb d, HP pa pb pc pd s ws root mvb cb → s.M.down = false → s.M.cut = -1 → mvb ≤ 100000 → cb ≤ 100000 → opROK H0 d → J s → J (doH pa pb pc pd s d.K d.off d.n d.bs).1)
  (hE : ∀ H' F' s' ws' root', Bo H0 H' L F' w pa pb pc pd s' ws' root' (mvb + 40 * l.length) (cb + 14 * l.length) → s'.M.down = false → s'.M.cut = -1 → J s' → E (false, (l.length : Int)) H') :
  loopT (stepsL x1 (some ⟨L.h, 0, none⟩) (some ⟨w, 0, none⟩) bad E) ((false, (0 : Int)) : Bool × Int) H := by
 refine qG (t := ((false, (0 : Int)) : Bool × Int)) (I := fun (t : Bool × Int) H' => ∃ (i : Nat) (F : Nat → Prop) (s : HS) (ws : List Int) (root : Int), t = (false, (i : Int)) ∧ i ≤ l.length ∧ Bo H0 H' L F w pa pb pc pd s ws root (mvb + 40 * i) (cb + 14 * i) ∧ s.M.down = false ∧ s.M.cut = -1 ∧ J s) (m := fun (t : Bool × Int) _ => Int.toNat ((l.length : Int) - t.2)) ?_
  ⟨0, F, s, ws, root, rfl, by omega, h.mono (by omega) (by omega), hup, hcut, hJ⟩
 rintro ⟨t1, t2⟩ H5 ⟨i, F, s, ws, root, e1, hi, hB, hup, hcut, hJ⟩ it hit
 injection e1 with e1 e2
 subst e1 e2
 unfold stepsL
 rw [hr.1]
 by_cases hlt : (i : Int) < (l.length : Int)
 rotate_left 1
 ·rw [decide_eq_false hlt, qf]
  have : i = l.length := by omega
  subst this
  exact hE H5 F s ws root hB hup hcut hJ
 rw [decide_eq_true hlt, qh]
 have hi' : i < l.length := by omega
 have hrK := hr.keep hB.k
 obtain ⟨b, o, ha, hb, hcells⟩ := qau hrK (by omega)
 refine ⟨by omega, ?_⟩
 rw [ha, qg, qll, qs (hcells i _ (qlj hi')).1]
 have hd := hok _ (List.getElem_mem hi')
 have hdn := hsl _ (List.getElem_mem hi')
 generalize l[i] = d at *
 refine qbG (n := 5) rfl rfl rfl ?_
 have hO : OpAt (H5.push ⟨opRV d, .rw, 0⟩) H5.size d.K d.off d.n d.c d.sl := OpAt.new
 have hB6 := hB.keeps ((qe.refl H5).push ⟨opRV d, .rw, 0⟩)
 generalize H5.push ⟨opRV d, .rw, 0⟩ = H6 at *
 rw [qs hO.row]
 show qm _ _ (opRV d) _ _
 have hJ' := hJs s ws root _ _ d hB6.hp hup hcut (by omega) (by omega) hd hJ
 refine hB6.step hup hcut (by omega) (by omega) hd hdn ?_
 intro H53 F' ws' root' hB53 hup' hcut'
 generalize (doH pa pb pc pd s d.K d.off d.n d.bs).1 = s' at *
 rw [show ((0 : Int) != 0) = false from rfl, qf, qj (n := (i : Int) + 1) (by omega) (by omega)]
 exact hit _ _ ⟨i + 1, F', s', ws', root', by simp, by omega, hB53.mono (by omega) (by omega), hup', hcut', hJ'⟩ (by simp only; omega)
theorem qje : ∀ (s : HS) (ws : List Int) (root : Int) (mvb : Nat) (cb : Int) (d : OpR), HP pa pb pc pd s ws root mvb cb → s.M.down = false → s.M.cut = -1 → mvb ≤ 100000 → cb ≤ 100000 → opROK H0 d → FreeS s → FreeS (doH pa pb pc pd s d.K d.off d.n d.bs).1 :=
 fun s ws root mvb cb d hp _ _ hb hcb hd hf => (do_free hd.off hd.u8 hp hf (by omega) (by omega)).1
end
section
variable {H H' H0 : AH} {L L2 : Pl} {pa pb pc pd : Int} {s s2 : HS} {ws : List Int} {root : Int} {mvb : Nat} {cb : Int}
theorem HA.beside (h : HA H L pa pb pc pd s) (h2 : HA H' L2 pa pb pc pd s2) (hM : s2.M = s.M) (hp : L2.p = L.p) (hc : L2.c = L.c) (hs : H.size ≤ H'.size) (hg : ∀ b, L.has b → b ≠ L.p → b ≠ L.c → H'.get b = H.get b) : HA H' L pa pb pc pd s := by
 have m1 := (HAt.ga h).tn.l.m
 have m2 := (HAt.ga h2).tn.l.m
 refine HA.congr h hs fun b hb => ?_
 by_cases e1 : b = L.p
 ·rw [e1, m1.hp, ← hp, m2.hp, hM, hc]
 by_cases e2 : b = L.c
 ·rw [e2, m1.hc, ← hc, m2.hc, hM]
 exact hg b hb e1 e2
theorem qh0 {n : Nat} (h : 0 < n) : blocksN (qlm n 0) = none := by
 cases e : blocksN (qlm n 0) with
 | none => rfl
 | some l =>
  have h64 : qaA (qlm n 0) := fun v hv => by rw [List.eq_of_mem_replicate hv]; exact ⟨by omega, by omega⟩
  obtain ⟨hB, hh⟩ := (qf0 h64).1 e
  cases l with
  | nil =>
   have := hB.2
   simp [chainB] at this
   omega
  | cons b r =>
   have h1 := hh b (qmL ..)
   have h2 := hB.mem (qmL (a := b) (l := r))
   rw [qlk, List.getElem?_replicate] at h1
   unfold hdr at h1
   split at h1 <;> split at h1 <;> simp at h1 <;> omega
end
section
variable {H : AH}
theorem qq.t {x0 x1 x2 x3 : Int} {x4 : Sl} {l : List OpR} (_ : (Lit.int .i64 x0).wf = true) (_ : (Lit.int .i64 x1).wf = true) (_ : (Lit.int .i64 x2).wf = true) (_ : (Lit.int .i64 x3).wf = true)
  (hr : Abs.Rows H x4 5 opRV l) (hok : ∀ d ∈ l, opROK H d) (_ : l.length ≤ maxLen) : qq (pl x0 x1 x2 x3) x4 H (fun r _ => r = true) := by
 refine qq.link ?_
 unfold qq.b
 rw [qx]
 have hk1 : qe H (H.push ⟨pl x0 x1 x2 x3, .rw, 0⟩) := (qe.refl H).push _
 have g1 : (H.push ⟨pl x0 x1 x2 x3, .rw, 0⟩).get H.size = ⟨pl x0 x1 x2 x3, .rw, 0⟩ := by rw [qv, if_pos rfl]
 have hz1 : H.size < (H.push ⟨pl x0 x1 x2 x3, .rw, 0⟩).size := by simp [qp]
 generalize H.push ⟨pl x0 x1 x2 x3, .rw, 0⟩ = H1 at *
 refine qD.s (l := l) (hr.keep hk1) ?_ ?_
 rotate_left 1
 ·intro v hv
  rw [decide_eq_true hv, qh]
  exact qdP rfl
 intro hsl hl80 _
 rw [show (decide ((0 : Int) > 0)) = false from rfl, qf]
 refine qkW g1 ?_
 intro pa pb pc pd r1 r2 r3 r4
 have hmay := qjr r1 r2 r3 r4
 have hk2 : qe H (H1.upd H.size ⟨pl pa pb pc pd, .rw, 0⟩) := hk1.upd (Nat.le_refl _) _
 have g2 : (H1.upd H.size ⟨pl pa pb pc pd, .rw, 0⟩).get H.size = ⟨pl pa pb pc pd, .rw, 0⟩ := by rw [qY, if_pos rfl]
 have hz2 : H.size < (H1.upd H.size ⟨pl pa pb pc pd, .rw, 0⟩).size := hz1
 generalize H1.upd H.size ⟨pl pa pb pc pd, .rw, 0⟩ = H2 at *
 refine qa0.s (limits := []) qdB hmay (fun h => absurd rfl h) ?_
 intro H29 L s hA hP hup hcut hns hnl hnow _ hlo hk29
 have hf : FreeS s := ⟨hup, hcut, hnl rfl, hns⟩
 rw [qlF, qf]
 have g29 : H29.get H.size = ⟨pl pa pb pc pd, .rw, 0⟩ := by rw [hk29.2 _ hz2]; exact g2
 rw [qc7 g29 0]
 show elI .i64 (some (.int .i64 pa)) _
 rw [qi, qj (n := pa * 8) (by omega) (by omega)]
 have hmw : mayW (pa * 8) := by unfold mayW; omega
 refine qa7.s (fun hn => absurd hmw hn) ?_
 intro _ F w H43 hk43 hu43 hR43
 rw [show pa * 8 = 8 * pa by omega] at hR43
 have hB0 : Bo H2 H43 L F w pa pb pc pd s (firstN (8 * pa)) 0 15 0 := Bo.start hA hP hk29 hlo hk43 hu43 hR43
 have hok' : ∀ d ∈ l, opROK H2 d := fun d hd => ⟨(hok d hd).off, (hok d hd).n, (hok d hd).rows.keep hk2, (hok d hd).u8⟩
 refine qjP (E := qq.j6 (fun r _ => r = true) H.size (some ⟨L.h, 0, none⟩) (some ⟨L.p, 0, none⟩) (some ⟨w, 0, none⟩)) (J := FreeS) hB0 hup hcut hf (hr.keep hk2) hok' hsl hl80 (by omega) (by omega) qje ?_
 clear hA hP hf hup hcut hns hnl hnow hB0 hR43 hk43 hu43
 intro H5 F5 s ws root hB hup hcut hf
 have gp : ∀ {H' : AH}, qe H2 H' → H'.get H.size = ⟨pl pa pb pc pd, .rw, 0⟩ := fun hk => by rw [hk.2 _ hz2]; exact g2
 unfold qq.j6
 rw [qs (plg_row (gp hB.k))]
 have hMP := hB.hp.mp
 have hM5 := (HAt.ga hB.ha).tn.l.m
 have hc0 : commits s.M = 0 := by
  by_cases h : commits s.M = 0
  ·exact h
  ·exact absurd (.inr ⟨hup, h⟩) hf.ns
 have hrc : recN (16 + pa.toNat) pb.toNat pc.toNat s.M 0 = (s.M, 0, 0) := qfG hup hc0
 have hop := hMP.opened hup (by omega)
 have hPx : HP pa pb pc pd (openS pa pb pc pd s.M) ws root (15 + 40 * l.length + 14) (0 + 14 * (l.length : Int)) := by
  rcases hop.2.2 with ⟨_, _, hP⟩ | ⟨e2, _⟩
  ·exact hP
  ·rw [hrc] at e2; exact absurd (show (0 : Int) = 2 from e2) (by decide)
 have eM : (openS pa pb pc pd s.M).M = s.M := by unfold openS; rw [hrc]
 have eN : (openS pa pb pc pd s.M).now = keptOf s.M (pagesP pa pb pc pd).toNat := by unfold openS; rw [hrc]
 refine qL.s hMP hM5 hup (by omega) (by omega) (fun hh => by rw [hrc] at hh; exact absurd rfl hh) ?_
 intro _ H61 L2 hA2 hp hcc l1 l2 l3 l4 l5 l6 l7 fr
 rw [show ((0 : Int) != 0) = false from rfl, qf, qlF, qf]
 have hltL : ∀ b, L.has b → b < H5.size := fun b hb => HA.lt hB.ha hb
 have hnew : ∀ b, L2.has b → b ≠ L2.p → b ≠ L2.c → H5.size ≤ b := by
  intro b hb n1 n2
  rcases hb with e | e | e | e | e | e | e | e | e <;> first | omega | exact absurd e n1 | exact absurd e n2
 have hLp : L.has L.p := by simp [Pl.has]
 have hLc : L.has L.c := by simp [Pl.has]
 have hA61 : HA H61 L pa pb pc pd s := HA.beside hB.ha hA2 eM hp hcc fr.size fun b hb n1 n2 => fr.get b (hltL b hb) n1 n2
 have hR61 : RM F5 H61 w ws root := hB.rm.congr fr.size fun b hb => fr.get b (hB.rm.lt b hb) (fun e => hB.dj b (e ▸ hLp) hb) (fun e => hB.dj b (e ▸ hLc) hb)
 have hdj2 : ∀ b, L2.has b → F5 b → False := by
  intro b h1 h2
  by_cases n1 : b = L2.p
  ·exact hB.dj b (by rw [n1, hp]; exact hLp) h2
  by_cases n2 : b = L2.c
  ·exact hB.dj b (by rw [n2, hcc]; exact hLc) h2
  have := hnew b h1 n1 n2
  have := hB.rm.lt b h2
  omega
 have hk61 : qe H2 H61 := ⟨Nat.le_trans hB.k.1 fr.size, fun b hb => by
  have := hB.k.1
  rw [fr.get b (by omega) (fun e => by have := hB.lo _ hLp; omega) (fun e => by have := hB.lo _ hLc; omega), hB.k.2 b hb]⟩
 refine qfn hA2 hPx (by rw [eM]; exact hup) (by omega) (by omega) hB.hp.ok hR61 hdj2 ?_
 intro H73 hA73 f73
 rw [qjM, show ((0 : Int) != 0) = false from rfl, qf]
 have hs61 := fr.size
 have hL73 : HA H73 L pa pb pc pd s := HA.beside hA61 hA73 eM hp hcc f73.size fun b hb n1 n2 => f73.out (by have := hltL b hb; omega) fun hh => by
  have := hnew b hh (by rw [hp]; exact n1) (by rw [hcc]; exact n2)
  have := hltL b hb
  omega
 have hk5 := hB.k.1
 have hk73 : qe H2 H73 := f73.base hk61 fun b hb => by
  by_cases n1 : b = L2.p
  ·rw [n1, hp]; exact hB.lo _ hLp
  by_cases n2 : b = L2.c
  ·rw [n2, hcc]; exact hB.lo _ hLc
  have := hnew b hb n1 n2
  omega
 refine qfc.s hA73 (qdq.s (HAt.ga hA73).tn (by rw [eM]; exact hup) ?_)
 refine qfc.s hL73 (qdq.s (HAt.ga hL73).tn hup ?_)
 rw [eM, show (((s.M.mv : Nat) : Int) != ((s.M.mv : Nat) : Int)) = false by simp]
 unfold qq.j5
 rw [qf]
 refine qdz hL73 ?_
 intro s84 H84 hk84 hO84
 refine qdz (HAt.keeps hA73 hk84 : HA H84 L2 pa pb pc pd (openS pa pb pc pd s.M)) ?_
 intro s86 H86 hk86 hO86
 rw [eN] at hO86
 have hpg := hB.hp.pg
 have hpgs := hMP.pages
 have hnl : s.now.length = (keptOf s.M (pagesP pa pb pc pd).toNat).length := by rw [qcR]; omega
 have hO84' : Own H73.size H86 s84 1 iV s.now := hO84.keep hk86.1 fun b _ hb => hk86.2 b hb
 rw [own_n hO84', own_n hO86, ← hnl, show (((s.now.length : Nat) : Int) != ((s.now.length : Nat) : Int)) = false by simp, qf]
 have hRa := hO84'.rows (fun _ => rfl) (fun _ => rfl)
 have hRb := hO86.rows (fun _ => rfl) (fun _ => rfl)
 have hk86' := hk84.trans hk86
 have hKK : qe H2 H86 := hk73.trans hk86'
 have hL86 : HA H86 L pa pb pc pd s := HAt.keeps hL73 hk86'
 show loopT _ ((false, (0 : Int)) : Bool × Int) H86
 refine qG (t := ((false, (0 : Int)) : Bool × Int)) (I := fun (t : Bool × Int) H' => ∃ (j : Nat), t = (false, (j : Int)) ∧ j ≤ s.now.length ∧ H' = H86) (m := fun (t : Bool × Int) _ => Int.toNat ((s.now.length : Int) - t.2)) ?_ ⟨0, rfl, by omega, rfl⟩
 rintro ⟨t1, t2⟩ H7 ⟨j, e1, hj, rfl⟩ it hit
 injection e1 with e1 e2
 subst e1 e2
 unfold qq.l4
 rw [hRa.1, hRb.1, ← hnl]
 by_cases hlt : (j : Int) < (s.now.length : Int)
 ·rw [decide_eq_true hlt, qh]
  have hj' : j < s.now.length := by omega
  have hjb : j < (keptOf s.M (pagesP pa pb pc pd).toNat).length := by omega
  obtain ⟨b1, o1, a1, _, c1⟩ := qbC (g := fun v => qlg .i64 v) hRa (i := j) hj'
  obtain ⟨b2, o2, a2, _, c2⟩ := qbC (g := fun v => qlg .i64 v) hRb (i := j) hjb
  have ea : s.now[j] = s.now.getD j 0 := by rw [qlk, qlj hj']; rfl
  have eb : (keptOf s.M (pagesP pa pb pc pd).toNat)[j] = s.kept.getD j 0 := by
   have h1 : (keptOf s.M (pagesP pa pb pc pd).toNat)[j] = (keptOf s.M (pagesP pa pb pc pd).toNat).getD j 0 := by rw [qlk, qlj hjb]; rfl
   rw [h1, qeK (by rw [qcR] at hjb; exact hjb)]
   exact (hB.hp.cp.lag hup j hj').2
  have hlag := (hB.hp.cp.lag hup j hj').1
  have hokc := hB.hp.cp.ok j hj'
  rw [ea] at c1
  rw [eb] at c2
  refine ⟨by omega, ?_⟩
  rw [a2, qg, qll, c2, qi]
  refine ⟨by omega, ?_⟩
  rw [a1, qg, c1, qi, decide_eq_false (by omega), qf]
  refine ⟨by omega, ?_⟩
  rw [qg, c1, qi]
  refine ⟨by omega, ?_⟩
  rw [qg, c2, qi, qc7 (gp hKK) 3]
  show elI .i64 (some (.int .i64 pd)) _
  rw [qi, qj (n := s.now.getD j 0 - s.kept.getD j 0) (by omega) (by omega), decide_eq_false (by omega)]
  unfold qq.j3
  rw [qf, qj (n := (j : Int) + 1) (by omega) (by omega)]
  exact hit _ _ ⟨j + 1, by simp, by omega, rfl⟩ (by simp only; omega)
 rw [decide_eq_false hlt, qf]
 unfold qq.j2
 refine qfc.s hL86 (qdq.s (HAt.ga hL86).tn hup ?_)
 have hlen : (s.M.cs.length : Int) = deviceP pa pb pc pd := by
  have := hB.hp.ps.len
  unfold deviceP; rw [if_pos hmay]; omega
 have rest : ∀ H', qe H7 H' → qq.j1 (fun r _ => r = true) H.size (some ⟨L.p, 0, none⟩) false H' := by
  intro H8 hk8
  unfold qq.j1
  have hK8 := hKK.trans hk8
  rw [qf, qs (plg_row (gp hK8))]
  refine qbG (n := 4) rfl rfl rfl ?_
  have hk9 : qe H8 (H8.push ⟨pl pa pb pc pd, .rw, 0⟩) := (qe.refl H8).push _
  have g9 : (H8.push ⟨pl pa pb pc pd, .rw, 0⟩).get H8.size = ⟨pl pa pb pc pd, .rw, 0⟩ := by rw [qv, if_pos rfl]
  generalize H8.push ⟨pl pa pb pc pd, .rw, 0⟩ = H9 at *
  rw [qc7 g9 0]
  show elI .i64 (some (.int .i64 pa)) _
  rw [qi, qj (n := pa + 1) (by omega) (by omega), qn, Nat.zero_add, qbE]
  refine ⟨⟨rfl, by rw [g9], by rw [g9]; simp [pl]⟩, ?_⟩
  have e4 : AH.put H9 ⟨H8.size, 0, none⟩ [qlg .i64 (pa + 1)] = H9.upd H8.size ⟨pl (pa + 1) pb pc pd, .rw, 0⟩ := by simp only [AH.put, g9]; rfl
  rw [e4]
  have hk10 : qe H8 (H9.upd H8.size ⟨pl (pa + 1) pb pc pd, .rw, 0⟩) := hk9.upd (Nat.le_refl _) _
  have g10 : (H9.upd H8.size ⟨pl (pa + 1) pb pc pd, .rw, 0⟩).get H8.size = ⟨pl (pa + 1) pb pc pd, .rw, 0⟩ := by rw [qY, if_pos rfl]
  generalize H9.upd H8.size ⟨pl (pa + 1) pb pc pd, .rw, 0⟩ = H10 at *
  rw [qs (plg_row g10)]
  have hL10 : HA H10 L pa pb pc pd s := HAt.keeps hL86 (hk8.trans hk10)
  refine qL.bad (HAt.ga hL10).tn.l.m ?_ ?_
  ·rintro ⟨h1, h2⟩
   rw [hlen] at h2
   unfold deviceP at h2
   rw [if_pos hmay, if_pos h1] at h2
   omega
  intro H138 hk138
  have hK138 := hK8.trans (hk10.trans hk138)
  rw [qs (plg_row (gp hK138))]
  refine qL.n ?_
  intro H143 hk143
  have hK143 := hK138.trans hk143
  rw [qs (plg_row (gp hK143)), qs (plg_row (gp hK143))]
  refine qbk.s ?_
  refine ⟨plg_row (gp hK143), ?_⟩
  have hdev : deviceP pa pb pc pd = ((16 + pa.toNat + 1 + pb.toNat : Nat) : Int) := by unfold deviceP; rw [if_pos hmay]; omega
  rw [hdev]
  refine nvm_New.s (limits := []) qdB ?_ (fun hn => absurd (by omega) hn)
  intro _ H149 hM149 hk149 _
  rw [qll] at hM149
  refine ⟨plg_row (gp (hK143.trans hk149)), ?_⟩
  refine qL.form (ws := qlm (8 * pa.toNat) 0) hmay hM149 rfl rfl (by simp [Mem.new]) ⟨0, new_lv (by omega)⟩ (Nat.zero_le _) (new_sd0 (by omega)) (by simp; omega) ?_ (qh0 (by omega)) ?_
  ·intro v hv
   rw [List.eq_of_mem_replicate hv]; exact ⟨by omega, by omega⟩
  intro H151 _
  rw [Option.isNone_none, qh, show ((1 : Int) == 1) = true from rfl, qh, qh, qh, qh, show ((6 : Int) == 6) = true from rfl, qh]
  exact qdP rfl
 by_cases hmv : ((s.M.mv : Nat) : Int) > 0
 ·rw [decide_eq_true hmv, qh, qs (plg_row (gp hKK))]
  refine qJ.state (HAt.ga hL86).tn.l.m hmay hlen hup ?_ ?_
  ·intro h0
   unfold Mem.mv at hmv
   rw [h0] at hmv
   exact absurd hmv (by decide)
  intro H127 hk127
  exact rest _ hk127
 ·rw [decide_eq_false hmv, qf]
  exact rest _ (qe.refl _)
end
end Go.Proofs.YtemeclnpdpkfdaaGreat
