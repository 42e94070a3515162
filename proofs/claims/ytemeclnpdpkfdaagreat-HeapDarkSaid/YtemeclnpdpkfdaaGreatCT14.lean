/- Lemmas for the law: an abstract machine, and what the functions do on it. No condition. -/
import Derived.Test.YtemeclnpdpkfdaaGreatCT13
set_option linter.all false
open Go.Value renaming int → qlc
open Go.IntKind renaming wrap → qld
open Go.Addr renaming add → qle
open List renaming getElem?_eq_getElem → qlf, replicate → qli, getElem_mem → qls
open Int renaming toNat_natCast → qlh
open Option renaming isNone_some → qlC
set_option linter.all false
namespace Go.Proofs.YtemeclnpdpkfdaaGreat
open Go Go.Abs
section
variable {H H' H0 : AH} {L : Pl} {pa pb pc pd : Int} {s : HS} {ws : List Int} {root : Int} {mvb : Nat} {cb : Int}
theorem Frh.out {o : Nat} (f : Frh H H' L) (ho : o < H.size) (hn : ¬ L.has o) : H'.get o = H.get o :=
 f.get o ho (fun e => hn (by simp [Pl.has, e])) (fun e => hn (by simp [Pl.has, e])) (fun e => hn (by simp [Pl.has, e])) (fun e => hn (by simp [Pl.has, e])) (fun e => hn (by simp [Pl.has, e])) (fun e => hn (by simp [Pl.has, e]))
theorem HP.len8 (h : HP pa pb pc pd s (firstN (8 * pa)) root mvb cb) : mayW (8 * pa) := by
 have hm := qan.1 h.may
 unfold mayW; omega
theorem qgU {n off : Int} {bs : List Int} (h : HP pa pb pc pd s (firstN (8 * pa)) root mvb cb) (hf : FreeS s) (hn : 1 ≤ n ∧ n ≤ 448) (hfit : needN n ≤ 8 * pa) (hb : mvb + 2000 < 4611686018427387904) (hcb : cb + 100 < 4611686018427387904) :
  (doH pa pb pc pd s 1 off n bs).2 = (0, 8, []) ∧ FreeS (doH pa pb pc pd s 1 off n bs).1 ∧ ∃ ws1 tk, takesN (8 * pa) (needN n) = tk ∧ MR (8 * pa) [(0, tk, qli ((tk.toNat - 1) * 8) 0)] ws1 ∧ HP pa pb pc pd (doH pa pb pc pd s 1 off n bs).1 ws1 root (mvb + 40) (cb + 14) := by
 obtain ⟨a1, a2, tk, a3, a4⟩ := qis (cs := s.now) h.len8 hn hfit
 obtain ⟨c1, c2, c3, c4, c5⟩ := qfH (n := n) h hf.up hb hcb
 have hne : needN n ≠ 0 := by unfold needN; rw [if_pos hn]; omega
 obtain ⟨f1, f2, f3⟩ : FreeS (allocH pa pb pc pd s n).1 ∧ (allocH pa pb pc pd s n).2.1 ≠ 3 ∧ (allocH pa pb pc pd s n).2.1 ≠ 2 := by
  have := do_free (K := 1) (off := 0) (n := n) (bs := []) (by unfold isI; omega) (fun v hv => by cases hv) h hf hb hcb
  unfold doH at this
  rw [if_pos rfl] at this
  exact this
 have he : (allocH pa pb pc pd s n).2.1 = 0 := by
  rcases c1 with ⟨b, _⟩ | ⟨b, _⟩ | ⟨b, _⟩ | ⟨b, _⟩
  ·exact b
  ·exact absurd b f2
  ·rw [b, a1]
  ·exact absurd b f3
 obtain ⟨d1, d2, d3⟩ := c5 he
 have hP : HP pa pb pc pd (allocH pa pb pc pd s n).1 (applyE (firstN (8 * pa)) (imgAlloc (firstN (8 * pa)) n s.now).1) root (mvb + 40) (cb + 14) := by
  rcases c1 with ⟨_, _, _, _, b, _⟩ | ⟨b, _⟩ | ⟨_, b, c⟩ | ⟨b, _⟩
  ·exact b
  ·omega
  ·have := c a1
   rw [this, b]; exact h.mono (by omega) (by omega)
  ·omega
 have eD : doH pa pb pc pd s 1 off n bs = ((allocH pa pb pc pd s n).1, (allocH pa pb pc pd s n).2.1, (if (allocH pa pb pc pd s n).2.1 = 0 then (allocH pa pb pc pd s n).2.2 else 0), []) := by unfold doH; rw [if_pos rfl]
 rw [eD]
 refine ⟨?_, f1, _, tk, a3, a4, hP⟩
 simp only
 rw [if_pos he, he, d3, a2]
theorem qhv {off n : Int} {bs : List Int} (hio : isI off) (h8 : qbO bs) (h : HP pa pb pc pd s ws root mvb cb) (hf : FreeS s) (hE : (imgWrite ws off bs).2 = 0) (hb : mvb + 2000 < 4611686018427387904) (hcb : cb + 100 < 4611686018427387904) :
  (doH pa pb pc pd s 4 off n bs).2 = (0, 0, []) ∧ FreeS (doH pa pb pc pd s 4 off n bs).1 ∧ HP pa pb pc pd (doH pa pb pc pd s 4 off n bs).1 (applyE ws (imgWrite ws off bs).1) root (mvb + 40) (cb + 14) := by
 obtain ⟨f1, f2, f3⟩ := do_free (K := 4) (off := off) (n := n) (bs := bs) hio h8 h hf hb hcb
 obtain ⟨c1, _⟩ := qfv (off := off) (bs := bs) h8 h hf.up hb hcb
 have eD : doH pa pb pc pd s 4 off n bs = ((writeH pa pb pc pd s off bs).1, (writeH pa pb pc pd s off bs).2, 0, []) := by unfold doH; rw [if_neg (by omega), if_neg (by omega), if_neg (by omega), if_pos rfl]
 rw [eD] at f1 f2 f3 ⊢
 simp only at f1 f2 f3 ⊢
 rcases c1 with ⟨b, _, _, _, c, _⟩ | ⟨b, _⟩ | ⟨b, c, d⟩ | ⟨b, _⟩
 ·exact ⟨by rw [b], f1, c⟩
 ·exact absurd b f2
 ·refine ⟨by rw [b, hE], f1, ?_⟩
  have := d hE
  rw [this, c]; exact h.mono (by omega) (by omega)
 ·exact absurd b f3
theorem qcO {k : Bool → AH → Prop} (hk : k true H) : qbx H k := by
 refine gcB true (qbx.link (_u := ()) ?_) hk
 unfold qbx.b
 show qaY (pl 4 0 3 2) ⟨none, 0, 0⟩ H _
 refine qaY.s (limits := []) qdy (by decide) (fun h => absurd rfl h) ?_
 intro H8 L s hA hP hup hcut hns hnl hnow _ hlo hk8
 have hf : FreeS s := ⟨hup, hcut, hnl rfl, hns⟩
 have lo : ∀ b, L.has b → H.size ≤ b := hlo
 rw [qlC, qc]
 obtain ⟨d1, d2, ws1, tk, d3, d4, d5⟩ := qgU (off := 0) (bs := []) (n := 8) hP hf (by omega) (by decide) (by omega) (by omega)
 refine qdl (s := s) (K := 1) (off := 0) (n := 8) (mask := 0) (x := ⟨none, 0, 0⟩) (bs := []) (hP.hok hA (by omega) (by omega)) (by unfold isI; omega) (by unfold isI; omega) (fun hh => by omega) ?_
 intro H15 x15 hA15 f15 hO15
 have htk : tk = 2 := by rw [← d3]; decide
 subst htk
 generalize doH 4 0 3 2 s 1 0 8 [] = R1 at *
 rw [d1] at hO15 ⊢
 have kk15 : qa H H15 := f15.base hk8 lo
 refine qbu (n := 3) rfl rfl rfl ?_
 have hAn3 : AnAt (H15.push ⟨anV 0 8 x15, .rw, 0⟩) H15.size 0 8 x15 := AnAt.new
 have hk16 : qa H15 (H15.push ⟨anV 0 8 x15, .rw, 0⟩) := (qa.refl H15).push _
 have hz16 : H15.size < (H15.push ⟨anV 0 8 x15, .rw, 0⟩).size := by simp [ql]
 have no3 : ¬ L.has H15.size := fun hh => by have := HA.lt hA15 hh; omega
 generalize hH16 : H15.push ⟨anV 0 8 x15, .rw, 0⟩ = H16 at *
 clear hH16
 rw [qv]
 have hk17 : qa H16 (H16.push ⟨[(qlc .u8 (7 : Int))], .rw, 1⟩) := (qa.refl H16).push _
 have hO17 : Own 0 (H16.push ⟨[(qlc .u8 (7 : Int))], .rw, 1⟩) ⟨some ⟨H16.size, 0, none⟩, 1, 1⟩ 1 bU [7] := .inr ⟨H16.size, rfl, Nat.zero_le _, by simp [ql], by rw [qs, if_pos rfl]; rfl⟩
 generalize hH17 : H16.push ⟨[(qlc .u8 (7 : Int))], .rw, 1⟩ = H17 at *
 clear hH17
 have hA17 : HA H17 L 4 0 3 2 R1.1 := HAt.keeps (HAt.keeps hA15 hk16) hk17
 have hlen1 : (ws1.length : Int) = 32 := by have := d4.len; omega
 have d4' : MR ws1.length [((0 : Int), (2 : Int), qli ((2 - 1) * 8) (0 : Int))] ws1 := MR.self d4 (by omega)
 have hw8 : qbO [7] := fun v hv => by simp at hv; omega
 have hwin : 0 ≤ (([7] : List Int).length : Int) ∧ (([7] : List Int).length : Int) ≤ 448 ∧ ∃ x ∈ [((0 : Int), (2 : Int), qli ((2 - 1) * 8) (0 : Int))], (x.1 + 1) * 8 ≤ (8 : Int) ∧ 8 + (([7] : List Int).length : Int) ≤ (x.1 + x.2.1) * 8 := ⟨by decide, by decide, _, List.mem_cons_self .., by decide, by decide⟩
 have hwr := d4'.wr hwin
 have hE4 : (imgWrite ws1 8 [7]).2 = 0 ∧ applyE ws1 (imgWrite ws1 8 [7]).1 = putBs ws1 8 [7] := by
  unfold aWrite at hwr
  by_cases h0 : (imgWrite ws1 8 [7]).2 = 0
  ·rw [if_pos h0] at hwr
   exact ⟨h0, (Prod.ext_iff.1 hwr).2⟩
  ·rw [if_neg h0] at hwr
   exact absurd (Prod.ext_iff.1 hwr).1 h0
 obtain ⟨g1, g2, g3⟩ := qhv (off := 8) (n := 0) (bs := [7]) (by unfold isI; omega) hw8 d5 d2 hE4.1 (by omega) (by omega)
 rw [hE4.2] at g3
 have hMR2 := MR.write (e1 := []) (e2 := []) (off := 8) (bs := [7]) d4' hw8 (by decide) (by decide)
 refine qdl (s := R1.1) (K := 4) (off := 8) (n := 0) (mask := 0) (x := ⟨some ⟨H16.size, 0, none⟩, 1, 1⟩) (bs := [7]) (d5.hok hA17 (by omega) (by omega)) (by unfold isI; omega) (by unfold isI; omega) (fun _ => ⟨hO17.rows (fun _ => rfl) (fun _ => rfl), hw8⟩) ?_
 intro H19 x19 hA19 f19 hO19
 generalize doH 4 0 3 2 R1.1 4 8 0 [7] = R2 at *
 rw [g1] at hO19 ⊢
 refine qbu (n := 3) rfl rfl rfl ?_
 have hAn4 : AnAt (H19.push ⟨anV 0 0 x19, .rw, 0⟩) H19.size 0 0 x19 := AnAt.new
 have hk20 : qa H19 (H19.push ⟨anV 0 0 x19, .rw, 0⟩) := (qa.refl H19).push _
 have hz20 : H19.size < (H19.push ⟨anV 0 0 x19, .rw, 0⟩).size := by simp [ql]
 have no4 : ¬ L.has H19.size := fun hh => by have := HA.lt hA19 hh; omega
 generalize hH20 : H19.push ⟨anV 0 0 x19, .rw, 0⟩ = H20 at *
 clear hH20
 have hs16 := hk16.1; have hs17 := hk17.1; have hs19 := f19.size; have hs20 := hk20.1
 have hAn3b : AnAt H20 H15.size 0 8 x15 := ((hAn3.keep (hk17.2 _ hz16)).keep (f19.out (by omega) no3)).keep (hk20.2 _ (by omega))
 have hA20 : HA H20 L 4 0 3 2 R2.1 := HAt.keeps hA19 hk20
 refine qdl (s := R2.1) (K := 3) (off := 8) (n := 2) (mask := 0) (x := ⟨none, 0, 0⟩) (bs := []) (g3.hok hA20 (by omega) (by omega)) (by unfold isI; omega) (by unfold isI; omega) (fun hh => by omega) ?_
 intro H22 x22 hA22 f22 hO22
 have hlen2 : (putBs ws1 8 [7]).length = ws1.length := qcI _ _ _
 have hMR2' := MR.self hMR2 (by rw [hlen2])
 have hrd : aRead (putBs ws1 8 [7]) 8 2 = ([7, 0], 0) := by
  rw [hMR2'.rd ⟨by decide, by decide, _, List.mem_cons_self .., by decide, by decide⟩]
  have hb := hMR2'.by8 _ (List.mem_cons_self ..)
  simp only at hb
  have h2 := qiw (ws := putBs ws1 8 [7]) (o := 8) (m := 8) (a := 0) (n := 2) (by omega)
  have hb' : bytesOf (putBs ws1 8 [7]) 8 8 = [7, 0, 0, 0, 0, 0, 0, 0] := by
   rw [show bytesOf (putBs ws1 8 [7]) 8 8 = bytesOf (putBs ws1 8 [7]) (((0 : Int).toNat + 1) * 8) (((2 : Int).toNat - 1) * 8) from rfl, ← hb]
   rfl
  rw [hb'] at h2
  show (bytesOf (putBs ws1 8 [7]) 8 2, (0 : Int)) = _
  rw [show (8 : Nat) = 8 + 0 from rfl, ← h2]; rfl
 rw [do_read g3 g2.up, hrd] at hA22 hO22 ⊢
 simp only [if_true] at hA22 hO22 ⊢
 refine qbu (n := 3) rfl rfl rfl ?_
 have hAn5 : AnAt (H22.push ⟨anV 0 0 x22, .rw, 0⟩) H22.size 0 0 x22 := AnAt.new
 have hk23 : qa H22 (H22.push ⟨anV 0 0 x22, .rw, 0⟩) := (qa.refl H22).push _
 have hz23 : H22.size < (H22.push ⟨anV 0 0 x22, .rw, 0⟩).size := by simp [ql]
 generalize hH23 : H22.push ⟨anV 0 0 x22, .rw, 0⟩ = H23 at *
 clear hH23
 have hs22 := f22.size
 have hAn3c : AnAt H23 H15.size 0 8 x15 := (hAn3b.keep (f22.out (by omega) no3)).keep (hk23.2 _ (by omega))
 have hAn4c : AnAt H23 H19.size 0 0 x19 := (hAn4.keep (f22.out hz20 no4)).keep (hk23.2 _ (by omega))
 rw [hAn3c.c0, qe, show ((0 : Int) == 0) = true from rfl, qf, hAn3c.c1, qe, show ((8 : Int) == 8) = true from rfl, qf, hAn4c.c0, qe, show ((0 : Int) == 0) = true from rfl, qf, hAn5.c2, qaw]
 have hO23 : Own H20.size H23 x22 1 bU [7, 0] := hO22.keep hk23.1 fun b _ hb => hk23.2 b hb
 refine own_str hO23 (fun v hv => by simp at hv; omega) ?_
 have hb : (ByteArray.toList ⟨List.toArray (([7, 0] : List Int).map fun v => UInt8.ofNat v.toNat)⟩ == ByteArray.toList ⟨#[7, 0]⟩) = true := by simp
 rw [hb, qf]
 have hA23 : HA H23 L 4 0 3 2 R2.1 := HAt.keeps hA22 hk23
 refine qd6.s hA23 ?_
 have hnw : wornB R2.1 = false := by cases hw : wornB R2.1 with | false => rfl | true => exact absurd (qc1.1 hw) g2.ns
 show bcase (!wornB R2.1) _ _
 rw [hnw, Bool.not_false, qf]
 refine qfg hA23 ?_
 intro x49 H49 hk49 hO49
 have hlenN := g3.pg
 have kk : qa H H49 := ((((f22.base ((f19.base ((kk15.trans hk16).trans hk17) lo).trans hk20) lo).trans hk23)).trans hk49)
 refine ⟨kk, ?_⟩
 rw [own_n hO49]
 have : (R2.1.now.length : Int) = 1 := hlenN
 rw [this]; rfl
end
section
variable {H H' H0 : AH} {L : Pl} {F F' : Nat → Prop} {w : Nat} {pa pb pc pd : Int} {s : HS} {ws : List Int} {root : Int} {mvb : Nat} {cb : Int}
theorem qi7 (h1 : 1 ≤ pa ∧ pa ≤ 24) (h2 : 0 ≤ pb ∧ pb ≤ 16) (h3 : 1 ≤ pc ∧ pc ≤ 30) (h4 : 1 ≤ pd ∧ pd ≤ 10) : mayP pa pb pc pd = true := qan.2 (by omega)
theorem qkN {o : Nat} {a b c d : Int} {e : Nat} {Q : List Value → AH → Prop} (hg : H.get o = ⟨pl a b c d, .rw, e⟩)
  (h : ∀ pa pb pc pd, 1 ≤ pa ∧ pa ≤ 24 → 0 ≤ pb ∧ pb ≤ 16 → 1 ≤ pc ∧ pc ≤ 30 → 1 ≤ pd ∧ pd ≤ 10 → Q (pl pa pb pc pd) (H.upd o ⟨pl pa pb pc pd, .rw, e⟩)) :
  elI .i64 (AH.cell? H (qle ⟨o, 0, none⟩ 0)) fun n18 => elI .i64 (AH.cell? H (qle ⟨o, 0, none⟩ 1)) fun n20 => elI .i64 (AH.cell? H (qle ⟨o, 0, none⟩ 2)) fun n22 => elI .i64 (AH.cell? H (qle ⟨o, 0, none⟩ 3)) fun n24 =>
   qbd n18 n20 n22 n24 H fun c25 H25 => (List.length c25 = 4 ∧ List.all c25 qq = true) ∧ stC H25 ⟨o, 0, none⟩ c25 fun Hs2 => ldA Hs2 ⟨o, 0, none⟩ 4 fun c27 => Q c27 Hs2 := by
 rw [qdA hg 0, qdA hg 1, qdA hg 2, qdA hg 3]
 refine ⟨a, rfl, b, rfl, c, rfl, d, rfl, ?_⟩
 refine qbd.s fun pa pb pc pd h1 h2 h3 h4 => ?_
 refine ⟨⟨rfl, rfl⟩, ?_⟩
 rw [qbr]
 refine ⟨⟨rfl, by rw [hg], by rw [hg]; simp [pl]⟩, ?_⟩
 have e1 : AH.put H ⟨o, 0, none⟩ (pl pa pb pc pd) = H.upd o ⟨pl pa pb pc pd, .rw, e⟩ := by
  simp only [AH.put, hg]; rfl
 rw [e1, qp (plg_row (e := e) (by rw [qW, if_pos rfl]))]
 exact h pa pb pc pd h1 h2 h3 h4
structure Bo (H0 H : AH) (L : Pl) (F : Nat → Prop) (w : Nat) (pa pb pc pd : Int) (s : HS) (ws : List Int) (root : Int) (mvb : Nat) (cb : Int) : Prop where
 k : qa H0 H
 ha : HA H L pa pb pc pd s
 hp : HP pa pb pc pd s ws root mvb cb
 lo : ∀ b, L.has b → H0.size ≤ b
 rm : RM F H w ws root
 fo : ∀ b, F b → H0.size ≤ b
 dj : ∀ b, L.has b → F b → False
theorem Bo.keeps (h : Bo H0 H L F w pa pb pc pd s ws root mvb cb) (hk : qa H H') : Bo H0 H' L F w pa pb pc pd s ws root mvb cb :=
 ⟨h.k.trans hk, HAt.keeps h.ha hk, h.hp, h.lo, h.rm.keeps hk, h.fo, h.dj⟩
theorem Bo.mono (h : Bo H0 H L F w pa pb pc pd s ws root mvb cb) {mvb' : Nat} {cb' : Int} (h1 : mvb ≤ mvb') (h2 : cb ≤ cb') : Bo H0 H L F w pa pb pc pd s ws root mvb' cb' :=
 ⟨h.k, h.ha, h.hp.mono h1 h2, h.lo, h.rm, h.fo, h.dj⟩
theorem Kp.base {G : Nat → Prop} (h : Kp G H H') (hk : qa H0 H) (lo : ∀ b, G b → H0.size ≤ b) : qa H0 H' :=
 ⟨Nat.le_trans hk.1 h.1, fun b hb => by rw [h.2 b (by have := hk.1; omega) (fun hh => by have := lo b hh; omega), hk.2 b hb]⟩
theorem do_side {K off n : Int} {bs : List Int} (hio : isI off) (h8 : qbO bs) (h : HP pa pb pc pd s ws root mvb cb) (hup : s.M.down = false) (hb : mvb + 2000 < 4611686018427387904) (hcb : cb + 100 < 4611686018427387904) :
  Side pa pb s (doH pa pb pc pd s K off n bs).1 := by
 unfold doH
 by_cases k1 : K = 1
 ·rw [if_pos k1]; exact (qfH h hup hb hcb).2.1
 rw [if_neg k1]
 by_cases k2 : K = 2
 ·rw [if_pos k2]; exact (qhJ h hup hb hcb).2.1
 rw [if_neg k2]
 by_cases k3 : K = 3
 ·rw [if_pos k3]; exact Side.refl s
 rw [if_neg k3]
 by_cases k4 : K = 4
 ·rw [if_pos k4]; exact (qfv h8 h hup hb hcb).2.1
 rw [if_neg k4]
 by_cases k5 : K = 5
 ·rw [if_pos k5]; exact (qf9 hio h hup).1
 rw [if_neg k5]
 by_cases k6 : K = 6
 ·rw [if_pos k6, if_neg (by simp [hup])]; exact Side.refl s
 ·rw [if_neg k6]; exact Side.refl s
theorem Bo.step {d : OpR} {k : Int → AH → Prop} (h : Bo H0 H L F w pa pb pc pd s ws root mvb cb) (hup : s.M.down = false) (hcut : s.M.cut = -1) (hb : mvb ≤ 1000000) (hcb : cb ≤ 1000000) (hd : opROK H0 d) (hsl : d.sl.n ≤ 500)
  (hk : ∀ H' F' ws' root', Bo H0 H' L F' w pa pb pc pd (doH pa pb pc pd s d.K d.off d.n d.bs).1 ws' root' (mvb + 40) (cb + 14) → (doH pa pb pc pd s d.K d.off d.n d.bs).1.M.down = false → (doH pa pb pc pd s d.K d.off d.n d.bs).1.M.cut = -1 → k 0 H') :
  qj (some ⟨L.h, 0, none⟩) (some ⟨w, 0, none⟩) (opRV d) H k := by
 have hrl := hd.rows.1
 have lo' : ∀ b, (L.has b ∨ F b) → H0.size ≤ b := fun b hb => hb.elim (h.lo b) (h.fo b)
 refine qfj h.ha h.hp hup hcut (by omega) (by omega) h.rm h.dj hd.off hd.n (hd.rows.keep h.k) (fun H' hkp => hd.rows.keep (hkp.base h.k lo')) hd.u8 (by omega) ?_
 intro H' F' ws' root' ha hp hup' hrm hdj hkp hF'
 have hs := do_side (K := d.K) (off := d.off) (n := d.n) (bs := d.bs) hd.off hd.u8 h.hp hup (by omega) (by omega)
 have hk1 := h.k.1
 exact hk H' F' ws' root' ⟨hkp.base h.k lo', ha, hp, h.lo, hrm, fun b hb => (hF' b hb).elim (h.fo b) (fun hh => by omega), hdj⟩ hup' (hs.cut hcut)
theorem Bo.start {F : Nat → Prop} (ha : HA H L pa pb pc pd s) (hp : HP pa pb pc pd s (firstN (8 * pa)) 0 mvb cb) (hk : qa H0 H) (lo : ∀ b, L.has b → H0.size ≤ b) (hk' : qa H H') (hu : Up (fun _ => False) H F H') (hr : RM F H' w (firstN (8 * pa)) 0) :
  Bo H0 H' L F w pa pb pc pd s (firstN (8 * pa)) 0 mvb cb :=
 ⟨hk.trans hk', HAt.keeps ha hk', hp, lo, hr, fun b hb => (hu.2 b hb).elim (fun h => h.elim) (fun h => by have := hk.1; omega), fun b h1 h2 => (hu.2 b h2).elim (fun h => h.elim) (fun h => by have := HA.lt ha h1; omega)⟩
end
section
variable {H H' H0 : AH} {L : Pl} {F : Nat → Prop} {w : Nat} {pa pb pc pd : Int} {s : HS} {ws : List Int} {root : Int} {mvb : Nat} {cb : Int}
def stepsL (x1 : Sl) (h m : Option Addr) (bad : AH → Prop) (E : Bool × Int → AH → Prop) (t9 : Bool × Int) (HL9 : AH) (it9 : (Bool × Int) → AH → Prop) : Prop :=
 bcase (decide ((t9.2 : Int) < ((x1.n : Nat) : Int))) ((0 ≤ t9.2 ∧ t9.2 < ((x1.n : Nat) : Int)) ∧ onPtr x1.a fun a51 => ldA HL9 (qle a51 (Int.toNat t9.2 * 5)) 5 fun c52 => newC HL9 ⟨[(qlc .i64 (0 : Int)), (qlc .i64 (0 : Int)), (qlc .i64 (0 : Int)), (qlc .i64 (0 : Int)), (Value.slice none 0 0)], .rw, 0⟩ fun o11 H11 => (List.length c52 = 5 ∧ List.all c52 qq = true) ∧ stC H11 ⟨o11, 0, none⟩ c52 fun Hs8 => ldA Hs8 ⟨o11, 0, none⟩ 5 fun c55 => qj h m c55 Hs8 fun n56 H56 => bcase ((n56 : Int) != (0 : Int)) (bad H56) (it9 (t9.1, (qld .i64 (t9.2 + (1 : Int)))) H56)) (E t9 HL9)
theorem qke {x1 : Sl} {l : List OpR} {bad : AH → Prop} {E : Bool × Int → AH → Prop} {J : HS → Prop} (h : Bo H0 H L F w pa pb pc pd s ws root mvb cb) (hup : s.M.down = false) (hcut : s.M.cut = -1) (hJ : J s)
  (hr : Abs.Rows H0 x1 5 opRV l) (hok : ∀ d ∈ l, opROK H0 d) (hsl : ∀ d ∈ l, d.sl.n ≤ 500) (hl : l.length ≤ 80) (hb : mvb ≤ 10000) (hcb : cb ≤ 10000)
  (hJs : ∀ s ws root mvb cb d, HP pa pb pc pd s ws root mvb cb → s.M.down = false → s.M.cut = -1 → mvb ≤ 100000 → cb ≤ 100000 → opROK H0 d → J s → J (doH pa pb pc pd s d.K d.off d.n d.bs).1)
  (hE : ∀ H' F' s' ws' root', Bo H0 H' L F' w pa pb pc pd s' ws' root' (mvb + 40 * l.length) (cb + 14 * l.length) → s'.M.down = false → s'.M.cut = -1 → J s' → E (false, (l.length : Int)) H') :
  loopT (stepsL x1 (some ⟨L.h, 0, none⟩) (some ⟨w, 0, none⟩) bad E) ((false, (0 : Int)) : Bool × Int) H := by
 refine qE (t := ((false, (0 : Int)) : Bool × Int)) (I := fun (t : Bool × Int) H' => ∃ (i : Nat) (F : Nat → Prop) (s : HS) (ws : List Int) (root : Int), t = (false, (i : Int)) ∧ i ≤ l.length ∧ Bo H0 H' L F w pa pb pc pd s ws root (mvb + 40 * i) (cb + 14 * i) ∧ s.M.down = false ∧ s.M.cut = -1 ∧ J s) (m := fun (t : Bool × Int) _ => Int.toNat ((l.length : Int) - t.2)) ?_
  ⟨0, F, s, ws, root, rfl, by omega, h.mono (by omega) (by omega), hup, hcut, hJ⟩
 rintro ⟨t1, t2⟩ H5 ⟨i, F, s, ws, root, e1, hi, hB, hup, hcut, hJ⟩ it hit
 injection e1 with e1 e2
 subst e1 e2
 unfold stepsL
 rw [hr.1]
 by_cases hlt : (i : Int) < (l.length : Int)
 rotate_left 1
 ·rw [decide_eq_false hlt, qc]
  have : i = l.length := by omega
  subst this
  exact hE H5 F s ws root hB hup hcut hJ
 rw [decide_eq_true hlt, qf]
 have hi' : i < l.length := by omega
 have hrK := hr.keep hB.k
 obtain ⟨b, o, ha, hb, hcells⟩ := qam hrK (by omega)
 refine ⟨by omega, ?_⟩
 rw [ha, qd, qlh, qp (hcells i _ (qlf hi')).1]
 have hd := hok _ (qls hi')
 have hdn := hsl _ (qls hi')
 generalize l[i] = d at *
 refine qbu (n := 5) rfl rfl rfl ?_
 have hO : OpAt (H5.push ⟨opRV d, .rw, 0⟩) H5.size d.K d.off d.n d.c d.sl := OpAt.new
 have hB6 := hB.keeps ((qa.refl H5).push ⟨opRV d, .rw, 0⟩)
 generalize H5.push ⟨opRV d, .rw, 0⟩ = H6 at *
 rw [qp hO.row]
 show qj _ _ (opRV d) _ _
 have hJ' := hJs s ws root _ _ d hB6.hp hup hcut (by omega) (by omega) hd hJ
 refine hB6.step hup hcut (by omega) (by omega) hd hdn ?_
 intro H53 F' ws' root' hB53 hup' hcut'
 generalize (doH pa pb pc pd s d.K d.off d.n d.bs).1 = s' at *
 rw [show ((0 : Int) != 0) = false from rfl, qc, qg (n := (i : Int) + 1) (by omega) (by omega)]
 exact hit _ _ ⟨i + 1, F', s', ws', root', by simp, by omega, hB53.mono (by omega) (by omega), hup', hcut', hJ'⟩ (by simp only; omega)
end
section
variable {H H' H0 : AH} {L : Pl} {pa pb pc pd : Int} {s : HS} {ws : List Int} {root : Int} {mvb : Nat} {cb : Int}
theorem do_down {K off n : Int} {bs : List Int} (hd : s.M.down = true) : doH pa pb pc pd s K off n bs = (s, if 1 ≤ K ∧ K ≤ 6 then 2 else 1, 0, []) := by
 have h2 : 1 ≤ K ∧ K ≤ 6 → (if 1 ≤ K ∧ K ≤ 6 then (2 : Int) else 1) = 2 := fun h => if_pos h
 unfold doH
 by_cases k1 : K = 1
 ·rw [if_pos k1, h2 (by omega)]; unfold allocH; rw [if_pos hd]; rfl
 rw [if_neg k1]
 by_cases k2 : K = 2
 ·rw [if_pos k2, h2 (by omega)]; unfold freeH; rw [if_pos hd]
 rw [if_neg k2]
 by_cases k3 : K = 3
 ·rw [if_pos k3, h2 (by omega)]; unfold readH; rw [if_pos hd]; rfl
 rw [if_neg k3]
 by_cases k4 : K = 4
 ·rw [if_pos k4, h2 (by omega)]; unfold writeH; rw [if_pos hd]
 rw [if_neg k4]
 by_cases k5 : K = 5
 ·rw [if_pos k5, h2 (by omega)]; unfold setRootH; rw [if_pos hd]
 rw [if_neg k5]
 by_cases k6 : K = 6
 ·rw [if_pos k6, h2 (by omega), if_pos hd]
 ·rw [if_neg k6, if_neg (by omega)]
theorem HP.same {M' : Mem} (h : HP pa pb pc pd s ws root mvb cb) (hup : s.M.down = false) (hc : M'.cs = s.M.cs) (hr : M'.regs = s.M.regs) (hd : M'.down = false) (hok : M'.ok) : HP pa pb pc pd { s with M := M' } ws root mvb cb := by
 have hm := qan.1 h.may
 have hrr : ∀ r, M'.regs.getD r 0 = s.M.regs.getD r 0 := fun r => by rw [hr]
 refine ⟨h.may, h.ps.low hc (fun r _ _ => hrr r) hok, h.sd.low (by omega) hc (fun r _ _ => hrr r) (by omega), h.ok, h.len, (hrr 2).trans h.rt, h.ru, h.pg, ⟨h.cp.kl, h.cp.ok, fun _ i hi => ?_, fun i hi => ?_⟩, fun hs => ?_, h.c0⟩
 ·rw [hrr]; exact h.cp.lag hup i hi
 ·rw [hrr]; exact h.cp.rg i hi
 ·have hs' : s.stuck := by
   rcases hs with hs | ⟨_, hs⟩
   ·exact .inl hs
   ·exact .inr ⟨hup, by unfold commits at hs ⊢; rw [← hrr]; exact hs⟩
  exact (h.wl hs').low (by rw [hc]) fun r _ _ => hrr r
theorem qkW {M : Mem} (hup : M.down = false) : (Mem.setCut M 0 0).set 34 5 = ((Mem.setCut M 0 0).wr, 2) := by
 have hc : (M.setCut 0 0).cut = 0 := rfl
 have hw : (M.setCut 0 0).wmask = 0 := by unfold Mem.wmask; rw [if_pos hc]; rfl
 unfold Mem.set
 rw [if_pos (by unfold regIn; omega), if_neg (by show ¬ (M.down = true); simp [hup]), hw, show mbit 0 0 = false from rfl]
 have : (M.setCut 0 0).wr.told false = 2 := by
  unfold Mem.told Mem.wr
  rw [if_pos hc]; rfl
 simp [this]
end
section
variable {H : AH}
theorem qo.t {x0 x1 x2 x3 : Int} {x4 x5 : Sl} {l l2 : List OpR} (_ : (Lit.int .i64 x0).wf = true) (_ : (Lit.int .i64 x1).wf = true) (_ : (Lit.int .i64 x2).wf = true) (_ : (Lit.int .i64 x3).wf = true)
  (hr : Abs.Rows H x4 5 opRV l) (hok : ∀ d ∈ l, opROK H d) (_ : l.length ≤ maxLen) (hr2 : Abs.Rows H x5 5 opRV l2) (hok2 : ∀ d ∈ l2, opROK H d) (_ : l2.length ≤ maxLen) : qo (pl x0 x1 x2 x3) x4 x5 H (fun r _ => r = true) := by
 refine qo.link ?_
 unfold qo.b
 rw [qv]
 have hk1 : qa H (H.push ⟨pl x0 x1 x2 x3, .rw, 0⟩) := (qa.refl H).push _
 have g1 : (H.push ⟨pl x0 x1 x2 x3, .rw, 0⟩).get H.size = ⟨pl x0 x1 x2 x3, .rw, 0⟩ := by rw [qs, if_pos rfl]
 have hz1 : H.size < (H.push ⟨pl x0 x1 x2 x3, .rw, 0⟩).size := by simp [ql]
 generalize H.push ⟨pl x0 x1 x2 x3, .rw, 0⟩ = H1 at *
 have tooMuch : ∀ v1 v2 : Int, 0 ≤ v1 → v1 ≤ 100 → 0 ≤ v2 → v2 ≤ 100 → 0 < v1 + v2 → decide (qld .i64 (v1 + v2) > 0) = true := fun v1 v2 h1 h2 h3 h4 h5 => by rw [qg (by omega) (by omega)]; exact decide_eq_true h5
 refine qA.b' (l := l) (hr.keep hk1) ?_ ?_
 rotate_left 1
 ·intro v hv hv2
  refine qA.b' (l := l2) (hr2.keep hk1) ?_ ?_
  ·intro _ _ _
   rw [tooMuch v 0 (by omega) hv2 (by omega) (by omega) (by omega), qf]
   exact qcO rfl
  ·intro v' hv' hv2'
   rw [tooMuch v v' (by omega) hv2 (by omega) hv2' (by omega), qf]
   exact qcO rfl
 intro hsl hl80 _
 refine qA.b' (l := l2) (hr2.keep hk1) ?_ ?_
 rotate_left 1
 ·intro v' hv' hv2'
  rw [tooMuch 0 v' (by omega) (by omega) (by omega) hv2' (by omega), qf]
  exact qcO rfl
 intro hsl2 hl280 _
 rw [show (decide (qld .i64 ((0 : Int) + 0) > 0)) = false from by decide, qc]
 refine qkN g1 ?_
 intro pa pb pc pd r1 r2 r3 r4
 have hmay := qi7 r1 r2 r3 r4
 have hk2 : qa H (H1.upd H.size ⟨pl pa pb pc pd, .rw, 0⟩) := hk1.upd (Nat.le_refl _) _
 have g2 : (H1.upd H.size ⟨pl pa pb pc pd, .rw, 0⟩).get H.size = ⟨pl pa pb pc pd, .rw, 0⟩ := by rw [qW, if_pos rfl]
 have hz2 : H.size < (H1.upd H.size ⟨pl pa pb pc pd, .rw, 0⟩).size := hz1
 generalize H1.upd H.size ⟨pl pa pb pc pd, .rw, 0⟩ = H2 at *
 refine qaY.s (limits := []) qdy hmay (fun h => absurd rfl h) ?_
 intro H29 L s hA hP hup hcut hns hnl hnow _ hlo hk29
 rw [qlC, qc]
 have g29 : H29.get H.size = ⟨pl pa pb pc pd, .rw, 0⟩ := by rw [hk29.2 _ hz2]; exact g2
 rw [qdA g29 0]
 show elI .i64 (some (.int .i64 pa)) _
 rw [qe, qg (n := pa * 8) (by omega) (by omega)]
 have hmw : mayW (pa * 8) := by unfold mayW; omega
 refine qa5.s (fun hn => absurd hmw hn) ?_
 intro _ F w H43 hk43 hu43 hR43
 rw [show pa * 8 = 8 * pa by omega] at hR43
 have hB0 : Bo H2 H43 L F w pa pb pc pd s (firstN (8 * pa)) 0 15 0 := Bo.start hA hP hk29 hlo hk43 hu43 hR43
 have hok' : ∀ d ∈ l, opROK H2 d := fun d hd => ⟨(hok d hd).off, (hok d hd).n, (hok d hd).rows.keep hk2, (hok d hd).u8⟩
 refine qke (E := qo.j5 x5 (fun r _ => r = true) H.size (some ⟨L.h, 0, none⟩) (some ⟨L.p, 0, none⟩) (some ⟨w, 0, none⟩)) (J := fun _ => True) hB0 hup hcut trivial (hr.keep hk2) hok' hsl hl80 (by omega) (by omega) (fun _ _ _ _ _ _ _ _ _ _ _ _ _ => trivial) ?_
 clear hA hP hup hcut hns hnl hnow hB0 hR43 hk43 hu43
 intro H5 F5 s ws root hB hup hcut _
 unfold qo.j5
 refine qbi.g (HAt.ga hB.ha).tn.l.m (by omega) ?_
 intro H61 hM61 f61
 refine qG.g hM61 (by unfold isU; omega) (qkW hup) ?_
 intro H63 hM63 f63
 have hcs2 : ((s.M.setCut 0 0).wr).cs = s.M.cs := rfl
 have hrg2 : ((s.M.setCut 0 0).wr).regs = s.M.regs := rfl
 have hdn2 : ((s.M.setCut 0 0).wr).down = true := rfl
 generalize (s.M.setCut 0 0).wr = M2 at *
 have hmv2 : M2.mv = s.M.mv := by unfold Mem.mv; rw [hrg2]
 have fr := Frh.of_frm (L := L) (f61.trans f63)
 have hA2 : HA H63 L pa pb pc pd { s with M := M2 } := HAt.mset hB.ha hM63 (f61.trans f63) (by rw [hcs2]) hmv2
 have hrr : ∀ r, M2.regs.getD r 0 = s.M.regs.getD r 0 := fun r => by rw [hrg2]
 have hps2 : PSt (16 + pa.toNat) pb.toNat pc.toNat M2 s.pt (15 + 40 * l.length) (16 + pa.toNat + 1 + pb.toNat) := hB.hp.ps.low hcs2 (fun r _ _ => hrr r) hM63.ok
 have hcl : ∀ j, j < s.now.length → s.now.getD j 0 ≤ 0 + 14 * (l.length : Int) := fun j hj => (hB.hp.cp.ok j hj).2.2
 have hk63 : qa H2 H63 := fr.base hB.k hB.lo
 have hR63 := hB.rm.frh fr hB.dj
 show loopT _ ((false, (0 : Int)) : Bool × Int) H63
 refine qE (t := ((false, (0 : Int)) : Bool × Int)) (I := fun (t : Bool × Int) H' => ∃ (i : Nat), t = (false, (i : Int)) ∧ i ≤ l2.length ∧ qa H2 H' ∧ HA H' L pa pb pc pd { s with M := M2 } ∧ RM F5 H' w ws root) (m := fun (t : Bool × Int) _ => Int.toNat ((l2.length : Int) - t.2)) ?_
  ⟨0, rfl, by omega, hk63, hA2, hR63⟩
 clear hA2 hk63 hR63
 rintro ⟨t1, t2⟩ H7 ⟨i, e1, hi, hk7, hA7, hR7⟩ it hit
 injection e1 with e1 e2
 subst e1 e2
 unfold qo.l4
 rw [hr2.1]
 by_cases hlt : (i : Int) < (l2.length : Int)
 rotate_left 1
 ·rw [decide_eq_false hlt, qc]
  unfold qo.j1
  have g7 : ∀ {H' : AH}, qa H7 H' → H'.get H.size = ⟨pl pa pb pc pd, .rw, 0⟩ := fun hk => by rw [(hk7.trans hk).2 _ hz2]; exact g2
  refine qdo.s hA7 (fun _ H107 hk107 => ?_) (fun hh => by rw [show ({ s with M := M2 } : HS).M.down = true from hdn2] at hh; cases hh)
  have hlen : (M2.cs.length : Int) = deviceP pa pb pc pd := by
   have := hps2.len
   unfold deviceP; rw [if_pos hmay]; omega
  rw [qp (plg_row (g7 hk107))]
  have hA107 : HA H107 L pa pb pc pd { s with M := M2 } := HAt.keeps hA7 hk107
  refine qag.dark (HAt.ga hA107).tn.l.m hmay hlen hdn2 ?_
  intro H113 hk113
  rw [qp (plg_row (g7 (hk107.trans hk113)))]
  have hA113 : HA H113 L pa pb pc pd { s with M := M2 } := HAt.keeps hA107 hk113
  refine qJ.dark (HAt.ga hA113).tn.l.m hmay hlen hdn2 ?_
  intro H118 hk118
  have hA118 : HA H118 L pa pb pc pd { s with M := M2 } := HAt.keeps hA113 hk118
  refine qa3.g (HAt.ga hA118).tn.l.m ?_
  intro H120 hM120 f120
  rw [show ((2 : Int) == 2) = true from rfl, qf, Option.isNone_none, qf, qf, qf]
  have hA120 : HA H120 L pa pb pc pd { s with M := M2.power } := HAt.mset hA118 hM120 f120 rfl rfl
  have hP120 : HP pa pb pc pd { s with M := M2.power } ws root (15 + 40 * l.length) (0 + 14 * (l.length : Int)) := hB.hp.same hup hcs2 hrg2 rfl hM120.ok
  have hR120 : RM F5 H120 w ws root := ((hR7.keeps hk107).keeps (hk113.trans hk118)).frh (Frh.of_frm f120) hB.dj
  refine qfi hA120 hP120 rfl (by omega) (by omega) hP120.ok hR120 hB.dj ?_
  intro H138 _ _
  rw [qjD, show ((0 : Int) == 0) = true from rfl, qf]
  exact qcO rfl
 rw [decide_eq_true hlt, qf]
 have hi' : i < l2.length := by omega
 have hrK := hr2.keep (hk2.trans hk7)
 obtain ⟨b, o, ha, hb, hcells⟩ := qam hrK (by omega)
 refine ⟨by omega, ?_⟩
 rw [ha, qd, qlh, qp (hcells i _ (qlf hi')).1]
 have hd := hok2 _ (qls hi')
 generalize l2[i] = d at *
 refine qbu (n := 5) rfl rfl rfl ?_
 have hO : OpAt (H7.push ⟨opRV d, .rw, 0⟩) H7.size d.K d.off d.n d.c d.sl := OpAt.new
 have hk8 : qa H7 (H7.push ⟨opRV d, .rw, 0⟩) := (qa.refl H7).push _
 have hz8 : H7.size < (H7.push ⟨opRV d, .rw, 0⟩).size := by simp [ql]
 generalize H7.push ⟨opRV d, .rw, 0⟩ = H8 at *
 rw [qp hO.row]
 have hno : ¬ L.has H7.size := fun hh => by have := HA.lt hA7 hh; omega
 have hA8 : HA H8 L pa pb pc pd { s with M := M2 } := HAt.keeps hA7 hk8
 have hHOK : HOK H8 L pa pb pc pd { s with M := M2 } (15 + 40 * l.length) (0 + 14 * (l.length : Int)) := ⟨hA8, hps2, by omega, hcl, by omega⟩
 refine qdl (K := d.K) (off := d.off) (n := d.n) (mask := d.c) (x := d.sl) (bs := d.bs) hHOK hd.off hd.n (fun _ => ⟨hd.rows.keep (hk2.trans (hk7.trans hk8)), hd.u8⟩) ?_
 rw [do_down (show ({ s with M := M2 } : HS).M.down = true from hdn2)]
 intro H72 x72 hA72 f72 hO72
 simp only at hA72 hO72 ⊢
 have hk72 : qa H2 H72 := f72.base (hk7.trans hk8) hB.lo
 have hR72 : RM F5 H72 w ws root := (hR7.keeps hk8).frh f72 hB.dj
 have hs72 := f72.size
 generalize he : (if 1 ≤ d.K ∧ d.K ≤ 6 then (2 : Int) else 1) = e at *
 refine qbu (n := 3) rfl rfl rfl ?_
 have hAn : AnAt (H72.push ⟨anV e 0 x72, .rw, 0⟩) H72.size e 0 x72 := AnAt.new
 have hk73 : qa H72 (H72.push ⟨anV e 0 x72, .rw, 0⟩) := (qa.refl H72).push _
 generalize H72.push ⟨anV e 0 x72, .rw, 0⟩ = H73 at *
 have hO73 : OpAt H73 H7.size d.K d.off d.n d.c d.sl := (hO.keep (f72.out hz8 hno)).keep (hk73.2 _ (by omega))
 have hOx : Own H8.size H73 x72 1 bU [] := hO72.keep hk73.1 fun b _ hb => hk73.2 b hb
 have go : it (false, qld .i64 ((i : Int) + 1)) H73 := by
  rw [qg (n := (i : Int) + 1) (by omega) (by omega)]
  exact hit _ _ ⟨i + 1, by simp, by omega, hk72.trans hk73, HAt.keeps hA72 hk73, hR72.keeps hk73⟩ (by simp only; omega)
 have j3 : ∀ x15 : Bool, x15 = decide (1 ≤ d.K ∧ d.K ≤ 6) → qo.j3 (fun r _ => r = true) (false, (i : Int)) it H72.size H73 x15 := by
  intro x15 hx
  unfold qo.j3
  rw [qp hAn.row, hAn.c0, qe]
  refine qab.s (cd := e) (m := 0) (cd2 := e) (m2 := 0) (s1 := x72) (s2 := ⟨none, 0, 0⟩) (l1 := []) (l2 := []) (hOx.rows (fun _ => rfl) (fun _ => rfl)) qdy (fun v hv => by cases hv) (fun v hv => by cases hv) ?_
  rw [decide_eq_true ⟨rfl, rfl, rfl⟩, Bool.not_true, qc]
  cases x15 with
  | true =>
   have h16 := of_decide_eq_true hx.symm
   rw [if_pos h16] at he
   rw [qf, hAn.c0, qe, ← he, show ((2 : Int) != 2) = false from rfl, qc, Bool.not_true, qc]
   unfold qo.j2
   rw [qc]
   exact go
  | false =>
   have h16 := of_decide_eq_false hx.symm
   rw [if_neg h16] at he
   rw [qc, Bool.not_false, qf, hAn.c0, qe, ← he, show ((1 : Int) != 1) = false from rfl]
   unfold qo.j2
   rw [qc]
   exact go
 rw [hO73.c0, qe]
 by_cases h1 : d.K ≥ 1
 ·rw [decide_eq_true h1, qf, qe]
  exact j3 _ (by by_cases h6 : d.K ≤ 6 <;> simp [h6] <;> omega)
 ·rw [decide_eq_false h1, qc]
  exact j3 _ (by simp; omega)
end
end Go.Proofs.YtemeclnpdpkfdaaGreat
