/- Lemmas for the law: an abstract machine, and what the functions do on it. No condition. -/
import Derived.Test.YtemeclnpdpkfdaaGreatGT13
set_option linter.all false
open Go.Value renaming int → qlk
open Go.Addr renaming add → qlm
open Int renaming toNat_natCast → qlp
open List renaming replicate → qlq
open Nat renaming le_refl → qlu
open Bool renaming not_true → qlA
open Go.Abs renaming Rows → qlC
open Option renaming isNone_some → qlG
set_option linter.all false
namespace Go.Proofs.YtemeclnpdpkfdaaGreat
open Go Go.Abs
section
variable {H H' H0 : AH} {L : Pl} {pa pb pc pd : Int} {s : HS} {ws : List Int} {root : Int} {mvb : Nat} {cb : Int}
theorem Frh.out {o : Nat} (f : Frh H H' L) (ho : o < H.size) (hn : ¬ L.has o) : H'.get o = H.get o :=
 f.get o ho (fun e => hn (by simp [Pl.has, e])) (fun e => hn (by simp [Pl.has, e])) (fun e => hn (by simp [Pl.has, e])) (fun e => hn (by simp [Pl.has, e])) (fun e => hn (by simp [Pl.has, e])) (fun e => hn (by simp [Pl.has, e]))
theorem HP.len8 (h : HP pa pb pc pd s (firstN (8 * pa)) root mvb cb) : mayW (8 * pa) := by
 have hm := qaf.1 h.may
 unfold mayW; omega
theorem qg3 {n off : Int} {bs : List Int} (h : HP pa pb pc pd s (firstN (8 * pa)) root mvb cb) (hf : FreeS s) (hn : 1 ≤ n ∧ n ≤ 448) (hfit : needN n ≤ 8 * pa) (hb : mvb + 2000 < 4611686018427387904) (hcb : cb + 100 < 4611686018427387904) :
  (doH pa pb pc pd s 1 off n bs).2 = (0, 8, []) ∧ FreeS (doH pa pb pc pd s 1 off n bs).1 ∧ ∃ ws1 tk, takesN (8 * pa) (needN n) = tk ∧ MR (8 * pa) [(0, tk, qlq ((tk.toNat - 1) * 8) 0)] ws1 ∧ HP pa pb pc pd (doH pa pb pc pd s 1 off n bs).1 ws1 root (mvb + 40) (cb + 14) := by
 obtain ⟨a1, a2, tk, a3, a4⟩ := qhR (cs := s.now) h.len8 hn hfit
 obtain ⟨c1, c2, c3, c4, c5⟩ := qeF (n := n) h hf.up hb hcb
 have hne : needN n ≠ 0 := by unfold needN; rw [if_pos hn]; omega
 obtain ⟨f1, f2, f3⟩ : FreeS (allocH pa pb pc pd s n).1 ∧ (allocH pa pb pc pd s n).2.1 ≠ 3 ∧ (allocH pa pb pc pd s n).2.1 ≠ 2 := by
  have := do_free (K := 1) (off := 0) (n := n) (bs := []) (by unfold isI; omega) (fun v hv => by cases hv) h hf hb hcb
  unfold doH at this
  rw [if_pos rfl] at this
  exact this
 have he : (allocH pa pb pc pd s n).2.1 = 0 := by
  rcases c1 with ⟨b, _⟩ | ⟨b, _⟩ | ⟨b, _⟩ | ⟨b, _⟩
  ·exact b
  ·exact absurd b f2
  ·rw [b, a1]
  ·exact absurd b f3
 obtain ⟨d1, d2, d3⟩ := c5 he
 have hP : HP pa pb pc pd (allocH pa pb pc pd s n).1 (applyE (firstN (8 * pa)) (imgAlloc (firstN (8 * pa)) n s.now).1) root (mvb + 40) (cb + 14) := by
  rcases c1 with ⟨_, _, _, _, b, _⟩ | ⟨b, _⟩ | ⟨_, b, c⟩ | ⟨b, _⟩
  ·exact b
  ·omega
  ·have := c a1
   rw [this, b]; exact h.mono (by omega) (by omega)
  ·omega
 have eD : doH pa pb pc pd s 1 off n bs = ((allocH pa pb pc pd s n).1, (allocH pa pb pc pd s n).2.1, (if (allocH pa pb pc pd s n).2.1 = 0 then (allocH pa pb pc pd s n).2.2 else 0), []) := by unfold doH; rw [if_pos rfl]
 rw [eD]
 refine ⟨?_, f1, _, tk, a3, a4, hP⟩
 simp only
 rw [if_pos he, he, d3, a2]
theorem qhD {off n : Int} {bs : List Int} (hio : isI off) (h8 : qbB bs) (h : HP pa pb pc pd s ws root mvb cb) (hf : FreeS s) (hE : (imgWrite ws off bs).2 = 0) (hb : mvb + 2000 < 4611686018427387904) (hcb : cb + 100 < 4611686018427387904) :
  (doH pa pb pc pd s 4 off n bs).2 = (0, 0, []) ∧ FreeS (doH pa pb pc pd s 4 off n bs).1 ∧ HP pa pb pc pd (doH pa pb pc pd s 4 off n bs).1 (applyE ws (imgWrite ws off bs).1) root (mvb + 40) (cb + 14) := by
 obtain ⟨f1, f2, f3⟩ := do_free (K := 4) (off := off) (n := n) (bs := bs) hio h8 h hf hb hcb
 obtain ⟨c1, _⟩ := qeG (off := off) (bs := bs) h8 h hf.up hb hcb
 have eD : doH pa pb pc pd s 4 off n bs = ((writeH pa pb pc pd s off bs).1, (writeH pa pb pc pd s off bs).2, 0, []) := by unfold doH; rw [if_neg (by omega), if_neg (by omega), if_neg (by omega), if_pos rfl]
 rw [eD] at f1 f2 f3 ⊢
 simp only at f1 f2 f3 ⊢
 rcases c1 with ⟨b, _, _, _, c, _⟩ | ⟨b, _⟩ | ⟨b, c, d⟩ | ⟨b, _⟩
 ·exact ⟨by rw [b], f1, c⟩
 ·exact absurd b f2
 ·refine ⟨by rw [b, hE], f1, ?_⟩
  have := d hE
  rw [this, c]; exact h.mono (by omega) (by omega)
 ·exact absurd b f3
theorem qcP {k : Bool → AH → Prop} (hk : k true H) : qbk H k := by
 refine gcB true (qbk.link (_u := ()) ?_) hk
 unfold qbk.b
 show qaZ (pl 4 0 3 2) ⟨none, 0, 0⟩ H _
 refine qaZ.s (limits := []) qev (by decide) (fun h => absurd rfl h) ?_
 intro H8 L s hA hP hup hcut hns hnl hnow _ hlo hk8
 have hf : FreeS s := ⟨hup, hcut, hnl rfl, hns⟩
 have lo : ∀ b, L.has b → H.size ≤ b := hlo
 rw [qlG, qa]
 obtain ⟨d1, d2, ws1, tk, d3, d4, d5⟩ := qg3 (off := 0) (bs := []) (n := 8) hP hf (by omega) (by decide) (by omega) (by omega)
 refine qdj (s := s) (K := 1) (off := 0) (n := 8) (mask := 0) (x := ⟨none, 0, 0⟩) (bs := []) (hP.hok hA (by omega) (by omega)) (by unfold isI; omega) (by unfold isI; omega) (fun hh => by omega) ?_
 intro H15 x15 hA15 f15 hO15
 have htk : tk = 2 := by rw [← d3]; decide
 subst htk
 generalize doH 4 0 3 2 s 1 0 8 [] = R1 at *
 rw [d1] at hO15 ⊢
 have kk15 : qc H H15 := f15.base hk8 lo
 refine qbC (n := 3) rfl rfl rfl ?_
 have hAn3 : AnAt (H15.push ⟨anV 0 8 x15, .rw, 0⟩) H15.size 0 8 x15 := AnAt.new
 have hk16 : qc H15 (H15.push ⟨anV 0 8 x15, .rw, 0⟩) := (qc.refl H15).push _
 have hz16 : H15.size < (H15.push ⟨anV 0 8 x15, .rw, 0⟩).size := by simp [qm]
 have no3 : ¬ L.has H15.size := fun hh => by have := HA.lt hA15 hh; omega
 generalize hH16 : H15.push ⟨anV 0 8 x15, .rw, 0⟩ = H16 at *
 clear hH16
 rw [qv]
 have hk17 : qc H16 (H16.push ⟨[(qlk .u8 (7 : Int))], .rw, 1⟩) := (qc.refl H16).push _
 have hO17 : Own 0 (H16.push ⟨[(qlk .u8 (7 : Int))], .rw, 1⟩) ⟨some ⟨H16.size, 0, none⟩, 1, 1⟩ 1 bU [7] := .inr ⟨H16.size, rfl, Nat.zero_le _, by simp [qm], by rw [qs, if_pos rfl]; rfl⟩
 generalize hH17 : H16.push ⟨[(qlk .u8 (7 : Int))], .rw, 1⟩ = H17 at *
 clear hH17
 have hA17 : HA H17 L 4 0 3 2 R1.1 := HAt.keeps (HAt.keeps hA15 hk16) hk17
 have hlen1 : (ws1.length : Int) = 32 := by have := d4.len; omega
 have d4' : MR ws1.length [((0 : Int), (2 : Int), qlq ((2 - 1) * 8) (0 : Int))] ws1 := MR.self d4 (by omega)
 have hw8 : qbB [7] := fun v hv => by simp at hv; omega
 have hwin : 0 ≤ (([7] : List Int).length : Int) ∧ (([7] : List Int).length : Int) ≤ 448 ∧ ∃ x ∈ [((0 : Int), (2 : Int), qlq ((2 - 1) * 8) (0 : Int))], (x.1 + 1) * 8 ≤ (8 : Int) ∧ 8 + (([7] : List Int).length : Int) ≤ (x.1 + x.2.1) * 8 := ⟨by decide, by decide, _, List.mem_cons_self .., by decide, by decide⟩
 have hwr := d4'.wr hwin
 have hE4 : (imgWrite ws1 8 [7]).2 = 0 ∧ applyE ws1 (imgWrite ws1 8 [7]).1 = putBs ws1 8 [7] := by
  unfold aWrite at hwr
  by_cases h0 : (imgWrite ws1 8 [7]).2 = 0
  ·rw [if_pos h0] at hwr
   exact ⟨h0, (Prod.ext_iff.1 hwr).2⟩
  ·rw [if_neg h0] at hwr
   exact absurd (Prod.ext_iff.1 hwr).1 h0
 obtain ⟨g1, g2, g3⟩ := qhD (off := 8) (n := 0) (bs := [7]) (by unfold isI; omega) hw8 d5 d2 hE4.1 (by omega) (by omega)
 rw [hE4.2] at g3
 have hMR2 := MR.write (e1 := []) (e2 := []) (off := 8) (bs := [7]) d4' hw8 (by decide) (by decide)
 refine qdj (s := R1.1) (K := 4) (off := 8) (n := 0) (mask := 0) (x := ⟨some ⟨H16.size, 0, none⟩, 1, 1⟩) (bs := [7]) (d5.hok hA17 (by omega) (by omega)) (by unfold isI; omega) (by unfold isI; omega) (fun _ => ⟨hO17.rows (fun _ => rfl) (fun _ => rfl), hw8⟩) ?_
 intro H19 x19 hA19 f19 hO19
 generalize doH 4 0 3 2 R1.1 4 8 0 [7] = R2 at *
 rw [g1] at hO19 ⊢
 refine qbC (n := 3) rfl rfl rfl ?_
 have hAn4 : AnAt (H19.push ⟨anV 0 0 x19, .rw, 0⟩) H19.size 0 0 x19 := AnAt.new
 have hk20 : qc H19 (H19.push ⟨anV 0 0 x19, .rw, 0⟩) := (qc.refl H19).push _
 have hz20 : H19.size < (H19.push ⟨anV 0 0 x19, .rw, 0⟩).size := by simp [qm]
 have no4 : ¬ L.has H19.size := fun hh => by have := HA.lt hA19 hh; omega
 generalize hH20 : H19.push ⟨anV 0 0 x19, .rw, 0⟩ = H20 at *
 clear hH20
 have hs16 := hk16.1; have hs17 := hk17.1; have hs19 := f19.size; have hs20 := hk20.1
 have hAn3b : AnAt H20 H15.size 0 8 x15 := ((hAn3.keep (hk17.2 _ hz16)).keep (f19.out (by omega) no3)).keep (hk20.2 _ (by omega))
 have hA20 : HA H20 L 4 0 3 2 R2.1 := HAt.keeps hA19 hk20
 refine qdj (s := R2.1) (K := 3) (off := 8) (n := 2) (mask := 0) (x := ⟨none, 0, 0⟩) (bs := []) (g3.hok hA20 (by omega) (by omega)) (by unfold isI; omega) (by unfold isI; omega) (fun hh => by omega) ?_
 intro H22 x22 hA22 f22 hO22
 have hlen2 : (putBs ws1 8 [7]).length = ws1.length := qcK _ _ _
 have hMR2' := MR.self hMR2 (by rw [hlen2])
 have hrd : aRead (putBs ws1 8 [7]) 8 2 = ([7, 0], 0) := by
  rw [hMR2'.rd ⟨by decide, by decide, _, List.mem_cons_self .., by decide, by decide⟩]
  have hb := hMR2'.by8 _ (List.mem_cons_self ..)
  simp only at hb
  have h2 := qik (ws := putBs ws1 8 [7]) (o := 8) (m := 8) (a := 0) (n := 2) (by omega)
  have hb' : bytesOf (putBs ws1 8 [7]) 8 8 = [7, 0, 0, 0, 0, 0, 0, 0] := by
   rw [show bytesOf (putBs ws1 8 [7]) 8 8 = bytesOf (putBs ws1 8 [7]) (((0 : Int).toNat + 1) * 8) (((2 : Int).toNat - 1) * 8) from rfl, ← hb]
   rfl
  rw [hb'] at h2
  show (bytesOf (putBs ws1 8 [7]) 8 2, (0 : Int)) = _
  rw [show (8 : Nat) = 8 + 0 from rfl, ← h2]; rfl
 rw [do_read g3 g2.up, hrd] at hA22 hO22 ⊢
 simp only [if_true] at hA22 hO22 ⊢
 refine qbC (n := 3) rfl rfl rfl ?_
 have hAn5 : AnAt (H22.push ⟨anV 0 0 x22, .rw, 0⟩) H22.size 0 0 x22 := AnAt.new
 have hk23 : qc H22 (H22.push ⟨anV 0 0 x22, .rw, 0⟩) := (qc.refl H22).push _
 have hz23 : H22.size < (H22.push ⟨anV 0 0 x22, .rw, 0⟩).size := by simp [qm]
 generalize hH23 : H22.push ⟨anV 0 0 x22, .rw, 0⟩ = H23 at *
 clear hH23
 have hs22 := f22.size
 have hAn3c : AnAt H23 H15.size 0 8 x15 := (hAn3b.keep (f22.out (by omega) no3)).keep (hk23.2 _ (by omega))
 have hAn4c : AnAt H23 H19.size 0 0 x19 := (hAn4.keep (f22.out hz20 no4)).keep (hk23.2 _ (by omega))
 rw [hAn3c.c0, qe, show ((0 : Int) == 0) = true from rfl, qf, hAn3c.c1, qe, show ((8 : Int) == 8) = true from rfl, qf, hAn4c.c0, qe, show ((0 : Int) == 0) = true from rfl, qf, hAn5.c2, qat]
 have hO23 : Own H20.size H23 x22 1 bU [7, 0] := hO22.keep hk23.1 fun b _ hb => hk23.2 b hb
 refine own_str hO23 (fun v hv => by simp at hv; omega) ?_
 have hb : (ByteArray.toList ⟨List.toArray (([7, 0] : List Int).map fun v => UInt8.ofNat v.toNat)⟩ == ByteArray.toList ⟨#[7, 0]⟩) = true := by simp
 rw [hb, qf]
 have hA23 : HA H23 L 4 0 3 2 R2.1 := HAt.keeps hA22 hk23
 refine qec.s hA23 ?_
 have hnw : wornB R2.1 = false := by cases hw : wornB R2.1 with | false => rfl | true => exact absurd (qc3.1 hw) g2.ns
 show bcase (!wornB R2.1) _ _
 rw [hnw, Bool.not_false, qf]
 refine qdb hA23 ?_
 intro x49 H49 hk49 hO49
 have hlenN := g3.pg
 have kk : qc H H49 := ((((f22.base ((f19.base ((kk15.trans hk16).trans hk17) lo).trans hk20) lo).trans hk23)).trans hk49)
 refine ⟨kk, ?_⟩
 rw [own_n hO49]
 have : (R2.1.now.length : Int) = 1 := hlenN
 rw [this]; rfl
end
section
variable {H H' H0 : AH} {L : Pl} {F F' : Nat → Prop} {w : Nat} {pa pb pc pd : Int} {s : HS} {ws : List Int} {root : Int} {mvb : Nat} {cb : Int}
theorem qjB (h1 : 1 ≤ pa ∧ pa ≤ 24) (h2 : 0 ≤ pb ∧ pb ≤ 16) (h3 : 1 ≤ pc ∧ pc ≤ 30) (h4 : 1 ≤ pd ∧ pd ≤ 10) : mayP pa pb pc pd = true := qaf.2 (by omega)
theorem qkM {o : Nat} {a b c d : Int} {e : Nat} {Q : List Value → AH → Prop} (hg : H.get o = ⟨pl a b c d, .rw, e⟩)
  (h : ∀ pa pb pc pd, 1 ≤ pa ∧ pa ≤ 24 → 0 ≤ pb ∧ pb ≤ 16 → 1 ≤ pc ∧ pc ≤ 30 → 1 ≤ pd ∧ pd ≤ 10 → Q (pl pa pb pc pd) (H.upd o ⟨pl pa pb pc pd, .rw, e⟩)) :
  elI .i64 (AH.cell? H (qlm ⟨o, 0, none⟩ 0)) fun n18 => elI .i64 (AH.cell? H (qlm ⟨o, 0, none⟩ 1)) fun n20 => elI .i64 (AH.cell? H (qlm ⟨o, 0, none⟩ 2)) fun n22 => elI .i64 (AH.cell? H (qlm ⟨o, 0, none⟩ 3)) fun n24 =>
   qbg n18 n20 n22 n24 H fun c25 H25 => (List.length c25 = 4 ∧ List.all c25 qq = true) ∧ stC H25 ⟨o, 0, none⟩ c25 fun Hs2 => ldA Hs2 ⟨o, 0, none⟩ 4 fun c27 => Q c27 Hs2 := by
 rw [qdD hg 0, qdD hg 1, qdD hg 2, qdD hg 3]
 refine ⟨a, rfl, b, rfl, c, rfl, d, rfl, ?_⟩
 refine qbg.s fun pa pb pc pd h1 h2 h3 h4 => ?_
 refine ⟨⟨rfl, rfl⟩, ?_⟩
 rw [qbu]
 refine ⟨⟨rfl, by rw [hg], by rw [hg]; simp [pl]⟩, ?_⟩
 have e1 : AH.put H ⟨o, 0, none⟩ (pl pa pb pc pd) = H.upd o ⟨pl pa pb pc pd, .rw, e⟩ := by
  simp only [AH.put, hg]; rfl
 rw [e1, qp (plg_row (e := e) (by rw [qT, if_pos rfl]))]
 exact h pa pb pc pd h1 h2 h3 h4
structure Bo (H0 H : AH) (L : Pl) (F : Nat → Prop) (w : Nat) (pa pb pc pd : Int) (s : HS) (ws : List Int) (root : Int) (mvb : Nat) (cb : Int) : Prop where
 k : qc H0 H
 ha : HA H L pa pb pc pd s
 hp : HP pa pb pc pd s ws root mvb cb
 lo : ∀ b, L.has b → H0.size ≤ b
 rm : RM F H w ws root
 fo : ∀ b, F b → H0.size ≤ b
 dj : ∀ b, L.has b → F b → False
theorem Bo.keeps (h : Bo H0 H L F w pa pb pc pd s ws root mvb cb) (hk : qc H H') : Bo H0 H' L F w pa pb pc pd s ws root mvb cb :=
 ⟨h.k.trans hk, HAt.keeps h.ha hk, h.hp, h.lo, h.rm.keeps hk, h.fo, h.dj⟩
theorem Bo.mono (h : Bo H0 H L F w pa pb pc pd s ws root mvb cb) {mvb' : Nat} {cb' : Int} (h1 : mvb ≤ mvb') (h2 : cb ≤ cb') : Bo H0 H L F w pa pb pc pd s ws root mvb' cb' :=
 ⟨h.k, h.ha, h.hp.mono h1 h2, h.lo, h.rm, h.fo, h.dj⟩
theorem Kp.base {G : Nat → Prop} (h : Kp G H H') (hk : qc H0 H) (lo : ∀ b, G b → H0.size ≤ b) : qc H0 H' :=
 ⟨Nat.le_trans hk.1 h.1, fun b hb => by rw [h.2 b (by have := hk.1; omega) (fun hh => by have := lo b hh; omega), hk.2 b hb]⟩
theorem do_side {K off n : Int} {bs : List Int} (hio : isI off) (h8 : qbB bs) (h : HP pa pb pc pd s ws root mvb cb) (hup : s.M.down = false) (hb : mvb + 2000 < 4611686018427387904) (hcb : cb + 100 < 4611686018427387904) :
  Side pa pb s (doH pa pb pc pd s K off n bs).1 := by
 unfold doH
 by_cases k1 : K = 1
 ·rw [if_pos k1]; exact (qeF h hup hb hcb).2.1
 rw [if_neg k1]
 by_cases k2 : K = 2
 ·rw [if_pos k2]; exact (qgf h hup hb hcb).2.1
 rw [if_neg k2]
 by_cases k3 : K = 3
 ·rw [if_pos k3]; exact Side.refl s
 rw [if_neg k3]
 by_cases k4 : K = 4
 ·rw [if_pos k4]; exact (qeG h8 h hup hb hcb).2.1
 rw [if_neg k4]
 by_cases k5 : K = 5
 ·rw [if_pos k5]; exact (qfk hio h hup).1
 rw [if_neg k5]
 by_cases k6 : K = 6
 ·rw [if_pos k6, if_neg (by simp [hup])]; exact Side.refl s
 ·rw [if_neg k6]; exact Side.refl s
theorem Bo.step {d : OpR} {k : Int → AH → Prop} (h : Bo H0 H L F w pa pb pc pd s ws root mvb cb) (hup : s.M.down = false) (hcut : s.M.cut = -1) (hb : mvb ≤ 1000000) (hcb : cb ≤ 1000000) (hd : opROK H0 d) (hsl : d.sl.n ≤ 500)
  (hk : ∀ H' F' ws' root', Bo H0 H' L F' w pa pb pc pd (doH pa pb pc pd s d.K d.off d.n d.bs).1 ws' root' (mvb + 40) (cb + 14) → (doH pa pb pc pd s d.K d.off d.n d.bs).1.M.down = false → (doH pa pb pc pd s d.K d.off d.n d.bs).1.M.cut = -1 → k 0 H') :
  ql (some ⟨L.h, 0, none⟩) (some ⟨w, 0, none⟩) (opRV d) H k := by
 have hrl := hd.rows.1
 have lo' : ∀ b, (L.has b ∨ F b) → H0.size ≤ b := fun b hb => hb.elim (h.lo b) (h.fo b)
 refine qfs h.ha h.hp hup hcut (by omega) (by omega) h.rm h.dj hd.off hd.n (hd.rows.keep h.k) (fun H' hkp => hd.rows.keep (hkp.base h.k lo')) hd.u8 (by omega) ?_
 intro H' F' ws' root' ha hp hup' hrm hdj hkp hF'
 have hs := do_side (K := d.K) (off := d.off) (n := d.n) (bs := d.bs) hd.off hd.u8 h.hp hup (by omega) (by omega)
 have hk1 := h.k.1
 exact hk H' F' ws' root' ⟨hkp.base h.k lo', ha, hp, h.lo, hrm, fun b hb => (hF' b hb).elim (h.fo b) (fun hh => by omega), hdj⟩ hup' (hs.cut hcut)
theorem Bo.start {F : Nat → Prop} (ha : HA H L pa pb pc pd s) (hp : HP pa pb pc pd s (firstN (8 * pa)) 0 mvb cb) (hk : qc H0 H) (lo : ∀ b, L.has b → H0.size ≤ b) (hk' : qc H H') (hu : Up (fun _ => False) H F H') (hr : RM F H' w (firstN (8 * pa)) 0) :
  Bo H0 H' L F w pa pb pc pd s (firstN (8 * pa)) 0 mvb cb :=
 ⟨hk.trans hk', HAt.keeps ha hk', hp, lo, hr, fun b hb => (hu.2 b hb).elim (fun h => h.elim) (fun h => by have := hk.1; omega), fun b h1 h2 => (hu.2 b h2).elim (fun h => h.elim) (fun h => by have := HA.lt ha h1; omega)⟩
end
section
variable {H H' H0 : AH} {L : Pl} {F : Nat → Prop} {w : Nat} {pa pb pc pd : Int} {s : HS} {ws : List Int} {root : Int} {mvb : Nat} {cb : Int}
def stepsL (x1 : Sl) (h m : Option Addr) (bad : AH → Prop) (E : Bool × Int → AH → Prop) (t9 : Bool × Int) (HL9 : AH) (it9 : (Bool × Int) → AH → Prop) : Prop :=
 bcase (decide ((t9.2 : Int) < ((x1.n : Nat) : Int))) ((0 ≤ t9.2 ∧ t9.2 < ((x1.n : Nat) : Int)) ∧ onPtr x1.a fun a51 => ldA HL9 (qlm a51 (Int.toNat t9.2 * 5)) 5 fun c52 => newC HL9 ⟨[(qlk .i64 (0 : Int)), (qlk .i64 (0 : Int)), (qlk .i64 (0 : Int)), (qlk .i64 (0 : Int)), (Value.slice none 0 0)], .rw, 0⟩ fun o11 H11 => (List.length c52 = 5 ∧ List.all c52 qq = true) ∧ stC H11 ⟨o11, 0, none⟩ c52 fun Hs8 => ldA Hs8 ⟨o11, 0, none⟩ 5 fun c55 => ql h m c55 Hs8 fun n56 H56 => bcase ((n56 : Int) != (0 : Int)) (bad H56) (it9 (t9.1, (IntKind.wrap .i64 (t9.2 + (1 : Int)))) H56)) (E t9 HL9)
theorem qjX {x1 : Sl} {l : List OpR} {bad : AH → Prop} {E : Bool × Int → AH → Prop} {J : HS → Prop} (h : Bo H0 H L F w pa pb pc pd s ws root mvb cb) (hup : s.M.down = false) (hcut : s.M.cut = -1) (hJ : J s)
  (hr : qlC H0 x1 5 opRV l) (hok : ∀ d ∈ l, opROK H0 d) (hsl : ∀ d ∈ l, d.sl.n ≤ 500) (hl : l.length ≤ 80) (hb : mvb ≤ 10000) (hcb : cb ≤ 10000)
  (hJs : ∀ s ws root mvb cb d, HP pa pb pc pd s ws root mvb cb → s.M.down = false → s.M.cut = -1 → mvb ≤ 100000 → cb ≤ 100000 → opROK H0 d → J s → J (doH pa pb pc pd s d.K d.off d.n d.bs).1)
  (hE : ∀ H' F' s' ws' root', Bo H0 H' L F' w pa pb pc pd s' ws' root' (mvb + 40 * l.length) (cb + 14 * l.length) → s'.M.down = false → s'.M.cut = -1 → J s' → E (false, (l.length : Int)) H') :
  loopT (stepsL x1 (some ⟨L.h, 0, none⟩) (some ⟨w, 0, none⟩) bad E) ((false, (0 : Int)) : Bool × Int) H := by
 refine qE (t := ((false, (0 : Int)) : Bool × Int)) (I := fun (t : Bool × Int) H' => ∃ (i : Nat) (F : Nat → Prop) (s : HS) (ws : List Int) (root : Int), t = (false, (i : Int)) ∧ i ≤ l.length ∧ Bo H0 H' L F w pa pb pc pd s ws root (mvb + 40 * i) (cb + 14 * i) ∧ s.M.down = false ∧ s.M.cut = -1 ∧ J s) (m := fun (t : Bool × Int) _ => Int.toNat ((l.length : Int) - t.2)) ?_
  ⟨0, F, s, ws, root, rfl, by omega, h.mono (by omega) (by omega), hup, hcut, hJ⟩
 rintro ⟨t1, t2⟩ H5 ⟨i, F, s, ws, root, e1, hi, hB, hup, hcut, hJ⟩ it hit
 injection e1 with e1 e2
 subst e1 e2
 unfold stepsL
 rw [hr.1]
 by_cases hlt : (i : Int) < (l.length : Int)
 rotate_left 1
 ·rw [decide_eq_false hlt, qa]
  have : i = l.length := by omega
  subst this
  exact hE H5 F s ws root hB hup hcut hJ
 rw [decide_eq_true hlt, qf]
 have hi' : i < l.length := by omega
 have hrK := hr.keep hB.k
 obtain ⟨b, o, ha, hb, hcells⟩ := qam hrK (by omega)
 refine ⟨by omega, ?_⟩
 rw [ha, qd, qlp, qp (hcells i _ (List.getElem?_eq_getElem hi')).1]
 have hd := hok _ (List.getElem_mem hi')
 have hdn := hsl _ (List.getElem_mem hi')
 generalize l[i] = d at *
 refine qbC (n := 5) rfl rfl rfl ?_
 have hO : OpAt (H5.push ⟨opRV d, .rw, 0⟩) H5.size d.K d.off d.n d.c d.sl := OpAt.new
 have hB6 := hB.keeps ((qc.refl H5).push ⟨opRV d, .rw, 0⟩)
 generalize H5.push ⟨opRV d, .rw, 0⟩ = H6 at *
 rw [qp hO.row]
 show ql _ _ (opRV d) _ _
 have hJ' := hJs s ws root _ _ d hB6.hp hup hcut (by omega) (by omega) hd hJ
 refine hB6.step hup hcut (by omega) (by omega) hd hdn ?_
 intro H53 F' ws' root' hB53 hup' hcut'
 generalize (doH pa pb pc pd s d.K d.off d.n d.bs).1 = s' at *
 rw [show ((0 : Int) != 0) = false from rfl, qa, qg (n := (i : Int) + 1) (by omega) (by omega)]
 exact hit _ _ ⟨i + 1, F', s', ws', root', by simp, by omega, hB53.mono (by omega) (by omega), hup', hcut', hJ'⟩ (by simp only; omega)
end
section
variable {H H' H0 : AH} {L : Pl} {pa pb pc pd : Int} {s : HS} {ws : List Int} {root : Int} {mvb : Nat} {cb : Int}
theorem HP.same {M' : Mem} (h : HP pa pb pc pd s ws root mvb cb) (hup : s.M.down = false) (hc : M'.cs = s.M.cs) (hr : M'.regs = s.M.regs) (hd : M'.down = false) (hok : M'.ok) : HP pa pb pc pd { s with M := M' } ws root mvb cb := by
 have hm := qaf.1 h.may
 have hrr : ∀ r, M'.regs.getD r 0 = s.M.regs.getD r 0 := fun r => by rw [hr]
 refine ⟨h.may, h.ps.low hc (fun r _ _ => hrr r) hok, h.sd.low (by omega) hc (fun r _ _ => hrr r) (by omega), h.ok, h.len, (hrr 2).trans h.rt, h.ru, h.pg, ⟨h.cp.kl, h.cp.ok, fun _ i hi => ?_, fun i hi => ?_⟩, fun hs => ?_, h.c0⟩
 ·rw [hrr]; exact h.cp.lag hup i hi
 ·rw [hrr]; exact h.cp.rg i hi
 ·have hs' : s.stuck := by
   rcases hs with hs | ⟨_, hs⟩
   ·exact .inl hs
   ·exact .inr ⟨hup, by unfold commits at hs ⊢; rw [← hrr]; exact hs⟩
  exact (h.wl hs').low (by rw [hc]) fun r _ _ => hrr r
end
def nextW (ws : List Int) (root : Int) (now : List Int) (K off n : Int) (bs : List Int) : List Int × Int :=
 if K = 1 then (if (imgAlloc ws n now).2.2 = 0 then applyE ws (imgAlloc ws n now).1 else ws, root)
 else if K = 2 then ((aFree ws root off).2, root)
 else if K = 4 then ((aWrite ws off bs).2, root)
 else if K = 5 then (ws, (aRoot ws root off).2)
 else (ws, root)
section
variable {H H' H0 : AH} {L L2 : Pl} {pa pb pc pd : Int} {s s2 : HS} {M : Mem} {ws : List Int} {root : Int} {mvb : Nat} {cb : Int}
theorem qie {off : Int} : aFree ws root off = (errFree ws root off, if errFree ws root off = 0 then applyE ws (imgFree ws off).1 else ws) := by
 unfold aFree errFree
 by_cases h0 : (imgFree ws off).2 ≠ 0
 ·rw [if_pos h0, if_pos h0, if_neg h0]
 ·rw [if_neg h0, if_neg h0]
  by_cases hr : root = off
  ·rw [if_pos hr, if_pos hr]; rfl
  ·rw [if_neg hr, if_neg hr]; rfl
theorem qkK {K off n : Int} {bs now : List Int} (hok : Ok ws) (h8 : qbB bs) : Ok (nextW ws root now K off n bs).1 := by
 unfold nextW
 split
 ·simp only
  split
  ·rename_i h; exact (qdN hok h).1
  ·exact hok
 split
 ·rw [qie]
  simp only
  split
  ·rename_i h
   have hne2 : (imgFree ws off).2 = 0 := by
    unfold errFree at h
    by_cases hx0 : (imgFree ws off).2 ≠ 0
    ·rw [if_pos hx0] at h; exact absurd h hx0
    ·exact Decidable.not_not.1 hx0
   exact (qeK hok hne2).1
  ·exact hok
 split
 ·unfold aWrite
  split
  ·rename_i h; exact (qe6 hok h8 h).1
  ·exact hok
 split
 ·exact hok
 ·exact hok
theorem qfv {err e : Int} {E : List (Int × Int)} {s' : HS} (h : HP pa pb pc pd s ws root mvb cb) (c : ChOut pa pb pc pd s ws root mvb cb err E s' e) :
  ∃ W, MP pa pb pc pd s'.M W root (mvb + 40) (cb + 14) ∧ (W = ws ∨ W = if err = 0 then applyE ws E else ws) ∧ (e = 0 → W = if err = 0 then applyE ws E else ws) ∧ (e ≠ 0 → e ≠ 2 → W = ws) := by
 rcases c with ⟨a, b, _, _, c, _, _⟩ | ⟨a, _, c, _⟩ | ⟨a, b, c⟩ | ⟨a, b, _, _, _, c⟩
 ·exact ⟨_, c.mp, .inr (by rw [if_pos b]), fun _ => by rw [if_pos b], fun hh => absurd a hh⟩
 ·exact ⟨_, c.mp, .inl rfl, fun hh => by omega, fun _ _ => rfl⟩
 ·refine ⟨ws, by rw [b]; exact (h.mono (by omega) (by omega)).mp, .inl rfl, fun hh => ?_, fun _ _ => rfl⟩
  have h0 : err = 0 := a.symm.trans hh
  rw [if_pos h0, c h0]; rfl
 ·rcases c with c | c
  ·exact ⟨_, c.mp, .inl rfl, fun hh => by omega, fun _ hh => absurd a hh⟩
  ·exact ⟨_, c.mp, .inr (by rw [if_pos b]), fun hh => by omega, fun _ hh => absurd a hh⟩
theorem cut_out {K off n : Int} {bs : List Int} (hio : isI off) (h8 : qbB bs) (h : HP pa pb pc pd s ws root mvb cb) (hup : s.M.down = false) (hb : mvb + 2000 < 4611686018427387904) (hcb : cb + 100 < 4611686018427387904) :
  ∃ W, MP pa pb pc pd (doH pa pb pc pd s K off n bs).1.M W.1 W.2 (mvb + 40) (cb + 14) ∧ (W = (ws, root) ∨ W = nextW ws root s.now K off n bs) ∧
   ((doH pa pb pc pd s K off n bs).2.1 = 0 → W = nextW ws root s.now K off n bs) ∧ ((doH pa pb pc pd s K off n bs).2.1 ≠ 0 → (doH pa pb pc pd s K off n bs).2.1 ≠ 2 → W = (ws, root)) := by
 have h' : MP pa pb pc pd s.M ws root (mvb + 40) (cb + 14) := (h.mono (by omega) (by omega)).mp
 unfold doH nextW
 by_cases k1 : K = 1
 ·rw [if_pos k1, if_pos k1]
  obtain ⟨W, w1, w2, w3, w4⟩ := qfv h (qeF (n := n) h hup hb hcb).1
  exact ⟨(W, root), w1, w2.imp (fun e => by rw [e]) (fun e => by rw [e]), fun e => by rw [w3 e], fun e e' => by rw [w4 e e']⟩
 rw [if_neg k1, if_neg k1]
 by_cases k2 : K = 2
 ·rw [if_pos k2, if_pos k2, qie]
  obtain ⟨W, w1, w2, w3, w4⟩ := qfv h (qgf (off := off) h hup hb hcb).1
  exact ⟨(W, root), w1, w2.imp (fun e => by rw [e]) (fun e => by rw [e]), fun e => by rw [w3 e], fun e e' => by rw [w4 e e']⟩
 rw [if_neg k2, if_neg k2]
 by_cases k3 : K = 3
 ·rw [if_pos k3, if_neg (show ¬ K = 4 by omega), if_neg (show ¬ K = 5 by omega)]
  exact ⟨(ws, root), h', .inl rfl, fun _ => rfl, fun _ _ => rfl⟩
 rw [if_neg k3]
 by_cases k4 : K = 4
 ·rw [if_pos k4, if_pos k4]
  have eW : (aWrite ws off bs).2 = if (imgWrite ws off bs).2 = 0 then applyE ws (imgWrite ws off bs).1 else ws := by unfold aWrite; split <;> rfl
  rw [eW]
  obtain ⟨W, w1, w2, w3, w4⟩ := qfv h (qeG (off := off) (bs := bs) h8 h hup hb hcb).1
  exact ⟨(W, root), w1, w2.imp (fun e => by rw [e]) (fun e => by rw [e]), fun e => by rw [w3 e], fun e e' => by rw [w4 e e']⟩
 rw [if_neg k4, if_neg k4]
 by_cases k5 : K = 5
 ·rw [if_pos k5, if_pos k5]
  have yes : (off = 0 ∨ isUsed ws off = true) → (aRoot ws root off).2 = off := fun hc => by
   unfold aRoot
   rw [if_neg]
   rintro ⟨h1, h2⟩
   rcases hc with hc | hc
   ·exact h1 hc
   ·exact (rootChk h.ok).1 hc h2
  obtain ⟨_, _, _, r⟩ := qfk (off := off) hio h hup
  rcases r with ⟨a, b, e⟩ | ⟨a, b, e⟩ | ⟨a, _, b, _, _, c⟩ | ⟨a, _, b, _, _, c⟩
  ·rw [e]; exact ⟨(ws, root), h', .inl rfl, fun hh => absurd (show (1 : Int) = 0 from hh) (by decide), fun _ _ => rfl⟩
  ·rw [e]; exact ⟨(ws, root), h', .inl rfl, fun hh => absurd (show (3 : Int) = 0 from hh) (by decide), fun _ _ => rfl⟩
  ·exact ⟨(ws, off), (c.mono (by omega) (by omega)).mp, .inr (by rw [yes a]), fun _ => by rw [yes a], fun hh => absurd b hh⟩
  ·rcases c with c | c
   ·exact ⟨(ws, root), (c.mono (by omega) (by omega)).mp, .inl rfl, fun hh => by simp only [b] at hh; omega, fun _ hh => absurd b hh⟩
   ·exact ⟨(ws, off), (c.mono (by omega) (by omega)).mp, .inr (by rw [yes a]), fun hh => by simp only [b] at hh; omega, fun _ hh => absurd b hh⟩
 rw [if_neg k5, if_neg k5]
 by_cases k6 : K = 6
 ·rw [if_pos k6, if_neg (by simp [hup])]
  exact ⟨(ws, root), h', .inl rfl, fun _ => rfl, fun _ _ => rfl⟩
 ·rw [if_neg k6]
  exact ⟨(ws, root), h', .inl rfl, fun _ => rfl, fun _ _ => rfl⟩
theorem MP.keptRec (h : MP pa pb pc pd M ws root mvb cb) (hup : M.down = false) (hb : mvb + 2000 < 4611686018427387904) : (openS pa pb pc pd M).now = keptOf M (pagesP pa pb pc pd).toNat := by
 have hm := qaf.1 h.may
 obtain ⟨q1, q2, q3, q4⟩ := qgg (per := pc.toNat) h.pst (by omega) hup (by omega) h.sd
 unfold openS keptOf
 simp only
 apply List.map_congr_left
 intro i _
 exact q2 (19 + i) (.inr (by omega))
theorem HA.beside2 (h : HA H L pa pb pc pd s) (h2 : HA H' L2 pa pb pc pd s2) (hp : L2.p = L.p) (hc : L2.c = L.c) (hs : H.size ≤ H'.size) (hg : ∀ b, L.has b → b ≠ L.p → b ≠ L.c → H'.get b = H.get b) : HA H' L pa pb pc pd { s with M := s2.M } := by
 have ga := HAt.ga h
 have ga2 := HAt.ga h2
 have hl := ga.tn.l
 have lt := fun b hb => HA.lt h (b := b) hb
 have ne := HAt.ne h
 have nc := HAt.nc h
 have m2 : qB H' L.p L.c s2.M := by rw [← hp, ← hc]; exact ga2.tn.l.m
 have l1 := lt L.h (by simp [Pl.has]); have l2 := lt L.g (by simp [Pl.has]); have l3 := lt L.t (by simp [Pl.has]); have l4 := lt L.x (by simp [Pl.has])
 have gne := ga.ne
 refine ⟨by rw [hg _ (by simp [Pl.has]) ne.2.2.2.1 ne.2.2.2.2.1, HAt.hh h], by omega, HAt.may h,
  ⟨by rw [hg _ (by simp [Pl.has]) gne.2.1 gne.2.2.1, ga.hg], by omega, ga.ne,
   ⟨by rw [hg _ (by simp [Pl.has]) ga.tn.tp ga.tn.tc, ga.tn.ht], by omega, ga.tn.tp, ga.tn.tc, ga.tn.tx,
    ⟨by rw [hg _ (by simp [Pl.has]) hl.xp hl.xc, hl.hx], by omega, hl.xp, hl.xc, m2, by rw [ga2.tn.l.len], hl.n1, hl.sp16⟩, ga.tn.n1, ga.tn.per, ga.tn.pl, ga2.tn.mv⟩, ga.n16⟩,
  HAt.ca_keep h hs (fun b hb => hg b (by rcases hb with rfl | rfl | rfl <;> simp [Pl.has]) ?_ ?_), ne, nc, HAt.pages h⟩
 ·exact (nc b hb).2.2.2.1
 ·exact (nc b hb).2.2.2.2
end
structure CY (H0 H : AH) (F F2 : Nat → Prop) (w p2 oa : Nat) (e offR : Int) (xR : Sl) (ws : List Int) (root : Int) (ws2 : List Int) (root2 : Int) : Prop where
 k : qc H0 H
 an : AnAt H oa e offR xR
 al : oa < H.size
 rm : RM F H w ws root
 r2 : RM F2 H p2 ws2 root2
theorem CY.frame {H0 H H' : AH} {F F2 : Nat → Prop} {w p2 oa : Nat} {e offR : Int} {xR : Sl} {ws : List Int} {root : Int} {ws2 : List Int} {root2 : Int} (h : CY H0 H F F2 w p2 oa e offR xR ws root ws2 root2) (hs : H.size ≤ H'.size)
  (hg : ∀ b, b < H.size → (b < H0.size ∨ F b ∨ F2 b ∨ b = oa) → H'.get b = H.get b) : CY H0 H' F F2 w p2 oa e offR xR ws root ws2 root2 :=
 ⟨⟨Nat.le_trans h.k.1 hs, fun b hb => by rw [hg b (by have := h.k.1; omega) (.inl hb), h.k.2 b hb]⟩, h.an.keep (hg _ h.al (.inr (.inr (.inr rfl)))), by have := h.al; omega,
  h.rm.congr hs fun b hb => hg b (h.rm.lt b hb) (.inr (.inl hb)), h.r2.congr hs fun b hb => hg b (h.r2.lt b hb) (.inr (.inr (.inl hb)))⟩
section
variable {H H' H0 : AH} {L : Pl} {F F2 : Nat → Prop} {w p2 oa o7 : Nat} {pa pb pc pd : Int} {s : HS} {M : Mem} {ws ws2 : List Int} {root root2 : Int} {mvb : Nat} {cb : Int} {p c : Nat} {e offR : Int} {xR : Sl}
theorem cut_end {W : List Int × Int} (hC : CY H0 H F F2 w p2 oa e offR xR ws root ws2 root2) (hM : qB H p c M) (hMP : MP pa pb pc pd M W.1 W.2 mvb cb) (hb : mvb ≤ 1000000) (hcb : cb ≤ 1000000)
  (hpc : H0.size ≤ p ∧ H0.size ≤ c) (hnp : ∀ b, F b ∨ F2 b ∨ b = oa → b ≠ p ∧ b ≠ c) (h7 : H0.get o7 = ⟨pl pa pb pc pd, .rw, 0⟩) (h7z : o7 < H0.size) (hok : Ok ws) (hok2 : Ok ws2)
  (hW : W = (ws, root) ∨ W = (ws2, root2)) (hW0 : e = 0 → W = (ws2, root2)) (hW2 : e ≠ 0 → e ≠ 2 → W = (ws, root)) :
  qh.j4 (fun r _ => r = true) o7 (some ⟨p, 0, none⟩) (some ⟨w, 0, none⟩) (some ⟨p2, 0, none⟩) oa H := by
 have gp : ∀ {H' : AH}, qc H0 H' → H'.get o7 = ⟨pl pa pb pc pd, .rw, 0⟩ := fun hk => by rw [hk.2 _ h7z]; exact h7
 unfold qh.j4
 refine qaN.g hM ?_
 intro H172 hM172 f172
 have hC172 : CY H0 H172 F F2 w p2 oa e offR xR ws root ws2 root2 := hC.frame (by rw [f172.size]; exact qlu _) fun b _ hb => by
  refine f172.get b ?_ ?_
  ·rcases hb with hb | hb
   ·omega
   ·exact (hnp b hb).1
  ·rcases hb with hb | hb
   ·omega
   ·exact (hnp b hb).2
 rw [qp (plg_row (gp hC172.k))]
 have hMPp : MP pa pb pc pd M.power W.1 W.2 mvb cb := hMP.power
 have hupp : M.power.down = false := rfl
 obtain ⟨o1, _, o2⟩ := hMPp.opened hupp (by omega)
 have hfst : (recN (16 + pa.toNat) pb.toNat pc.toNat M.power 0).2.2 = 0 ∧ (openS pa pb pc pd M.power).M.down = false ∧ HP pa pb pc pd (openS pa pb pc pd M.power) W.1 W.2 (mvb + 14) cb := by
  rcases o2 with o2 | ⟨_, _, h, _⟩
  ·exact o2
  ·exact absurd rfl h
 obtain ⟨hrc, hup2, hP2⟩ := hfst
 have hcut2 := o1 rfl
 refine qah.s hMPp hM172 hupp (by omega) (by omega) (fun hh => absurd hrc hh) ?_
 intro _ H176 L2 hA2 hp hcc l1 l2 l3 l4 l5 l6 l7 fr
 rw [show ((0 : Int) != 0) = false from rfl, qa, qlG]
 unfold qh.j3
 rw [qa]
 have hnew : ∀ b, L2.has b → b ≠ p → b ≠ c → H172.size ≤ b := by
  intro b hb n1 n2
  rcases hb with e | e | e | e | e | e | e | e | e <;> first | omega | exact absurd (e.trans hp) n1 | exact absurd (e.trans hcc) n2
 -- what lies beside stays, whatever happens to a heap over this memory
 have out : ∀ {b : Nat}, (b < H0.size ∨ F b ∨ F2 b ∨ b = oa) → b ≠ p ∧ b ≠ c := fun hb => by
  rcases hb with hb | hb
  ·exact ⟨by omega, by omega⟩
  ·exact hnp _ hb
 have old : ∀ {b : Nat}, (b < H0.size ∨ F b ∨ F2 b ∨ b = oa) → b < H172.size := fun hb => by
  rcases hb with hb | hb | hb | hb
  ·have := hC172.k.1; omega
  ·exact hC172.rm.lt _ hb
  ·exact hC172.r2.lt _ hb
  ·rw [hb]; exact hC172.al
 have hC176 : CY H0 H176 F F2 w p2 oa e offR xR ws root ws2 root2 := hC172.frame fr.size fun b hb hx => fr.get b hb (out hx).1 (out hx).2
 have notL : ∀ {L' : Pl} {b : Nat}, (∀ b, L'.has b → b ≠ p → b ≠ c → H172.size ≤ b) → (b < H0.size ∨ F b ∨ F2 b ∨ b = oa) → ¬ L'.has b := fun hn hx hh => by
  have h1 := hn _ hh (out hx).1 (out hx).2
  have h2 := old hx
  omega
 have frL : ∀ {L' : Pl} {Ha Hb : AH}, (∀ b, L'.has b → b ≠ p → b ≠ c → H172.size ≤ b) → CY H0 Ha F F2 w p2 oa e offR xR ws root ws2 root2 → Frh Ha Hb L' → CY H0 Hb F F2 w p2 oa e offR xR ws root ws2 root2 := fun hn hC f =>
  hC.frame f.size fun b hb hx => f.out hb (notL hn hx)
 have d1 : ∀ {L' : Pl}, (∀ b, L'.has b → b ≠ p → b ≠ c → H172.size ≤ b) → ∀ b, L'.has b → F b → False := fun hn b h1 h2 => notL hn (.inr (.inl h2)) h1
 have d2 : ∀ {L' : Pl}, (∀ b, L'.has b → b ≠ p → b ≠ c → H172.size ≤ b) → ∀ b, L'.has b → F2 b → False := fun hn b h1 h2 => notL hn (.inr (.inr (.inl h2))) h1
 refine qcU hA2 hP2 hup2 (by omega) (by omega) hok hC176.rm (d1 hnew) ?_
 intro H187 hA187 f187
 have hC187 := frL hnew hC176 f187
 refine qcU hA187 hP2 hup2 (by omega) (by omega) hok2 hC187.r2 (d2 hnew) ?_
 intro H191 hA191 f191
 have hC191 := frL hnew hC187 f191
 have q1 : e = 0 → saysF W.1 W.2 ws2 root2 = 0 := fun h => by rw [hW0 h]; exact qeh
 have q2 : e ≠ 0 → e ≠ 2 → saysF W.1 W.2 ws root = 0 := fun h h' => by rw [hW2 h h']; exact qeh
 have q3 : saysF W.1 W.2 ws root = 0 ∨ saysF W.1 W.2 ws2 root2 = 0 := hW.imp (fun h => by rw [h]; exact qeh) (fun h => by rw [h]; exact qeh)
 generalize hn1 : saysF W.1 W.2 ws root = n1 at *
 generalize hn2 : saysF W.1 W.2 ws2 root2 = n2 at *
 -- the second opening
 have J : qh.j2 (fun r _ => r = true) o7 (some ⟨p, 0, none⟩) (some ⟨w, 0, none⟩) (some ⟨p2, 0, none⟩) (some ⟨L2.h, 0, none⟩) n1 H191 n2 false := by
  unfold qh.j2
  rw [qa, qp (plg_row (gp hC191.k))]
  have hM191 : qB H191 p c (openS pa pb pc pd M.power).M := by
   have := (HAt.ga hA191).tn.l.m
   rw [hp, hcc] at this
   exact this
  have hMP2 := hP2.mp
  obtain ⟨_, _, o3⟩ := hMP2.opened hup2 (by omega)
  have hthd : (recN (16 + pa.toNat) pb.toNat pc.toNat (openS pa pb pc pd M.power).M 0).2.2 = 0 ∧ (openS pa pb pc pd (openS pa pb pc pd M.power).M).M.down = false ∧ HP pa pb pc pd (openS pa pb pc pd (openS pa pb pc pd M.power).M) W.1 W.2 (mvb + 14 + 14) cb := by
   rcases o3 with o3 | ⟨_, _, h, _⟩
   ·exact o3
   ·exact absurd hcut2 h
  obtain ⟨hrc3, hup3, hP3⟩ := hthd
  have hnn : (openS pa pb pc pd (openS pa pb pc pd M.power).M).now = (openS pa pb pc pd M.power).now := by
   rw [hMP2.keptRec hup2 (by omega)]
   rfl
  have hpg := hP2.pg
  have hpgs := hMPp.pages
  have hs176 := fr.size; have hs187 := f187.size; have hs191 := f191.size
  refine qah.s hMP2 hM191 hup2 (by omega) (by omega) (fun hh => absurd hrc3 hh) ?_
  intro _ H225 L3 hA3 hp3 hcc3 m1 m2 m3 m4 m5 m6 m7 fr3
  generalize openS pa pb pc pd (openS pa pb pc pd M.power).M = s3 at *
  generalize openS pa pb pc pd M.power = s2 at *
  rw [show ((0 : Int) != 0) = false from rfl, qa, qlG]
  unfold qh.j1
  rw [qa]
  have hnew3 : ∀ b, L3.has b → b ≠ p → b ≠ c → H191.size ≤ b := by
   intro b hb n1 n2
   rcases hb with e | e | e | e | e | e | e | e | e <;> first | omega | exact absurd (e.trans hp3) n1 | exact absurd (e.trans hcc3) n2
  have hnew3' : ∀ b, L3.has b → b ≠ p → b ≠ c → H172.size ≤ b := fun b h1 h2 h3 => by have := hnew3 b h1 h2 h3; omega
  have hC225 : CY H0 H225 F F2 w p2 oa e offR xR ws root ws2 root2 := hC191.frame fr3.size fun b hb hx => fr3.get b hb (out hx).1 (out hx).2
  have hlt2 : ∀ b, L2.has b → b < H191.size := fun b hb => HA.lt hA191 hb
  have hX225 : HA H225 L2 pa pb pc pd { s2 with M := s3.M } := HA.beside2 hA191 hA3 (hp3.trans hp.symm) (hcc3.trans hcc.symm) fr3.size fun b hb n1 n2 => fr3.get b (hlt2 b hb) (by rw [← hp]; exact n1) (by rw [← hcc]; exact n2)
  have not3 : ∀ b, L2.has b → b ≠ L2.p → b ≠ L2.c → ¬ L3.has b := fun b hb n1 n2 hh => by
   have h1 := hnew3 b hh (by rw [← hp]; exact n1) (by rw [← hcc]; exact n2)
   have h2 := hlt2 b hb
   omega
  have hs225 := fr3.size
  refine qcU hA3 hP3 hup3 (by omega) (by omega) hok hC225.rm (d1 hnew3') ?_
  intro H236 hA236 f236
  have hC236 := frL hnew3' hC225 f236
  have hX236 : HA H236 L2 pa pb pc pd { s2 with M := s3.M } := HA.beside2 (s := { s2 with M := s3.M }) hX225 hA236 (hp3.trans hp.symm) (hcc3.trans hcc.symm) f236.size fun b hb n1 n2 => f236.out (by have := hlt2 b hb; omega) (not3 b hb n1 n2)
  have hs236 := f236.size
  rw [hn1, show ((n1 == 0) == (n1 == 0)) = true by simp, qf]
  refine qcU hA236 hP3 hup3 (by omega) (by omega) hok2 hC236.r2 (d2 hnew3') ?_
  intro H243 hA243 f243
  have hX243 : HA H243 L2 pa pb pc pd { s2 with M := s3.M } := HA.beside2 (s := { s2 with M := s3.M }) hX236 hA243 (hp3.trans hp.symm) (hcc3.trans hcc.symm) f243.size fun b hb n1 n2 => f243.out (by have := hlt2 b hb; omega) (not3 b hb n1 n2)
  rw [hn2, show ((n2 == 0) == (n2 == 0)) = true by simp, qf]
  refine qdb hX243 ?_
  intro s250 H250 hk250 hO250
  refine qdb (HAt.keeps hA243 hk250 : HA H250 L3 pa pb pc pd s3) ?_
  intro s252 H252 hk252 hO252
  rw [hnn] at hO252
  have hO250' : Own H243.size H252 s250 1 iV s2.now := hO250.keep hk252.1 fun b _ hb => hk252.2 b hb
  refine qaO.s (l := s2.now) (hO250'.rows (fun _ => rfl) (fun _ => rfl)) (hO252.rows (fun _ => rfl) (fun _ => rfl)) (by omega) ?_
  rw [qf]
  exact qcP rfl
 have B : bcase (!((n1 : Int) == (0 : Int))) (qh.j2 (fun r _ => r = true) o7 (some ⟨p, 0, none⟩) (some ⟨w, 0, none⟩) (some ⟨p2, 0, none⟩) (some ⟨L2.h, 0, none⟩) n1 H191 n2 (!((n2 : Int) == (0 : Int)))) (qh.j2 (fun r _ => r = true) o7 (some ⟨p, 0, none⟩) (some ⟨w, 0, none⟩) (some ⟨p2, 0, none⟩) (some ⟨L2.h, 0, none⟩) n1 H191 n2 false) := by
  rcases q3 with h | h
  ·rw [show (n1 == 0) = true by simpa using h, qlA, qa]; exact J
  ·rw [show (n2 == 0) = true by simpa using h, qlA]
   cases hb : (!(n1 == 0)) with
   | true => rw [qf]; exact J
   | false => rw [qa]; exact J
 rw [hC191.an.c0, qe]
 by_cases e0 : e = 0
 ·rw [show (e == 0) = true by simpa using e0, qf, show (n2 == 0) = true by simpa using q1 e0, qlA, qa, qe, show (e != 0) = false by simpa using e0, qa]
  have B' := B
  rw [show (n2 == 0) = true by simpa using q1 e0, qlA] at B'
  exact B'
 rw [show (e == 0) = false by simpa using e0, qa, qe, show (e != 0) = true by simpa using e0, qf, qe]
 by_cases e2 : e = 2
 ·rw [show (e != 2) = false by simpa using e2, qa]; exact B
 rw [show (e != 2) = true by simpa using e2, qf, show (n1 == 0) = true by simpa using q2 e0 e2, qlA, qa, qa]
 exact J
end
section
variable {H H' H0 : AH} {L : Pl} {F F2 : Nat → Prop} {w p2 oa o7 o10 : Nat} {pa pb pc pd : Int} {s : HS} {M : Mem} {ws ws2 : List Int} {root root2 : Int} {mvb : Nat} {cb : Int} {p c : Nat} {e offR : Int} {xR : Sl}
theorem qk0 {x5 : Int} {x6 : Sl} {ls : List Int} {W : List Int × Int} (hr6 : qlC H0 x6 1 iV ls) (hl6 : ls.length ≤ 6) (hC : CY H0 H F F2 w p2 oa e offR xR ws root ws2 root2) (hM : qB H p c M) (hMP : MP pa pb pc pd M W.1 W.2 mvb cb) (hb : mvb ≤ 100000) (hcb : cb ≤ 100000)
  (hpc : H0.size ≤ p ∧ H0.size ≤ c) (hnp : ∀ b, F b ∨ F2 b ∨ b = oa → b ≠ p ∧ b ≠ c) (h7 : H0.get o7 = ⟨pl pa pb pc pd, .rw, 0⟩) (h7z : o7 < H0.size) (hok : Ok ws) (hok2 : Ok ws2)
  (hW : W = (ws, root) ∨ W = (ws2, root2)) (hW0 : e = 0 → W = (ws2, root2)) (hW2 : e ≠ 0 → e ≠ 2 → W = (ws, root)) :
  loopT (qh.l5 x5 x6 (fun r _ => r = true) o7 (some ⟨p, 0, none⟩) (some ⟨w, 0, none⟩) (some ⟨p2, 0, none⟩) oa) ((0 : Int) : Int) H := by
 have gp : ∀ {H' : AH}, qc H0 H' → H'.get o7 = ⟨pl pa pb pc pd, .rw, 0⟩ := fun hk => by rw [hk.2 _ h7z]; exact h7
 have out : ∀ {b : Nat}, (b < H0.size ∨ F b ∨ F2 b ∨ b = oa) → b ≠ p ∧ b ≠ c := fun hb => by
  rcases hb with hb | hb
  ·exact ⟨by omega, by omega⟩
  ·exact hnp _ hb
 refine qE (t := ((0 : Int) : Int)) (I := fun (t : Int) H' => ∃ (j : Nat) (M : Mem), t = (j : Int) ∧ j ≤ ls.length ∧ CY H0 H' F F2 w p2 oa e offR xR ws root ws2 root2 ∧ qB H' p c M ∧ MP pa pb pc pd M W.1 W.2 (mvb + 14 * j) cb) (m := fun (t : Int) _ => Int.toNat ((ls.length : Int) - t)) ?_
  ⟨0, M, rfl, by omega, hC, hM, hMP⟩
 clear hC hM hMP
 rintro t H7 ⟨j, M, rfl, hj, hC, hM, hMP⟩ it hit
 unfold qh.l5
 have hR := hr6.keep hC.k
 rw [hR.1]
 by_cases hlt : (j : Int) < (ls.length : Int)
 rotate_left 1
 ·rw [decide_eq_false hlt, qa]
  exact cut_end hC hM hMP (by omega) (by omega) hpc hnp h7 h7z hok hok2 hW hW0 hW2
 rw [decide_eq_true hlt, qf]
 have hj' : j < ls.length := by omega
 obtain ⟨b1, o1, a1, _, c1⟩ := qbG (g := fun v => qlk .i64 v) hR (i := j) hj'
 refine ⟨by omega, ?_⟩
 rw [a1, qd, qlp, c1, qe]
 refine qaN.g hM ?_
 intro H157 hM157 f157
 refine ⟨by decide, ?_⟩
 obtain ⟨a, a0, a2, ea⟩ := umod5 (x := ls[j]) (m := 60) (by omega)
 rw [ea]
 refine qa5.g hM157 (by omega) ?_
 intro H166 hM166 f166
 have f66 := f157.trans f166
 have hC166 : CY H0 H166 F F2 w p2 oa e offR xR ws root ws2 root2 := hC.frame (by rw [f66.size]; exact qlu _) fun b _ hb => f66.get b (out hb).1 (out hb).2
 rw [qp (plg_row (gp hC166.k))]
 have hMP2 : MP pa pb pc pd (M.power.setCut a (xorI .i64 x5 ls[j])) W.1 W.2 (mvb + 14 * j) cb := hMP.power.setCut (by omega)
 obtain ⟨_, _, o2⟩ := hMP2.opened (show (M.power.setCut a (xorI .i64 x5 ls[j])).down = false from rfl) (by omega)
 have hMP3 : MP pa pb pc pd (openS pa pb pc pd (M.power.setCut a (xorI .i64 x5 ls[j]))).M W.1 W.2 (mvb + 14 * j + 14) cb := by
  rcases o2 with ⟨_, _, h⟩ | ⟨_, _, _, h⟩
  ·exact h.mp
  ·exact h
 have fin : ∀ H', qB H' p c (openS pa pb pc pd (M.power.setCut a (xorI .i64 x5 ls[j]))).M → FrO H166 H' p c → it (IntKind.wrap .i64 ((j : Int) + 1)) H' := by
  intro H' hM' fr
  rw [qg (n := (j : Int) + 1) (by omega) (by omega)]
  exact hit _ _ ⟨j + 1, _, by simp, by omega, hC166.frame fr.size fun b hb hx => fr.get b hb (out hx).1 (out hx).2, hM', hMP3.mono (by omega) (by omega)⟩ (by omega)
 refine qah.s hMP2 hM166 rfl (by omega) (by omega) (fun _ H' hM' fr => fin H' hM' fr) ?_
 intro _ H' L2 hA2 hp hcc _ _ _ _ _ _ _ fr
 refine fin H' ?_ fr
 have := (HAt.ga hA2).tn.l.m
 rw [hp, hcc] at this
 exact this
theorem cut_do {x4 x5 : Int} {x6 sl : Sl} {ls bs : List Int} {K off n cm : Int} (hr6 : qlC H0 x6 1 iV ls) (hl6 : ls.length ≤ 6) (hk : qc H0 H) (hA : HA H L pa pb pc pd s) (hP : HP pa pb pc pd s ws root mvb cb) (hup : s.M.down = false) (hb : mvb ≤ 10000) (hcb : cb ≤ 10000)
  (hlo : ∀ b, L.has b → H0.size ≤ b) (hrm : RM F H w ws root) (hr2 : RM F2 H p2 (nextW ws root s.now K off n bs).1 (nextW ws root s.now K off n bs).2) (dF : ∀ b, L.has b → F b → False) (d2 : ∀ b, L.has b → F2 b → False)
  (hO : OpAt H0 o10 K off n cm sl) (hOz : o10 < H0.size) (hio : isI off) (hin : isI n) (hsl : qlC H0 sl 1 bU bs) (h8 : qbB bs) (h7 : H0.get o7 = ⟨pl pa pb pc pd, .rw, 0⟩) (h7z : o7 < H0.size) :
  qh.j6 x4 x5 x6 (fun r _ => r = true) o7 o10 (some ⟨L.h, 0, none⟩) (some ⟨L.p, 0, none⟩) (some ⟨w, 0, none⟩) (some ⟨p2, 0, none⟩) H := by
 unfold qh.j6
 refine ⟨by decide, ?_⟩
 obtain ⟨a, a0, a2, ea⟩ := umod5 (x := x4) (m := 80) (by omega)
 rw [ea]
 have hLp : L.has L.p := by simp [Pl.has]
 have hLc : L.has L.c := by simp [Pl.has]
 refine qa5.g (HAt.ga hA).tn.l.m (by omega) ?_
 intro H146 hM146 f146
 have fr := Frh.of_frm (L := L) f146
 have hA1 : HA H146 L pa pb pc pd { s with M := s.M.setCut a x5 } := HAt.mset hA hM146 f146 rfl rfl
 have hP1 : HP pa pb pc pd { s with M := s.M.setCut a x5 } ws root mvb cb := hP.same hup rfl rfl hup hM146.ok
 have hk146 : qc H0 H146 := fr.base hk hlo
 rw [qp (hO.keep (hk146.2 _ hOz)).row]
 refine qdj (K := K) (off := off) (n := n) (mask := cm) (x := sl) (bs := bs) (hP1.hok hA1 (by omega) (by omega)) hio hin (fun _ => ⟨hsl.keep hk146, h8⟩) ?_
 intro H149 x149 hA149 f149 hO149
 obtain ⟨W, w1, w2, w3, w4⟩ := cut_out (K := K) (off := off) (n := n) (bs := bs) hio h8 hP1 hup (by omega) (by omega)
 have hk149 : qc H0 H149 := f149.base hk146 hlo
 have hrm149 := (hrm.frh fr dF).frh f149 dF
 have hr2149 := (hr2.frh fr d2).frh f149 d2
 simp only at w2 w3 w4
 generalize doH pa pb pc pd { s with M := s.M.setCut a x5 } K off n bs = R at *
 refine qbC (n := 3) rfl rfl rfl ?_
 have hAn : AnAt (H149.push ⟨anV R.2.1 R.2.2.1 x149, .rw, 0⟩) H149.size R.2.1 R.2.2.1 x149 := AnAt.new
 have hk27 : qc H149 (H149.push ⟨anV R.2.1 R.2.2.1 x149, .rw, 0⟩) := (qc.refl H149).push _
 have hz27 : H149.size < (H149.push ⟨anV R.2.1 R.2.2.1 x149, .rw, 0⟩).size := by simp [qm]
 generalize H149.push ⟨anV R.2.1 R.2.2.1 x149, .rw, 0⟩ = H27 at *
 have hC : CY H0 H27 F F2 w p2 H149.size R.2.1 R.2.2.1 x149 ws root (nextW ws root s.now K off n bs).1 (nextW ws root s.now K off n bs).2 := ⟨hk149.trans hk27, hAn, hz27, hrm149.keeps hk27, hr2149.keeps hk27⟩
 have hA27 : HA H27 L pa pb pc pd R.1 := HAt.keeps hA149 hk27
 refine qk0 (W := W) hr6 hl6 hC (HAt.ga hA27).tn.l.m w1 (by omega) (by omega) ⟨hlo _ hLp, hlo _ hLc⟩ ?_ h7 h7z hP.ok (qkK hP.ok h8) w2 w3 w4
 intro b hb'
 have q1 := HA.lt hA149 hLp
 have q2 := HA.lt hA149 hLc
 rcases hb' with hb' | hb' | hb'
 ·exact ⟨fun e => dF b (e ▸ hLp) hb', fun e => dF b (e ▸ hLc) hb'⟩
 ·exact ⟨fun e => d2 b (e ▸ hLp) hb', fun e => d2 b (e ▸ hLc) hb'⟩
 ·exact ⟨by omega, by omega⟩
theorem qla {x4 x5 : Int} {x6 : Sl} {ls : List Int} {d : OpR} (hr6 : qlC H0 x6 1 iV ls) (hl6 : ls.length ≤ 6) (hB : Bo H0 H L F w pa pb pc pd s ws root mvb cb) (hup : s.M.down = false) (hb : mvb ≤ 10000) (hcb : cb ≤ 10000)
  (hO : OpAt H0 o10 d.K d.off d.n d.c d.sl) (hOz : o10 < H0.size) (hd : opROK H0 d) (hdn : d.sl.n ≤ 500) (h7 : H0.get o7 = ⟨pl pa pb pc pd, .rw, 0⟩) (h7z : o7 < H0.size) :
  qh.j7 x4 x5 x6 (fun r _ => r = true) o7 o10 (some ⟨L.h, 0, none⟩) (some ⟨L.p, 0, none⟩) (some ⟨w, 0, none⟩) H := by
 unfold qh.j7
 refine qdu.s hB.ha (fun hh => by rw [hup] at hh; cases hh) ?_
 intro _ s89 H89 hk89 hO89
 rw [hB.hp.words hup] at hO89
 have hB89 := hB.keeps hk89
 refine qdb hB89.ha ?_
 intro s93 H93 hk93 hO93
 have hB93 := hB89.keeps hk93
 have hok := hB.hp.ok
 have hlen := hok.len
 refine qae.s hok hB93.rm ?_
 intro F2 p2 H95 hk95 hu95 hR95
 have hB95 := hB93.keeps hk95
 have hOw : Own H.size H95 s89 1 wU ws := (hO89.keep hk93.1 fun b _ hb => hk93.2 b hb).keep hk95.1 fun b _ hb => hk95.2 b hb
 have hOc : Own H89.size H95 s93 1 iV s.now := hO93.keep hk95.1 fun b _ hb => hk95.2 b hb
 have hRw := hOw.rows (fun _ => rfl) (fun _ => rfl)
 have hRc := hOc.rows (fun _ => rfl) (fun _ => rfl)
 have hnew : ∀ b, F2 b → H93.size ≤ b := fun b hb => (hu95.2 b hb).elim (fun h => h.elim) (fun h => h.1)
 have hO95 : OpAt H95 o10 d.K d.off d.n d.c d.sl := hO.keep (hB95.k.2 _ hOz)
 have hrd := hd.rows.keep hB95.k
 have hbl : d.bs.length ≤ 1000000000000 := by have := hd.rows.1; omega
 have tail : ∀ F2' H', Up F2 H95 F2' H' → RM F2' H' p2 (nextW ws root s.now d.K d.off d.n d.bs).1 (nextW ws root s.now d.K d.off d.n d.bs).2 →
   qh.j6 x4 x5 x6 (fun r _ => r = true) o7 o10 (some ⟨L.h, 0, none⟩) (some ⟨L.p, 0, none⟩) (some ⟨w, 0, none⟩) (some ⟨p2, 0, none⟩) H' := by
  intro F2' H' hu hr
  have h93 := hB93.k.1
  have dL : ∀ b, L.has b → F2 b → False := fun b h1 h2 => by have := HA.lt hB93.ha h1; have := hnew b h2; omega
  have dM : Dj F2 F := fun b h1 h2 => by have := hB93.rm.lt b h2; have := hnew b h1; omega
  refine cut_do hr6 hl6 (hu.1.base hB95.k fun b hb => by have := hnew b hb; omega) (HA.up hB95.ha hu dL) hB.hp hup hb hcb hB.lo (hB95.rm.up hu dM) hr hB.dj ?_ hO hOz hd.off hd.n hd.rows hd.u8 h7 h7z
  intro b h1 h2
  rcases hu.2 b h2 with h2 | h2
  ·exact dL b h1 h2
  ·have := HA.lt hB95.ha h1; omega
 rw [hO95.c0, qe]
 by_cases k1 : d.K = 1
 ·have eN : nextW ws root s.now d.K d.off d.n d.bs = (if (imgAlloc ws d.n s.now).2.2 = 0 then applyE ws (imgAlloc ws d.n s.now).1 else ws, root) := by unfold nextW; rw [if_pos k1]
  rw [eN] at tail
  rw [show (d.K == 1) = true by simpa using k1, qf, hO95.c2, qe]
  refine qan.s hRw hlen.2.2 (by omega) hd.n hRc ?_
  intro s105 H105 hk105 hO105
  by_cases h0 : (imgAlloc ws d.n s.now).2.2 = 0
  ·rw [if_pos h0] at tail
   rw [show ((imgAlloc ws d.n s.now).2.2 == 0) = true by simpa using h0, qf]
   obtain ⟨sx, hRW⟩ := hR95
   have hA105 := hRW.keeps hk105
   rw [qd, hA105.c0, qat]
   refine qM.s hA105.rows (by omega) (hO105.rows (fun _ => rfl) (fun _ => rfl)) (by have := (qd9 (ws := ws) (n := d.n) (cs := s.now)).len; omega) ?_
   intro s117 H117 hk117 hO117
   rw [qd]
   obtain ⟨c1, c2⟩ := hRW.put_words (hk105.trans hk117) (qbT hO117 hk105.1)
   refine ⟨c1, ?_⟩
   obtain ⟨c3, c4⟩ := c2 _ _ rfl rfl
   exact tail _ _ c4 c3
  ·rw [if_neg h0] at tail
   rw [show ((imgAlloc ws d.n s.now).2.2 == 0) = false by simpa using h0, qa]
   exact tail F2 _ ⟨qc.kp hk105, fun b hb => .inl hb⟩ (hR95.keeps hk105)
 rw [show (d.K == 1) = false by simpa using k1, qa]
 by_cases k2 : d.K = 2
 ·have eN : nextW ws root s.now d.K d.off d.n d.bs = ((aFree ws root d.off).2, root) := by unfold nextW; rw [if_neg k1, if_pos k2]
  rw [eN] at tail
  rw [show (d.K == 2) = true by simpa using k2, qf, hO95.c1, qe]
  refine qaB.s hok hR95 ?_
  intro F2' H125 hu125 hR125
  exact tail _ _ hu125 hR125
 rw [show (d.K == 2) = false by simpa using k2, qa]
 by_cases k4 : d.K = 4
 ·have eN : nextW ws root s.now d.K d.off d.n d.bs = ((aWrite ws d.off d.bs).2, root) := by unfold nextW; rw [if_neg k1, if_neg k2, if_pos k4]
  rw [eN] at tail
  rw [show (d.K == 4) = true by simpa using k4, qf, hO95.c1, qe, hO95.c4, qat]
  refine qav.s hok hR95 hd.off hrd hd.u8 hbl ?_
  intro F2' H133 hu133 hR133
  exact tail _ _ hu133 hR133
 rw [show (d.K == 4) = false by simpa using k4, qa]
 by_cases k5 : d.K = 5
 ·have eN : nextW ws root s.now d.K d.off d.n d.bs = (ws, (aRoot ws root d.off).2) := by unfold nextW; rw [if_neg k1, if_neg k2, if_neg k4, if_pos k5]
  rw [eN] at tail
  rw [show (d.K == 5) = true by simpa using k5, qf, hO95.c1, qe]
  refine qD.s hok hR95 ?_
  intro H139 hu139 hR139
  exact tail _ _ hu139 hR139
 have eN : nextW ws root s.now d.K d.off d.n d.bs = (ws, root) := by unfold nextW; rw [if_neg k1, if_neg k2, if_neg k4, if_neg k5]
 rw [eN] at tail
 rw [show (d.K == 5) = false by simpa using k5, qa]
 exact tail _ _ (Up.refl _) hR95
end
section
variable {H : AH}
theorem qh.t {x0 x1 x2 x3 : Int} {x4 x5 x6 : Sl} {limits again : List Int} {l : List OpR} {d : OpR} {at' mask : Int} (_ : (Lit.int .i64 x0).wf = true) (_ : (Lit.int .i64 x1).wf = true) (_ : (Lit.int .i64 x2).wf = true) (_ : (Lit.int .i64 x3).wf = true)
  (hr1 : qlC H x4 1 iV limits) (_ : ∀ v ∈ limits, isI v) (_ : limits.length ≤ maxLen) (hr : qlC H x5 5 opRV l) (hok : ∀ d ∈ l, opROK H d) (hlw : l.length * 56 ≤ reachBytes) (hd : opROK H d)
  (_ : (Lit.int .i64 at').wf = true) (_ : (Lit.int .i64 mask).wf = true) (hr6 : qlC H x6 1 iV again) (_ : ∀ v ∈ again, isI v) (_ : again.length ≤ maxLen) :
  qh (pl x0 x1 x2 x3) x4 x5 (opRV d) at' mask x6 H (fun r _ => r = true) := by
 refine qh.link ?_
 unfold qh.b
 rw [qv, qv]
 have hk1 : qc H ((H.push ⟨pl x0 x1 x2 x3, .rw, 0⟩).push ⟨opRV d, .rw, 0⟩) := ((qc.refl H).push _).push _
 have g1 : ((H.push ⟨pl x0 x1 x2 x3, .rw, 0⟩).push ⟨opRV d, .rw, 0⟩).get H.size = ⟨pl x0 x1 x2 x3, .rw, 0⟩ := by rw [qO (by simp [qm]), qs, if_pos rfl]
 have hO1 : OpAt ((H.push ⟨pl x0 x1 x2 x3, .rw, 0⟩).push ⟨opRV d, .rw, 0⟩) (H.push ⟨pl x0 x1 x2 x3, .rw, 0⟩).size d.K d.off d.n d.c d.sl := OpAt.new
 have hz1 : ((H.push ⟨pl x0 x1 x2 x3, .rw, 0⟩).push ⟨opRV d, .rw, 0⟩).size = H.size + 2 := by simp [qm]
 have ho1 : (H.push ⟨pl x0 x1 x2 x3, .rw, 0⟩).size = H.size + 1 := by simp [qm]
 generalize (H.push ⟨pl x0 x1 x2 x3, .rw, 0⟩).push ⟨opRV d, .rw, 0⟩ = H10 at *
 rw [ho1] at hO1 ⊢
 rw [qp hO1.row]
 refine ⟨rfl, ?_⟩
 have e36 : setMany [(qlk .i64 (0 : Int)), (qlk .i64 (0 : Int)), (qlk .i64 (0 : Int)), (qlk .i64 (0 : Int)), (Value.slice none 0 0)] 0 (opl d.K d.off d.n d.c d.sl) = [d].flatMap opRV := rfl
 rw [e36, qv]
 have hk36 : qc H10 (H10.push ⟨[d].flatMap opRV, .rw, 5⟩) := (qc.refl H10).push _
 have hO36 : Own H10.size (H10.push ⟨[d].flatMap opRV, .rw, 5⟩) ⟨some ⟨H10.size, 0, none⟩, 1, 1⟩ 5 opRV [d] := .inr ⟨H10.size, rfl, qlu _, by simp [qm], by rw [qs, if_pos rfl]⟩
 generalize H10.push ⟨[d].flatMap opRV, .rw, 5⟩ = H36 at *
 refine qfw (f := opRV) (H0 := H10) (B := H10.size) (l := [d]) (r := l) (fun _ => rfl) (fun _ => rfl) hO36 (hr.keep (hk1.trans hk36)) (qlu _) hk36.1 hk36 (by unfold reachBytes at hlw; simp [limS]; omega) ?_
 intro s38 H38 hO38 hk38 _ _
 have hK38 : qc H H38 := hk1.trans hk38
 have g38 : H38.get H.size = ⟨pl x0 x1 x2 x3, .rw, 0⟩ := by rw [hk38.2 _ (by omega)]; exact g1
 have hO38o : OpAt H38 (H.size + 1) d.K d.off d.n d.c d.sl := hO1.keep (hk38.2 _ (by omega))
 have hz38 : H.size + 2 ≤ H38.size := by have := hk38.1; omega
 refine qA.s (l := [d] ++ l) (hO38.rows (fun _ => rfl) (fun _ => rfl)) ?_ ?_
 rotate_left 1
 ·intro v hv
  rw [decide_eq_true hv, qf]
  unfold qh.j9
  rw [qf]
  exact qcP rfl
 intro hsl hl80 _
 have hdn : d.sl.n ≤ 500 := hsl d (by simp)
 have hsl' : ∀ d ∈ l, d.sl.n ≤ 500 := fun d' hd' => hsl d' (by simp [hd'])
 have hl79 : l.length ≤ 80 := by simp at hl80; omega
 rw [show (decide ((0 : Int) > 0)) = false from rfl, qa, hr6.1]
 by_cases h6 : (again.length : Int) > 6
 ·rw [decide_eq_true h6]
  unfold qh.j9
  rw [qf]
  exact qcP rfl
 rw [decide_eq_false h6]
 unfold qh.j9
 rw [qa]
 clear hO36 hk36 hO38 hk38 hk1 g1 hO1
 refine qkM g38 ?_
 intro pa pb pc pd r1 r2 r3 r4
 have hmay := qjB r1 r2 r3 r4
 have hk2 : qc H (H38.upd H.size ⟨pl pa pb pc pd, .rw, 0⟩) := hK38.upd (qlu _) _
 have g2 : (H38.upd H.size ⟨pl pa pb pc pd, .rw, 0⟩).get H.size = ⟨pl pa pb pc pd, .rw, 0⟩ := by rw [qT, if_pos rfl]
 have hO2 : OpAt (H38.upd H.size ⟨pl pa pb pc pd, .rw, 0⟩) (H.size + 1) d.K d.off d.n d.c d.sl := hO38o.keep (by rw [qT, if_neg (by omega)])
 have hz2' : H.size + 2 ≤ (H38.upd H.size ⟨pl pa pb pc pd, .rw, 0⟩).size := hz38
 generalize H38.upd H.size ⟨pl pa pb pc pd, .rw, 0⟩ = H2 at *
 have hz2 : H.size < H2.size := by omega
 refine qaZ.s (hr1.keep hk2) hmay ?_ ?_
 ·intro hl p H' _
  rw [Option.isNone_none, qf, hr1.1]
  have : 0 < limits.length := List.length_pos_iff.2 hl
  rw [decide_eq_true (by omega), qf]
  exact qcP rfl
 intro H29 L s hA hP hup hcut hns hnl hnow _ hlo hk29
 rw [qlG, qa]
 have g29 : H29.get H.size = ⟨pl pa pb pc pd, .rw, 0⟩ := by rw [hk29.2 _ hz2]; exact g2
 rw [qdD g29 0]
 show elI .i64 (some (.int .i64 pa)) _
 rw [qe, qg (n := pa * 8) (by omega) (by omega)]
 have hmw : mayW (pa * 8) := by unfold mayW; omega
 refine qa8.s (fun hn => absurd hmw hn) ?_
 intro _ F w H43 hk43 hu43 hR43
 rw [show pa * 8 = 8 * pa by omega] at hR43
 have hB0 : Bo H2 H43 L F w pa pb pc pd s (firstN (8 * pa)) 0 15 0 := Bo.start hA hP hk29 hlo hk43 hu43 hR43
 have up : ∀ d, opROK H d → opROK H2 d := fun d hd => ⟨hd.off, hd.n, hd.rows.keep hk2, hd.u8⟩
 refine qjX (E := fun _ HL9 => qh.j7 at' mask x6 (fun r _ => r = true) H.size (H.size + 1) (some ⟨L.h, 0, none⟩) (some ⟨L.p, 0, none⟩) (some ⟨w, 0, none⟩) HL9) (J := fun _ => True) hB0 hup hcut trivial (hr.keep hk2) (fun d' hd' => up d' (hok d' hd')) hsl' hl79 (by omega) (by omega) (fun _ _ _ _ _ _ _ _ _ _ _ _ _ => trivial) ?_
 intro H5 F5 s ws root hB hup hcut _
 exact qla (hr6.keep hk2) (by omega) hB hup (by omega) (by omega) hO2 (by omega) (up d hd) hdn g2 hz2
end
end Go.Proofs.YtemeclnpdpkfdaaGreat
