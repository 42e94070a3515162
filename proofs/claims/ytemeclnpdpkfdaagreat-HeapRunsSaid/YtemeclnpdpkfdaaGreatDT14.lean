/- Lemmas for the law: an abstract machine, and what the functions do on it. No condition. -/
import Derived.Test.YtemeclnpdpkfdaaGreatDT13
set_option linter.all false
open List renaming replicate → qlm
open Option renaming isNone_some → qlE
set_option linter.all false
namespace Go.Proofs.YtemeclnpdpkfdaaGreat
open Go Go.Abs
section
variable {H H' H0 : AH} {L : Pl} {pa pb pc pd : Int} {s : HS} {ws : List Int} {root : Int} {mvb : Nat} {cb : Int}
theorem Frh.out {o : Nat} (f : Frh H H' L) (ho : o < H.size) (hn : ¬ L.has o) : H'.get o = H.get o :=
 f.get o ho (fun e => hn (by simp [Pl.has, e])) (fun e => hn (by simp [Pl.has, e])) (fun e => hn (by simp [Pl.has, e])) (fun e => hn (by simp [Pl.has, e])) (fun e => hn (by simp [Pl.has, e])) (fun e => hn (by simp [Pl.has, e]))
theorem HP.len8 (h : HP pa pb pc pd s (firstN (8 * pa)) root mvb cb) : mayW (8 * pa) := by
 have hm := qak.1 h.may
 unfold mayW; omega
theorem qgY {n off : Int} {bs : List Int} (h : HP pa pb pc pd s (firstN (8 * pa)) root mvb cb) (hf : FreeS s) (hn : 1 ≤ n ∧ n ≤ 448) (hfit : needN n ≤ 8 * pa) (hb : mvb + 2000 < 4611686018427387904) (hcb : cb + 100 < 4611686018427387904) :
  (doH pa pb pc pd s 1 off n bs).2 = (0, 8, []) ∧ FreeS (doH pa pb pc pd s 1 off n bs).1 ∧ ∃ ws1 tk, takesN (8 * pa) (needN n) = tk ∧ MR (8 * pa) [(0, tk, qlm ((tk.toNat - 1) * 8) 0)] ws1 ∧ HP pa pb pc pd (doH pa pb pc pd s 1 off n bs).1 ws1 root (mvb + 40) (cb + 14) := by
 obtain ⟨a1, a2, tk, a3, a4⟩ := qig (cs := s.now) h.len8 hn hfit
 obtain ⟨c1, c2, c3, c4, c5⟩ := qfy (n := n) h hf.up hb hcb
 have hne : needN n ≠ 0 := by unfold needN; rw [if_pos hn]; omega
 obtain ⟨f1, f2, f3⟩ : FreeS (allocH pa pb pc pd s n).1 ∧ (allocH pa pb pc pd s n).2.1 ≠ 3 ∧ (allocH pa pb pc pd s n).2.1 ≠ 2 := by
  have := do_free (K := 1) (off := 0) (n := n) (bs := []) (by unfold isI; omega) (fun v hv => by cases hv) h hf hb hcb
  unfold doH at this
  rw [if_pos rfl] at this
  exact this
 have he : (allocH pa pb pc pd s n).2.1 = 0 := by
  rcases c1 with ⟨b, _⟩ | ⟨b, _⟩ | ⟨b, _⟩ | ⟨b, _⟩
  ·exact b
  ·exact absurd b f2
  ·rw [b, a1]
  ·exact absurd b f3
 obtain ⟨d1, d2, d3⟩ := c5 he
 have hP : HP pa pb pc pd (allocH pa pb pc pd s n).1 (applyE (firstN (8 * pa)) (imgAlloc (firstN (8 * pa)) n s.now).1) root (mvb + 40) (cb + 14) := by
  rcases c1 with ⟨_, _, _, _, b, _⟩ | ⟨b, _⟩ | ⟨_, b, c⟩ | ⟨b, _⟩
  ·exact b
  ·omega
  ·have := c a1
   rw [this, b]; exact h.mono (by omega) (by omega)
  ·omega
 have eD : doH pa pb pc pd s 1 off n bs = ((allocH pa pb pc pd s n).1, (allocH pa pb pc pd s n).2.1, (if (allocH pa pb pc pd s n).2.1 = 0 then (allocH pa pb pc pd s n).2.2 else 0), []) := by unfold doH; rw [if_pos rfl]
 rw [eD]
 refine ⟨?_, f1, _, tk, a3, a4, hP⟩
 simp only
 rw [if_pos he, he, d3, a2]
theorem qhA {off n : Int} {bs : List Int} (hio : isI off) (h8 : qbM bs) (h : HP pa pb pc pd s ws root mvb cb) (hf : FreeS s) (hE : (imgWrite ws off bs).2 = 0) (hb : mvb + 2000 < 4611686018427387904) (hcb : cb + 100 < 4611686018427387904) :
  (doH pa pb pc pd s 4 off n bs).2 = (0, 0, []) ∧ FreeS (doH pa pb pc pd s 4 off n bs).1 ∧ HP pa pb pc pd (doH pa pb pc pd s 4 off n bs).1 (applyE ws (imgWrite ws off bs).1) root (mvb + 40) (cb + 14) := by
 obtain ⟨f1, f2, f3⟩ := do_free (K := 4) (off := off) (n := n) (bs := bs) hio h8 h hf hb hcb
 obtain ⟨c1, _⟩ := qfp (off := off) (bs := bs) h8 h hf.up hb hcb
 have eD : doH pa pb pc pd s 4 off n bs = ((writeH pa pb pc pd s off bs).1, (writeH pa pb pc pd s off bs).2, 0, []) := by unfold doH; rw [if_neg (by omega), if_neg (by omega), if_neg (by omega), if_pos rfl]
 rw [eD] at f1 f2 f3 ⊢
 simp only at f1 f2 f3 ⊢
 rcases c1 with ⟨b, _, _, _, c, _⟩ | ⟨b, _⟩ | ⟨b, c, d⟩ | ⟨b, _⟩
 ·exact ⟨by rw [b], f1, c⟩
 ·exact absurd b f2
 ·refine ⟨by rw [b, hE], f1, ?_⟩
  have := d hE
  rw [this, c]; exact h.mono (by omega) (by omega)
 ·exact absurd b f3
theorem qc9 {k : Bool → AH → Prop} (hk : k true H) : qbf H k := by
 refine gcB true (qbf.link (_u := ()) ?_) hk
 unfold qbf.b
 show qaX (pl 4 0 3 2) ⟨none, 0, 0⟩ H _
 refine qaX.s (limits := []) qdZ (by decide) (fun h => absurd rfl h) ?_
 intro H8 L s hA hP hup hcut hns hnl hnow _ hlo hk8
 have hf : FreeS s := ⟨hup, hcut, hnl rfl, hns⟩
 have lo : ∀ b, L.has b → H.size ≤ b := hlo
 rw [qlE, qc]
 obtain ⟨d1, d2, ws1, tk, d3, d4, d5⟩ := qgY (off := 0) (bs := []) (n := 8) hP hf (by omega) (by decide) (by omega) (by omega)
 refine qdE (s := s) (K := 1) (off := 0) (n := 8) (mask := 0) (x := ⟨none, 0, 0⟩) (bs := []) (hP.hok hA (by omega) (by omega)) (by unfold isI; omega) (by unfold isI; omega) (fun hh => by omega) ?_
 intro H15 x15 hA15 f15 hO15
 have htk : tk = 2 := by rw [← d3]; decide
 subst htk
 generalize doH 4 0 3 2 s 1 0 8 [] = R1 at *
 rw [d1] at hO15 ⊢
 have kk15 : qa H H15 := f15.base hk8 lo
 refine qbD (n := 3) rfl rfl rfl ?_
 have hAn3 : AnAt (H15.push ⟨anV 0 8 x15, .rw, 0⟩) H15.size 0 8 x15 := AnAt.new
 have hk16 : qa H15 (H15.push ⟨anV 0 8 x15, .rw, 0⟩) := (qa.refl H15).push _
 have hz16 : H15.size < (H15.push ⟨anV 0 8 x15, .rw, 0⟩).size := by simp [ql]
 have no3 : ¬ L.has H15.size := fun hh => by have := HA.lt hA15 hh; omega
 generalize hH16 : H15.push ⟨anV 0 8 x15, .rw, 0⟩ = H16 at *
 clear hH16
 rw [qv]
 have hk17 : qa H16 (H16.push ⟨[(Value.int .u8 (7 : Int))], .rw, 1⟩) := (qa.refl H16).push _
 have hO17 : Own 0 (H16.push ⟨[(Value.int .u8 (7 : Int))], .rw, 1⟩) ⟨some ⟨H16.size, 0, none⟩, 1, 1⟩ 1 bU [7] := .inr ⟨H16.size, rfl, Nat.zero_le _, by simp [ql], by rw [qr, if_pos rfl]; rfl⟩
 generalize hH17 : H16.push ⟨[(Value.int .u8 (7 : Int))], .rw, 1⟩ = H17 at *
 clear hH17
 have hA17 : HA H17 L 4 0 3 2 R1.1 := HAt.keeps (HAt.keeps hA15 hk16) hk17
 have hlen1 : (ws1.length : Int) = 32 := by have := d4.len; omega
 have d4' : MR ws1.length [((0 : Int), (2 : Int), qlm ((2 - 1) * 8) (0 : Int))] ws1 := MR.self d4 (by omega)
 have hw8 : qbM [7] := fun v hv => by simp at hv; omega
 have hwin : 0 ≤ (([7] : List Int).length : Int) ∧ (([7] : List Int).length : Int) ≤ 448 ∧ ∃ x ∈ [((0 : Int), (2 : Int), qlm ((2 - 1) * 8) (0 : Int))], (x.1 + 1) * 8 ≤ (8 : Int) ∧ 8 + (([7] : List Int).length : Int) ≤ (x.1 + x.2.1) * 8 := ⟨by decide, by decide, _, List.mem_cons_self .., by decide, by decide⟩
 have hwr := d4'.wr hwin
 have hE4 : (imgWrite ws1 8 [7]).2 = 0 ∧ applyE ws1 (imgWrite ws1 8 [7]).1 = putBs ws1 8 [7] := by
  unfold aWrite at hwr
  by_cases h0 : (imgWrite ws1 8 [7]).2 = 0
  ·rw [if_pos h0] at hwr
   exact ⟨h0, (Prod.ext_iff.1 hwr).2⟩
  ·rw [if_neg h0] at hwr
   exact absurd (Prod.ext_iff.1 hwr).1 h0
 obtain ⟨g1, g2, g3⟩ := qhA (off := 8) (n := 0) (bs := [7]) (by unfold isI; omega) hw8 d5 d2 hE4.1 (by omega) (by omega)
 rw [hE4.2] at g3
 have hMR2 := MR.write (e1 := []) (e2 := []) (off := 8) (bs := [7]) d4' hw8 (by decide) (by decide)
 refine qdE (s := R1.1) (K := 4) (off := 8) (n := 0) (mask := 0) (x := ⟨some ⟨H16.size, 0, none⟩, 1, 1⟩) (bs := [7]) (d5.hok hA17 (by omega) (by omega)) (by unfold isI; omega) (by unfold isI; omega) (fun _ => ⟨hO17.rows (fun _ => rfl) (fun _ => rfl), hw8⟩) ?_
 intro H19 x19 hA19 f19 hO19
 generalize doH 4 0 3 2 R1.1 4 8 0 [7] = R2 at *
 rw [g1] at hO19 ⊢
 refine qbD (n := 3) rfl rfl rfl ?_
 have hAn4 : AnAt (H19.push ⟨anV 0 0 x19, .rw, 0⟩) H19.size 0 0 x19 := AnAt.new
 have hk20 : qa H19 (H19.push ⟨anV 0 0 x19, .rw, 0⟩) := (qa.refl H19).push _
 have hz20 : H19.size < (H19.push ⟨anV 0 0 x19, .rw, 0⟩).size := by simp [ql]
 have no4 : ¬ L.has H19.size := fun hh => by have := HA.lt hA19 hh; omega
 generalize hH20 : H19.push ⟨anV 0 0 x19, .rw, 0⟩ = H20 at *
 clear hH20
 have hs16 := hk16.1; have hs17 := hk17.1; have hs19 := f19.size; have hs20 := hk20.1
 have hAn3b : AnAt H20 H15.size 0 8 x15 := ((hAn3.keep (hk17.2 _ hz16)).keep (f19.out (by omega) no3)).keep (hk20.2 _ (by omega))
 have hA20 : HA H20 L 4 0 3 2 R2.1 := HAt.keeps hA19 hk20
 refine qdE (s := R2.1) (K := 3) (off := 8) (n := 2) (mask := 0) (x := ⟨none, 0, 0⟩) (bs := []) (g3.hok hA20 (by omega) (by omega)) (by unfold isI; omega) (by unfold isI; omega) (fun hh => by omega) ?_
 intro H22 x22 hA22 f22 hO22
 have hlen2 : (putBs ws1 8 [7]).length = ws1.length := qcK _ _ _
 have hMR2' := MR.self hMR2 (by rw [hlen2])
 have hrd : aRead (putBs ws1 8 [7]) 8 2 = ([7, 0], 0) := by
  rw [hMR2'.rd ⟨by decide, by decide, _, List.mem_cons_self .., by decide, by decide⟩]
  have hb := hMR2'.by8 _ (List.mem_cons_self ..)
  simp only at hb
  have h2 := qie (ws := putBs ws1 8 [7]) (o := 8) (m := 8) (a := 0) (n := 2) (by omega)
  have hb' : bytesOf (putBs ws1 8 [7]) 8 8 = [7, 0, 0, 0, 0, 0, 0, 0] := by
   rw [show bytesOf (putBs ws1 8 [7]) 8 8 = bytesOf (putBs ws1 8 [7]) (((0 : Int).toNat + 1) * 8) (((2 : Int).toNat - 1) * 8) from rfl, ← hb]
   rfl
  rw [hb'] at h2
  show (bytesOf (putBs ws1 8 [7]) 8 2, (0 : Int)) = _
  rw [show (8 : Nat) = 8 + 0 from rfl, ← h2]; rfl
 rw [do_read g3 g2.up, hrd] at hA22 hO22 ⊢
 simp only [if_true] at hA22 hO22 ⊢
 refine qbD (n := 3) rfl rfl rfl ?_
 have hAn5 : AnAt (H22.push ⟨anV 0 0 x22, .rw, 0⟩) H22.size 0 0 x22 := AnAt.new
 have hk23 : qa H22 (H22.push ⟨anV 0 0 x22, .rw, 0⟩) := (qa.refl H22).push _
 have hz23 : H22.size < (H22.push ⟨anV 0 0 x22, .rw, 0⟩).size := by simp [ql]
 generalize hH23 : H22.push ⟨anV 0 0 x22, .rw, 0⟩ = H23 at *
 clear hH23
 have hs22 := f22.size
 have hAn3c : AnAt H23 H15.size 0 8 x15 := (hAn3b.keep (f22.out (by omega) no3)).keep (hk23.2 _ (by omega))
 have hAn4c : AnAt H23 H19.size 0 0 x19 := (hAn4.keep (f22.out hz20 no4)).keep (hk23.2 _ (by omega))
 rw [hAn3c.c0, qf, show ((0 : Int) == 0) = true from rfl, qg, hAn3c.c1, qf, show ((8 : Int) == 8) = true from rfl, qg, hAn4c.c0, qf, show ((0 : Int) == 0) = true from rfl, qg, hAn5.c2, qau]
 have hO23 : Own H20.size H23 x22 1 bU [7, 0] := hO22.keep hk23.1 fun b _ hb => hk23.2 b hb
 refine own_str hO23 (fun v hv => by simp at hv; omega) ?_
 have hb : (ByteArray.toList ⟨List.toArray (([7, 0] : List Int).map fun v => UInt8.ofNat v.toNat)⟩ == ByteArray.toList ⟨#[7, 0]⟩) = true := by simp
 rw [hb, qg]
 have hA23 : HA H23 L 4 0 3 2 R2.1 := HAt.keeps hA22 hk23
 refine qdH.s hA23 ?_
 have hnw : wornB R2.1 = false := by cases hw : wornB R2.1 with | false => rfl | true => exact absurd (qcV.1 hw) g2.ns
 show bcase (!wornB R2.1) _ _
 rw [hnw, Bool.not_false, qg]
 refine qee hA23 ?_
 intro x49 H49 hk49 hO49
 have hlenN := g3.pg
 have kk : qa H H49 := ((((f22.base ((f19.base ((kk15.trans hk16).trans hk17) lo).trans hk20) lo).trans hk23)).trans hk49)
 refine ⟨kk, ?_⟩
 rw [own_n hO49]
 have : (R2.1.now.length : Int) = 1 := hlenN
 rw [this]; rfl
end
section
variable {H H' H0 : AH} {L : Pl} {F F' : Nat → Prop} {w : Nat} {pa pb pc pd : Int} {s : HS} {ws : List Int} {root : Int} {mvb : Nat} {cb : Int}
theorem qjJ (h1 : 1 ≤ pa ∧ pa ≤ 24) (h2 : 0 ≤ pb ∧ pb ≤ 16) (h3 : 1 ≤ pc ∧ pc ≤ 30) (h4 : 1 ≤ pd ∧ pd ≤ 10) : mayP pa pb pc pd = true := qak.2 (by omega)
theorem qk5 {o : Nat} {a b c d : Int} {e : Nat} {Q : List Value → AH → Prop} (hg : H.get o = ⟨pl a b c d, .rw, e⟩)
  (h : ∀ pa pb pc pd, 1 ≤ pa ∧ pa ≤ 24 → 0 ≤ pb ∧ pb ≤ 16 → 1 ≤ pc ∧ pc ≤ 30 → 1 ≤ pd ∧ pd ≤ 10 → Q (pl pa pb pc pd) (H.upd o ⟨pl pa pb pc pd, .rw, e⟩)) :
  elI .i64 (AH.cell? H (Addr.add ⟨o, 0, none⟩ 0)) fun n18 => elI .i64 (AH.cell? H (Addr.add ⟨o, 0, none⟩ 1)) fun n20 => elI .i64 (AH.cell? H (Addr.add ⟨o, 0, none⟩ 2)) fun n22 => elI .i64 (AH.cell? H (Addr.add ⟨o, 0, none⟩ 3)) fun n24 =>
   qbc n18 n20 n22 n24 H fun c25 H25 => (List.length c25 = 4 ∧ List.all c25 qp = true) ∧ stC H25 ⟨o, 0, none⟩ c25 fun Hs2 => ldA Hs2 ⟨o, 0, none⟩ 4 fun c27 => Q c27 Hs2 := by
 rw [qc7 hg 0, qc7 hg 1, qc7 hg 2, qc7 hg 3]
 refine ⟨a, rfl, b, rfl, c, rfl, d, rfl, ?_⟩
 refine qbc.s fun pa pb pc pd h1 h2 h3 h4 => ?_
 refine ⟨⟨rfl, rfl⟩, ?_⟩
 rw [qbx]
 refine ⟨⟨rfl, by rw [hg], by rw [hg]; simp [pl]⟩, ?_⟩
 have e1 : AH.put H ⟨o, 0, none⟩ (pl pa pb pc pd) = H.upd o ⟨pl pa pb pc pd, .rw, e⟩ := by
  simp only [AH.put, hg]; rfl
 rw [e1, qo (plg_row (e := e) (by rw [qV, if_pos rfl]))]
 exact h pa pb pc pd h1 h2 h3 h4
structure Bo (H0 H : AH) (L : Pl) (F : Nat → Prop) (w : Nat) (pa pb pc pd : Int) (s : HS) (ws : List Int) (root : Int) (mvb : Nat) (cb : Int) : Prop where
 k : qa H0 H
 ha : HA H L pa pb pc pd s
 hp : HP pa pb pc pd s ws root mvb cb
 lo : ∀ b, L.has b → H0.size ≤ b
 rm : RM F H w ws root
 fo : ∀ b, F b → H0.size ≤ b
 dj : ∀ b, L.has b → F b → False
theorem Bo.keeps (h : Bo H0 H L F w pa pb pc pd s ws root mvb cb) (hk : qa H H') : Bo H0 H' L F w pa pb pc pd s ws root mvb cb :=
 ⟨h.k.trans hk, HAt.keeps h.ha hk, h.hp, h.lo, h.rm.keeps hk, h.fo, h.dj⟩
theorem Bo.frh (h : Bo H0 H L F w pa pb pc pd s ws root mvb cb) (ha : HA H' L pa pb pc pd s) (f : Frh H H' L) : Bo H0 H' L F w pa pb pc pd s ws root mvb cb :=
 ⟨f.base h.k h.lo, ha, h.hp, h.lo, h.rm.frh f h.dj, h.fo, h.dj⟩
theorem Bo.mono (h : Bo H0 H L F w pa pb pc pd s ws root mvb cb) {mvb' : Nat} {cb' : Int} (h1 : mvb ≤ mvb') (h2 : cb ≤ cb') : Bo H0 H L F w pa pb pc pd s ws root mvb' cb' :=
 ⟨h.k, h.ha, h.hp.mono h1 h2, h.lo, h.rm, h.fo, h.dj⟩
theorem Kp.base {G : Nat → Prop} (h : Kp G H H') (hk : qa H0 H) (lo : ∀ b, G b → H0.size ≤ b) : qa H0 H' :=
 ⟨Nat.le_trans hk.1 h.1, fun b hb => by rw [h.2 b (by have := hk.1; omega) (fun hh => by have := lo b hh; omega), hk.2 b hb]⟩
theorem do_side {K off n : Int} {bs : List Int} (hio : isI off) (h8 : qbM bs) (h : HP pa pb pc pd s ws root mvb cb) (hup : s.M.down = false) (hb : mvb + 2000 < 4611686018427387904) (hcb : cb + 100 < 4611686018427387904) :
  Side pa pb s (doH pa pb pc pd s K off n bs).1 := by
 unfold doH
 by_cases k1 : K = 1
 ·rw [if_pos k1]; exact (qfy h hup hb hcb).2.1
 rw [if_neg k1]
 by_cases k2 : K = 2
 ·rw [if_pos k2]; exact (qhR h hup hb hcb).2.1
 rw [if_neg k2]
 by_cases k3 : K = 3
 ·rw [if_pos k3]; exact Side.refl s
 rw [if_neg k3]
 by_cases k4 : K = 4
 ·rw [if_pos k4]; exact (qfp h8 h hup hb hcb).2.1
 rw [if_neg k4]
 by_cases k5 : K = 5
 ·rw [if_pos k5]; exact (qgi hio h hup).1
 rw [if_neg k5]
 by_cases k6 : K = 6
 ·rw [if_pos k6, if_neg (by simp [hup])]; exact Side.refl s
 ·rw [if_neg k6]; exact Side.refl s
theorem Bo.step {d : OpR} {k : Int → AH → Prop} (h : Bo H0 H L F w pa pb pc pd s ws root mvb cb) (hup : s.M.down = false) (hcut : s.M.cut = -1) (hb : mvb ≤ 1000000) (hcb : cb ≤ 1000000) (hd : opROK H0 d) (hsl : d.sl.n ≤ 500)
  (hk : ∀ H' F' ws' root', Bo H0 H' L F' w pa pb pc pd (doH pa pb pc pd s d.K d.off d.n d.bs).1 ws' root' (mvb + 40) (cb + 14) → (doH pa pb pc pd s d.K d.off d.n d.bs).1.M.down = false → (doH pa pb pc pd s d.K d.off d.n d.bs).1.M.cut = -1 → k 0 H') :
  qk (some ⟨L.h, 0, none⟩) (some ⟨w, 0, none⟩) (opRV d) H k := by
 have hrl := hd.rows.1
 have lo' : ∀ b, (L.has b ∨ F b) → H0.size ≤ b := fun b hb => hb.elim (h.lo b) (h.fo b)
 refine qfm h.ha h.hp hup hcut (by omega) (by omega) h.rm h.dj hd.off hd.n (hd.rows.keep h.k) (fun H' hkp => hd.rows.keep (hkp.base h.k lo')) hd.u8 (by omega) ?_
 intro H' F' ws' root' ha hp hup' hrm hdj hkp hF'
 have hs := do_side (K := d.K) (off := d.off) (n := d.n) (bs := d.bs) hd.off hd.u8 h.hp hup (by omega) (by omega)
 have hk1 := h.k.1
 exact hk H' F' ws' root' ⟨hkp.base h.k lo', ha, hp, h.lo, hrm, fun b hb => (hF' b hb).elim (h.fo b) (fun hh => by omega), hdj⟩ hup' (hs.cut hcut)
theorem Bo.start {F : Nat → Prop} (ha : HA H L pa pb pc pd s) (hp : HP pa pb pc pd s (firstN (8 * pa)) 0 mvb cb) (hk : qa H0 H) (lo : ∀ b, L.has b → H0.size ≤ b) (hk' : qa H H') (hu : Up (fun _ => False) H F H') (hr : RM F H' w (firstN (8 * pa)) 0) :
  Bo H0 H' L F w pa pb pc pd s (firstN (8 * pa)) 0 mvb cb :=
 ⟨hk.trans hk', HAt.keeps ha hk', hp, lo, hr, fun b hb => (hu.2 b hb).elim (fun h => h.elim) (fun h => by have := hk.1; omega), fun b h1 h2 => (hu.2 b h2).elim (fun h => h.elim) (fun h => by have := HA.lt ha h1; omega)⟩
theorem left_le (h : HP pa pb pc pd s ws root mvb cb) (hup : s.M.down = false) : ((lleft s.M pb.toNat : Nat) : Int) ≤ pb ∧ (s.stuck → lleft s.M pb.toNat = 0) := by
 have hm := qak.1 h.may
 obtain ⟨k, hk⟩ := h.ps.lv
 have e : ∀ k, LV s.M (16 + pa.toNat + 1) pb.toNat k → lleft s.M pb.toNat = pb.toNat - k := fun k hk => by
  unfold lleft; rw [if_neg (by simp [hup]), hk.left]
 refine ⟨by rw [e k hk]; omega, fun hs => by rw [e _ (h.wl hs)]; omega⟩
theorem qR.t {x0 x1 x2 x3 : Int} {x4 x5 : Sl} {limits : List Int} {l : List OpR} (_ : (Lit.int .i64 x0).wf = true) (_ : (Lit.int .i64 x1).wf = true) (_ : (Lit.int .i64 x2).wf = true) (_ : (Lit.int .i64 x3).wf = true)
  (hr1 : Abs.Rows H x4 1 iV limits) (_ : ∀ v ∈ limits, isI v) (_ : limits.length ≤ maxLen) (hr : Abs.Rows H x5 5 opRV l) (hok : ∀ d ∈ l, opROK H d) (_ : l.length ≤ maxLen) : qR (pl x0 x1 x2 x3) x4 x5 H (fun r _ => r = true) := by
 refine qR.link ?_
 unfold qR.b
 rw [qv]
 have hk1 : qa H (H.push ⟨pl x0 x1 x2 x3, .rw, 0⟩) := (qa.refl H).push _
 have g1 : (H.push ⟨pl x0 x1 x2 x3, .rw, 0⟩).get H.size = ⟨pl x0 x1 x2 x3, .rw, 0⟩ := by rw [qr, if_pos rfl]
 have hz1 : H.size < (H.push ⟨pl x0 x1 x2 x3, .rw, 0⟩).size := by simp [ql]
 generalize H.push ⟨pl x0 x1 x2 x3, .rw, 0⟩ = H1 at *
 refine qz.s (l := l) (hr.keep hk1) ?_ ?_
 rotate_left 1
 ·intro v hv
  rw [decide_eq_true hv, qg]
  exact qc9 rfl
 intro hsl hl80 _
 rw [show (decide ((0 : Int) > 0)) = false from rfl, qc]
 refine qk5 g1 ?_
 intro pa pb pc pd r1 r2 r3 r4
 have hmay := qjJ r1 r2 r3 r4
 have hk2 : qa H (H1.upd H.size ⟨pl pa pb pc pd, .rw, 0⟩) := hk1.upd (Nat.le_refl _) _
 have g2 : (H1.upd H.size ⟨pl pa pb pc pd, .rw, 0⟩).get H.size = ⟨pl pa pb pc pd, .rw, 0⟩ := by rw [qV, if_pos rfl]
 have hz2 : H.size < (H1.upd H.size ⟨pl pa pb pc pd, .rw, 0⟩).size := hz1
 generalize H1.upd H.size ⟨pl pa pb pc pd, .rw, 0⟩ = H2 at *
 refine qaX.s (hr1.keep hk2) hmay ?_ ?_
 ·intro hl p H' _
  rw [Option.isNone_none, qg, hr1.1]
  have : 0 < limits.length := List.length_pos_iff.2 hl
  rw [decide_eq_true (by omega), qg]
  exact qc9 rfl
 intro H29 L s hA hP hup hcut hns hnl hnow _ hlo hk29
 rw [qlE, qc]
 have g29 : H29.get H.size = ⟨pl pa pb pc pd, .rw, 0⟩ := by rw [hk29.2 _ hz2]; exact g2
 rw [qc7 g29 0]
 show elI .i64 (some (.int .i64 pa)) _
 rw [qf, qe (n := pa * 8) (by omega) (by omega)]
 have hmw : mayW (pa * 8) := by unfold mayW; omega
 refine qa6.s (fun hn => absurd hmw hn) ?_
 intro _ F w H43 hk43 hu43 hR43
 rw [show pa * 8 = 8 * pa by omega] at hR43
 have hB0 : Bo H2 H43 L F w pa pb pc pd s (firstN (8 * pa)) 0 15 0 := Bo.start hA hP hk29 hlo hk43 hu43 hR43
 refine qB (t := ((false, (0 : Int)) : Bool × Int)) (I := fun (t : Bool × Int) H' => ∃ (i : Nat) (F : Nat → Prop) (s : HS) (ws : List Int) (root : Int), t.2 = (i : Int) ∧ i ≤ l.length ∧ Bo H2 H' L F w pa pb pc pd s ws root (15 + 40 * i) (14 * i) ∧ s.M.down = false ∧ s.M.cut = -1) (m := fun (t : Bool × Int) _ => Int.toNat ((l.length : Int) - t.2)) ?_
  ⟨0, F, s, _, 0, rfl, by omega, hB0, hup, hcut⟩
 rintro ⟨t1, t2⟩ H5 ⟨i, F, s, ws, root, e1, hi, hB, hup, hcut⟩ it hit
 simp only at e1
 subst e1
 unfold qR.l2
 rw [hr.1]
 have gB : ∀ {H' : AH}, qa H2 H' → H'.get H.size = ⟨pl pa pb pc pd, .rw, 0⟩ := fun hk => by rw [hk.2 _ hz2]; exact g2
 by_cases hlt : (i : Int) < (l.length : Int)
 rotate_left 1
 ·rw [decide_eq_false hlt, qc]
  unfold qR.j1
  rw [qo (plg_row (gB hB.k))]
  refine qee hB.ha ?_
  intro x84 H84 hk84 hO84
  refine ⟨plg_row (gB (hB.k.trans hk84)), ?_⟩
  refine qcq.s ?_
  rw [own_n hO84, ← hB.hp.pg, show (((s.now.length : Nat) : Int) == (s.now.length : Int)) = true by simp, qg]
  exact qc9 rfl
 rw [decide_eq_true hlt, qg]
 have hi' : i < l.length := by omega
 have hrK := (hr.keep (hk2.trans hB.k))
 obtain ⟨b, o, ha, hb, hcells⟩ := qap hrK (by omega)
 refine ⟨by omega, ?_⟩
 rw [ha, qd, Int.toNat_natCast, qo (hcells i _ (List.getElem?_eq_getElem hi')).1]
 have hd := hok _ (List.getElem_mem hi')
 have hdn := hsl _ (List.getElem_mem hi')
 generalize l[i] = d at *
 refine qbD (n := 5) rfl rfl rfl ?_
 have hO : OpAt (H5.push ⟨opRV d, .rw, 0⟩) H5.size d.K d.off d.n d.c d.sl := OpAt.new
 have hB6 := hB.keeps ((qa.refl H5).push ⟨opRV d, .rw, 0⟩)
 generalize H5.push ⟨opRV d, .rw, 0⟩ = H6 at *
 rw [qo hO.row]
 have hd2 : opROK H2 d := ⟨hd.off, hd.n, hd.rows.keep hk2, hd.u8⟩
 show qk _ _ (opRV d) _ _
 refine hB6.step hup hcut (by omega) (by omega) hd2 hdn ?_
 intro H53 F' ws' root' hB53 hup' hcut'
 generalize (doH pa pb pc pd s d.K d.off d.n d.bs).1 = s' at *
 rw [show ((0 : Int) != 0) = false from rfl, qc]
 refine qfn hB53.ha hB53.hp hup' (by omega) (by omega) hB53.hp.ok hB53.rm hB53.dj ?_
 intro H58 ha58 f58
 have hB58 := hB53.frh ha58 f58
 rw [qjo, show ((0 : Int) != 0) = false from rfl, qc]
 obtain ⟨q1, q2⟩ := left_le hB58.hp hup'
 refine qfs.s hB58.ha (qfJ.s (HAt.ga hB58.ha).tn ?_)
 rw [decide_eq_false (by omega), qc, qc7 (gB hB58.k) 1]
 show elI .i64 (some (.int .i64 pb)) _
 rw [qf]
 refine qfs.s hB58.ha (qfJ.s (HAt.ga hB58.ha).tn ?_)
 refine ⟨qc7 (gB hB58.k) 1, ?_⟩
 rw [decide_eq_false (by omega), qc]
 refine qdH.s hB58.ha ?_
 show bcase (wornB s') _ _
 have go : it (t1, IntKind.wrap .i64 ((i : Int) + 1)) H58 := by
  rw [qe (n := (i : Int) + 1) (by omega) (by omega)]
  exact hit _ _ ⟨i + 1, F', s', ws', root', by simp, by omega, hB58.mono (by omega) (by omega), hup', hcut'⟩ (by simp only; omega)
 cases hw : wornB s' with
 | false => rw [qc]; exact go
 | true =>
  rw [qg]
  refine qfs.s hB58.ha (qfJ.s (HAt.ga hB58.ha).tn ?_)
  rw [q2 (qcV.1 hw), show (decide ((((0 : Nat) : Nat) : Int) > 0)) = false from rfl, qc]
  exact go
end
end Go.Proofs.YtemeclnpdpkfdaaGreat
