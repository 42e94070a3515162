/- Lemmas for the law: an abstract machine, and what the functions do on it. No condition. -/
import Derived.Test.YtdcbkjgoaknmkaaGreatFT14
set_option linter.all false
open Go.Value renaming int → qlI,pointer → qlO,slice → qlV
open Go.IntKind renaming wrap → qlJ
open List renaming getElem?_eq_getElem → qlK,length_cons → ql0,getElem_mem → ql1,length_append → ql7,mem_map → qml,length_map → qmt,append_assoc → qmV,mem_of_mem_drop → qne
open Go.Addr renaming add → qlL
open Int renaming toNat_natCast → qlP,toNat → qlQ
open Nat renaming le_refl → qlS,zero_add → ql3,le_trans → qmM
open Option renaming isNone_some → qlZ,isNone_none → qm8
open Go.Abs renaming Rows → ql5
open Bool renaming not_true → qmm,not_false → qmp
set_option linter.all false
namespace Go.Proofs.YtdcbkjgoaknmkaaGreat
open Go Go.Abs
section
variable {H H' H0 : AH} {L : Pl} {pa pb pc pd : Int} {s : HS} {ws : List Int} {root : Int} {mvb : Nat} {cb : Int}
theorem Frh.out {o : Nat} (f : Frh H H' L) (ho : o < H.size) (hn : ¬ L.has o) : H'.get o = H.get o :=
 f.get o ho (fun e => hn (by simp [Pl.has,e])) (fun e => hn (by simp [Pl.has,e])) (fun e => hn (by simp [Pl.has,e])) (fun e => hn (by simp [Pl.has,e])) (fun e => hn (by simp [Pl.has,e])) (fun e => hn (by simp [Pl.has,e]))
theorem HP.len8 (h : HP pa pb pc pd s (firstN (8 * pa)) root mvb cb) : mayW (8 * pa) := by
 have hm := qV.1 h.may
 unfold mayW; omega
theorem qg7 {n off : Int} {bs : List Int} (h : HP pa pb pc pd s (firstN (8 * pa)) root mvb cb) (hf : FreeS s) (hn : 1 ≤ n ∧ n ≤ 448) (hfit : needN n ≤ 8 * pa) (hb : mvb + 2000 < 4611686018427387904) (hcb : cb + 100 < 4611686018427387904) :
  (doH pa pb pc pd s 1 off n bs).2 = (0,8,[]) ∧ FreeS (doH pa pb pc pd s 1 off n bs).1 ∧ ∃ ws1 tk,takesN (8 * pa) (needN n) = tk ∧ MR (8 * pa) [(0,tk,List.replicate ((tk.toNat - 1) * 8) 0)] ws1 ∧ HP pa pb pc pd (doH pa pb pc pd s 1 off n bs).1 ws1 root (mvb + 40) (cb + 14) := by
 obtain ⟨a1,a2,tk,a3,a4⟩ := qiv (cs := s.now) h.len8 hn hfit
 obtain ⟨c1,c2,c3,c4,c5⟩ := qd1 (n := n) h hf.up hb hcb
 have hne : needN n ≠ 0 := by unfold needN; rw [if_pos hn]; omega
 obtain ⟨f1,f2,f3⟩ : FreeS (allocH pa pb pc pd s n).1 ∧ (allocH pa pb pc pd s n).2.1 ≠ 3 ∧ (allocH pa pb pc pd s n).2.1 ≠ 2 := by
  have := do_free (K := 1) (off := 0) (n := n) (bs := []) (by unfold isI; omega) (fun v hv => by cases hv) h hf hb hcb
  unfold doH at this
  rw [if_pos rfl] at this
  exact this
 have he : (allocH pa pb pc pd s n).2.1 = 0 := by
  rcases c1 with ⟨b,_⟩ | ⟨b,_⟩ | ⟨b,_⟩ | ⟨b,_⟩
  ·exact b
  ·exact absurd b f2
  ·rw [b,a1]
  ·exact absurd b f3
 obtain ⟨d1,d2,d3⟩ := c5 he
 have hP : HP pa pb pc pd (allocH pa pb pc pd s n).1 (applyE (firstN (8 * pa)) (imgAlloc (firstN (8 * pa)) n s.now).1) root (mvb + 40) (cb + 14) := by
  rcases c1 with ⟨_,_,_,_,b,_⟩ | ⟨b,_⟩ | ⟨_,b,c⟩ | ⟨b,_⟩
  ·exact b
  ·omega
  ·have := c a1
   rw [this,b]; exact h.mono (by omega) (by omega)
  ·omega
 have eD : doH pa pb pc pd s 1 off n bs = ((allocH pa pb pc pd s n).1,(allocH pa pb pc pd s n).2.1,(if (allocH pa pb pc pd s n).2.1 = 0 then (allocH pa pb pc pd s n).2.2 else 0),[]) := by unfold doH; rw [if_pos rfl]
 rw [eD]
 refine ⟨?_,f1,_,tk,a3,a4,hP⟩
 simp only
 rw [if_pos he,he,d3,a2]
end
section
variable {H H' H0 : AH} {L : Pl} {F F' : Nat → Prop} {w : Nat} {pa pb pc pd : Int} {s : HS} {ws : List Int} {root : Int} {mvb : Nat} {cb : Int}
theorem qjA (h1 : 1 ≤ pa ∧ pa ≤ 24) (h2 : 0 ≤ pb ∧ pb ≤ 16) (h3 : 1 ≤ pc ∧ pc ≤ 30) (h4 : 1 ≤ pd ∧ pd ≤ 10) : mayP pa pb pc pd = true := qV.2 (by omega)
theorem Kp.base {G : Nat → Prop} (h : Kp G H H') (hk : qa H0 H) (lo : ∀ b,G b → H0.size ≤ b) : qa H0 H' :=
 ⟨qmM hk.1 h.1,fun b hb => by rw [h.2 b (by have := hk.1; omega) (fun hh => by have := lo b hh; omega),hk.2 b hb]⟩
theorem do_side {K off n : Int} {bs : List Int} (hio : isI off) (h8 : qam bs) (h : HP pa pb pc pd s ws root mvb cb) (hup : s.M.down = false) (hb : mvb + 2000 < 4611686018427387904) (hcb : cb + 100 < 4611686018427387904) :
  Side pa pb s (doH pa pb pc pd s K off n bs).1 := by
 unfold doH
 by_cases k1 : K = 1
 ·rw [if_pos k1]; exact (qd1 h hup hb hcb).2.1
 rw [if_neg k1]
 by_cases k2 : K = 2
 ·rw [if_pos k2]; exact (qgj h hup hb hcb).2.1
 rw [if_neg k2]
 by_cases k3 : K = 3
 ·rw [if_pos k3]; exact Side.refl s
 rw [if_neg k3]
 by_cases k4 : K = 4
 ·rw [if_pos k4]; exact (qfR h8 h hup hb hcb).2.1
 rw [if_neg k4]
 by_cases k5 : K = 5
 ·rw [if_pos k5]; exact (qeZ hio h hup).1
 rw [if_neg k5]
 by_cases k6 : K = 6
 ·rw [if_pos k6,if_neg (by simp [hup])]; exact Side.refl s
 ·rw [if_neg k6]; exact Side.refl s
end
section
variable {H H' H0 : AH} {L : Pl} {pa pb pc pd : Int} {s : HS} {ws : List Int} {root : Int} {mvb : Nat} {cb : Int}
theorem qkS {K off n : Int} {bs : List Int} (hp : HP pa pb pc pd s ws root mvb cb) (hup : s.M.down = false) : qam (doH pa pb pc pd s K off n bs).2.2.2 := by
 unfold doH
 split
 ·intro v hv; cases hv
 ·split
  ·intro v hv; cases hv
  ·split
   ·split
    ·rw [qgl hp hup,qe8 hp.ok]; exact aRead_8 _ _ _
    ·intro v hv; cases hv
   ·split
    ·intro v hv; cases hv
    ·split
     ·intro v hv; cases hv
     ·split
      ·split
       ·intro v hv; cases hv
       ·intro v hv; cases hv
      ·intro v hv; cases hv
end
section
variable {H H' H0 : AH} {L : Pl} {pa pb pc pd : Int} {s : HS} {ws : List Int} {root : Int} {mvb : Nat} {cb : Int}
theorem do_down {K off n : Int} {bs : List Int} (hd : s.M.down = true) : doH pa pb pc pd s K off n bs = (s,if 1 ≤ K ∧ K ≤ 6 then 2 else 1,0,[]) := by
 have h2 : 1 ≤ K ∧ K ≤ 6 → (if 1 ≤ K ∧ K ≤ 6 then (2 : Int) else 1) = 2 := fun h => if_pos h
 unfold doH
 by_cases k1 : K = 1
 ·rw [if_pos k1,h2 (by omega)]; unfold allocH; rw [if_pos hd]; rfl
 rw [if_neg k1]
 by_cases k2 : K = 2
 ·rw [if_pos k2,h2 (by omega)]; unfold freeH; rw [if_pos hd]
 rw [if_neg k2]
 by_cases k3 : K = 3
 ·rw [if_pos k3,h2 (by omega)]; unfold readH; rw [if_pos hd]; rfl
 rw [if_neg k3]
 by_cases k4 : K = 4
 ·rw [if_pos k4,h2 (by omega)]; unfold writeH; rw [if_pos hd]
 rw [if_neg k4]
 by_cases k5 : K = 5
 ·rw [if_pos k5,h2 (by omega)]; unfold setRootH; rw [if_pos hd]
 rw [if_neg k5]
 by_cases k6 : K = 6
 ·rw [if_pos k6,h2 (by omega),if_pos hd]
 ·rw [if_neg k6,if_neg (by omega)]
end
section
variable {F : Nat → Prop} {H : AH} {j : Nat} {ws : List Int} {root : Int} {worn : Bool} {K a b c cd m : Int} {sl al : Sl} {bs av : List Int} {k : Bool → AH → Prop}
theorem nil_len {s : Sl} {l : List Int} (h : ql5 H s 1 bU l) : (((s.n : Nat) : Int) == 0) = decide (l = []) := by
 rw [h.1]
 cases l with
 | nil => rfl
 | cons x r => simp; omega
theorem qa9 : qam [] := fun v hv => by cases hv
theorem qQ.s (hJ : JW F H j ws root worn) (ha : isI b) (hm : isI m) (hr : ql5 H al 1 bU av) (h8 : qam av)
  (h : ∀ r,seeP ws root worn 1 a b bs cd m av = r → ∀ F' H',Up F H F' H' → JW F' H' j r.2.1 r.2.2.1 r.2.2.2 → k r.1 H') : qQ (some ⟨j,0,none⟩) (opl 1 a b c sl) (ansl cd m al) H k := by
 obtain ⟨p,G,hJ⟩ := hJ
 refine qQ.link ?_
 unfold qQ.b
 rw [qp,qp]
 have hk := ((qa.refl H).push ⟨opl 1 a b c sl,.rw,0⟩).push ⟨ansl cd m al,.rw,0⟩
 have hA : OpAt ((H.push ⟨opl 1 a b c sl,.rw,0⟩).push ⟨ansl cd m al,.rw,0⟩) H.size 1 a b c sl := (OpAt.new (H := H) (e := 0)).keep (qv (by simp [qe]))
 have hB : AnAt ((H.push ⟨opl 1 a b c sl,.rw,0⟩).push ⟨ansl cd m al,.rw,0⟩) (H.push ⟨opl 1 a b c sl,.rw,0⟩).size cd m al := AnAt.new
 generalize (H.push ⟨opl 1 a b c sl,.rw,0⟩).size = o5 at *
 generalize (H.push ⟨opl 1 a b c sl,.rw,0⟩).push ⟨ansl cd m al,.rw,0⟩ = H5 at *
 have hJ5 := hJ.keeps hk
 have hr5 := hr.keep hk
 have stay : ∀ r,seeP ws root worn 1 a b bs cd m av = r → r.2 = (ws,root,worn) → k r.1 H5 := fun r h1 h2 => h r h1 F H5 ⟨qa.kp hk,fun b hb => .inl hb⟩ ⟨p,G,by rw [h2]; exact hJ5⟩
 have hsee := seeP_eq ws root worn 1 a b bs cd m av
 rw [if_pos rfl] at hsee
 rw [hA.c2,qf]
 refine qbj.s ha ?_
 rw [qi]
 by_cases hn : needN b = 0
 ·rw [if_pos (by simpa using hn),ql hB.row]
  rw [if_pos hn] at hsee
  refine qaa.s (l2 := []) hr5 qbM h8 qa9 ?_
  exact stay _ hsee rfl
 rw [if_neg (by simpa using hn),ql hB.row]
 rw [if_neg hn] at hsee
 refine qaa.s (l2 := []) hr5 qbM h8 qa9 ?_
 rw [qi]
 by_cases h3 : cd = 3
 ·rw [if_pos h3] at hsee
  by_cases hq : m = 0 ∧ av = []
  ·rw [if_pos (by simpa using ⟨h3,hq⟩),qd]
   obtain ⟨c1,c2,c3⟩ := hJ5.put_worn (w2 := true)
   refine ⟨c1,?_⟩
   rw [decide_eq_true hq,Bool.or_true] at hsee
   exact h _ hsee F _ (Up.of_keeps hk c3) c2
  ·rw [if_neg (by simp only [decide_eq_true_eq]; exact fun hh => hq hh.2),qd,hJ5.c1,qbi,qi]
   rw [decide_eq_false hq,Bool.or_false] at hsee
   by_cases hw : worn = true
   ·rw [if_pos hw]; exact stay _ hsee rfl
   ·rw [if_neg hw,hB.c0,qf,qi,if_neg (by simp; omega)]
    unfold qQ.j1
    rw [qc,ql hB.row]
    refine qaa.s (l2 := []) hr5 qbM h8 qa9 ?_
    rw [decide_eq_false (fun hh => by omega),qc]
    exact stay _ hsee rfl
 rw [if_neg h3] at hsee
 rw [if_neg (by simp only [decide_eq_true_eq]; exact fun hh => h3 hh.1),qd,hJ5.c1,qbi,qi]
 by_cases hw : worn = true
 ·rw [if_pos hw] at hsee
  rw [if_pos hw]; exact stay _ hsee rfl
 rw [if_neg hw] at hsee
 rw [if_neg hw,hB.c0,qf,qi]
 have j1f : (cd ≠ 0 ∨ av ≠ []) → qQ.j1 (some ⟨j,0,none⟩) k H.size o5 H5 false := by
  intro hne
  unfold qQ.j1
  rw [qc,ql hB.row]
  refine qaa.s (l2 := []) hr5 qbM h8 qa9 ?_
  rw [qi]
  by_cases h4 : cd = 4
  ·rw [if_pos h4] at hsee
   by_cases hq : m = 0 ∧ av = []
   ·rw [if_pos (by simpa using ⟨h4,hq⟩),qd,hJ5.c0,qE,hA.c2,qf]
    refine qae.s hJ5.m ha ?_
    intro s56 H56 hk56 hO56
    rw [own_len hO56]
    have e : ((((fitO ws b).length : Nat) : Int) == 0) = decide ((m = 0 ∧ av = []) ∧ (fitO ws b).length = 0) := by
     by_cases hz : (fitO ws b).length = 0
     ·rw [decide_eq_true ⟨hq,hz⟩,hz]; rfl
     ·rw [decide_eq_false (fun hh => hz hh.2)]
      have : ¬ (((fitO ws b).length : Nat) : Int) = 0 := by omega
      simpa using this
    rw [e]
    have hkk := hk.trans hk56
    exact h _ hsee F H56 ⟨qa.kp hkk,fun b hb => .inl hb⟩ ⟨p,G,hJ.keeps hkk⟩
   ·rw [if_neg (by simp only [decide_eq_true_eq]; exact fun hh => hq hh.2)]
    rw [decide_eq_false (fun hh => hq hh.1)] at hsee
    exact stay _ hsee rfl
  ·rw [if_neg h4,if_pos hne] at hsee
   rw [if_neg (by simp only [decide_eq_true_eq]; exact fun hh => h4 hh.1)]
   exact stay _ hsee rfl
 by_cases h0 : cd = 0
 rotate_left 1
 ·rw [if_neg (by simpa using h0)]; exact j1f (.inl h0)
 rw [if_pos (by simpa using h0),hB.c2,qag]
 show qQ.j1 _ k _ _ H5 (((al.n : Nat) : Int) == 0)
 rw [nil_len hr]
 by_cases hv : av = []
 rotate_left 1
 ·rw [decide_eq_false hv]; exact j1f (.inr hv)
 rw [decide_eq_true hv]
 rw [if_neg (by omega),if_neg (by rintro (hh | hh); exact hh h0; exact hh hv)] at hsee
 unfold qQ.j1
 rw [qj,qd,hJ5.c0,qE,hA.c2,qf,hB.c1,qf]
 refine qH.s hJ5.m ha hm ?_
 intro G' H45 hu45 hM45
 obtain ⟨F',hJ',hu'⟩ := hJ5.step hu45 hM45
 exact h _ hsee F' H45 (Up.of_keeps hk hu') hJ'
theorem qcD.s {p : Nat} {G : Nat → Prop} {kk : Int → AH → Prop} (hM : MW G H p ws root) (ha : isI a) (hr : ql5 H sl 1 bU bs) (h8 : qam bs) (hl : bs.length ≤ 1000000000000)
  (h : ∀ G' H',Up G H G' H' → MW G' H' p (doP ws root K a bs).2.1 (doP ws root K a bs).2.2 → kk (doP ws root K a bs).1 H') : qcD (some ⟨p,0,none⟩) (opl K a b c sl) H kk := by
 refine qcD.link ?_
 unfold qcD.b
 rw [qp]
 have hk := (qa.refl H).push ⟨opl K a b c sl,.rw,0⟩
 have hA : OpAt (H.push ⟨opl K a b c sl,.rw,0⟩) H.size K a b c sl := OpAt.new
 generalize H.push ⟨opl K a b c sl,.rw,0⟩ = H3 at *
 have hM3 := hM.keeps hk
 unfold doP at h
 rw [hA.c0,qf,qi]
 by_cases h2 : K = 2
 ·rw [if_pos h2] at h
  rw [if_pos (by simpa using h2),hA.c1,qf]
  refine qbo.s hM3 ?_
  intro G' H' hu hM'
  exact h G' H' (Up.of_keeps hk hu) hM'
 rw [if_neg h2] at h
 rw [if_neg (by simpa using h2),qi]
 by_cases h4 : K = 4
 ·rw [if_pos h4] at h
  rw [if_pos (by simpa using h4),hA.c1,qf,opc4 hA,qag]
  refine qbd.s hM3 ha (hr.keep hk) h8 (by omega) ?_
  intro G' H' hu hM'
  exact h G' H' (Up.of_keeps hk hu) hM'
 rw [if_neg h4] at h
 rw [if_neg (by simpa using h4),hA.c1,qf]
 refine qN.s hM3 ?_
 intro H' hu hM'
 exact h G H' (Up.of_keeps hk hu) hM'
theorem qz.s (hJ : JW F H j ws root worn) (hK : K = 2 ∨ K = 4 ∨ K = 5) (ha : isI a) (hb : ql5 H sl 1 bU bs) (h8b : qam bs) (hl : bs.length ≤ 1000000000000) (hr : ql5 H al 1 bU av) (h8 : qam av)
  (h : ∀ r,seeP ws root worn K a b bs cd m av = r → ∀ F' H',Up F H F' H' → JW F' H' j r.2.1 r.2.2.1 r.2.2.2 → k r.1 H') : qz (some ⟨j,0,none⟩) (opl K a b c sl) (ansl cd m al) H k := by
 obtain ⟨p,G,hJ⟩ := hJ
 refine qz.link ?_
 unfold qz.b
 rw [qp,qp]
 have hk := ((qa.refl H).push ⟨opl K a b c sl,.rw,0⟩).push ⟨ansl cd m al,.rw,0⟩
 have hA : OpAt ((H.push ⟨opl K a b c sl,.rw,0⟩).push ⟨ansl cd m al,.rw,0⟩) H.size K a b c sl := (OpAt.new (H := H) (e := 0)).keep (qv (by simp [qe]))
 have hB : AnAt ((H.push ⟨opl K a b c sl,.rw,0⟩).push ⟨ansl cd m al,.rw,0⟩) (H.push ⟨opl K a b c sl,.rw,0⟩).size cd m al := AnAt.new
 have hz4 : H.size < ((H.push ⟨opl K a b c sl,.rw,0⟩).push ⟨ansl cd m al,.rw,0⟩).size := by simp [qe]; omega
 have hz5 : (H.push ⟨opl K a b c sl,.rw,0⟩).size < ((H.push ⟨opl K a b c sl,.rw,0⟩).push ⟨ansl cd m al,.rw,0⟩).size := by simp [qe]
 generalize (H.push ⟨opl K a b c sl,.rw,0⟩).size = o5 at *
 generalize (H.push ⟨opl K a b c sl,.rw,0⟩).push ⟨ansl cd m al,.rw,0⟩ = H5 at *
 have hJ5 := hJ.keeps hk
 rw [qd,hJ5.c0,qE]
 refine qau.s hJ5.m ?_
 intro G2 p14 H14 hk14 hu14 hM14
 have hA14 := hA.keep (hk14.2 _ hz4)
 have hkk := hk.trans hk14
 rw [ql hA14.row]
 have hge14 : ∀ b,G2 b → H5.size ≤ b := fun b hb => by rcases hu14.2 b hb with h0 | h0; exact h0.elim; exact h0.1
 refine qcD.s hM14 ha (hb.keep hkk) h8b hl ?_
 intro G3 H17 hu17 hM17
 have h514 := hk14.1
 have h1417 := hu17.1.1
 have hk17 : qa H5 H17 := ⟨by omega,fun b hb => by rw [hu17.1.2 b (by omega) (fun hh => by have := hge14 b hh; omega),hk14.2 b hb]⟩
 have hge17 : ∀ b,G3 b → H5.size ≤ b := fun b hb => by rcases hu17.2 b hb with h0 | h0; exact hge14 b h0; omega
 have hA17 := hA.keep (hk17.2 _ hz4)
 have hB17 := hB.keep (hk17.2 _ hz5)
 have hJ17 := hJ5.keeps hk17
 have hkh := hk.trans hk17
 have hr17 := hr.keep hkh
 have hfail := qlq (ws := ws) (root := root) (K := K) (off := a) (bs := bs)
 rw [hA17.c0,qf]
 have hsee := seeP_eq ws root worn K a b bs cd m av
 rw [if_neg (by omega),if_pos hK] at hsee
 generalize doP ws root K a bs = dp at *
 obtain ⟨code,ws',root'⟩ := dp
 simp only at hM17 hsee hfail ⊢
 have stay : ∀ r,seeP ws root worn K a b bs cd m av = r → r.2 = (ws,root,worn) → k r.1 H17 := fun r h1 h2 => h r h1 F H17 ⟨qa.kp hkh,fun b hb => .inl hb⟩ ⟨p,G,by rw [h2]; exact hJ17⟩
 -- the new model is put
 have put : seeP ws root worn K a b bs cd m av = (true,ws',root',worn) → qz.j1 (some ⟨j,0,none⟩) k (some ⟨p14,0,none⟩) H17 := by
  intro hs
  unfold qz.j1
  rw [qd]
  obtain ⟨c1,c2⟩ := hJ5.put_ptr hk17 hM17 hge17
  refine ⟨c1,?_⟩
  obtain ⟨c3,c4⟩ := c2 _ _ rfl rfl
  exact h _ hs _ _ (Up.of_keeps hk c4) c3
 have tail : ¬ (code = 0 ∧ ¬ (K = 4 ∧ bs = []) ∧ (worn = true ∨ cd = 3)) → ∀ k2 : Prop,k2 = (ldA H17 ⟨o5,0,none⟩ 3 fun c56 => qaa c56 [(qlI .i64 code),(qlI .i64 0),(qlV none 0 0)] H17 fun b59 H59 => bcase (!b59) (k false H59) (qz.j1 (some ⟨j,0,none⟩) k (some ⟨p14,0,none⟩) H59)) → k2 := by
  rintro hno k2 rfl
  rw [ql hB17.row]
  refine qaa.s (l2 := []) hr17 qbM h8 qa9 ?_
  by_cases hq : m = 0 ∧ av = []
  ·rw [if_neg (by simpa using hq),if_neg hno] at hsee
   by_cases hc : cd = code
   ·rw [if_neg (by simpa using hc)] at hsee
    rw [decide_eq_true ⟨hc,hq⟩,qmm,qc]
    exact put hsee
   ·rw [if_pos hc] at hsee
    rw [decide_eq_false (fun hh => hc hh.1),qmp,qj]
    exact stay _ hsee rfl
  ·rw [if_pos hq] at hsee
   rw [decide_eq_false (fun hh => hq hh.2),qmp,qj]
   exact stay _ hsee rfl
 have j2f : ∀ x9 : Bool,(x9 = true ↔ K = 4 ∧ bs = []) → ¬ (code = 0 ∧ ¬ (K = 4 ∧ bs = []) ∧ (cd = 3 ∧ m = 0 ∧ av = [])) → qz.j2 (some ⟨j,0,none⟩) k o5 (some ⟨p14,0,none⟩) code x9 false H17 := by
  intro x9 hx9 hn3
  unfold qz.j2
  rw [qc,qi]
  by_cases h0 : code = 0
  ·rw [if_pos (by simpa using h0),qi]
   by_cases hx : K = 4 ∧ bs = []
   ·rw [if_neg (by rw [hx9.2 hx]; simp)]
    exact tail (fun hh => hh.2.1 hx) _ rfl
   ·rw [if_pos (by rw [show x9 = false from by cases x9; rfl; exact absurd (hx9.1 rfl) hx]; rfl),qd,hJ17.c1,qbi,qi]
    by_cases hw : worn = true
    ·rw [if_pos hw]
     by_cases hq : m = 0 ∧ av = []
     ·rw [if_neg (by simpa using hq),if_pos ⟨h0,hx,.inl hw⟩] at hsee
      have h3 : cd ≠ 3 := fun h3 => hn3 ⟨h0,hx,h3,hq⟩
      rw [decide_eq_false h3,Bool.or_false] at hsee
      exact stay _ hsee rfl
     ·rw [if_pos hq] at hsee
      exact stay _ hsee rfl
    ·rw [if_neg hw]
     by_cases h3 : cd = 3
     ·-- not quiet and three,but the rest differs
      have hq : ¬ (m = 0 ∧ av = []) := fun hq => hn3 ⟨h0,hx,h3,hq⟩
      rw [if_pos hq] at hsee
      rw [ql hB17.row]
      refine qaa.s (l2 := []) hr17 qbM h8 qa9 ?_
      rw [decide_eq_false (fun hh => hq hh.2),qmp,qj]
      exact stay _ hsee rfl
     ·exact tail (fun hh => by rcases hh.2.2 with h9 | h9; exact hw h9; exact h3 h9) _ rfl
  ·rw [if_neg (by simpa using h0)]
   exact tail (fun hh => h0 hh.1) _ rfl
 have j3 : ∀ x9 : Bool,(x9 = true ↔ K = 4 ∧ bs = []) → qz.j3 (some ⟨j,0,none⟩) k o5 (some ⟨p14,0,none⟩) H17 code x9 := by
  intro x9 hx9
  unfold qz.j3
  rw [qi]
  by_cases h0 : code = 0
  ·rw [if_pos (by simpa using h0),qi]
   by_cases hx : K = 4 ∧ bs = []
   ·rw [if_neg (by rw [hx9.2 hx]; simp)]
    exact j2f x9 hx9 (fun hh => hh.2.1 hx)
   ·rw [if_pos (by rw [show x9 = false from by cases x9; rfl; exact absurd (hx9.1 rfl) hx]; rfl),ql hB17.row]
    refine qaa.s (l2 := []) hr17 qbM h8 qa9 ?_
    by_cases h3 : cd = 3 ∧ m = 0 ∧ av = []
    ·rw [decide_eq_true h3]
     unfold qz.j2
     rw [qj,qd]
     rw [if_neg (by simpa using h3.2),if_pos ⟨h0,hx,.inr h3.1⟩,decide_eq_true h3.1,Bool.or_true] at hsee
     obtain ⟨c1,c2,c3⟩ := hJ17.put_worn (w2 := true)
     refine ⟨c1,?_⟩
     exact h _ hsee F _ (Up.of_keeps hkh c3) c2
    ·rw [decide_eq_false h3]
     exact j2f x9 hx9 (fun hh => h3 hh.2.2)
  ·rw [if_neg (by simpa using h0)]
   exact j2f x9 hx9 (fun hh => h0 hh.1)
 rw [qi]
 by_cases h4 : K = 4
 ·rw [if_pos (by simpa using h4),opc4 hA17,qag]
  show qz.j3 _ k _ _ H17 code (((sl.n : Nat) : Int) == 0)
  rw [nil_len hb]
  refine j3 _ ?_
  rw [decide_eq_true_eq]
  exact ⟨fun hh => ⟨h4,hh⟩,fun hh => hh.2⟩
 ·rw [if_neg (by simpa using h4)]
  refine j3 false ?_
  exact ⟨fun hh => (by cases hh),fun hh => absurd hh.1 h4⟩
theorem qX.s (hJ : JW F H j ws root worn) (ha : isI a) (hbI : isI b) (hm : isI m) (hb : ql5 H sl 1 bU bs) (h8b : qam bs) (hl : bs.length ≤ 1000000000000) (hr : ql5 H al 1 bU av) (h8 : qam av)
  (h : ∀ r,seeP ws root worn K a b bs cd m av = r → ∀ F' H',Up F H F' H' → JW F' H' j r.2.1 r.2.2.1 r.2.2.2 → k r.1 H') : qX (some ⟨j,0,none⟩) (opl K a b c sl) (ansl cd m al) H k := by
 have hJ0 := hJ
 obtain ⟨p,G,hJ⟩ := hJ
 refine qX.link ?_
 unfold qX.b
 rw [qp,qp]
 have hk := ((qa.refl H).push ⟨opl K a b c sl,.rw,0⟩).push ⟨ansl cd m al,.rw,0⟩
 have hA : OpAt ((H.push ⟨opl K a b c sl,.rw,0⟩).push ⟨ansl cd m al,.rw,0⟩) H.size K a b c sl := (OpAt.new (H := H) (e := 0)).keep (qv (by simp [qe]))
 have hB : AnAt ((H.push ⟨opl K a b c sl,.rw,0⟩).push ⟨ansl cd m al,.rw,0⟩) (H.push ⟨opl K a b c sl,.rw,0⟩).size cd m al := AnAt.new
 have hz5 : (H.push ⟨opl K a b c sl,.rw,0⟩).size < ((H.push ⟨opl K a b c sl,.rw,0⟩).push ⟨ansl cd m al,.rw,0⟩).size := by simp [qe]
 generalize (H.push ⟨opl K a b c sl,.rw,0⟩).size = o5 at *
 generalize (H.push ⟨opl K a b c sl,.rw,0⟩).push ⟨ansl cd m al,.rw,0⟩ = H5 at *
 have hJ5 := hJ.keeps hk
 have hr5 := hr.keep hk
 have h' : ∀ r,seeP ws root worn K a b bs cd m av = r → ∀ F' H',Up F H5 F' H' → JW F' H' j r.2.1 r.2.2.1 r.2.2.2 → k r.1 H' := fun r hs F' H' hu hj => h r hs F' H' (Up.of_keeps hk hu) hj
 have stay : ∀ H',qa H5 H' → ∀ r,seeP ws root worn K a b bs cd m av = r → r.2 = (ws,root,worn) → k r.1 H' := fun H' hk' r h1 h2 => h' r h1 F H' ⟨qa.kp hk',fun b hb => .inl hb⟩ ⟨p,G,by rw [h2]; exact hJ5.keeps hk'⟩
 rw [qlZ,qc,hA.c0,qf,qi]
 by_cases h1 : K = 1
 ·subst h1
  rw [if_pos (by simp),ql hA.row,ql hB.row]
  exact qQ.s ⟨p,G,hJ5⟩ hbI hm hr5 h8 h'
 rw [if_neg (by simpa using h1)]
 have ch : (K = 2 ∨ K = 4 ∨ K = 5) → qX.j1 (some ⟨j,0,none⟩) k H.size o5 H5 K true := by
  intro hK
  unfold qX.j1
  rw [qj,ql hA.row,ql hB.row]
  exact qz.s ⟨p,G,hJ5⟩ hK ha (hb.keep hk) h8b hl hr5 h8 h'
 rw [qi]
 by_cases h2 : K = 2
 ·rw [if_pos (by simpa using h2),show (K == 2) = true by simpa using h2]
  exact ch (.inl h2)
 rw [if_neg (by simpa using h2),qi]
 by_cases h4 : K = 4
 ·rw [if_pos (by simpa using h4),show (K == 4) = true by simpa using h4]
  exact ch (.inr (.inl h4))
 rw [if_neg (by simpa using h4)]
 by_cases h5 : K = 5
 ·rw [show (K == 5) = true by simpa using h5]
  exact ch (.inr (.inr h5))
 rw [show (K == 5) = false by simpa using h5]
 have hsee := seeP_eq ws root worn K a b bs cd m av
 rw [if_neg h1,if_neg (by omega)] at hsee
 unfold qX.j1
 rw [qc,qi]
 by_cases h3 : K = 3
 ·rw [if_pos h3] at hsee
  rw [if_pos (by simpa using h3),qd,hJ5.c0,qE,hA.c1,qf,hA.c2,qf]
  refine qbm.s hJ5.m ha hbI ?_
  intro s38 H38 hk38 hO38
  have hB38 := hB.keep (hk38.2 _ hz5)
  rw [ql hB38.row]
  refine qaa.s (l2 := (aRead ws a b).1) (hr5.keep hk38) (hO38.rows (fun _ => rfl) (fun _ => rfl)) h8 (aRead_8 _ _ _) ?_
  exact stay H38 hk38 _ hsee rfl
 rw [if_neg h3] at hsee
 rw [if_neg (by simpa using h3),qi]
 by_cases h6 : K = 6
 ·rw [if_pos h6] at hsee
  rw [if_pos (by simpa using h6),ql hB.row,qd,hJ5.c0,qE]
  refine qbp.s hJ5.m ?_
  refine ⟨hB.row,?_⟩
  refine qaa.s (l2 := []) hr5 qbM h8 qa9 ?_
  exact stay H5 (qa.refl _) _ hsee rfl
 ·rw [if_neg h6] at hsee
  rw [if_neg (by simpa using h6),ql hB.row]
  refine qaa.s (l2 := []) hr5 qbM h8 qa9 ?_
  exact stay H5 (qa.refl _) _ hsee rfl
end
section
variable {F : Nat → Prop} {H : AH} {j : Nat} {ws : List Int} {root : Int} {worn : Bool}
theorem qcF.s {n : Int} {k : Option Addr → AH → Prop} (h0 : ¬ mayW n → k none H) (h1 : mayW n → ∀ F' p' H',qa H H' → Up (fun _ => False) H F' H' → JW F' H' p' (firstN n) 0 false → k (some ⟨p',0,none⟩) H') : qcF n H k := by
 refine qcF.link ?_
 unfold qcF.b
 refine qcO.s (fun hm => ?_) ?_
 ·rw [qm8,qj]; exact h0 hm
 intro hm G p H5 hk5 hu5 hM5
 rw [qlZ,qc,qp]
 have hk := hk5.push ⟨[.pointer (some ⟨p,0,none⟩),.bool false],.rw,0⟩
 have hge := hk5.1
 have hlt := hM5.lt
 have hG : ∀ b,G b → H.size ≤ b := fun b hb => by rcases hu5.2 b hb with h | h; exact h.elim; exact h.1
 refine h1 hm (fun b => H.size ≤ b ∧ b < H5.size + 1) H5.size _ hk ⟨qa.kp hk,fun b hb => .inr hb⟩ ⟨p,G,by rw [qm,if_pos rfl],hM5.keeps ((qa.refl H5).push _),⟨hge,by omega⟩,fun b hb => ⟨hG b hb,by have := hlt b hb; omega⟩,fun hb => by have := hlt _ hb; omega,fun b hb => hb.2⟩
theorem qa0.s {k : Sl → AH → Prop} (hJ : JW F H j ws root worn) (h : ∀ s H',qa H H' → Own H.size H' s 3 bkV (blkL ws) → k s H') : qa0 (some ⟨j,0,none⟩) H k := by
 obtain ⟨p,G,hJ⟩ := hJ
 refine qa0.link ?_
 unfold qa0.b
 rw [qlZ,qc,qd,hJ.c0,qE]
 exact qx.s hJ.m h
theorem See.at {K a b c cd m : Int} {sl al : Sl} {bs av : List Int} {k : Bool → AH → Prop} {r : Bool × List Int × Int × Bool} (hJ : JW F H j ws root worn) (ha : isI a) (hbI : isI b) (hm : isI m) (hb : ql5 H sl 1 bU bs) (h8b : qam bs) (hl : bs.length ≤ 1000000000000) (hr : ql5 H al 1 bU av) (h8 : qam av)
  (hs : seeP ws root worn K a b bs cd m av = r) (h : ∀ F' H',Up F H F' H' → JW F' H' j r.2.1 r.2.2.1 r.2.2.2 → k r.1 H') : qX (some ⟨j,0,none⟩) (opl K a b c sl) (ansl cd m al) H k :=
 qX.s hJ ha hbI hm hb h8b hl hr h8 fun r' hr' F' H' hu hj => by
  rw [hs] at hr'
  subst hr'
  exact h F' H' hu hj
end
structure TS where
 s : HS
 on : Bool
def twOpen (pa pb pc pd : Int) (M : Mem) (s : HS) : TS × Int :=
 if (recN (16 + pa.toNat) pb.toNat pc.toNat M 0).2.2 = 0 then (⟨openS pa pb pc pd M,true⟩,0)
 else (⟨{ s with M := (openS pa pb pc pd M).M },false⟩,(recN (16 + pa.toNat) pb.toNat pc.toNat M 0).2.2)
def twDoes (pa pb pc pd : Int) (T : TS) (K off n mask : Int) (bs : List Int) : TS × Int × Int × List Int :=
 if K = 7 then (⟨{ T.s with M := T.s.M.setCut n mask },T.on⟩,0,0,[])
 else if K = 8 then ((twOpen pa pb pc pd T.s.M.power T.s).1,(twOpen pa pb pc pd T.s.M.power T.s).2,0,[])
 else if T.on = false then (T,5,0,[])
 else (⟨(doH pa pb pc pd T.s K off n bs).1,true⟩,(doH pa pb pc pd T.s K off n bs).2)
def TW (pa pb pc pd : Int) (T : TS) (mvb : Nat) (cb : Int) : Prop :=
 (T.on = true → ∃ ws root,HP pa pb pc pd T.s ws root mvb cb) ∧ (T.on = false → T.s.M.down = true ∧ ∃ ws root,MP pa pb pc pd T.s.M ws root mvb cb)
section
variable {pa pb pc pd : Int} {s : HS} {T : TS} {M : Mem} {ws : List Int} {root : Int} {mvb : Nat} {cb : Int}
theorem HP.setCut (h : HP pa pb pc pd s ws root mvb cb) {a b : Int} (ha : a ≤ 9223372036854775807) : HP pa pb pc pd { s with M := s.M.setCut a b } ws root mvb cb := by
 have hm := qV.1 h.may
 have hok : (s.M.setCut a b).ok := Mem.setCut_ok h.ps.ok ha
 refine ⟨h.may,h.ps.low (M' := s.M.setCut a b) rfl (fun r _ _ => rfl) hok,h.sd.low (M' := s.M.setCut a b) (by omega) rfl (fun r _ _ => rfl) (by omega),h.ok,h.len,h.rt,h.ru,h.pg,⟨h.cp.kl,h.cp.ok,fun hd i hi => h.cp.lag hd i hi,fun i hi => h.cp.rg i hi⟩,fun hs => ?_,h.c0⟩
 have hs' : s.stuck := hs
 exact (h.wl hs').low (M' := s.M.setCut a b) rfl fun r _ _ => rfl
theorem qgd {err e : Int} {E : List (Int × Int)} {s' : HS} (h : HP pa pb pc pd s ws root mvb cb) (c : ChOut pa pb pc pd s ws root mvb cb err E s' e) : ∃ W,HP pa pb pc pd s' W root (mvb + 40) (cb + 14) := by
 rcases c with ⟨_,_,_,_,c,_,_⟩ | ⟨_,_,c,_⟩ | ⟨_,b,_⟩ | ⟨_,_,_,_,_,c⟩
 ·exact ⟨_,c⟩
 ·exact ⟨_,c⟩
 ·exact ⟨ws,by rw [b]; exact h.mono (by omega) (by omega)⟩
 ·rcases c with c | c
  ·exact ⟨_,c⟩
  ·exact ⟨_,c⟩
theorem do_hp {K off n : Int} {bs : List Int} (hio : isI off) (h8 : qam bs) (h : HP pa pb pc pd s ws root mvb cb) (hb : mvb + 2000 < 4611686018427387904) (hcb : cb + 100 < 4611686018427387904) :
  ∃ W r,HP pa pb pc pd (doH pa pb pc pd s K off n bs).1 W r (mvb + 40) (cb + 14) := by
 have h' : HP pa pb pc pd s ws root (mvb + 40) (cb + 14) := h.mono (by omega) (by omega)
 cases hup : s.M.down with
 | true => rw [do_down hup]; exact ⟨ws,root,h'⟩
 | false =>
  unfold doH
  by_cases k1 : K = 1
  ·rw [if_pos k1]
   obtain ⟨W,w⟩ := qgd h (qd1 (n := n) h hup hb hcb).1
   exact ⟨W,root,w⟩
  rw [if_neg k1]
  by_cases k2 : K = 2
  ·rw [if_pos k2]
   obtain ⟨W,w⟩ := qgd h (qgj (off := off) h hup hb hcb).1
   exact ⟨W,root,w⟩
  rw [if_neg k2]
  by_cases k3 : K = 3
  ·rw [if_pos k3]; exact ⟨ws,root,h'⟩
  rw [if_neg k3]
  by_cases k4 : K = 4
  ·rw [if_pos k4]
   obtain ⟨W,w⟩ := qgd h (qfR (off := off) (bs := bs) h8 h hup hb hcb).1
   exact ⟨W,root,w⟩
  rw [if_neg k4]
  by_cases k5 : K = 5
  ·rw [if_pos k5]
   obtain ⟨_,_,_,r⟩ := qeZ (off := off) hio h hup
   rcases r with ⟨_,_,e⟩ | ⟨_,_,e⟩ | ⟨_,_,_,_,_,c⟩ | ⟨_,_,_,_,_,c⟩
   ·rw [e]; exact ⟨ws,root,h'⟩
   ·rw [e]; exact ⟨ws,root,h'⟩
   ·exact ⟨ws,off,c.mono (by omega) (by omega)⟩
   ·rcases c with c | c
    ·exact ⟨ws,root,c.mono (by omega) (by omega)⟩
    ·exact ⟨ws,off,c.mono (by omega) (by omega)⟩
  rw [if_neg k5]
  by_cases k6 : K = 6
  ·rw [if_pos k6,if_neg (by simp [hup])]; exact ⟨ws,root,h'⟩
  ·rw [if_neg k6]; exact ⟨ws,root,h'⟩
theorem TW.mp (h : TW pa pb pc pd T mvb cb) : ∃ ws root,MP pa pb pc pd T.s.M ws root mvb cb := by
 cases ho : T.on with
 | true => obtain ⟨ws,root,h⟩ := h.1 ho; exact ⟨ws,root,h.mp⟩
 | false => exact (h.2 ho).2
theorem TW.open_ (hMP : MP pa pb pc pd M ws root mvb cb) (hup : M.down = false) (hb : mvb + 2000 < 4611686018427387904) : TW pa pb pc pd (twOpen pa pb pc pd M s).1 (mvb + 14) cb := by
 obtain ⟨_,_,o⟩ := hMP.opened hup hb
 unfold twOpen
 rcases o with ⟨a,_,c⟩ | ⟨a,b,_,c⟩
 ·rw [if_pos a]; exact ⟨fun _ => ⟨ws,root,c⟩,fun h => by cases h⟩
 ·rw [if_neg (by omega)]; exact ⟨fun h => (by cases h),fun _ => ⟨b,ws,root,c⟩⟩
theorem TW.does {K off n mask : Int} {bs : List Int} (h : TW pa pb pc pd T mvb cb) (hio : isI off) (hin : isI n) (h8 : qam bs) (hb : mvb + 2000 < 4611686018427387904) (hcb : cb + 100 < 4611686018427387904) :
  TW pa pb pc pd (twDoes pa pb pc pd T K off n mask bs).1 (mvb + 40) (cb + 14) := by
 have hin' := hin
 unfold isI at hin'
 unfold twDoes
 by_cases k7 : K = 7
 ·rw [if_pos k7]
  refine ⟨fun ho => ?_,fun ho => ?_⟩
  ·obtain ⟨ws,root,h⟩ := h.1 ho
   exact ⟨ws,root,(h.setCut (by omega)).mono (by omega) (by omega)⟩
  ·obtain ⟨hd,ws,root,h⟩ := h.2 ho
   exact ⟨hd,ws,root,(h.setCut (by omega)).mono (by omega) (by omega)⟩
 rw [if_neg k7]
 by_cases k8 : K = 8
 ·rw [if_pos k8]
  obtain ⟨ws,root,hMP⟩ := h.mp
  have := TW.open_ (s := T.s) hMP.power rfl hb
  refine ⟨fun ho => ?_,fun ho => ?_⟩
  ·obtain ⟨ws,root,h⟩ := this.1 ho
   exact ⟨ws,root,h.mono (by omega) (by omega)⟩
  ·obtain ⟨hd,ws,root,h⟩ := this.2 ho
   exact ⟨hd,ws,root,h.mono (by omega) (by omega)⟩
 rw [if_neg k8]
 by_cases ho : T.on = false
 ·rw [if_pos ho]
  refine ⟨fun hh => (by rw [ho] at hh; cases hh),fun _ => ?_⟩
  obtain ⟨hd,ws,root,h⟩ := h.2 ho
  exact ⟨hd,ws,root,h.mono (by omega) (by omega)⟩
 ·rw [if_neg ho]
  obtain ⟨ws,root,hP⟩ := h.1 (by simpa using ho)
  obtain ⟨W,r,w⟩ := do_hp (K := K) (off := off) (n := n) (bs := bs) hio h8 hP hb hcb
  exact ⟨fun _ => ⟨W,r,w⟩,fun hh => by cases hh⟩
end
def twObj (pa pb pc pd : Int) (p : Nat) (h : Option Addr) (cost : Int) : AObj := ⟨[.int .i64 pa,.int .i64 pb,.int .i64 pc,.int .i64 pd,.pointer (some ⟨p,0,none⟩),.pointer h,.int .i64 cost],.rw,0⟩
structure TwAt (G : Nat → Prop) (H : AH) (t p c : Nat) (L : Pl) (pa pb pc pd : Int) (T : TS) (cost : Int) : Prop where
 ht : H.get t = twObj pa pb pc pd p (if T.on then some ⟨L.h,0,none⟩ else none) cost
 tp : t ≠ p
 tc : t ≠ c
 m : qC H p c T.s.M
 gt : G t
 gp : G p
 gc : G c
 gl : ∀ b,G b → b < H.size
 hp : T.on = true → HA H L pa pb pc pd T.s ∧ L.p = p ∧ L.c = c ∧ ¬ L.has t ∧ (∀ b,L.has b → G b)
section
variable {G G' : Nat → Prop} {H H' : AH} {t p c : Nat} {L : Pl} {pa pb pc pd cost : Int} {T : TS} {s0 : HS} {M : Mem} {ws : List Int} {root : Int} {mvb : Nat} {cb : Int} {h : Option Addr}
theorem tw_c4 (ht : H.get t = twObj pa pb pc pd p h cost) : AH.cell? H (qlL ⟨t,0,none⟩ 4) = some (.pointer (some ⟨p,0,none⟩)) := by simp [qk,AH.cell?,ht,twObj]
theorem tw_c5 (ht : H.get t = twObj pa pb pc pd p h cost) : AH.cell? H (qlL ⟨t,0,none⟩ 5) = some (.pointer h) := by simp [qk,AH.cell?,ht,twObj]
theorem tw_row (ht : H.get t = twObj pa pb pc pd p h cost) : AH.row? H (qlL ⟨t,0,none⟩ 0) 4 = some (pl pa pb pc pd) := by
 rw [qk]
 simp [AH.row?,ht,twObj,pl,qo]
theorem tw_set5 {h' : Option Addr} {k : AH → Prop} (ht : H.get t = twObj pa pb pc pd p h cost) (hk : k (H.upd t (twObj pa pb pc pd p h' cost))) : stC H (qlL ⟨t,0,none⟩ 5) [(qlO h')] k := by
 rw [qk,ql3,qaQ]
 refine ⟨⟨rfl,by rw [ht]; rfl,by rw [ht]; simp [twObj]⟩,?_⟩
 have e : AH.put H ⟨t,5,none⟩ [qlO h'] = H.upd t (twObj pa pb pc pd p h' cost) := by simp only [AH.put,ht]; rfl
 rw [e]; exact hk
theorem tw_set6 {v : Int} {k : AH → Prop} (ht : H.get t = twObj pa pb pc pd p h cost) (hk : k (H.upd t (twObj pa pb pc pd p h v))) : stC H (qlL ⟨t,0,none⟩ 6) [(qlI .i64 v)] k := by
 rw [qk,ql3,qaQ]
 refine ⟨⟨rfl,by rw [ht]; rfl,by rw [ht]; simp [twObj]⟩,?_⟩
 have e : AH.put H ⟨t,6,none⟩ [qlI .i64 v] = H.upd t (twObj pa pb pc pd p h v) := by simp only [AH.put,ht]; rfl
 rw [e]; exact hk
theorem TwAt.congr (h : TwAt G H t p c L pa pb pc pd T cost) (hs : H.size ≤ H'.size) (hg : ∀ b,G b → H'.get b = H.get b) : TwAt G H' t p c L pa pb pc pd T cost :=
 ⟨by rw [hg _ h.gt]; exact h.ht,h.tp,h.tc,h.m.keep hs (hg _ h.gp) (hg _ h.gc),h.gt,h.gp,h.gc,fun b hb => by have := h.gl b hb; omega,
  fun ho => by obtain ⟨a,b,c,d,e⟩ := h.hp ho; exact ⟨HA.congr a hs fun x hx => hg x (e x hx),b,c,d,e⟩⟩
theorem TwAt.keeps (h : TwAt G H t p c L pa pb pc pd T cost) (hk : qa H H') : TwAt G H' t p c L pa pb pc pd T cost := h.congr hk.1 fun b hb => hk.2 b (h.gl b hb)
theorem qgI.s {k : Int → AH → Prop} (ht : H.get t = twObj pa pb pc pd p h cost) (tp : t ≠ p) (tc : t ≠ c) (hm : qC H p c M) (hMP : MP pa pb pc pd M ws root mvb cb) (hup : M.down = false) (hb : mvb ≤ 1000000) (hcb : cb ≤ 1000000)
  (gt : G t) (gp : G p) (gc : G c) (gl : ∀ b,G b → b < H.size)
  (hk : ∀ G' H' L,Up G H G' H' → TwAt G' H' t p c L pa pb pc pd (twOpen pa pb pc pd M s0).1 cost → k (twOpen pa pb pc pd M s0).2 H') : qa8 (some ⟨t,0,none⟩) H k := by
 refine qa8.link ?_
 unfold qa8.b
 rw [qd,tw_c4 ht,qE,qd,ql (tw_row ht)]
 have lt := gl t gt
 unfold twOpen at hk
 have upG : ∀ {H' : AH} {o : AObj},FrO H H' p c → Up G H (fun b => G b ∨ (H.size ≤ b ∧ b < H'.size)) (H'.upd t o) := fun {H' o} fr =>
  ⟨⟨fr.size,fun b hb hn => by rw [qu,if_neg (show ¬ b = t from fun e => hn (e ▸ gt)),fr.get b hb (fun e => hn (e ▸ gp)) (fun e => hn (e ▸ gc))]⟩,fun b hb => hb⟩
 refine qah.s hMP hm hup (by omega) (by omega) ?_ ?_
 ·intro hne H' hM' fr
  rw [if_neg hne] at hk
  have ht' : H'.get t = twObj pa pb pc pd p h cost := by rw [fr.get t lt tp tc]; exact ht
  rw [qd]
  refine tw_set5 ht' ?_
  have hs := fr.size
  refine hk _ _ ⟨0,0,0,0,0,0,0,0,0⟩ (upG fr) ⟨by rw [qu,if_pos rfl]; rfl,tp,tc,hM'.keep (qlS _) (by rw [qu,if_neg (Ne.symm tp)]) (by rw [qu,if_neg (Ne.symm tc)]),.inl gt,.inl gp,.inl gc,fun b hb => ?_,fun hh => by cases hh⟩
  show b < H'.size
  rcases hb with hb | hb
  ·have := gl b hb; omega
  ·exact hb.2
 ·intro he H' L hA hp hc l1 l2 l3 l4 l5 l6 l7 fr
  rw [if_pos he] at hk
  have ht' : H'.get t = twObj pa pb pc pd p h cost := by rw [fr.get t lt tp tc]; exact ht
  rw [qd]
  refine tw_set5 ht' ?_
  have hs := fr.size
  have hnew : ∀ b,L.has b → b ≠ p → b ≠ c → H.size ≤ b := by
   intro b hb n1 n2
   rcases hb with e | e | e | e | e | e | e | e | e <;> first | omega | exact absurd (e.trans hp) n1 | exact absurd (e.trans hc) n2
  have hnt : ¬ L.has t := fun hh => by have := hnew t hh tp tc; omega
  have hA' : HA (H'.upd t (twObj pa pb pc pd p (some ⟨L.h,0,none⟩) cost)) L pa pb pc pd (openS pa pb pc pd M) := HA.congr hA (qlS _) fun b hb => by rw [qu,if_neg (show ¬ b = t from fun e => hnt (e ▸ hb))]
  have hm' := (HAt.ga hA').tn.l.m
  rw [hp,hc] at hm'
  refine hk _ _ L (upG fr) ⟨by rw [qu,if_pos rfl]; rfl,tp,tc,hm',.inl gt,.inl gp,.inl gc,fun b hb => ?_,fun _ => ⟨hA',hp,hc,hnt,fun b hb => ?_⟩⟩
  ·show b < H'.size
   rcases hb with hb | hb
   ·have := gl b hb; omega
   ·exact hb.2
  ·by_cases n1 : b = p
   ·rw [n1]; exact .inl gp
   by_cases n2 : b = c
   ·rw [n2]; exact .inl gc
   exact .inr ⟨hnew b hb n1 n2,HA.lt hA hb⟩
end
section
variable {G : Nat → Prop} {H : AH} {t p c : Nat} {L : Pl} {pa pb pc pd cost : Int} {T : TS} {mvb : Nat} {cb : Int}
theorem qer {o : Nat} {a b e m : Int} {y x : Sl} {k : List Value → AH → Prop} (h : AnAt H o a b y) (hk : ∀ H',H'.size = H.size → AnAt H' o e m x → (∀ i,i ≠ o → H'.get i = H.get i) → k (anV e m x) H') :
  ((anV e m x).length = 3 ∧ (anV e m x).all qo = true) ∧ stC H ⟨o,0,none⟩ (anV e m x) fun Hs => ldA Hs ⟨o,0,none⟩ 3 fun r0 => k r0 Hs := by
 obtain ⟨z,hg⟩ := h
 refine ⟨⟨rfl,rfl⟩,?_⟩
 rw [qaQ]
 refine ⟨⟨rfl,by rw [hg],by rw [hg]; simp [ansl,anV]⟩,?_⟩
 have e1 : AH.put H ⟨o,0,none⟩ (anV e m x) = H.upd o ⟨anV e m x,.rw,z⟩ := by simp only [AH.put,hg]; rfl
 rw [e1]
 have hA : AnAt (H.upd o ⟨anV e m x,.rw,z⟩) o e m x := ⟨z,by rw [qu,if_pos rfl]; rfl⟩
 rw [ql hA.row]
 exact hk _ rfl hA fun i hi => by rw [qu,if_neg hi]
theorem qjC.s {K off n mask : Int} {x : Sl} {bs : List Int} {k : List Value → AH → Prop} (h : TwAt G H t p c L pa pb pc pd T cost) (hw : TW pa pb pc pd T mvb cb) (hb : mvb ≤ 100000) (hcb : cb ≤ 100000)
  (hio : isI off) (hin : isI n) (hx : ql5 H x 1 bU bs) (h8 : qam bs)
  (hk : ∀ G' H' L' x',Up G H G' H' → TwAt G' H' t p c L' pa pb pc pd (twDoes pa pb pc pd T K off n mask bs).1 cost → Own H.size H' x' 1 bU (twDoes pa pb pc pd T K off n mask bs).2.2.2 → (∀ a,x'.a = some a → ¬ G' a.block) →
   k (anV (twDoes pa pb pc pd T K off n mask bs).2.1 (twDoes pa pb pc pd T K off n mask bs).2.2.1 x') H') : qbn (some ⟨t,0,none⟩) (opV K off n mask x) H k := by
 refine qbn.link ?_
 unfold qbn.b
 rw [qp,qp]
 have hk4 : qa H ((H.push ⟨opV K off n mask x,.rw,0⟩).push ⟨anV 0 0 ⟨none,0,0⟩,.rw,0⟩) := ((qa.refl H).push _).push _
 have hO4 : OpAt ((H.push ⟨opV K off n mask x,.rw,0⟩).push ⟨anV 0 0 ⟨none,0,0⟩,.rw,0⟩) H.size K off n mask x := (OpAt.new (H := H) (e := 0)).keep (qv (by simp [qe]))
 have hA4 : AnAt ((H.push ⟨opV K off n mask x,.rw,0⟩).push ⟨anV 0 0 ⟨none,0,0⟩,.rw,0⟩) (H.push ⟨opV K off n mask x,.rw,0⟩).size 0 0 ⟨none,0,0⟩ := AnAt.new
 have hz4 : ((H.push ⟨opV K off n mask x,.rw,0⟩).push ⟨anV 0 0 ⟨none,0,0⟩,.rw,0⟩).size = H.size + 2 := by simp [qe]
 have ho4 : (H.push ⟨opV K off n mask x,.rw,0⟩).size = H.size + 1 := by simp [qe]
 rw [show ({ cells := [(qlI .i64 (0 : Int)),(qlI .i64 (0 : Int)),(qlV none 0 0)],md := .rw,esz := 0 } : AObj) = ⟨anV 0 0 ⟨none,0,0⟩,.rw,0⟩ from rfl]
 generalize (H.push ⟨opV K off n mask x,.rw,0⟩).push ⟨anV 0 0 ⟨none,0,0⟩,.rw,0⟩ = H4 at *
 rw [ho4] at hA4 ⊢
 have h4 := h.keeps hk4
 have gH : ∀ {b},G b → b < H.size := fun hb => h.gl _ hb
 have uk : Up G H G H4 := ⟨qa.kp hk4,fun b hb => .inl hb⟩
 rw [hO4.c0,qf]
 unfold twDoes at hk
 by_cases k7 : K = 7
 ·rw [if_pos k7] at hk
  rw [show (K == 7) = true by simpa using k7,qj,qd,tw_c4 h4.ht,qE,hO4.c2,qf,hO4.c3,qf]
  refine qa3.g h4.m (by unfold isI at hin; omega) ?_
  intro H17 hM17 f17
  refine qer (H := H17) (a := 0) (b := 0) (y := ⟨none,0,0⟩) (e := 0) (m := 0) (x := ⟨none,0,0⟩) (hA4.keep (f17.get _ (by have := gH h.gp; omega) (by have := gH h.gc; omega))) ?_
  intro H' hs' _ hg'
  have hs17 := f17.size
  have gne : ∀ b,G b → b ≠ H.size + 1 := fun b hb => by have := gH hb; omega
  have get' : ∀ b,G b → b ≠ p → b ≠ c → H'.get b = H4.get b := fun b hb n1 n2 => by rw [hg' b (gne b hb),f17.get b n1 n2]
  refine hk G H' L ⟨none,0,0⟩ ⟨⟨by have := hk4.1; omega,fun b hb hn => ?_⟩,fun b hb => .inl hb⟩ ?_ (.inl ⟨rfl,rfl⟩) (fun a ha => by cases ha)
  ·rw [hg' b (by omega),f17.get b (fun e => hn (e ▸ h.gp)) (fun e => hn (e ▸ h.gc)),hk4.2 b hb]
  ·have hm' : qC H' p c (T.s.M.setCut n mask) := hM17.keep (by omega) (hg' p (gne p h.gp)) (hg' c (gne c h.gc))
   refine ⟨by rw [get' t h.gt h.tp h.tc]; exact h4.ht,h.tp,h.tc,hm',h.gt,h.gp,h.gc,fun b hb => by have := gH hb; omega,fun ho => ?_⟩
   obtain ⟨a1,a2,a3,a4,a5⟩ := h4.hp ho
   have hA17 : HA H17 L pa pb pc pd { T.s with M := T.s.M.setCut n mask } := HAt.mset a1 (by rw [a2,a3]; exact hM17) (by rw [a2,a3]; exact f17) rfl rfl
   exact ⟨HA.congr hA17 (by omega) fun b hb => hg' b (gne b (a5 b hb)),a2,a3,a4,a5⟩
 rw [if_neg k7] at hk
 rw [show (K == 7) = false by simpa using k7,qc,qf]
 by_cases k8 : K = 8
 ·rw [if_pos k8] at hk
  rw [show (K == 8) = true by simpa using k8,qj,qd,tw_c4 h4.ht,qE]
  refine qaL.g h4.m ?_
  intro H27 hM27 f27
  have hs27 := f27.size
  obtain ⟨ws,root,hMP⟩ := hw.mp
  have ht27 : H27.get t = twObj pa pb pc pd p (if T.on then some ⟨L.h,0,none⟩ else none) cost := by rw [f27.get t h.tp h.tc]; exact h4.ht
  refine qgI.s (s0 := T.s) (G := G) ht27 h.tp h.tc hM27 hMP.power rfl (by omega) (by omega) h.gt h.gp h.gc (fun b hb => by have := gH hb; omega) ?_
  intro G' H29 L' hu hT
  have ne1 : ∀ b,G' b → b ≠ H.size + 1 := fun b hb e => by
   rcases hu.2 b hb with hb | hb
   ·have := gH hb; omega
   ·omega
  have hgo : H29.get (H.size + 1) = H27.get (H.size + 1) := hu.1.2 _ (by omega) (fun hh => by have := gH hh; omega)
  refine qer (H := H29) (a := 0) (b := 0) (y := ⟨none,0,0⟩) (e := _) (m := 0) (x := ⟨none,0,0⟩) ((hA4.keep (f27.get _ (by have := gH h.gp; omega) (by have := gH h.gc; omega))).keep hgo) ?_
  intro H' hs' _ hg'
  have hu1 := hu.1.1
  refine hk G' H' L' ⟨none,0,0⟩ ⟨⟨by omega,fun b hb hn => ?_⟩,fun b hb => ?_⟩ (hT.congr (by omega) fun b hb => hg' b (ne1 b hb)) (.inl ⟨rfl,rfl⟩) (fun a ha => by cases ha)
  ·rw [hg' b (by omega),hu.1.2 b (by omega) hn,f27.get b (fun e => hn (e ▸ h.gp)) (fun e => hn (e ▸ h.gc)),hk4.2 b hb]
  ·rcases hu.2 b hb with hb | hb
   ·exact .inl hb
   ·exact .inr ⟨by omega,by omega⟩
 rw [if_neg k8] at hk
 rw [show (K == 8) = false by simpa using k8,qc,qd,tw_c5 h4.ht,qE]
 by_cases ho : T.on = false
 ·rw [if_pos ho] at hk
  rw [ho]
  simp only [Bool.false_eq_true,if_false]
  rw [qm8,qj]
  refine qer (H := H4) (a := 0) (b := 0) (y := ⟨none,0,0⟩) (e := 5) (m := 0) (x := ⟨none,0,0⟩) hA4 ?_
  intro H' hs' _ hg'
  refine hk G H' L ⟨none,0,0⟩ ⟨⟨by omega,fun b hb hn => ?_⟩,fun b hb => .inl hb⟩ (h4.congr (by omega) fun b hb => hg' b (by have := gH hb; omega)) (.inl ⟨rfl,rfl⟩) (fun a ha => by cases ha)
  rw [hg' b (by omega),hk4.2 b hb]
 rw [if_neg ho] at hk
 have ho' : T.on = true := by simpa using ho
 obtain ⟨a1,a2,a3,a4,a5⟩ := h4.hp ho'
 obtain ⟨ws,root,hP⟩ := hw.1 ho'
 have hif : (if T.on = true then some (⟨L.h,0,none⟩ : Addr) else none) = some ⟨L.h,0,none⟩ := if_pos ho'
 rw [hif,qlZ,qc,qd,tw_c5 h4.ht,qE,hif,ql hO4.row]
 have hx4 := hx.keep hk4
 refine qkm (K := K) (off := off) (n := n) (mask := mask) (x := x) (bs := bs) (hP.hok a1 (by omega) (by omega)) hio hin (fun _ => ⟨hx4,h8⟩) ?_
 intro H43 x43 hA43 f43 hO43
 have hs43 := f43.size
 have no4 : ¬ L.has (H.size + 1) := fun hh => by have := gH (a5 _ hh); omega
 refine qer (H := H43) (a := 0) (b := 0) (y := ⟨none,0,0⟩) (hA4.keep (f43.out (by omega) no4)) ?_
 intro H' hs' _ hg'
 refine hk G H' L x43 ⟨⟨by omega,fun b hb hn => ?_⟩,fun b hb => .inl hb⟩ ?_ ?_ ?_
 ·rw [hg' b (by omega),f43.out (by omega) (fun hh => hn (a5 b hh)),hk4.2 b hb]
 ·have gne : ∀ b,G b → b ≠ H.size + 1 := fun b hb => by have := gH hb; omega
  have hA' : HA H' L pa pb pc pd (doH pa pb pc pd T.s K off n bs).1 := HA.congr hA43 (by omega) fun b hb => hg' b (gne b (a5 b hb))
  have hm' := (HAt.ga hA').tn.l.m
  rw [a2,a3] at hm'
  refine ⟨?_,h.tp,h.tc,hm',h.gt,h.gp,h.gc,fun b hb => by have := gH hb; omega,fun _ => ⟨hA',a2,a3,a4,a5⟩⟩
  rw [hg' t (gne t h.gt),f43.out (by have := gH h.gt; omega) a4,h4.ht,hif]
  rfl
 ·have hO' : Own H4.size H' x43 1 bU (doH pa pb pc pd T.s K off n bs).2.2.2 := hO43.keep (by omega) fun b hb _ => hg' b (by omega)
  exact qbO hO' hk4.1
 ·intro a ha hG
  rcases hO43 with ⟨e,_⟩ | ⟨b,e,hb1,_,_⟩
  ·rw [e] at ha; cases ha
  ·rw [e] at ha; cases ha
   have := gH hG
   simp only at this
   omega
end
section
variable {G : Nat → Prop} {H : AH} {t p c : Nat} {L : Pl} {pa pb pc pd cost : Int} {T : TS} {mvb : Nat} {cb : Int}
def twCost (pa pb pc pd : Int) (T : TS) (K off n mask : Int) (bs : List Int) : Int := qlJ .i64 ((twDoes pa pb pc pd T K off n mask bs).1.s.M.writes - T.s.M.writes)
theorem TwAt.cost' {v : Int} (h : TwAt G H t p c L pa pb pc pd T cost) : TwAt G (H.upd t (twObj pa pb pc pd p (if T.on then some ⟨L.h,0,none⟩ else none) v)) t p c L pa pb pc pd T v := by
 refine ⟨by rw [qu,if_pos rfl],h.tp,h.tc,h.m.keep (qlS _) (by rw [qu,if_neg (Ne.symm h.tp)]) (by rw [qu,if_neg (Ne.symm h.tc)]),h.gt,h.gp,h.gc,h.gl,fun ho => ?_⟩
 obtain ⟨a1,a2,a3,a4,a5⟩ := h.hp ho
 exact ⟨HA.congr a1 (qlS _) fun b hb => by rw [qu,if_neg (show ¬ b = t from fun e => a4 (e ▸ hb))],a2,a3,a4,a5⟩
theorem qdO.s {K off n mask : Int} {x : Sl} {bs : List Int} {k : List Value → AH → Prop} (h : TwAt G H t p c L pa pb pc pd T cost) (hw : TW pa pb pc pd T mvb cb) (hb : mvb ≤ 100000) (hcb : cb ≤ 100000)
  (hio : isI off) (hin : isI n) (hx : ql5 H x 1 bU bs) (h8 : qam bs)
  (hk : ∀ G' H' L' x',Up G H G' H' → TwAt G' H' t p c L' pa pb pc pd (twDoes pa pb pc pd T K off n mask bs).1 (twCost pa pb pc pd T K off n mask bs) → Own H.size H' x' 1 bU (twDoes pa pb pc pd T K off n mask bs).2.2.2 → (∀ a,x'.a = some a → ¬ G' a.block) →
   k (anV (twDoes pa pb pc pd T K off n mask bs).2.1 (twDoes pa pb pc pd T K off n mask bs).2.2.1 x') H') : qap (some ⟨t,0,none⟩) (opV K off n mask x) H k := by
 refine qap.link ?_
 unfold qap.b
 rw [qp,qp]
 have hk4 : qa H ((H.push ⟨opV K off n mask x,.rw,0⟩).push ⟨anV 0 0 ⟨none,0,0⟩,.rw,0⟩) := ((qa.refl H).push _).push _
 have hO4 : OpAt ((H.push ⟨opV K off n mask x,.rw,0⟩).push ⟨anV 0 0 ⟨none,0,0⟩,.rw,0⟩) H.size K off n mask x := (OpAt.new (H := H) (e := 0)).keep (qv (by simp [qe]))
 have hA4 : AnAt ((H.push ⟨opV K off n mask x,.rw,0⟩).push ⟨anV 0 0 ⟨none,0,0⟩,.rw,0⟩) (H.push ⟨opV K off n mask x,.rw,0⟩).size 0 0 ⟨none,0,0⟩ := AnAt.new
 have hz4 : ((H.push ⟨opV K off n mask x,.rw,0⟩).push ⟨anV 0 0 ⟨none,0,0⟩,.rw,0⟩).size = H.size + 2 := by simp [qe]
 have ho4 : (H.push ⟨opV K off n mask x,.rw,0⟩).size = H.size + 1 := by simp [qe]
 rw [show ({ cells := [(qlI .i64 (0 : Int)),(qlI .i64 (0 : Int)),(qlV none 0 0)],md := .rw,esz := 0 } : AObj) = ⟨anV 0 0 ⟨none,0,0⟩,.rw,0⟩ from rfl]
 generalize (H.push ⟨opV K off n mask x,.rw,0⟩).push ⟨anV 0 0 ⟨none,0,0⟩,.rw,0⟩ = H4 at *
 rw [ho4] at hA4 ⊢
 have h4 := h.keeps hk4
 have gH : ∀ {b},G b → b < H.size := fun hb => h.gl _ hb
 rw [qlZ,qc,qd,tw_c4 h4.ht,qE]
 refine qaM.s h4.m ?_
 rw [ql hO4.row]
 refine qjC.s (K := K) (off := off) (n := n) (mask := mask) (x := x) (bs := bs) h4 hw hb hcb hio hin (hx.keep hk4) h8 ?_
 intro G' H17 L' x' hu hT hO hne
 unfold twCost at hk
 generalize twDoes pa pb pc pd T K off n mask bs = R at *
 have hs17 := hu.1.1
 have noG : ∀ b,G' b → b ≠ H.size + 1 := fun b hb e => by
  rcases hu.2 b hb with hb | hb
  ·have := gH hb; omega
  ·omega
 have hA17 : AnAt H17 (H.size + 1) 0 0 ⟨none,0,0⟩ := hA4.keep (hu.1.2 _ (by omega) (fun hh => by have := gH hh; omega))
 refine qbW (n := 3) rfl rfl rfl ?_
 have hAn : AnAt (H17.push ⟨anV R.2.1 R.2.2.1 x',.rw,0⟩) H17.size R.2.1 R.2.2.1 x' := AnAt.new
 have hk18 : qa H17 (H17.push ⟨anV R.2.1 R.2.2.1 x',.rw,0⟩) := (qa.refl H17).push _
 have hz18 : (H17.push ⟨anV R.2.1 R.2.2.1 x',.rw,0⟩).size = H17.size + 1 := by simp [qe]
 generalize H17.push ⟨anV R.2.1 R.2.2.1 x',.rw,0⟩ = H18 at *
 have hT18 := hT.keeps hk18
 rw [qd,tw_c4 hT18.ht,qE]
 refine qaM.s hT18.m ?_
 rw [qd]
 refine tw_set6 hT18.ht ?_
 have hT19 := hT18.cost' (v := qlJ .i64 (R.1.s.M.writes - T.s.M.writes))
 have hzt : t < H.size := gH h.gt
 have g19 : ∀ b,b ≠ t → (H18.upd t (twObj pa pb pc pd p (if R.1.on then some ⟨L'.h,0,none⟩ else none) (qlJ .i64 (R.1.s.M.writes - T.s.M.writes)))).get b = H18.get b := fun b hb => by rw [qu,if_neg hb]
 have z19 : (H18.upd t (twObj pa pb pc pd p (if R.1.on then some ⟨L'.h,0,none⟩ else none) (qlJ .i64 (R.1.s.M.writes - T.s.M.writes)))).size = H18.size := rfl
 generalize H18.upd t (twObj pa pb pc pd p (if R.1.on then some ⟨L'.h,0,none⟩ else none) (qlJ .i64 (R.1.s.M.writes - T.s.M.writes))) = H19 at *
 have hAn19 : AnAt H19 H17.size R.2.1 R.2.2.1 x' := hAn.keep (g19 _ (by omega))
 rw [ql hAn19.row]
 have hA19 : AnAt H19 (H.size + 1) 0 0 ⟨none,0,0⟩ := (hA17.keep (hk18.2 _ (by omega))).keep (g19 _ (by omega))
 refine qer (H := H19) (a := 0) (b := 0) (y := ⟨none,0,0⟩) hA19 ?_
 intro H' hs' _ hg'
 refine hk G' H' L' x' ⟨⟨by omega,fun b hb hn => ?_⟩,fun b hb => ?_⟩ (hT19.congr (by omega) fun b hb => hg' b (noG b hb)) ?_ hne
 ·rw [hg' b (by omega),g19 b (fun e => hn (e ▸ h.gt)),hk18.2 b (by omega),hu.1.2 b (by omega) hn,hk4.2 b hb]
 ·rcases hu.2 b hb with hb | hb
  ·exact .inl hb
  ·exact .inr ⟨by omega,by omega⟩
 ·exact qbO (hO.keep (by omega) fun b hb hb2 => by rw [hg' b (by omega),g19 b (by omega),hk18.2 b hb2]) (show H.size ≤ H4.size by omega)
end
def twStart (pa pb pc pd : Int) (limits : List Int) : TS := ⟨openS pa pb pc pd (formN pa pb pc limits).1,true⟩
section
variable {G : Nat → Prop} {H : AH} {t p c : Nat} {L : Pl} {pa pb pc pd cost : Int} {T : TS} {mvb : Nat} {cb : Int}
theorem qbY.s {x1 : Sl} {limits : List Int} {k : Option Addr → Int → AH → Prop} (hr : ql5 H x1 1 iV limits)
  (hbad : mayP pa pb pc pd = false → ∀ H',qa H H' → k none 1 H')
  (hworn : mayP pa pb pc pd = true → (formN pa pb pc limits).2.2 = 3 → ∀ H',qa H H' → k none 3 H')
  (hgo : mayP pa pb pc pd = true → (formN pa pb pc limits).2.2 = 0 → ∀ G H' t p c L,qa H H' → (∀ b,G b → H.size ≤ b) → TwAt G H' t p c L pa pb pc pd (twStart pa pb pc pd limits) 0 → TW pa pb pc pd (twStart pa pb pc pd limits) 15 0 → k (some ⟨t,0,none⟩) 0 H') :
  qbY (pl pa pb pc pd) x1 H k := by
 refine qbY.link ?_
 unfold qbY.b
 rw [qp,pl_ld]
 have hk1 : qa H (H.push ⟨pl pa pb pc pd,.rw,0⟩) := (qa.refl H).push _
 have g1 : (H.push ⟨pl pa pb pc pd,.rw,0⟩).get H.size = ⟨pl pa pb pc pd,.rw,0⟩ := by rw [qm,if_pos rfl]
 have hsz1 : (H.push ⟨pl pa pb pc pd,.rw,0⟩).size = H.size + 1 := by simp [qe]
 generalize H.push ⟨pl pa pb pc pd,.rw,0⟩ = H1 at *
 refine qbg.s ?_
 cases hmay : mayP pa pb pc pd with
 | false =>
  rw [qmp,qj]
  exact hbad hmay _ hk1
 | true =>
  rw [qmm,qc,ql (plg_row g1),ql (plg_row g1)]
  have hmp := qV.1 hmay
  refine qby.s ?_
  refine ⟨plg_row g1,?_⟩
  have hdev : deviceP pa pb pc pd = ((16 + pa.toNat + 1 + pb.toNat : Nat) : Int) := by unfold deviceP; rw [if_pos hmay]; omega
  rw [hdev]
  refine nvm_New.s (hr.keep hk1) ?_ (fun hn => absurd (by omega) hn)
  intro _ H2 hM2 hk2 hs2
  rw [qlP] at hM2
  have g2 : H2.get H.size = ⟨pl pa pb pc pd,.rw,0⟩ := by rw [hk2.2 _ (by omega)]; exact g1
  refine ⟨plg_row g2,rfl,?_⟩
  have eo : (List.set (setMany [(qlI .i64 (0 : Int)),(qlI .i64 (0 : Int)),(qlI .i64 (0 : Int)),(qlI .i64 (0 : Int)),(qlO none),(qlO none),(qlI .i64 (0 : Int))] 0 (pl pa pb pc pd)) 4 (qlO (some ⟨H1.size + 1,0,none⟩))) = (twObj pa pb pc pd (H1.size + 1) none 0).cells := rfl
  rw [eo,qp]
  have hk3 : qa H2 (H2.push ⟨(twObj pa pb pc pd (H1.size + 1) none 0).cells,.rw,0⟩) := (qa.refl H2).push _
  have g3 : (H2.push ⟨(twObj pa pb pc pd (H1.size + 1) none 0).cells,.rw,0⟩).get H2.size = twObj pa pb pc pd (H1.size + 1) none 0 := by rw [qm,if_pos rfl]; rfl
  have hsz3 : (H2.push ⟨(twObj pa pb pc pd (H1.size + 1) none 0).cells,.rw,0⟩).size = H2.size + 1 := by simp [qe]
  generalize H2.push ⟨(twObj pa pb pc pd (H1.size + 1) none 0).cells,.rw,0⟩ = H3 at *
  have g13 : H3.get H.size = ⟨pl pa pb pc pd,.rw,0⟩ := by rw [hk3.2 _ (by omega)]; exact g2
  rw [tw_c4 g3,qE,ql (plg_row g13)]
  obtain ⟨f1,f2,f3,_,_,f4⟩ := formed (limits := limits) hmay
  have hM3 := hM2.keeps hk3
  refine qL.s hM3 hmay ?_
  intro H4 hM4 fr4
  have hs4 := fr4.size
  have hkk : qa H H4 := fr4.keeps ((hk1.trans hk2).trans hk3) (by omega) (by omega)
  rcases f4 with ⟨e,hMP,hc⟩ | e
  ·rw [e,show ((0 : Int) != 0) = false from rfl,qc]
   have hrc : recN (16 + pa.toNat) pb.toNat pc.toNat (formN pa pb pc limits).1 0 = ((formN pa pb pc limits).1,0,0) := qfB f1 hc
   have g4 : H4.get H2.size = twObj pa pb pc pd (H1.size + 1) none 0 := by rw [fr4.get _ (by omega) (by omega) (by omega)]; exact g3
   have eT : twOpen pa pb pc pd (formN pa pb pc limits).1 ⟨(formN pa pb pc limits).1,0,[],[],false⟩ = (twStart pa pb pc pd limits,0) := by
    unfold twOpen twStart
    rw [if_pos (by rw [hrc])]
   refine qgI.s (s0 := ⟨(formN pa pb pc limits).1,0,[],[],false⟩) (G := fun b => b = H2.size ∨ b = H1.size + 1 ∨ b = H1.size) g4 (by omega) (by omega) hM4 hMP f1 (by omega) (by omega) (.inl rfl) (.inr (.inl rfl)) (.inr (.inr rfl)) (fun b hb => by omega) ?_
   intro G' H5 L' hu hT
   have hTW := TW.open_ (s := ⟨(formN pa pb pc limits).1,0,[],[],false⟩) hMP f1 (by omega)
   rw [eT] at hT hTW ⊢
   rw [show ((0 : Int) != 0) = false from rfl,qc]
   refine hgo hmay e G' H5 _ _ _ L' ?_ ?_ hT hTW
   ·refine ⟨by have := hkk.1; have := hu.1.1; omega,fun b hb => ?_⟩
    have h0 := hkk.1
    rw [hu.1.2 b (by omega) (by omega),hkk.2 b hb]
   ·intro b hb
    have h0 := hkk.1
    rcases hu.2 b hb with hb | hb <;> omega
  ·rw [e,show ((3 : Int) != 0) = true from rfl,qj]
   exact hworn hmay e _ hkk
theorem qjv.s {k : Option Addr → AH → Prop} (h : TwAt G H t p c L pa pb pc pd T cost) (hk : k (if T.on then some ⟨L.h,0,none⟩ else none) H) : qb1 (some ⟨t,0,none⟩) H k := by
 refine qb1.link ?_
 unfold qb1.b
 rw [qlZ,qc,qd,tw_c5 h.ht,qE]
 exact hk
end
def decOp (b0 b1 b2 b3 : Int) : Option (Int × Int × Int × Int) :=
 if b0 = 1 then some (1,0,b1 + 256 * b2,0)
 else if b0 = 2 ∨ b0 = 4 ∨ b0 = 5 then some (b0,b1 + 256 * b2,0,0)
 else if b0 = 3 then some (3,b1 + 256 * b2,b3,0)
 else if b0 = 7 then some (7,0,b1 + 256 * b2,b3)
 else if b0 = 6 ∨ b0 = 8 then some (b0,0,0,0)
 else none
section
variable {H : AH} {o : Nat} {K a b c v : Int} {sl : Sl} {k : AH → Prop}
theorem op_set1 (h : OpAt H o K a b c sl) (hk : ∀ H',H'.size = H.size → OpAt H' o K v b c sl → (∀ i,i ≠ o → H'.get i = H.get i) → k H') : stC H (qlL ⟨o,0,none⟩ 1) [(qlI .i64 v)] k := by
 obtain ⟨z,hg⟩ := h
 rw [qk,ql3,qaQ]
 refine ⟨⟨rfl,by rw [hg],by rw [hg]; simp [opl]⟩,?_⟩
 have e1 : AH.put H ⟨o,1,none⟩ [qlI .i64 v] = H.upd o ⟨opl K v b c sl,.rw,z⟩ := by simp only [AH.put,hg]; rfl
 rw [e1]
 exact hk _ rfl ⟨z,by rw [qu,if_pos rfl]⟩ fun i hi => by rw [qu,if_neg hi]
theorem op_set2 (h : OpAt H o K a b c sl) (hk : ∀ H',H'.size = H.size → OpAt H' o K a v c sl → (∀ i,i ≠ o → H'.get i = H.get i) → k H') : stC H (qlL ⟨o,0,none⟩ 2) [(qlI .i64 v)] k := by
 obtain ⟨z,hg⟩ := h
 rw [qk,ql3,qaQ]
 refine ⟨⟨rfl,by rw [hg],by rw [hg]; simp [opl]⟩,?_⟩
 have e1 : AH.put H ⟨o,2,none⟩ [qlI .i64 v] = H.upd o ⟨opl K a v c sl,.rw,z⟩ := by simp only [AH.put,hg]; rfl
 rw [e1]
 exact hk _ rfl ⟨z,by rw [qu,if_pos rfl]⟩ fun i hi => by rw [qu,if_neg hi]
theorem op_set3 (h : OpAt H o K a b c sl) (hk : ∀ H',H'.size = H.size → OpAt H' o K a b v sl → (∀ i,i ≠ o → H'.get i = H.get i) → k H') : stC H (qlL ⟨o,0,none⟩ 3) [(qlI .i64 v)] k := by
 obtain ⟨z,hg⟩ := h
 rw [qk,ql3,qaQ]
 refine ⟨⟨rfl,by rw [hg],by rw [hg]; simp [opl]⟩,?_⟩
 have e1 : AH.put H ⟨o,3,none⟩ [qlI .i64 v] = H.upd o ⟨opl K a b v sl,.rw,z⟩ := by simp only [AH.put,hg]; rfl
 rw [e1]
 exact hk _ rfl ⟨z,by rw [qu,if_pos rfl]⟩ fun i hi => by rw [qu,if_neg hi]
end
section
variable {H : AH}
theorem qS.s {x0 : Sl} {b0 b1 b2 b3 : Int} {r : List Int} {k : List Value → Bool → AH → Prop} (hr : ql5 H x0 1 bU (b0 :: b1 :: b2 :: b3 :: r)) (h8 : qam (b0 :: b1 :: b2 :: b3 :: r))
  (hs : ∀ K off n mask,decOp b0 b1 b2 b3 = some (K,off,n,mask) → ∀ H',qa H H' → k (opl K off n mask ⟨none,0,0⟩) true H')
  (hn : decOp b0 b1 b2 b3 = none → ∀ H',qa H H' → k (opl 0 0 0 0 ⟨none,0,0⟩) false H') : qS x0 H k := by
 have q0 := h8 b0 (by simp); have q1 := h8 b1 (by simp); have q2 := h8 b2 (by simp); have q3 := h8 b3 (by simp)
 unfold isB at q0 q1 q2 q3
 refine qS.link ?_
 unfold qS.b
 rw [qp]
 have hk2 : qa H (H.push ⟨opl 0 0 0 0 ⟨none,0,0⟩,.rw,0⟩) := (qa.refl H).push _
 have hO2 : OpAt (H.push ⟨opl 0 0 0 0 ⟨none,0,0⟩,.rw,0⟩) H.size 0 0 0 0 ⟨none,0,0⟩ := OpAt.new
 have hz2 : (H.push ⟨opl 0 0 0 0 ⟨none,0,0⟩,.rw,0⟩).size = H.size + 1 := by simp [qe]
 rw [show ({ cells := [(qlI .i64 (0 : Int)),(qlI .i64 (0 : Int)),(qlI .i64 (0 : Int)),(qlI .i64 (0 : Int)),(qlV none 0 0)],md := .rw,esz := 0 } : AObj) = ⟨opl 0 0 0 0 ⟨none,0,0⟩,.rw,0⟩ from rfl]
 generalize H.push ⟨opl 0 0 0 0 ⟨none,0,0⟩,.rw,0⟩ = H2 at *
 have hR := hr.keep hk2
 obtain ⟨e1,o1,a1,_,c1⟩ := qbs (g := fun v => qlI .u8 v) hR (i := 1) (by simp)
 obtain ⟨e2,o2,a2,_,c2⟩ := qbs (g := fun v => qlI .u8 v) hR (i := 2) (by simp)
 obtain ⟨e3,o3,a3,_,c3⟩ := qbs (g := fun v => qlI .u8 v) hR (i := 3) (by simp)
 obtain ⟨e0,o0,a0,_,c0⟩ := qbs (g := fun v => qlI .u8 v) hR (i := 0) (by simp)
 rw [a1] at a2 a3 a0
 cases a2; cases a3; cases a0
 have hn4 : x0.n = r.length + 4 := by rw [hR.1]; simp
 have hlt : ∀ i : Int,0 ≤ i → i < 4 → (0 ≤ i ∧ i < ((x0.n : Nat) : Int)) := fun i h0 h4 => ⟨h0,by omega⟩
 have w : ∀ z : Int,0 ≤ z → z ≤ 1000000 → qlJ .i64 z = z := fun z h0 h1 => qg (by omega) (by omega)
 rw [a1]
 refine ⟨hlt 1 (by omega) (by omega),?_⟩
 rw [qd,show qlQ (1 : Int) = 1 from rfl,c1]
 show elI .u8 (some (.int .u8 b1)) _
 rw [qf]
 refine ⟨hlt 2 (by omega) (by omega),?_⟩
 rw [qd,show qlQ (2 : Int) = 2 from rfl,c2]
 show elI .u8 (some (.int .u8 b2)) _
 rw [qf]
 refine ⟨hlt 3 (by omega) (by omega),?_⟩
 rw [qd,show qlQ (3 : Int) = 3 from rfl,c3]
 show elI .u8 (some (.int .u8 b3)) _
 rw [qf]
 refine ⟨hlt 0 (by omega) (by omega),?_⟩
 rw [qd,show qlQ (0 : Int) = 0 from rfl,c0]
 show elI .u8 (some (.int .u8 b0)) _
 have w0 := w b0 (by omega) (by omega)
 have w1 := w b1 (by omega) (by omega)
 have w2 := w b2 (by omega) (by omega)
 have w3 := w b3 (by omega) (by omega)
 have w4 := w (256 * b2) (by omega) (by omega)
 have w5 := w (b1 + 256 * b2) (by omega) (by omega)
 rw [qf,w0,w1,w2,w4,w5]
 refine qbW (n := 5) rfl rfl rfl ?_
 have hO6 : OpAt (H2.push ⟨opl b0 0 0 0 ⟨none,0,0⟩,.rw,0⟩) H2.size b0 0 0 0 ⟨none,0,0⟩ := OpAt.new
 have hk6 : qa H2 (H2.push ⟨opl b0 0 0 0 ⟨none,0,0⟩,.rw,0⟩) := (qa.refl H2).push _
 have hz6 : (H2.push ⟨opl b0 0 0 0 ⟨none,0,0⟩,.rw,0⟩).size = H2.size + 1 := by simp [qe]
 rw [show ({ cells := [(qlI .i64 b0),(qlI .i64 (0 : Int)),(qlI .i64 (0 : Int)),(qlI .i64 (0 : Int)),(qlV none 0 0)],md := .rw,esz := 0 } : AObj) = ⟨opl b0 0 0 0 ⟨none,0,0⟩,.rw,0⟩ from rfl]
 generalize hH6 : H2.push ⟨opl b0 0 0 0 ⟨none,0,0⟩,.rw,0⟩ = H6 at *
 have hO26 : OpAt H6 H.size 0 0 0 0 ⟨none,0,0⟩ := hO2.keep (hk6.2 _ (by omega))
 have hkH : qa H H6 := hk2.trans hk6
 have j1 : ∀ K a b c H',H'.size = H6.size → (∀ i,i ≠ H2.size → H'.get i = H6.get i) → OpAt H' H2.size K a b c ⟨none,0,0⟩ → decOp b0 b1 b2 b3 = some (K,a,b,c) → qS.j1 k H.size H2.size H' := by
  intro K a b c H' hz hg hO hd
  unfold qS.j1
  rw [ql hO.row]
  refine (hO26.keep (hg _ (by omega))).store ?_
  intro H'' hO'' hg'' hz''
  rw [ql hO''.row]
  refine hs K a b c hd H'' ⟨by have := hkH.1; omega,fun i hi => ?_⟩
  rw [hg'' i (by omega),hg i (by omega),hkH.2 i hi]
 have j2 : ∀ x51,(x51 = true → decOp b0 b1 b2 b3 = some (b0,0,0,0)) → (x51 = false → decOp b0 b1 b2 b3 = none) → qS.j2 k H.size H2.size H6 x51 := by
  intro x51 ht hf
  unfold qS.j2
  cases x51 with
  | true => rw [qj]; exact j1 b0 0 0 0 H6 rfl (fun _ _ => rfl) hO6 (ht rfl)
  | false =>
   rw [qc]
   refine OpAt.store (K' := 0) (a' := 0) (b' := 0) (c' := 0) (sl' := ⟨none,0,0⟩) hO26 ?_
   intro H'' hO'' hg'' hz''
   rw [ql hO''.row]
   refine hn (hf rfl) H'' ⟨by have := hkH.1; omega,fun i hi => ?_⟩
   rw [hg'' i (by omega),hkH.2 i hi]
 rw [hO6.c0,qf]
 have j3 : ∀ x33,b0 ≠ 1 → (x33 = true ↔ (b0 = 2 ∨ b0 = 4 ∨ b0 = 5)) → qS.j3 k H.size b1 b2 b3 H2.size H6 b0 x33 := by
  intro x33 n1 hx
  unfold qS.j3
  rw [w1,w2,w3,w4,w5]
  cases x33 with
  | true =>
   have h245 := hx.1 rfl
   rw [qj]
   refine op_set1 hO6 ?_
   intro H' hz hO' hg
   exact j1 b0 _ 0 0 H' hz hg hO' (by unfold decOp; rw [if_neg n1,if_pos h245])
  | false =>
   have h245 : ¬ (b0 = 2 ∨ b0 = 4 ∨ b0 = 5) := fun hh => by have := hx.2 hh; cases this
   rw [qc]
   by_cases k3 : b0 = 3
   ·rw [show (b0 == 3) = true by simpa using k3,qj]
    refine op_set1 hO6 ?_
    intro H' hz hO' hg
    refine op_set2 hO' ?_
    intro H'' hz' hO'' hg'
    exact j1 b0 _ _ 0 H'' (by omega) (fun i hi => by rw [hg' i hi,hg i hi]) hO'' (by unfold decOp; rw [if_neg n1,if_neg h245,if_pos k3,k3])
   rw [show (b0 == 3) = false by simpa using k3,qc]
   by_cases k7 : b0 = 7
   ·rw [show (b0 == 7) = true by simpa using k7,qj]
    refine op_set2 hO6 ?_
    intro H' hz hO' hg
    refine op_set3 hO' ?_
    intro H'' hz' hO'' hg'
    exact j1 b0 0 _ _ H'' (by omega) (fun i hi => by rw [hg' i hi,hg i hi]) hO'' (by unfold decOp; rw [if_neg n1,if_neg h245,if_neg k3,if_pos k7,k7])
   rw [show (b0 == 7) = false by simpa using k7,qc]
   have dn : ¬ (b0 = 6 ∨ b0 = 8) → decOp b0 b1 b2 b3 = none := fun h => by unfold decOp; rw [if_neg n1,if_neg h245,if_neg k3,if_neg k7,if_neg h]
   have dy : (b0 = 6 ∨ b0 = 8) → decOp b0 b1 b2 b3 = some (b0,0,0,0) := fun h => by unfold decOp; rw [if_neg n1,if_neg h245,if_neg k3,if_neg k7,if_pos h]
   by_cases k6 : b0 = 6
   ·rw [show (b0 == 6) = true by simpa using k6,qj]
    exact j2 true (fun _ => dy (.inl k6)) (fun h => by cases h)
   ·rw [show (b0 == 6) = false by simpa using k6,qc]
    by_cases k8 : b0 = 8
    ·rw [show (b0 == 8) = true by simpa using k8]
     exact j2 true (fun _ => dy (.inr k8)) (fun h => by cases h)
    ·rw [show (b0 == 8) = false by simpa using k8]
     exact j2 false (fun h => by cases h) (fun _ => dn (fun hh => hh.elim k6 k8))
 by_cases k1 : b0 = 1
 ·rw [show (b0 == 1) = true by simpa using k1,qj]
  refine op_set2 hO6 ?_
  intro H' hz hO' hg
  exact j1 b0 0 _ 0 H' hz hg hO' (by unfold decOp; rw [if_pos k1,k1])
 rw [show (b0 == 1) = false by simpa using k1,qc]
 by_cases k2 : b0 = 2
 ·rw [show (b0 == 2) = true by simpa using k2,qj]
  exact j3 true k1 ⟨fun _ => .inl k2,fun _ => rfl⟩
 rw [show (b0 == 2) = false by simpa using k2,qc]
 by_cases k4 : b0 = 4
 ·rw [show (b0 == 4) = true by simpa using k4,qj]
  exact j3 true k1 ⟨fun _ => .inr (.inl k4),fun _ => rfl⟩
 rw [show (b0 == 4) = false by simpa using k4,qc]
 exact j3 (b0 == 5) k1 ⟨fun h => .inr (.inr (by simpa using h)),fun h => h.elim (fun h => absurd h k2) fun h => h.elim (fun h => absurd h k4) fun h => by simpa using h⟩
end
theorem qj1 {α : Type} {H0 H : AH} {B : Nat} {s : Sl} {z : Nat} {f : α → List Value} {l : List α} {x : α} {k : Sl → AH → Prop} (hf : ∀ x,(f x).length = z) (hc : (f x).all qo = true)
  (hO : Own B H s z f l) (hB : H0.size ≤ B) (hBH : B ≤ H.size) (hK : qa H0 H) (hlim : l.length + 1 ≤ lim)
  (h : ∀ s' H',Own B H' s' z f (l ++ [x]) → qa H0 H' → H.size ≤ H'.size → (∀ a,s'.a = some a → H.size ≤ a.block) → (∀ b,b < H.size → (∀ a,s.a = some a → b ≠ a.block) → H'.get b = H.get b) → k s' H') :
  appendC z (H.push ⟨f x,.rw,z⟩) s ⟨some ⟨H.size,0,none⟩,1,1⟩ k := by
 have hrow : AH.rowS? (H.push ⟨f x,.rw,z⟩) ⟨some ⟨H.size,0,none⟩,1,1⟩ z = some (f x) := by
  simp only [AH.rowS?,Nat.one_mul]
  rw [if_neg (by simp)]
  exact Go.Abs.row_new (hf x) hc
 have hKp := hK.push (⟨f x,.rw,z⟩ : AObj)
 have hge := hK.1
 rcases hO with ⟨rfl,rfl⟩ | ⟨b,rfl,hb1,hb2,hg⟩
 ·refine ⟨le_limS (by simp [lim]) _,?_⟩
  rw [if_neg (by simp)]
  refine ⟨_,hrow,?_⟩
  refine h _ _ (.inr ⟨_,rfl,?_,?_,?_⟩) (hKp.push _) ?_ ?_ ?_
  ·simp only [qe]; omega
  ·simp [qe]
  ·simp [qm]
  ·simp [qe]; omega
  ·intro a ha; cases ha; simp [qe]
  ·intro b hb _
   rw [qv (by simp only [qe]; omega),qv (by omega)]
 ·refine ⟨le_limS hlim _,?_⟩
  rw [if_neg (by simp)]
  refine ⟨_,hrow,⟨rfl,rfl,rfl,?_,?_,?_⟩,?_⟩
  ·simp only [qm]; rw [if_neg (by omega),hg]
  ·simp only [qm]; rw [if_neg (by omega),hg,qcQ hf]
  ·simp only [qm]; rw [if_neg (by omega),hg]
  ·refine h _ _ (.inr ⟨H.size + 1,?_,?_,?_,?_⟩) ((hKp.kill (b := b) (qmM hB hb1)).push _) ?_ ?_ ?_
   ·simp [newAt,qe]
   ·omega
   ·simp [qe,qP]
   ·simp only [qm,qP,qe,if_true]
    rw [if_neg (by omega),hg]
    simp
   ·simp [qe,qP]; omega
   ·intro a ha; simp [newAt] at ha; subst ha; simp [qe]
   ·intro b' hb' hne
    have hne' : b' ≠ b := hne _ rfl
    rw [qv (by simp only [qP,qe]; omega),qcy hne',qv (by omega)]
structure OpP where
 K : Int
 off : Int
 n : Int
 c : Int
 bs : List Int
def OpR.p (d : OpR) : OpP := ⟨d.K,d.off,d.n,d.c,d.bs⟩
def decF : Nat → List Int → List OpP
 | 0,_ => []
 | f + 1,b0 :: b1 :: b2 :: b3 :: r =>
  match decOp b0 b1 b2 b3 with
  | none => decF f r
  | some (K,off,n,m) => if K = 4 then ⟨K,off,n,m,r.take b3.toNat⟩ :: decF f (r.drop b3.toNat) else ⟨K,off,n,m,[]⟩ :: decF f r
 | _ + 1,_ => []
def decL (b : List Int) : List OpP := decF b.length b
structure OpP.ok (d : OpP) : Prop where
 off : isI d.off
 n : isI d.n
 u8 : qam d.bs
 len : d.bs.length ≤ 255
theorem qjj {f : Nat} {r : List Int} (h : r.length < 4) : decF f r = [] := by
 cases f with
 | zero => rfl
 | succ f =>
  match r,h with
  | [],_ => rfl
  | [_],_ => rfl
  | [_,_],_ => rfl
  | [_,_,_],_ => rfl
theorem qk3 : ∀ (f : Nat) (b : List Int),4 * (decF f b).length ≤ b.length := by
 intro f
 induction f with
 | zero => intro b; simp [decF]
 | succ f ih =>
  intro b
  match b with
  | [] => simp [decF]
  | [_] => simp [decF]
  | [_,_] => simp [decF]
  | [_,_,_] => simp [decF]
  | b0 :: b1 :: b2 :: b3 :: r =>
   unfold decF
   split
   ·have := ih r; simp only [ql0]; omega
   ·split
    ·have := ih (r.drop b3.toNat); rw [List.length_drop] at this; simp only [ql0]; omega
    ·have := ih r; simp only [ql0]; omega
theorem dec_ok {b0 b1 b2 b3 K off n m : Int} (q0 : isB b0) (q1 : isB b1) (q2 : isB b2) (q3 : isB b3) (h : decOp b0 b1 b2 b3 = some (K,off,n,m)) : isI off ∧ isI n := by
 unfold isB at *
 unfold isI
 unfold decOp at h
 split at h
 ·injection h with h; injection h with _ h; injection h with h1 h; injection h with h2 h; omega
 split at h
 ·injection h with h; injection h with _ h; injection h with h1 h; injection h with h2 h; omega
 split at h
 ·injection h with h; injection h with _ h; injection h with h1 h; injection h with h2 h; omega
 split at h
 ·injection h with h; injection h with _ h; injection h with h1 h; injection h with h2 h; omega
 split at h
 ·injection h with h; injection h with _ h; injection h with h1 h; injection h with h2 h; omega
 ·cases h
theorem decF_ok : ∀ (f : Nat) (b : List Int),qam b → ∀ d ∈ decF f b,d.ok := by
 intro f
 induction f with
 | zero => intro b _ d hd; simp [decF] at hd
 | succ f ih =>
  intro b h8 d hd
  match b with
  | [] => simp [decF] at hd
  | [_] => simp [decF] at hd
  | [_,_] => simp [decF] at hd
  | [_,_,_] => simp [decF] at hd
  | b0 :: b1 :: b2 :: b3 :: r =>
   have h8r : qam r := fun v hv => h8 v (by simp [hv])
   have q3 := h8 b3 (by simp)
   unfold decF at hd
   split at hd
   ·exact ih r h8r d hd
   ·rename_i K off n m he
    obtain ⟨i1,i2⟩ := dec_ok (h8 b0 (by simp)) (h8 b1 (by simp)) (h8 b2 (by simp)) q3 he
    split at hd
    ·rcases List.mem_cons.1 hd with hd | hd
     ·subst hd
      unfold isB at q3
      exact ⟨i1,i2,fun v hv => h8r v (List.mem_of_mem_take hv),by simp only [List.length_take]; omega⟩
     ·exact ih _ (fun v hv => h8r v (qne hv)) d hd
    ·rcases List.mem_cons.1 hd with hd | hd
     ·subst hd
      exact ⟨i1,i2,fun v hv => (by cases hv),by simp⟩
     ·exact ih r h8r d hd
section
variable {H : AH} {o : Nat} {K a b c : Int} {sl sl' : Sl} {k : AH → Prop}
theorem op_set4 (h : OpAt H o K a b c sl) (hk : ∀ H',H'.size = H.size → OpAt H' o K a b c sl' → (∀ i,i ≠ o → H'.get i = H.get i) → k H') : stC H (qlL ⟨o,0,none⟩ 4) [Sl.val sl'] k := by
 obtain ⟨z,hg⟩ := h
 rw [qk,ql3,qaQ]
 refine ⟨⟨rfl,by rw [hg],by rw [hg]; simp [opl]⟩,?_⟩
 have e1 : AH.put H ⟨o,4,none⟩ [Sl.val sl'] = H.upd o ⟨opl K a b c sl',.rw,z⟩ := by simp only [AH.put,hg]; rfl
 rw [e1]
 exact hk _ rfl ⟨z,by rw [qu,if_pos rfl]⟩ fun i hi => by rw [qu,if_neg hi]
end
def OwnOps (B : Nat) (H : AH) (l : List OpR) : Prop := ∀ d ∈ l,Own B H d.sl 1 bU d.bs
theorem own_esz {α β : Type} {B B' : Nat} {H : AH} {s t : Sl} {z y : Nat} {f : α → List Value} {g : β → List Value} {l : List α} {m : List β} (h1 : Own B H s z f l) (h2 : Own B' H t y g m) (hne : z ≠ y) {a c : Addr} (ha : s.a = some a) (hc : t.a = some c) : a.block ≠ c.block := by
 rcases h1 with ⟨e,_⟩ | ⟨b1,e,_,_,g1⟩
 ·rw [e] at ha; cases ha
 rcases h2 with ⟨e2,_⟩ | ⟨b2,e2,_,_,g2⟩
 ·rw [e2] at hc; cases hc
 rw [e] at ha; rw [e2] at hc
 cases ha; cases hc
 intro hb
 simp only at hb
 subst hb
 rw [g1] at g2
 injection g2 with _ _ g3
 exact hne g3
theorem qhM {α β : Type} {B B' : Nat} {H H' : AH} {s t : Sl} {z y : Nat} {f : α → List Value} {g : β → List Value} {l : List α} {m : List β} (h1 : Own B H s z f l) (h2 : Own B' H t y g m) (hne : z ≠ y) (hs : H.size ≤ H'.size) (hg : ∀ b,b < H.size → (∀ a,t.a = some a → b ≠ a.block) → H'.get b = H.get b) : Own B H' s z f l := by
 rcases h1 with h | ⟨b,e,q1,q2,q3⟩
 ·exact .inl h
 ·refine .inr ⟨b,e,q1,by omega,?_⟩
  rw [hg b q2 fun a ha => ?_]
  ·exact q3
  ·exact own_esz (a := ⟨b,0,none⟩) (.inr ⟨b,e,q1,q2,q3⟩) h2 hne (by rw [e]) ha
theorem qii (d : OpR) : (opRV d).length = 5 := rfl
theorem opRV_ok (d : OpR) : (opRV d).all qo = true := rfl
section
variable {H : AH}
theorem dec_j1 {H0 Hj : AH} {t2 : Sl × Sl} {it2 : (Sl × Sl) → AH → Prop} {o4 : Nat} {x0 : Sl} {l : List OpR} {d : OpR} (hO : OpAt Hj o4 d.K d.off d.n d.c d.sl) (hk : qa H0 Hj) (hl : Own H0.size Hj t2.2 5 opRV l) (hn : l.length ≤ 100000)
  (hok : OwnOps H0.size Hj l) (hd : Own H0.size Hj d.sl 1 bU d.bs)
  (h : ∀ s' H',qa H0 H' → Own H0.size H' s' 5 opRV (l ++ [d]) → OwnOps H0.size H' (l ++ [d]) → it2 (x0,s') H') : qaJ.j1 t2 it2 o4 x0 Hj := by
 unfold qaJ.j1
 rw [ql hO.row]
 refine ⟨rfl,?_⟩
 rw [qp]
 refine qj1 (f := opRV) (x := d) (H0 := H0) qii (opRV_ok d) hl (qlS _) hk.1 hk (qmM (show l.length + 1 ≤ 100001 by omega) (by decide)) ?_
 intro s' H' hO' hk' hs' _ hg'
 refine h s' H' hk' hO' fun e he => ?_
 rcases List.mem_append.1 he with he | he
 ·exact qhM (hok e he) hl (by omega) hs' hg'
 ·rw [List.mem_singleton] at he; subst he
  exact qhM hd hl (by omega) hs' hg'
theorem qaJ.s {x0 : Sl} {b : List Int} {k : Sl → AH → Prop} (hr : ql5 H x0 1 bU b) (h8 : qam b) (hbl : b.length ≤ 100000)
  (hk : ∀ s H' l,qa H H' → Own H.size H' s 5 opRV l → OwnOps H.size H' l → l.map OpR.p = decL b → k s H') : qaJ x0 H k := by
 refine qaJ.link ?_
 unfold qaJ.b
 refine qI (t := ((x0,⟨none,0,0⟩) : Sl × Sl)) (I := fun (t : Sl × Sl) H' => ∃ (f : Nat) (r : List Int) (l : List OpR),qa H H' ∧ ql5 H t.1 1 bU r ∧ qam r ∧ r.length ≤ f ∧ Own H.size H' t.2 5 opRV l ∧ OwnOps H.size H' l ∧ l.map OpR.p ++ decF f r = decL b ∧ l.length + r.length ≤ b.length) (m := fun (t : Sl × Sl) _ => t.1.n) ?_
  ⟨b.length,b,[],qa.refl H,hr,h8,qlS _,.inl ⟨rfl,rfl⟩,fun d hd => (by cases hd),rfl,by simp⟩
 rintro ⟨t1,t2⟩ H7 ⟨f,r,l,hk7,hr1,h81,hf,hO,hOO,he,hlen⟩ it hit
 unfold qaJ.l2
 have hn1 : t1.n = r.length := hr1.1
 simp only at hr1 hO ⊢
 by_cases hge : ((t1.n : Nat) : Int) ≥ 4
 rotate_left 1
 ·rw [decide_eq_false hge,qc]
  rw [qjj (by omega),List.append_nil] at he
  exact hk t2 H7 l hk7 hO hOO he
 rw [decide_eq_true hge,qj]
 match r,h81,hr1,hn1,hf,he,hlen with
 | [],_,_,hn1,_,_,_ => simp at hn1; omega
 | [_],_,_,hn1,_,_,_ => simp at hn1; omega
 | [_,_],_,_,hn1,_,_,_ => simp at hn1; omega
 | [_,_,_],_,_,hn1,_,_,_ => simp at hn1; omega
 | b0 :: b1 :: b2 :: b3 :: r,h81,hr1,hn1,hf,he,hlen =>
 simp only [ql0] at hn1 hf hlen
 obtain ⟨f,rfl⟩ : ∃ g,f = g + 1 := ⟨f - 1,by omega⟩
 have q3 := h81 b3 (by simp)
 unfold isB at q3
 have h8r : qam r := fun v hv => h81 v (by simp [hv])
 have w3 : qlJ .i64 b3 = b3 := qg (by omega) (by omega)
 have hrr : ql5 H ⟨(Option.map (fun x => qlL x (qlQ (4 : Int) * 1)) t1.a),(t1.n - qlQ (4 : Int)),0⟩ 1 bU r := qd7 (z := 1) (k := 4) hr1 (by simp)
 have hmin : (if (((t1.n - qlQ (4 : Int)) : Nat) : Int) < b3 then (((t1.n - qlQ (4 : Int)) : Nat) : Int) else b3) = ((min r.length b3.toNat : Nat) : Int) := by
  have e4 : t1.n - qlQ (4 : Int) = r.length := by show t1.n - 4 = r.length; omega
  rw [e4]
  split <;> omega
 refine qS.s (hr1.keep hk7) h81 ?_ ?_
 ·intro K off n mask hd H13 hk13
  rw [qp]
  have hk4 : qa H7 (H13.push ⟨opl 0 0 0 0 ⟨none,0,0⟩,.rw,0⟩) := hk13.push _
  have hO4 : OpAt (H13.push ⟨opl 0 0 0 0 ⟨none,0,0⟩,.rw,0⟩) H13.size 0 0 0 0 ⟨none,0,0⟩ := OpAt.new
  have hz4 : (H13.push ⟨opl 0 0 0 0 ⟨none,0,0⟩,.rw,0⟩).size = H13.size + 1 := by simp [qe]
  rw [show ({ cells := [(qlI .i64 (0 : Int)),(qlI .i64 (0 : Int)),(qlI .i64 (0 : Int)),(qlI .i64 (0 : Int)),(qlV none 0 0)],md := .rw,esz := 0 } : AObj) = ⟨opl 0 0 0 0 ⟨none,0,0⟩,.rw,0⟩ from rfl]
  generalize H13.push ⟨opl 0 0 0 0 ⟨none,0,0⟩,.rw,0⟩ = H4 at *
  refine hO4.store (K' := K) (a' := off) (b' := n) (c' := mask) (sl' := ⟨none,0,0⟩) ?_
  intro Hs hOs hgs hzs
  have hks : qa H7 Hs := ⟨by have := hk4.1; omega,fun i hi => by have := hk13.1; rw [hgs i (by omega),hk4.2 i hi]⟩
  have hkHs := hk7.trans hks
  obtain ⟨e3,o3,a3,_,c3⟩ := qbs (g := fun v => qlI .u8 v) (hr1.keep hkHs) (i := 3) (by simp)
  refine ⟨⟨by omega,by omega⟩,?_⟩
  rw [a3] at hrr ⊢
  rw [qd,show qlQ (3 : Int) = 3 from rfl,c3]
  show elI .u8 (some (.int .u8 b3)) _
  rw [qf]
  refine ⟨⟨by omega,by omega⟩,?_⟩
  rw [qmm,qc,hOs.c0,qf,w3,hmin]
  have hOl : Own H.size Hs t2 5 opRV l := hO.keep hks.1 fun b _ hb => hks.2 b hb
  have hOOl : OwnOps H.size Hs l := fun d hd => (hOO d hd).keep hks.1 fun b _ hb => hks.2 b hb
  unfold decF at he
  rw [hd] at he
  simp only at he
  by_cases k4 : K = 4
  ·rw [show (K == 4) = true by simpa using k4,qj]
   rw [if_pos k4] at he
   refine ⟨⟨by omega,by show _ ≤ (((t1.n - qlQ (4 : Int)) : Nat) : Int); have e4 : t1.n - qlQ (4 : Int) = r.length := (by show t1.n - 4 = r.length; omega); rw [e4]; omega⟩,⟨by omega,by show _ ≤ (((t1.n - qlQ (4 : Int)) : Nat) : Int); have e4 : t1.n - qlQ (4 : Int) = r.length := (by show t1.n - 4 = r.length; omega); rw [e4]; omega⟩,?_⟩
   rw [show qlQ ((min r.length b3.toNat : Nat) : Int) = min r.length b3.toNat from qlP _]
   have hrs := hrr.keep hkHs
   refine qdu (H0 := H) (B := H.size) (f := bU) (l := []) (r := r.take (min r.length b3.toNat)) (fun _ => rfl) (fun _ => rfl) (.inl ⟨rfl,rfl⟩) (qeY hrs (by omega)) (qlS _) hkHs.1 hkHs (qmM (show _ ≤ 255 by simp; omega) (by decide)) ?_
   intro s34 H34 hO34 hk34 hz34 hg34
   have hk34' : qa Hs H34 := ⟨hz34,fun i hi => hg34 i hi (fun a ha => by cases ha)⟩
   refine op_set4 (sl' := s34) (hOs.keep (hk34'.2 _ (by omega))) ?_
   intro Hs4 hzs4 hOs4 hgs4
   have hks4 : qa H7 Hs4 := ⟨by have := hks.1; have := hk34'.1; omega,fun i hi => by have := hk13.1; have := hks.1; rw [hgs4 i (by omega),hk34'.2 i (by omega),hks.2 i hi]⟩
   have et : r.take (min r.length b3.toNat) = r.take b3.toNat := by rw [List.take_eq_take_iff]; omega
   have ed : r.drop (min r.length b3.toNat) = r.drop b3.toNat := by
    by_cases h : r.length ≤ b3.toNat
    ·rw [Nat.min_eq_left h,List.drop_length,List.drop_eq_nil_of_le h]
    ·rw [Nat.min_eq_right (by omega)]
   rw [List.nil_append,et] at hO34
   have hkp4 : ∀ b,b ≠ H13.size → b < H34.size → Hs4.get b = H34.get b := fun b hb _ => hgs4 b hb
   have hb34 : ∀ b e,s34 = ⟨some ⟨b,0,none⟩,e,1⟩ → H34.get b = ⟨(r.take b3.toNat).flatMap bU,.rw,1⟩ → b ≠ H13.size := fun b e _ hg hb => by
    subst hb
    obtain ⟨z',hz'⟩ := hOs.keep (hk34'.2 _ (by omega))
    rw [hz'] at hg
    injection hg with hg
    have : opl K off n mask ⟨none,0,0⟩ ≠ (r.take b3.toNat).flatMap bU := fun hh => by
     cases hq : r.take b3.toNat with
     | nil => rw [hq] at hh; cases hh
     | cons v q => rw [hq] at hh; simp [opl,bU] at hh
    exact this hg
   refine dec_j1 (H0 := H) (t2 := (t1,t2)) (d := ⟨K,off,n,mask,s34,r.take b3.toNat⟩) (l := l) hOs4 (hk7.trans hks4) ?_ (by omega) ?_ ?_ ?_
   ·refine hO.keep hks4.1 fun b _ hb => hks4.2 b hb
   ·exact fun d hd => (hOO d hd).keep hks4.1 fun b _ hb => hks4.2 b hb
   ·rcases hO34 with h | ⟨b,e,q1,q2,q3⟩
    ·exact .inl h
    ·exact .inr ⟨b,e,q1,by omega,by rw [hgs4 b (hb34 b _ e q3)]; exact q3⟩
   intro s' H' hk' hO' hOO'
   have hdr := qd7 (z := 1) (k := min r.length b3.toNat) hrr (by omega)
   rw [ed] at hdr
   refine hit _ _ ⟨f,r.drop b3.toNat,l ++ [⟨K,off,n,mask,s34,r.take b3.toNat⟩],hk',hdr,fun v hv => h8r v (qne hv),by rw [List.length_drop]; omega,hO',hOO',?_,by rw [ql7,List.length_drop]; simp; omega⟩ ?_
   ·rw [← he,List.map_append,qmV]; rfl
   ·show (t1.n - qlQ (4 : Int)) - _ < t1.n
    have : qlQ (4 : Int) = 4 := rfl
    omega
  ·rw [show (K == 4) = false by simpa using k4,qc]
   rw [if_neg k4] at he
   refine dec_j1 (H0 := H) (t2 := (t1,t2)) (d := ⟨K,off,n,mask,⟨none,0,0⟩,[]⟩) (l := l) hOs hkHs hOl (by omega) hOOl (.inl ⟨rfl,rfl⟩) ?_
   intro s' H' hk' hO' hOO'
   refine hit _ _ ⟨f,r,l ++ [⟨K,off,n,mask,⟨none,0,0⟩,[]⟩],hk',hrr,h8r,by omega,hO',hOO',?_,by rw [ql7]; simp; omega⟩ ?_
   ·rw [← he,List.map_append,qmV]; rfl
   ·show t1.n - qlQ (4 : Int) < t1.n
    have : qlQ (4 : Int) = 4 := rfl
    omega
 ·intro hd H13 hk13
  rw [qp]
  have hk4 : qa H7 (H13.push ⟨opl 0 0 0 0 ⟨none,0,0⟩,.rw,0⟩) := hk13.push _
  have hO4 : OpAt (H13.push ⟨opl 0 0 0 0 ⟨none,0,0⟩,.rw,0⟩) H13.size 0 0 0 0 ⟨none,0,0⟩ := OpAt.new
  have hz4 : (H13.push ⟨opl 0 0 0 0 ⟨none,0,0⟩,.rw,0⟩).size = H13.size + 1 := by simp [qe]
  rw [show ({ cells := [(qlI .i64 (0 : Int)),(qlI .i64 (0 : Int)),(qlI .i64 (0 : Int)),(qlI .i64 (0 : Int)),(qlV none 0 0)],md := .rw,esz := 0 } : AObj) = ⟨opl 0 0 0 0 ⟨none,0,0⟩,.rw,0⟩ from rfl]
  generalize H13.push ⟨opl 0 0 0 0 ⟨none,0,0⟩,.rw,0⟩ = H4 at *
  refine hO4.store (K' := 0) (a' := 0) (b' := 0) (c' := 0) (sl' := ⟨none,0,0⟩) ?_
  intro Hs hOs hgs hzs
  have hks : qa H7 Hs := ⟨by have := hk4.1; omega,fun i hi => by have := hk13.1; rw [hgs i (by omega),hk4.2 i hi]⟩
  have hkHs := hk7.trans hks
  obtain ⟨e3,o3,a3,_,c3⟩ := qbs (g := fun v => qlI .u8 v) (hr1.keep hkHs) (i := 3) (by simp)
  refine ⟨⟨by omega,by omega⟩,?_⟩
  rw [a3] at hrr ⊢
  rw [qd,show qlQ (3 : Int) = 3 from rfl,c3]
  show elI .u8 (some (.int .u8 b3)) _
  rw [qf]
  refine ⟨⟨by omega,by omega⟩,?_⟩
  rw [qmp,qj]
  unfold decF at he
  rw [hd] at he
  simp only at he
  refine hit _ _ ⟨f,r,l,hkHs,hrr,h8r,by omega,hO.keep hks.1 fun b _ hb => hks.2 b hb,fun d hd => (hOO d hd).keep hks.1 fun b _ hb => hks.2 b hb,he,by omega⟩ ?_
  show t1.n - qlQ (4 : Int) < t1.n
  have : qlQ (4 : Int) = 4 := rfl
  omega
end
section
variable {H : AH} {pa pb pc pd : Int}
theorem qim {limits : List Int} (hmay : mayP pa pb pc pd = true) (he : (formN pa pb pc limits).2.2 = 0) :
  HP pa pb pc pd (twStart pa pb pc pd limits).s (firstN (8 * pa)) 0 15 0 ∧ (twStart pa pb pc pd limits).s.M.down = false ∧ (twStart pa pb pc pd limits).s.M.cut = -1 ∧ ¬ (twStart pa pb pc pd limits).s.stuck ∧ (limits = [] → NL (twStart pa pb pc pd limits).s.M) ∧ (twStart pa pb pc pd limits).s.M = (formN pa pb pc limits).1 := by
 obtain ⟨f1,f2,f3,_,_,f4⟩ := formed (limits := limits) hmay
 rcases f4 with ⟨_,hMP,hc⟩ | e
 rotate_left 1
 ·omega
 have hrc : recN (16 + pa.toNat) pb.toNat pc.toNat (formN pa pb pc limits).1 0 = ((formN pa pb pc limits).1,0,0) := qfB f1 hc
 have hop := hMP.opened f1 (by omega)
 have hP : HP pa pb pc pd (openS pa pb pc pd (formN pa pb pc limits).1) (firstN (8 * pa)) 0 (1 + 14) 0 := by
  rcases hop.2.2 with ⟨_,_,hP⟩ | ⟨e2,_⟩
  ·exact hP
  ·rw [hrc] at e2; simp at e2
 have eM : (openS pa pb pc pd (formN pa pb pc limits).1).M = (formN pa pb pc limits).1 := by unfold openS; rw [hrc]
 refine ⟨hP,by show (openS pa pb pc pd _).M.down = false; rw [eM]; exact f1,by show (openS pa pb pc pd _).M.cut = -1; rw [eM]; exact f2,fun hst => ?_,fun hl => by show NL (openS pa pb pc pd _).M; rw [eM]; exact (f3 hl).2,eM⟩
 rcases hst with hst | ⟨_,hst⟩
 ·cases hst
 ·have hst' : commits (openS pa pb pc pd (formN pa pb pc limits).1).M ≠ 0 := hst
  rw [eM] at hst'; exact hst' hc
theorem qfp (hmay : mayP pa pb pc pd = true) : (formN pa pb pc []).2.2 = 0 := ((formed (limits := []) hmay).2.2.1 rfl).1
theorem qjB (hmay : mayP pa pb pc pd = true) : HP pa pb pc pd (twStart pa pb pc pd []).s (firstN (8 * pa)) 0 15 0 ∧ FreeS (twStart pa pb pc pd []).s := by
 obtain ⟨a,b,c,d,e,_⟩ := qim (limits := []) hmay (qfp hmay)
 exact ⟨a,b,c,e rfl,d⟩
end
section
variable {M : Mem} {n sp per pt k mvb len : Nat} {d : List Int}
theorem qk1 {i : Nat} (hd : M.down = false) (hc : M.cut = 0) (hi : i < M.cs.length) : (M.put i d).2 = 2 := by
 unfold Mem.put
 rw [if_pos (show M.has i from ⟨by omega,by omega⟩),if_neg (by simp [hd])]
 have hw : M.wr.down = true := by unfold Mem.wr; rw [if_pos hc]
 simp only
 split
 ·simp [Mem.told,hw]
 ·simp [Mem.told,hw]
theorem qhe {slot : Nat} (h : LV M n sp k) (hd : M.down = false) (hc : M.cut = 0) (hs : slot < n) : (lput n sp M slot d).2 = 2 := by
 unfold lput
 have hl := h.len
 have hp : M.place n slot sp < M.cs.length := by
  rcases qda M n slot sp with e | ⟨j,hj,e,_⟩ <;> omega
 rw [if_pos (by omega),if_neg (by simp [hd])]
 simp only [qlP]
 have := qk1 (d := d) hd hc hp
 rw [if_neg (by omega)]
 exact this
theorem qkA {line : Nat} (h : LV M (n + 1) sp k) (hn : 1 ≤ n) (hd : M.down = false) (hc : M.cut = 0) (hl : line < n) : (tput n sp per M pt line d).2.2 = 2 := by
 unfold tput
 rw [if_pos (by omega),if_neg (by simp [hd])]
 split
 ·have hg : gapN n M.mv < n + 1 := by have := gapN_le (n := n) (mv := M.mv); omega
  have h2 : (tmove n sp M).2 = 2 := by
   unfold tmove
   have := qhe (d := M.view (n + 1) sp (fromN n M.mv)) h hd hc hg
   simp only
   rw [if_neg (by omega)]
   exact this
  simp only
  rw [if_neg (by omega)]
  exact h2
 ·have hsl := qdz (mv := M.mv) (line := line) hn
  simp only [qlP]
  exact qhe h hd hc (by omega)
theorem qjZ {L : List (Int × List Int)} (h : LV M (n + 1) sp k) (hn : 1 ≤ n) (hd : M.down = false) (hc : M.cut = 0) (hL : L ≠ []) (hin : ∀ q ∈ L,0 ≤ q.1 ∧ q.1 < n) : (tputs n sp per L M pt).2.2 = 2 := by
 cases L with
 | nil => exact absurd rfl hL
 | cons q r =>
  obtain ⟨h0,h1⟩ := hin q (by simp)
  obtain ⟨ln,hln⟩ := Int.eq_ofNat_of_zero_le h0
  have := qkA (per := per) (pt := pt) (d := q.2) h hn hd hc (line := ln) (by omega)
  unfold tputs
  rw [hln,this,if_neg (by omega)]
  exact this
end
section
variable {pa pb pc pd : Int} {s : HS} {ws : List Int} {root : Int} {mvb : Nat} {cb : Int}
theorem qgE {l : List (Int × List Int)} (hl1 : 1 ≤ l.length) (hl : l.length ≤ 14) : rowPuts l ≠ [] ∧ (∀ q ∈ rowPuts l,0 ≤ q.1 ∧ q.1 < 16 ∧ isLine q.2 ∨ ¬ (∀ q ∈ l,isLine q.2)) ∧ (∀ q ∈ rowPuts l,0 ≤ q.1 ∧ q.1 < 16) ∧ ((rowPuts l).map (·.1)).Nodup ∧ (rowPuts l).length ≤ 16 := by
 have hlen : (rowsN l).length = idxN l.length + l.length := qce l (qlS _)
 have hidx : idxN l.length ≤ 2 := by unfold idxN; omega
 have hin : ∀ q ∈ rowPuts l,0 ≤ q.1 ∧ q.1 < 16 := fun q hq => by
  unfold rowPuts at hq
  rw [qml] at hq
  obtain ⟨i,hi,rfl⟩ := hq
  rw [List.mem_range] at hi
  simp only
  omega
 refine ⟨?_,fun q hq => ?_,hin,?_,?_⟩
 ·intro h
  have := congrArg List.length h
  unfold rowPuts at this
  rw [qmt,List.length_range,List.length_nil] at this
  omega
 ·by_cases hh : ∀ q ∈ l,isLine q.2
  ·left
   refine ⟨(hin q hq).1,(hin q hq).2,?_⟩
   unfold rowPuts at hq
   rw [qml] at hq
   obtain ⟨i,hi,rfl⟩ := hq
   rw [List.mem_range] at hi
   simp only
   rw [List.getD_eq_getElem?_getD,qlK hi]
   have hm := ql1 hi
   generalize (rowsN l)[i] = x at *
   unfold rowsN rowsTo at hm
   rw [List.mem_append] at hm
   rcases hm with hm | hm
   ·rw [qml] at hm
    obtain ⟨j,_,rfl⟩ := hm
    exact qdr _ _ _
   ·rw [qml] at hm
    obtain ⟨q,hq,rfl⟩ := hm
    exact hh q (List.mem_of_mem_take hq)
  ·exact .inr hh
 ·exact qdy l
 ·unfold rowPuts
  rw [qmt,List.length_range]; omega
theorem qje {E : List (Int × Int)} (h : HP pa pb pc pd s ws root mvb cb) (hup : s.M.down = false) (hcut : s.M.cut = 0) (hst : ¬ s.stuck) (hin : EdIn E ws.length) (h1 : 1 ≤ (eLines E).length) (h14 : (eLines E).length ≤ 14)
  (hok' : Ok (applyE ws E)) (hru' : root = 0 ∨ isUsed (applyE ws E) root = true) (hb : mvb + 2000 < 4611686018427387904) (hcb : cb + 100 < 4611686018427387904) :
  (commitH pa pb pc pd ws E s).2 = 2 ∧ (commitH pa pb pc pd ws E s).1.M.down = true ∧ HP pa pb pc pd (commitH pa pb pc pd ws E s).1 ws root (mvb + 40) (cb + 14) := by
 have hm := qV.1 h.may
 have hcm : commits s.M = 0 := by
  by_cases hc : commits s.M = 0
  ·exact hc
  ·exact absurd (.inr ⟨hup,hc⟩) hst
 obtain ⟨_,c2,_⟩ := qgT h hup hst hin h1 h14 hok' hru' hb hcb
 obtain ⟨k,hlv⟩ := h.ps.lv
 have hhl : (homesC (applyE ws E) (eLines E)).length = (eLines E).length := by unfold homesC; rw [qmt]
 obtain ⟨r1,_,r3,_⟩ := qgE (l := homesC (applyE ws E) (eLines E)) (by omega) (by omega)
 have hT2 : (tputs (16 + pa.toNat) pb.toNat pc.toNat (rowPuts (homesC (applyE ws E) (eLines E))) s.M s.pt).2.2 = 2 :=
  qjZ hlv (by omega) hup hcut r1 fun q hq => by have := r3 q hq; omega
 have hC : (comN (16 + pa.toNat) pb.toNat pc.toNat (homesC (applyE ws E) (eLines E)) s.M s.pt).2.2 = 1 ∨ comN (16 + pa.toNat) pb.toNat pc.toNat (homesC (applyE ws E) (eLines E)) s.M s.pt = tputs (16 + pa.toNat) pb.toNat pc.toNat (rowPuts (homesC (applyE ws E) (eLines E))) s.M s.pt := by
  unfold comN
  split
  ·exact .inl rfl
  ·rw [if_neg (by simp [hup]),if_neg (by simpa using hcm),if_pos (by omega)]
   exact .inr rfl
 have hCH : (commitH pa pb pc pd ws E s).2 = (comN (16 + pa.toNat) pb.toNat pc.toNat (homesC (applyE ws E) (eLines E)) s.M s.pt).2.2 ∧ (commitH pa pb pc pd ws E s).1.M = (comN (16 + pa.toNat) pb.toNat pc.toNat (homesC (applyE ws E) (eLines E)) s.M s.pt).1 := by
  unfold commitH
  simp only
  rw [if_pos]
  ·exact ⟨rfl,rfl⟩
  ·rcases hC with e | e
   ·omega
   ·rw [e]; omega
 rw [hCH.1] at c2 ⊢
 rcases hC with e | e
 ·rcases c2 with ⟨a,_⟩ | ⟨a,_⟩ | ⟨a,_⟩ <;> omega
 rw [e] at c2 hCH ⊢
 refine ⟨hT2,?_⟩
 rcases c2 with ⟨a,_⟩ | ⟨a,_⟩ | ⟨_,hdn,_,hh⟩
 ·omega
 ·omega
 refine ⟨hdn,?_⟩
 rcases hh with hh | hh
 ·exact hh
 refine ⟨h.may,hh.ps,?_,h.ok,h.len,hh.rt,h.ru,hh.pg,hh.cp,hh.wl,hh.c0⟩
 -- the home lines are as they were
 have hok8 : ∀ q ∈ homesC (applyE ws E) (eLines E),isLine q.2 := by
  intro q hq
  unfold homesC at hq
  rw [qml] at hq
  obtain ⟨ln,hln,rfl⟩ := hq
  simp only
  have hEl := (qcV (l := E)).1 hln
  obtain ⟨e0,he0,he1,he2⟩ := hEl
  refine qdb hok'.len.2.2 ?_
  rw [qac]
  have hl := h.len
  have := hin.1 e0 he0
  omega
 obtain ⟨_,r2,r3,r4,r5⟩ := qgE (l := homesC (applyE ws E) (eLines E)) (by omega) (by omega)
 have hr : ∀ q ∈ rowPuts (homesC (applyE ws E) (eLines E)),0 ≤ q.1 ∧ q.1 < ((16 + pa.toNat : Nat) : Int) ∧ isLine q.2 := fun q hq => by
  rcases r2 q hq with ⟨a,b,c⟩ | hn
  ·exact ⟨a,by omega,c⟩
  ·exact absurd hok8 hn
 obtain ⟨_,_,t3,t4⟩ := qcU (n := 16 + pa.toNat) (sp := pb.toNat) (per := pc.toNat) (by omega) h.ps hup (by omega) hr r4
 rw [hCH.2]
 rcases h.sd with ⟨_,hv⟩ | ⟨l,hp⟩
 ·exact .inl ⟨(t4 1 (.inl rfl)).trans hcm,fun s' a b => by rw [t3 s' b fun q hq hqe => by have := r3 q hq; omega]; exact hv s' a b⟩
 ·have := hp.cm; have := hp.may.2.1; omega
theorem qj9 {off n : Int} {bs : List Int} (h : HP pa pb pc pd s ws root mvb cb) (hup : s.M.down = false) (hcut : s.M.cut = 0) (hst : ¬ s.stuck) (he : (imgFree ws off).2 = 0) (hr : root ≠ off) (hb : mvb + 2000 < 4611686018427387904) (hcb : cb + 100 < 4611686018427387904) :
  (doH pa pb pc pd s 2 off n bs).2 = (2,0,[]) ∧ (doH pa pb pc pd s 2 off n bs).1.M.down = true ∧ HP pa pb pc pd (doH pa pb pc pd s 2 off n bs).1 ws root (mvb + 40) (cb + 14) := by
 have eD : doH pa pb pc pd s 2 off n bs = ((freeH pa pb pc pd s off).1,(freeH pa pb pc pd s off).2,0,[]) := by unfold doH; rw [if_neg (by omega),if_pos rfl]
 have hF : freeH pa pb pc pd s off = commitH pa pb pc pd ws (imgFree ws off).1 s := by
  unfold freeH
  rw [if_neg (by simp [hup]),h.words hup,h.rootN.1,if_neg (by simpa using he),if_neg hr,if_neg hst]
 obtain ⟨k1,k2,k3,_⟩ := qew h.ok he
 have hml := (qeR (ws := ws) (off := off)).most
 have := qdn 2 0 0
 obtain ⟨a,b,c⟩ := qje (E := (imgFree ws off).1) h hup hcut hst qeb k3 (by omega) k1 (h.ru.imp id (fun hu => k2 root hu (fun e => hr e))) hb hcb
 rw [eD,hF]
 exact ⟨by simp only; rw [a],b,c⟩
end
section
variable {H : AH}
theorem qgX {s : HS} {a b : Int} (h : ¬ s.stuck) : ¬ ({ s with M := s.M.setCut a b } : HS).stuck := fun hh => h hh
theorem qdh {k : Bool → AH → Prop} (hk : k true H) : qaB H k := by
 refine gcB true (qaB.link (_u := ()) ?_) hk
 unfold qaB.b
 have hmay : mayP 4 1 2 2 = true := by decide
 have hff := qfp hmay
 show qbY (pl 4 1 2 2) _ _ _
 refine qbY.s (limits := []) qiw (fun h => by rw [hmay] at h; cases h) (fun _ h => by rw [hff] at h; exact absurd h (by decide)) ?_
 intro _ _ G H9 t p c L hk9 lo hT hW
 rw [show ((0 : Int) != 0) = false from rfl,qc,qlZ]
 unfold qaB.j1
 rw [qc]
 obtain ⟨hP,hF⟩ := qjB hmay
 have hon : (twStart 4 1 2 2 []).on = true := rfl
 generalize twStart 4 1 2 2 [] = T0 at *
 obtain ⟨s0,on0⟩ := T0
 simp only at hon hP hF
 subst hon
 -- a block is taken
 obtain ⟨d1,d2,ws1,tk,d3,d4,d5⟩ := qg7 (off := 0) (bs := []) (n := 9) hP hF (by omega) (by decide) (by omega) (by omega)
 have htk : tk = 3 := by rw [← d3]; decide
 subst htk
 have e1 : ∀ x y,twDoes 4 1 2 2 ⟨s0,true⟩ 1 0 9 0 [] = (⟨x,true⟩,y) ↔ doH 4 1 2 2 s0 1 0 9 [] = (x,y) := fun x y => by
  have : twDoes 4 1 2 2 ⟨s0,true⟩ 1 0 9 0 [] = (⟨(doH 4 1 2 2 s0 1 0 9 []).1,true⟩,(doH 4 1 2 2 s0 1 0 9 []).2) := rfl
  rw [this]
  constructor
  ·intro h; injection h with h1 h2; injection h1 with h1; exact Prod.ext h1 h2
  ·intro h; rw [h]
 have e1' := (e1 _ _).2 (Prod.ext rfl d1 : doH 4 1 2 2 s0 1 0 9 [] = ((doH 4 1 2 2 s0 1 0 9 []).1,0,8,[]))
 show qap _ (opV 1 0 9 0 ⟨none,0,0⟩) _ _
 refine qdO.s (K := 1) (off := 0) (n := 9) (mask := 0) (x := ⟨none,0,0⟩) (bs := []) hT hW (by omega) (by omega) (by unfold isI; omega) (by unfold isI; omega) qbM qa9 ?_
 have hW1 := hW.does (K := 1) (off := 0) (n := 9) (mask := 0) (bs := []) (by unfold isI; omega) (by unfold isI; omega) qa9 (by omega) (by omega)
 rw [e1'] at hW1 ⊢
 generalize (doH 4 1 2 2 s0 1 0 9 []).1 = s1 at *
 intro G1 H20 L1 x1 hu1 hT1 _ _
 refine qbW (n := 3) rfl rfl rfl ?_
 have hA3 : AnAt (H20.push ⟨anV 0 8 x1,.rw,0⟩) H20.size 0 8 x1 := AnAt.new
 have hk3 : qa H20 (H20.push ⟨anV 0 8 x1,.rw,0⟩) := (qa.refl H20).push _
 have hz3 : (H20.push ⟨anV 0 8 x1,.rw,0⟩).size = H20.size + 1 := by simp [qe]
 generalize H20.push ⟨anV 0 8 x1,.rw,0⟩ = H3 at *
 -- the power will go
 show qap _ (opV 7 0 0 0 ⟨none,0,0⟩) _ _
 have e2 : twDoes 4 1 2 2 ⟨s1,true⟩ 7 0 0 0 [] = (⟨{ s1 with M := s1.M.setCut 0 0 },true⟩,0,0,[]) := rfl
 refine qdO.s (K := 7) (off := 0) (n := 0) (mask := 0) (x := ⟨none,0,0⟩) (bs := []) (hT1.keeps hk3) hW1 (by omega) (by omega) (by unfold isI; omega) (by unfold isI; omega) qbM qa9 ?_
 have hW2 := hW1.does (K := 7) (off := 0) (n := 0) (mask := 0) (bs := []) (by unfold isI; omega) (by unfold isI; omega) qa9 (by omega) (by omega)
 rw [e2] at hW2 ⊢
 have hP2 := d5.setCut (a := 0) (b := 0) (by omega)
 have hns2 : ¬ ({ s1 with M := s1.M.setCut 0 0 } : HS).stuck := qgX d2.ns
 have hup2 : ({ s1 with M := s1.M.setCut 0 0 } : HS).M.down = false := d2.up
 have hcut2 : ({ s1 with M := s1.M.setCut 0 0 } : HS).M.cut = 0 := rfl
 generalize ({ s1 with M := s1.M.setCut 0 0 } : HS) = s2 at *
 intro G2 H23 L2 x2 hu2 hT2 _ _
 -- a block is freed
 have hlen1 : (ws1.length : Int) = 32 := by have := d4.len; omega
 have d4' : MR ws1.length [((0 : Int),(3 : Int),List.replicate ((3 - 1) * 8) (0 : Int))] ws1 := MR.self d4 (by omega)
 have hif : (imgFree ws1 8).2 = 0 := by
  rw [MR.imgFree_at (e1 := []) (e2 := []) (off := 8) d4' (by decide)]
 obtain ⟨f1,f2,f3⟩ := qj9 (off := 8) (n := 0) (bs := []) hP2 hup2 hcut2 hns2 hif (by omega) (by omega) (by omega)
 have e3 : twDoes 4 1 2 2 ⟨s2,true⟩ 2 8 0 0 [] = (⟨(doH 4 1 2 2 s2 2 8 0 []).1,true⟩,(doH 4 1 2 2 s2 2 8 0 []).2) := rfl
 show qap _ (opV 2 8 0 0 ⟨none,0,0⟩) _ _
 refine qdO.s (K := 2) (off := 8) (n := 0) (mask := 0) (x := ⟨none,0,0⟩) (bs := []) hT2 hW2 (by omega) (by omega) (by unfold isI; omega) (by unfold isI; omega) qbM qa9 ?_
 have hW3 := hW2.does (K := 2) (off := 8) (n := 0) (mask := 0) (bs := []) (by unfold isI; omega) (by unfold isI; omega) qa9 (by omega) (by omega)
 rw [e3,f1] at hW3 ⊢
 generalize (doH 4 1 2 2 s2 2 8 0 []).1 = s3 at *
 intro G3 H26 L3 x3 hu3 hT3 _ _
 refine qbW (n := 3) rfl rfl rfl ?_
 have hA4 : AnAt (H26.push ⟨anV 2 0 x3,.rw,0⟩) H26.size 2 0 x3 := AnAt.new
 have hk4 : qa H26 (H26.push ⟨anV 2 0 x3,.rw,0⟩) := (qa.refl H26).push _
 have hz4 : (H26.push ⟨anV 2 0 x3,.rw,0⟩).size = H26.size + 1 := by simp [qe]
 generalize H26.push ⟨anV 2 0 x3,.rw,0⟩ = H4 at *
 -- the power comes
 have e4 : twDoes 4 1 2 2 ⟨s3,true⟩ 8 0 0 0 [] = ((twOpen 4 1 2 2 s3.M.power s3).1,(twOpen 4 1 2 2 s3.M.power s3).2,0,[]) := rfl
 have hMP := f3.mp.power
 obtain ⟨o1,_,o2⟩ := hMP.opened rfl (by omega)
 have o3 : (recN (16 + (4 : Int).toNat) (1 : Int).toNat (2 : Int).toNat s3.M.power 0).2.2 = 0 ∧ (openS 4 1 2 2 s3.M.power).M.down = false ∧ HP 4 1 2 2 (openS 4 1 2 2 s3.M.power) ws1 0 (15 + 40 + 40 + 14) (0 + 14 + 14) := by
  rcases o2 with o2 | ⟨_,_,hc,_⟩
  ·exact o2
  ·exact absurd rfl hc
 have e5 : twOpen 4 1 2 2 s3.M.power s3 = (⟨openS 4 1 2 2 s3.M.power,true⟩,0) := by unfold twOpen; rw [if_pos o3.1]
 rw [e5] at e4
 show qap _ (opV 8 0 0 0 ⟨none,0,0⟩) _ _
 refine qdO.s (K := 8) (off := 0) (n := 0) (mask := 0) (x := ⟨none,0,0⟩) (bs := []) (hT3.keeps hk4) hW3 (by omega) (by omega) (by unfold isI; omega) (by unfold isI; omega) qbM qa9 ?_
 have hW4 := hW3.does (K := 8) (off := 0) (n := 0) (mask := 0) (bs := []) (by unfold isI; omega) (by unfold isI; omega) qa9 (by omega) (by omega)
 rw [e4] at hW4 ⊢
 obtain ⟨_,o4,o5⟩ := o3
 generalize openS 4 1 2 2 s3.M.power = s4 at *
 intro G4 H29 L4 x4 hu4 hT4 _ _
 refine qbW (n := 3) rfl rfl rfl ?_
 have hA5 : AnAt (H29.push ⟨anV 0 0 x4,.rw,0⟩) H29.size 0 0 x4 := AnAt.new
 have hk5 : qa H29 (H29.push ⟨anV 0 0 x4,.rw,0⟩) := (qa.refl H29).push _
 have hz5 : (H29.push ⟨anV 0 0 x4,.rw,0⟩).size = H29.size + 1 := by simp [qe]
 generalize H29.push ⟨anV 0 0 x4,.rw,0⟩ = H5 at *
 -- it is read
 have hrd : aRead ws1 8 9 = (bytesOf ws1 8 9,0) := d4'.rd ⟨by decide,by decide,_,List.mem_cons_self ..,by decide,by decide⟩
 have e6 : twDoes 4 1 2 2 ⟨s4,true⟩ 3 8 9 0 [] = (⟨s4,true⟩,0,0,bytesOf ws1 8 9) := by
  have : twDoes 4 1 2 2 ⟨s4,true⟩ 3 8 9 0 [] = (⟨(doH 4 1 2 2 s4 3 8 9 []).1,true⟩,(doH 4 1 2 2 s4 3 8 9 []).2) := rfl
  rw [this,do_read o5 o4,hrd]
  rfl
 show qap _ (opV 3 8 9 0 ⟨none,0,0⟩) _ _
 refine qdO.s (K := 3) (off := 8) (n := 9) (mask := 0) (x := ⟨none,0,0⟩) (bs := []) (hT4.keeps hk5) hW4 (by omega) (by omega) (by unfold isI; omega) (by unfold isI; omega) qbM qa9 ?_
 rw [e6]
 intro G5 H32 L5 x5 hu5 hT5 hO5 _
 refine qbW (n := 3) rfl rfl rfl ?_
 have hA6 : AnAt (H32.push ⟨anV 0 0 x5,.rw,0⟩) H32.size 0 0 x5 := AnAt.new
 have hk6 : qa H32 (H32.push ⟨anV 0 0 x5,.rw,0⟩) := (qa.refl H32).push _
 have hz6 : (H32.push ⟨anV 0 0 x5,.rw,0⟩).size = H32.size + 1 := by simp [qe]
 generalize H32.push ⟨anV 0 0 x5,.rw,0⟩ = H6 at *
 have z1 := hu1.1.1; have z2 := hu2.1.1; have z3 := hu3.1.1; have z4 := hu4.1.1; have z5 := hu5.1.1
 have g1 : ∀ b,G1 b → b < H20.size := hT1.gl
 have n2 : ∀ b,G2 b → b ≠ H20.size := fun b hb e => by
  rcases hu2.2 b hb with hb | hb
  ·have := g1 b hb; omega
  ·omega
 have n3 : ∀ b,G3 b → b ≠ H20.size := fun b hb e => by
  rcases hu3.2 b hb with hb | hb
  ·exact n2 b hb e
  ·omega
 have g3 : ∀ b,G3 b → b < H26.size := hT3.gl
 have n4 : ∀ b,G4 b → b ≠ H20.size ∧ b ≠ H26.size := fun b hb => by
  rcases hu4.2 b hb with hb | hb
  ·exact ⟨n3 b hb,by have := g3 b hb; omega⟩
  ·exact ⟨by omega,by omega⟩
 have hA3' : AnAt H6 H20.size 0 8 x1 := by
  have a1 := hA3.keep (hu2.1.2 _ (by omega) fun hb => by have := g1 _ hb; omega)
  have a2 := a1.keep (hu3.1.2 _ (by omega) fun hb => n2 _ hb rfl)
  have a3 := a2.keep (hk4.2 _ (by omega))
  have a4 := a3.keep (hu4.1.2 _ (by omega) fun hb => n3 _ hb rfl)
  have a5 := a4.keep (hk5.2 _ (by omega))
  have a6 := a5.keep (hu5.1.2 _ (by omega) fun hb => (n4 _ hb).1 rfl)
  exact a6.keep (hk6.2 _ (by omega))
 have hA4' : AnAt H6 H26.size 2 0 x3 := by
  have a4 := hA4.keep (hu4.1.2 _ (by omega) fun hb => by have := g3 _ hb; omega)
  have a5 := a4.keep (hk5.2 _ (by omega))
  have a6 := a5.keep (hu5.1.2 _ (by omega) fun hb => (n4 _ hb).2 rfl)
  exact a6.keep (hk6.2 _ (by omega))
 have hA5' : AnAt H6 H29.size 0 0 x4 := by
  have a6 := hA5.keep (hu5.1.2 _ (by omega) fun hb => by have := hT4.gl _ hb; omega)
  exact a6.keep (hk6.2 _ (by omega))
 rw [hA3'.c1,qf,show ((8 : Int) == 8) = true from rfl,qj,hA4'.c0,qf,show ((2 : Int) == 2) = true from rfl,qj,hA5'.c0,qf,show ((0 : Int) == 0) = true from rfl,qj,hA6.c2,qag,own_len hO5,qeM]
 refine ⟨?_,rfl⟩
 have k1 : qa H H20 := hu1.1.base hk9 lo
 have lo1 : ∀ b,G1 b → H.size ≤ b := fun b hb => (hu1.2 b hb).elim (lo b) fun h => by have := hk9.1; omega
 have k2 : qa H H23 := hu2.1.base (k1.trans hk3) lo1
 have lo2 : ∀ b,G2 b → H.size ≤ b := fun b hb => (hu2.2 b hb).elim (lo1 b) fun h => by have := k1.1; omega
 have k3 : qa H H26 := hu3.1.base k2 lo2
 have lo3 : ∀ b,G3 b → H.size ≤ b := fun b hb => (hu3.2 b hb).elim (lo2 b) fun h => by have := k2.1; omega
 have k4 : qa H H29 := hu4.1.base (k3.trans hk4) lo3
 have lo4 : ∀ b,G4 b → H.size ≤ b := fun b hb => (hu4.2 b hb).elim (lo3 b) fun h => by have := k3.1; omega
 have k5 : qa H H32 := hu5.1.base (k4.trans hk5) lo4
 exact k5.trans hk6
end
theorem qjR {l : List Bk} {cs : List Int} : ∀ {f : List Nat} {b : Int},0 ≤ b → 0 ≤ f.foldl (chStep l cs) b := by
 intro f
 induction f with
 | nil => intro b h; exact h
 | cons a r ih =>
  intro b h
  rw [List.foldl_cons]
  refine ih ?_
  unfold chStep
  split
  ·omega
  ·exact h
theorem qiR {l : List Bk} {need : Int} {cs : List Int} (h : chooseN l need cs < 0) : fitsL l need = [] := by
 unfold chooseN at h
 cases hf : fitsL l need with
 | nil => rfl
 | cons a r =>
  rw [hf,List.foldl_cons] at h
  have : chStep l cs (-1) a = (a : Int) := by unfold chStep; rw [if_pos (.inl (by omega))]
  rw [this] at h
  have := qjR (l := l) (cs := cs) (f := r) (b := (a : Int)) (by omega)
  omega
section
variable {pa pb pc pd : Int} {s : HS} {ws : List Int} {root : Int} {mvb : Nat} {cb : Int}
theorem qlC {jw : Bool} {K off n : Int} {bs : List Int} (hio : isI off) (h8 : qam bs) (hp : HP pa pb pc pd s ws root mvb cb) (hup : s.M.down = false) (hcut : s.M.cut = -1) (hj : jw = true → s.stuck) (hb : mvb + 2000 < 4611686018427387904) (hcb : cb + 100 < 4611686018427387904) :
    ∃ ws' root' jw',seeP ws root jw K off n bs (doH pa pb pc pd s K off n bs).2.1 (doH pa pb pc pd s K off n bs).2.2.1 (doH pa pb pc pd s K off n bs).2.2.2 = (true,ws',root',jw') ∧ HP pa pb pc pd (doH pa pb pc pd s K off n bs).1 ws' root' (mvb + 40) (cb + 14) ∧
      (doH pa pb pc pd s K off n bs).1.M.down = false ∧ (doH pa pb pc pd s K off n bs).1.M.cut = -1 ∧ (jw' = true → (doH pa pb pc pd s K off n bs).1.stuck) := by
  have hcut' := (do_side (K := K) (off := off) (n := n) (bs := bs) hio h8 hp hup hb hcb).cut hcut
  have hp' : HP pa pb pc pd s ws root (mvb + 40) (cb + 14) := hp.mono (by omega) (by omega)
  -- what changes words or the root
  have change : ∀ (code e : Int) (W : List Int) (r : Int) (s' : HS),(K = 2 ∨ K = 4 ∨ K = 5) → doP ws root K off bs = (code,W,r) → (code ≠ 0 → W = ws ∧ r = root) → doH pa pb pc pd s K off n bs = (s',e,0,[]) →
      ((e = 3 ∧ code = 0 ∧ ¬ (K = 4 ∧ bs = []) ∧ s'.M.down = false ∧ s'.stuck ∧ HP pa pb pc pd s' ws root (mvb + 40) (cb + 14)) ∨
       (e = code ∧ e ≠ 3 ∧ s'.M.down = false ∧ HP pa pb pc pd s' W r (mvb + 40) (cb + 14) ∧ (s.stuck → (code ≠ 0 ∨ (K = 4 ∧ bs = [])) ∧ s' = s))) →
      ∃ ws' root' jw',seeP ws root jw K off n bs (doH pa pb pc pd s K off n bs).2.1 (doH pa pb pc pd s K off n bs).2.2.1 (doH pa pb pc pd s K off n bs).2.2.2 = (true,ws',root',jw') ∧ HP pa pb pc pd (doH pa pb pc pd s K off n bs).1 ws' root' (mvb + 40) (cb + 14) ∧
        (doH pa pb pc pd s K off n bs).1.M.down = false ∧ (doH pa pb pc pd s K off n bs).1.M.cut = -1 ∧ (jw' = true → (doH pa pb pc pd s K off n bs).1.stuck) := by
    intro code e W r s' hK hdp hsame hD hc
    rw [hD] at hcut' ⊢
    simp only at hcut' ⊢
    rw [seeP_eq,if_neg (by omega),if_pos hK,if_neg (by simp),hdp]
    simp only
    rcases hc with ⟨h1,h2,h3,h4,h5,h6⟩ | ⟨h1,h2,h4,h6,h7⟩
    · refine ⟨ws,root,true,?_,h6,h4,hcut',fun _ => h5⟩
      rw [if_pos ⟨h2,h3,.inr h1⟩,decide_eq_true h1,Bool.or_true]
    · refine ⟨W,r,jw,?_,h6,h4,hcut',fun hw => ?_⟩
      · rw [if_neg,if_neg (by omega)]
        rintro ⟨q1,q2,q3⟩
        rcases q3 with q3 | q3
        · rcases (h7 (hj q3)).1 with q | q
          · exact q q1
          · exact q2 q
        · exact h2 q3
      · rw [(h7 (hj hw)).2]; exact hj hw
  by_cases k1 : K = 1
  · obtain ⟨c1,c2,c3,c4,c5⟩ := qd1 (n := n) hp hup hb hcb
    have hD : doH pa pb pc pd s K off n bs = ((allocH pa pb pc pd s n).1,(allocH pa pb pc pd s n).2.1,(if (allocH pa pb pc pd s n).2.1 = 0 then (allocH pa pb pc pd s n).2.2 else 0),[]) := by unfold doH; rw [if_pos k1]
    have hneed : (imgAlloc ws n s.now).2.2 = 1 ↔ needN n = 0 := by
      unfold imgAlloc
      rw [hp.ok.blocks]
      by_cases h0 : needN n = 0
      · rw [if_pos h0]; exact ⟨fun _ => h0,fun _ => rfl⟩
      · rw [if_neg h0]
        simp only
        constructor
        · split <;> intro hh <;> simp at hh
        · intro hh; exact absurd hh h0
    have hfour : (imgAlloc ws n s.now).2.2 = 0 ∨ (imgAlloc ws n s.now).2.2 = 1 ∨ ((imgAlloc ws n s.now).2.2 = 4 ∧ (fitO ws n).length = 0) := by
      unfold imgAlloc fitO
      rw [hp.ok.blocks]
      by_cases h0 : needN n = 0
      · rw [if_pos h0]; exact .inr (.inl rfl)
      · rw [if_neg h0]
        simp only
        by_cases hc : chooseN (blkL ws) (needN n) s.now < 0
        · rw [if_pos hc,qiR hc]; exact .inr (.inr ⟨rfl,rfl⟩)
        · rw [if_neg hc]; exact .inl rfl
    rw [hD] at hcut' ⊢
    simp only at hcut' ⊢
    rw [seeP_eq,if_pos k1]
    rcases c1 with ⟨a,a2,a3,a4,a5,_,_⟩ | ⟨a,a2,a3,a4,_,_,_⟩ | ⟨a,a2,hE⟩ | ⟨_,_,_,_,a,_⟩
    · obtain ⟨b1,b2,b3⟩ := c5 a
      have hn0 : needN n ≠ 0 := fun hh => by have := hneed.2 hh; omega
      obtain ⟨_,_,_,kA,_⟩ := qdo hp.ok a2
      refine ⟨applyE ws (imgAlloc ws n s.now).1,root,jw,?_,a5,a4,hcut',fun hw => absurd (hj hw) a3⟩
      rw [if_neg hn0,a,if_neg (by omega),if_neg (fun hw => a3 (hj hw)),if_neg (by omega),if_neg (by simp),if_pos rfl,b3,kA]
    · have hn0 : needN n ≠ 0 := fun hh => by have := hneed.2 hh; exact c3 a this
      refine ⟨ws,root,true,?_,a3,a2,hcut',fun _ => a4⟩
      rw [if_neg hn0,a,if_pos rfl,if_neg (by omega),decide_eq_true ⟨rfl,rfl⟩,Bool.or_true]
    · rw [a2] at hcut' ⊢
      rcases hfour with h0 | h1 | ⟨h4,hf⟩
      · -- cannot be: a block that fits is taken
        have ha0 : (allocH pa pb pc pd s n).2.1 = 0 := by omega
        obtain ⟨b1,b2,b3⟩ := c5 ha0
        have hn0 : needN n ≠ 0 := fun hh => by have := hneed.2 hh; omega
        obtain ⟨_,_,kl,kA,_⟩ := qdo hp.ok h0
        have hE' := hE h0
        rw [hE'] at kl
        simp [eLines] at kl
      · have hn0 := hneed.1 h1
        refine ⟨ws,root,jw,?_,hp',hup,hcut',hj⟩
        rw [if_pos hn0,a,h1,if_neg (by omega),decide_eq_true ⟨rfl,rfl,rfl⟩]
      · have hn0 : needN n ≠ 0 := fun hh => by have := hneed.2 hh; omega
        refine ⟨ws,root,jw,?_,hp',hup,hcut',hj⟩
        have hns : ¬ jw = true := fun hw => by have := c4 (hj hw) (by omega); omega
        rw [if_neg hn0,a,h4,if_neg (by omega),if_neg hns,if_pos rfl,if_neg (by omega),decide_eq_true ⟨⟨rfl,rfl⟩,hf⟩]
    · exact absurd hcut a
  by_cases k2 : K = 2
  · obtain ⟨c1,c2,c3⟩ := qgj (off := off) hp hup hb hcb
    have hD : doH pa pb pc pd s K off n bs = ((freeH pa pb pc pd s off).1,(freeH pa pb pc pd s off).2,0,[]) := by unfold doH; rw [if_neg k1,if_pos k2]
    have eA : aFree ws root off = (errFree ws root off,if errFree ws root off = 0 then applyE ws (imgFree ws off).1 else ws) := by
      unfold aFree errFree
      by_cases h0 : (imgFree ws off).2 ≠ 0
      · rw [if_pos h0,if_pos h0,if_neg h0]
      · rw [if_neg h0,if_neg h0]
        by_cases hr : root = off
        · rw [if_pos hr,if_pos hr]; rfl
        · rw [if_neg hr,if_neg hr]; rfl
    have hdp : doP ws root K off bs = (errFree ws root off,(if errFree ws root off = 0 then applyE ws (imgFree ws off).1 else ws),root) := by unfold doP; rw [if_pos k2,eA]
    refine change _ _ _ _ _ (.inl k2) hdp (fun hne => ⟨if_neg hne,rfl⟩) hD ?_
    rcases c1 with ⟨b,c,d,e,f,_⟩ | ⟨b,b2,c,d,_⟩ | ⟨b,c,d⟩ | ⟨_,_,_,_,b,_⟩
    · exact .inr ⟨by omega,by omega,e,by rw [if_pos c]; exact f,fun hs => absurd hs d⟩
    · exact .inl ⟨b,c3 b,by omega,b2,d,c⟩
    · by_cases h0 : errFree ws root off = 0
      · exfalso
        have hE := d h0
        have hne2 : (imgFree ws off).2 = 0 := by unfold errFree at h0; by_cases hx0 : (imgFree ws off).2 ≠ 0; rw [if_pos hx0] at h0; exact absurd h0 hx0; exact Decidable.not_not.1 hx0
        have := (qew hp.ok hne2).2.2.1
        rw [hE] at this; simp [eLines] at this
      · have h3 : (freeH pa pb pc pd s off).2 ≠ 3 := fun hh => h0 (c3 hh)
        exact .inr ⟨b,h3,by rw [c]; exact hup,by rw [if_neg h0,c]; exact hp',fun _ => ⟨.inl h0,c⟩⟩
    · exact absurd hcut b
  by_cases k4 : K = 4
  · obtain ⟨c1,c2,c3,c4,c5⟩ := qfR (off := off) (bs := bs) h8 hp hup hb hcb
    have hD : doH pa pb pc pd s K off n bs = ((writeH pa pb pc pd s off bs).1,(writeH pa pb pc pd s off bs).2,0,[]) := by unfold doH; rw [if_neg k1,if_neg k2,if_neg (by omega),if_pos k4]
    have eA : aWrite ws off bs = ((imgWrite ws off bs).2,if (imgWrite ws off bs).2 = 0 then applyE ws (imgWrite ws off bs).1 else ws) := by
      unfold aWrite
      by_cases h0 : (imgWrite ws off bs).2 = 0
      · rw [if_pos h0,if_pos h0,h0]
      · rw [if_neg h0,if_neg h0]
    have hdp : doP ws root K off bs = ((imgWrite ws off bs).2,(if (imgWrite ws off bs).2 = 0 then applyE ws (imgWrite ws off bs).1 else ws),root) := by unfold doP; rw [if_neg k2,if_pos k4,eA]
    refine change _ _ _ _ _ (.inr (.inl k4)) hdp (fun hne => ⟨if_neg hne,rfl⟩) hD ?_
    rcases c1 with ⟨b,c,d,e,f,_⟩ | ⟨b,b2,c,d,_⟩ | ⟨b,c,d⟩ | ⟨_,_,_,_,b,_⟩
    · exact .inr ⟨by omega,by omega,e,by rw [if_pos c]; exact f,fun hs => absurd hs d⟩
    · exact .inl ⟨b,(c3 b).1,fun hh => by have := (c3 b).2; rw [hh.2] at this; simp at this,b2,d,c⟩
    · have h3 : (writeH pa pb pc pd s off bs).2 ≠ 3 := fun hh => by have := (c3 hh).1; omega
      refine .inr ⟨b,h3,by rw [c]; exact hup,?_,fun _ => ⟨?_,c⟩⟩
      · by_cases h0 : (imgWrite ws off bs).2 = 0
        · rw [if_pos h0,c,d h0]; exact hp'
        · rw [if_neg h0,c]; exact hp'
      · by_cases h0 : (imgWrite ws off bs).2 = 0
        · right
          refine ⟨k4,?_⟩
          obtain ⟨l1,_⟩ := qfl (E := (imgWrite ws off bs).1) (ws := ws) (off := off) (bs := bs) (Prod.ext rfl h0)
          exact List.length_eq_zero_iff.1 (l1.1 (by rw [d h0]; rfl))
        · exact .inl h0
    · exact absurd hcut b
  by_cases k5 : K = 5
  · obtain ⟨c2,_,_,c1⟩ := qeZ (off := off) hio hp hup
    have hD : doH pa pb pc pd s K off n bs = ((setRootH pa pb s off).1,(setRootH pa pb s off).2,0,[]) := by unfold doH; rw [if_neg k1,if_neg k2,if_neg (by omega),if_neg k4,if_pos k5]
    have eA : aRoot ws root off = if off = 0 ∨ isUsed ws off = true then (0,off) else (1,root) := by
      unfold aRoot
      by_cases h0 : off = 0 ∨ isUsed ws off = true
      · rw [if_pos h0,if_neg]
        rintro ⟨h1,h2⟩
        rcases h0 with h0 | h0
        · exact h1 h0
        · exact (rootChk hp.ok).1 h0 h2
      · rw [if_neg h0,if_pos]
        refine ⟨fun h => h0 (.inl h),?_⟩
        by_cases h2 : isN off (blkL ws) 0 < 0
        · exact h2
        · exact absurd (.inr ((rootChk hp.ok).2 h2)) h0
    have hdp0 : doP ws root K off bs = ((aRoot ws root off).1,ws,(aRoot ws root off).2) := by unfold doP; rw [if_neg k2,if_neg k4]
    rw [eA] at hdp0
    rcases c1 with ⟨u0,u1,u2⟩ | ⟨u0,u1,u2⟩ | ⟨u0,u1,u2,u3,u4,u5⟩ | ⟨_,_,_,_,u,_⟩
    · rw [if_neg (by simp [u0,u1])] at hdp0
      rw [u2] at hD
      exact change _ _ _ _ _ (.inr (.inr k5)) hdp0 (fun _ => ⟨rfl,rfl⟩) hD (.inr ⟨rfl,by omega,hup,hp',fun _ => ⟨.inl (by omega),rfl⟩⟩)
    · rw [if_pos u0] at hdp0
      rw [u2] at hD
      exact change _ _ _ _ _ (.inr (.inr k5)) hdp0 (fun hh => absurd rfl hh) hD (.inl ⟨rfl,rfl,by omega,hup,u1,hp'⟩)
    · rw [if_pos u0] at hdp0
      refine change _ _ _ _ _ (.inr (.inr k5)) hdp0 (fun hh => absurd rfl hh) hD (.inr ⟨u2,by omega,u3,u5.mono (by omega) (by omega),fun hs => absurd hs u1⟩)
    · exact absurd hcut u
  by_cases k3 : K = 3
  · have hD : doH pa pb pc pd s K off n bs = (s,(aRead ws off n).2,0,if (aRead ws off n).2 = 0 then (aRead ws off n).1 else []) := by rw [k3,do_read hp hup]
    have hsame : (if (aRead ws off n).2 = 0 then (aRead ws off n).1 else []) = (aRead ws off n).1 := by
      split
      · rfl
      · rename_i hne
        unfold aRead at hne ⊢
        split
        · rename_i hw; rw [if_pos hw] at hne; exact absurd rfl hne
        · rfl
    rw [hD] at hcut' ⊢
    refine ⟨ws,root,jw,?_,hp',hup,hcut',hj⟩
    rw [seeP_eq,if_neg k1,if_neg (by omega),if_pos k3]
    simp only [hsame,and_self,decide_true]
  by_cases k6 : K = 6
  · have hD : doH pa pb pc pd s K off n bs = (s,0,root,[]) := by rw [k6,do_get hp hup]
    rw [hD] at hcut' ⊢
    refine ⟨ws,root,jw,?_,hp',hup,hcut',hj⟩
    rw [seeP_eq,if_neg k1,if_neg (by omega),if_neg k3,if_pos k6]
    simp only [and_self,decide_true]
  have hD : doH pa pb pc pd s K off n bs = (s,1,0,[]) := by unfold doH; rw [if_neg k1,if_neg k2,if_neg k3,if_neg k4,if_neg k5,if_neg k6]
  rw [hD] at hcut' ⊢
  refine ⟨ws,root,jw,?_,hp',hup,hcut',hj⟩
  rw [seeP_eq,if_neg k1,if_neg (by omega),if_neg k3,if_neg k6]
  simp only [and_self,decide_true]
end
section
variable {H : AH} {L : Pl} {F : Nat → Prop} {pa pb pc pd : Int} {s : HS} {ws : List Int} {root : Int} {mvb : Nat} {cb : Int}
theorem do_isI {K off n : Int} {bs : List Int} (hp : HP pa pb pc pd s ws root mvb cb) (hup : s.M.down = false) (hb : mvb + 2000 < 4611686018427387904) (hcb : cb + 100 < 4611686018427387904) : isI (doH pa pb pc pd s K off n bs).2.2.1 := by
 have h0 : isI 0 := by unfold isI; omega
 unfold doH
 by_cases k1 : K = 1
 ·rw [if_pos k1]
  simp only
  by_cases he : (allocH pa pb pc pd s n).2.1 = 0
  ·rw [if_pos he]
   obtain ⟨c1,c2,c3,c4,c5⟩ := qd1 (n := n) hp hup hb hcb
   obtain ⟨b1,b2,b3⟩ := c5 he
   obtain ⟨a1,_,_,_,_,a6⟩ := qdo hp.ok b1
   rw [b3]
   have := a1.used_range a6
   have := a1.len
   unfold isI; omega
  ·rw [if_neg he]; exact h0
 rw [if_neg k1]
 by_cases k2 : K = 2
 ·rw [if_pos k2]; exact h0
 rw [if_neg k2]
 by_cases k3 : K = 3
 ·rw [if_pos k3]; exact h0
 rw [if_neg k3]
 by_cases k4 : K = 4
 ·rw [if_pos k4]; exact h0
 rw [if_neg k4]
 by_cases k5 : K = 5
 ·rw [if_pos k5]; exact h0
 rw [if_neg k5]
 by_cases k6 : K = 6
 ·rw [if_pos k6,if_neg (by simp [hup])]
  simp only
  rw [hp.rootN.1]
  have := hp.rootN.2
  unfold isI; omega
 ·rw [if_neg k6]; exact h0
theorem qiW (h1 : 1 ≤ pa ∧ pa ≤ 24) (hmay : mayP pa pb pc pd = true) : wordsP pa pb pc pd = 8 * pa ∧ mayW (8 * pa) := by
 refine ⟨?_,by unfold mayW; omega⟩
 unfold wordsP
 rw [if_pos hmay]
end
section
variable {H : AH} {pa pb pc pd : Int} {s : HS} {ws : List Int} {root : Int} {mvb : Nat} {cb : Int}
theorem qfr {a b c d : Int} {k : List Value → AH → Prop} (h : ∀ pa pb pc pd,1 ≤ pa ∧ pa ≤ 24 → 0 ≤ pb ∧ pb ≤ 16 → 1 ≤ pc ∧ pc ≤ 30 → 1 ≤ pd ∧ pd ≤ 10 → ∀ H',qa H H' → k (pl pa pb pc pd) H') : qbZ (pl a b c d) H k := by
 refine qbZ.link ?_
 unfold qbZ.b
 rw [qp,qp]
 have g1 : ((H.push ⟨pl a b c d,.rw,0⟩).push ⟨[(qlI .i64 (0 : Int)),(qlI .i64 (0 : Int)),(qlI .i64 (0 : Int)),(qlI .i64 (0 : Int))],.rw,0⟩).get H.size = ⟨pl a b c d,.rw,0⟩ := by rw [qv (by simp [qe]),qm,if_pos rfl]
 have g2 : ((H.push ⟨pl a b c d,.rw,0⟩).push ⟨[(qlI .i64 (0 : Int)),(qlI .i64 (0 : Int)),(qlI .i64 (0 : Int)),(qlI .i64 (0 : Int))],.rw,0⟩).get (H.push ⟨pl a b c d,.rw,0⟩).size = ⟨pl 0 0 0 0,.rw,0⟩ := by rw [qm,if_pos rfl]; rfl
 have hk : qa H ((H.push ⟨pl a b c d,.rw,0⟩).push ⟨[(qlI .i64 (0 : Int)),(qlI .i64 (0 : Int)),(qlI .i64 (0 : Int)),(qlI .i64 (0 : Int))],.rw,0⟩) := ((qa.refl H).push _).push _
 have ho : H.size ≤ (H.push ⟨pl a b c d,.rw,0⟩).size := by simp [qe]
 generalize (H.push ⟨pl a b c d,.rw,0⟩).size = o at *
 generalize (H.push ⟨pl a b c d,.rw,0⟩).push ⟨[(qlI .i64 (0 : Int)),(qlI .i64 (0 : Int)),(qlI .i64 (0 : Int)),(qlI .i64 (0 : Int))],.rw,0⟩ = H2 at *
 rw [qdS g1 0,qdS g1 1,qdS g1 2,qdS g1 3]
 refine ⟨a,rfl,b,rfl,c,rfl,d,rfl,?_⟩
 refine qbe.s fun pa pb pc pd h1 h2 h3 h4 => ?_
 refine ⟨⟨rfl,rfl⟩,?_⟩
 rw [qaQ]
 refine ⟨⟨rfl,by rw [g2],by rw [g2]; simp [pl]⟩,?_⟩
 have e1 : AH.put H2 ⟨o,0,none⟩ (pl pa pb pc pd) = H2.upd o ⟨pl pa pb pc pd,.rw,0⟩ := by
  simp only [AH.put,g2]; rfl
 rw [e1,ql (plg_row (e := 0) (by rw [qu,if_pos rfl]))]
 exact h pa pb pc pd h1 h2 h3 h4 _ (hk.upd ho _)
theorem tw_do {K off n mask : Int} {bs : List Int} (h7 : K ≠ 7) (h8 : K ≠ 8) : twDoes pa pb pc pd ⟨s,true⟩ K off n mask bs = (⟨(doH pa pb pc pd s K off n bs).1,true⟩,(doH pa pb pc pd s K off n bs).2) := by
 unfold twDoes
 rw [if_neg h7,if_neg h8,if_neg (by simp)]
theorem HP.tw (h : HP pa pb pc pd s ws root mvb cb) : TW pa pb pc pd ⟨s,true⟩ mvb cb := ⟨fun _ => ⟨ws,root,h⟩,fun h => by cases h⟩
theorem qkP {x53 : Sl} {b : List Int} {ops : List OpR} {H35 H53 : AH} {G F : Nat → Prop} {t p c j : Nat} {L : Pl} (hO : Own H35.size H53 x53 5 opRV ops) (hOO : OwnOps H35.size H53 ops) (hmap : ops.map OpR.p = decL b) (h8 : qam b) (hbl : b.length ≤ 2000)
  (hk53 : qa H35 H53) (hT : TwAt G H35 t p c L pa pb pc pd ⟨s,true⟩ 0) (hP : HP pa pb pc pd s ws root 15 0) (hup : s.M.down = false) (hcut : s.M.cut = -1) (hJ : JW F H35 j ws root false) (hD : ∀ x,G x → F x → False) :
  loopT (qs.l3 (fun r _ => r = true) (some ⟨t,0,none⟩) (some ⟨j,0,none⟩) x53) ((false,(0 : Int)) : Bool × Int) H53 := by
 have hops : ops.length = (decL b).length := by rw [← hmap,qmt]
 have hol : 4 * (decL b).length ≤ b.length := qk3 b.length b
 have hdok : ∀ d ∈ decL b,d.ok := decF_ok b.length b h8
 have hz53 := hk53.1
 have hn53 := own_len hO
 have hJlt := hJ.lt
 refine qI (t := ((false,(0 : Int)) : Bool × Int)) (I := fun (t' : Bool × Int) H' => ∃ (i : Nat) (G F : Nat → Prop) (L : Pl) (s : HS) (cost : Int) (ws : List Int) (root : Int) (jw : Bool),t' = (false,(i : Int)) ∧ i ≤ ops.length ∧ H53.size ≤ H'.size ∧ (∀ x,H35.size ≤ x → x < H53.size → H'.get x = H53.get x) ∧ TwAt G H' t p c L pa pb pc pd ⟨s,true⟩ cost ∧ HP pa pb pc pd s ws root (15 + 40 * i) (14 * i) ∧ s.M.down = false ∧ s.M.cut = -1 ∧
   JW F H' j ws root jw ∧ (∀ x,G x → x < H35.size ∨ H53.size ≤ x) ∧ (∀ x,F x → x < H35.size ∨ H53.size ≤ x) ∧ (∀ x,G x → F x → False) ∧ (jw = true → s.stuck)) (m := fun (t' : Bool × Int) _ => qlQ ((ops.length : Int) - t'.2)) ?_
  ⟨0,G,F,L,s,0,ws,root,false,rfl,by omega,qlS _,fun _ _ _ => rfl,hT.keeps hk53,hP,hup,hcut,hJ.keeps hk53,fun x hx => .inl (hT.gl x hx),fun x hx => .inl (hJlt x hx),hD,fun h => by cases h⟩
 clear hT hP hup hcut hJ hD hJlt
 rintro ⟨q1,q2⟩ H9 ⟨i,G,F,L,s,cost,ws,root,jw,e1,hi,hz9,mid,hT,hP,hup,hcut,hJ,lo,loF,hD,hjw⟩ it hit
 injection e1 with e1 e2
 subst e1 e2
 unfold qs.l3
 rw [hn53]
 by_cases hlt : (i : Int) < (ops.length : Int)
 rotate_left 1
 ·rw [decide_eq_false hlt,qc]
  unfold qs.j1
  refine qjv.s hT ?_
  rw [if_pos rfl]
  obtain ⟨hA,_,_,_,hLG⟩ := hT.hp rfl
  refine qea.s hA (fun hh => by rw [hup] at hh; cases hh) ?_
  intro _ s78 H78 hk78 hO78
  rw [hP.words hup] at hO78
  have hlen := hP.ok.len
  refine qO.s (hO78.rows (fun _ => rfl) (fun _ => rfl)) hlen.2.2 (by omega) ?_ (fun hn => by rw [hP.ok.blocks] at hn; cases hn)
  intro l hl s83 H83 hk83 hO83
  rw [hP.ok.blocks] at hl
  injection hl with hl
  subst hl
  rw [show ((0 : Int) == 0) = true from rfl,qj,qj]
  refine qa0.s ((hJ.keeps hk78).keeps hk83) ?_
  intro s94 H94 hk94 hO94
  have hbl2 := hP.ok.blen.1
  refine qR.s ((hO83.rows bkV_len bkV_ok).keep hk94) (hO94.rows bkV_len bkV_ok) (by omega) ?_
  rw [qj]
  exact qdh rfl
 rw [decide_eq_true hlt,qj]
 have hi' : i < ops.length := by omega
 have hO9 : Own H35.size H9 x53 5 opRV ops := hO.keep hz9 fun x h1 h2 => mid x h1 h2
 obtain ⟨bb,o,ha,hb,hcells⟩ := qas (hO9.rows qii opRV_ok) (by omega)
 refine ⟨by omega,?_⟩
 rw [ha,qd,qlP,ql (hcells i _ (qlK hi')).1]
 have hd0 := hOO _ (ql1 hi')
 have hdp : (decL b)[i]'(by omega) = (ops[i]).p := by simp only [← hmap,List.getElem_map]
 have hdk := hdok _ (ql1 (show i < (decL b).length by omega))
 rw [hdp] at hdk
 generalize ops[i] = d at *
 refine qbW (n := 5) rfl rfl rfl ?_
 have hOd : OpAt (H9.push ⟨opRV d,.rw,0⟩) H9.size d.K d.off d.n d.c d.sl := OpAt.new
 have hk8 : qa H9 (H9.push ⟨opRV d,.rw,0⟩) := (qa.refl H9).push _
 have hz8 : (H9.push ⟨opRV d,.rw,0⟩).size = H9.size + 1 := by simp [qe]
 generalize H9.push ⟨opRV d,.rw,0⟩ = H8 at *
 have mid8 : ∀ x,H35.size ≤ x → x < H53.size → H8.get x = H53.get x := fun x h1 h2 => by rw [hk8.2 x (by omega)]; exact mid x h1 h2
 have skip : ∀ x,x = true → qs.j2 (fun r _ => r = true) (some ⟨t,0,none⟩) (some ⟨j,0,none⟩) (false,(i : Int)) it H9.size H8 x := fun x hx => by
  unfold qs.j2
  rw [hx,qj,qg (n := (i : Int) + 1) (by omega) (by omega)]
  exact hit _ _ ⟨i + 1,G,F,L,s,cost,ws,root,jw,by simp,by omega,by omega,mid8,hT.keeps hk8,hP.mono (by omega) (by omega),hup,hcut,hJ.keeps hk8,lo,loF,hD,hjw⟩ (by simp only; omega)
 rw [hOd.c0,qf]
 by_cases k7 : d.K = 7
 ·rw [show (d.K == 7) = true by simpa using k7,qj]; exact skip _ rfl
 rw [show (d.K == 7) = false by simpa using k7,qc,qf]
 by_cases k8 : d.K = 8
 ·exact skip _ (by simpa using k8)
 rw [show (d.K == 8) = false by simpa using k8]
 unfold qs.j2
 rw [qc,ql hOd.row,ql hOd.row]
 have hd8 : Own H35.size H8 d.sl 1 bU d.bs := (hd0.keep hz9 fun x h1 h2 => mid x h1 h2).keep hk8.1 fun x _ h2 => hk8.2 x h2
 refine qdO.s (K := d.K) (off := d.off) (n := d.n) (mask := d.c) (x := d.sl) (bs := d.bs) (hT.keeps hk8) hP.tw (by omega) (by omega) hdk.off hdk.n (hd8.rows (fun _ => rfl) (fun _ => rfl)) hdk.u8 ?_
 obtain ⟨ws',root',jw',hs,hP',hup',hcut',hjw'⟩ := qlC (jw := jw) (K := d.K) (off := d.off) (n := d.n) (bs := d.bs) hdk.off hdk.u8 hP hup hcut hjw (by omega) (by omega)
 have hb8 := qkS (K := d.K) (off := d.off) (n := d.n) (bs := d.bs) hP hup
 have hI := do_isI (K := d.K) (off := d.off) (n := d.n) (bs := d.bs) hP hup (by omega) (by omega)
 rw [tw_do k7 k8]
 generalize twCost pa pb pc pd ⟨s,true⟩ d.K d.off d.n d.c d.bs = cost' at *
 generalize doH pa pb pc pd s d.K d.off d.n d.bs = R at *
 intro G' H71 L' x71 hu hT71 hO71 hn71
 have hz71 := hu.1.1
 have nO : ¬ G H9.size := fun hh => by have := hT.gl _ hh; omega
 have hOd71 := hOd.keep (hu.1.2 _ (by omega) nO)
 refine ⟨hOd71.row,?_⟩
 have hJ8 := hJ.keeps hk8
 have hJ71 : JW F H71 j ws root jw := hJ8.up hu hD
 have hD' : ∀ x,G' x → F x → False := fun x h1 h2 => by
  rcases hu.2 x h1 with h1 | h1
  ·exact hD x h1 h2
  ·have := hJ8.lt x h2; omega
 have lo' : ∀ x,G' x → x < H35.size ∨ H53.size ≤ x := fun x hx => (hu.2 x hx).elim (lo x) fun h => .inr (by omega)
 have mid71 : ∀ x,H35.size ≤ x → x < H53.size → H71.get x = H53.get x := fun x h1 h2 => by
  rw [hu.1.2 x (by omega) (fun hh => by have := lo x hh; omega)]; exact mid8 x h1 h2
 have hd71 : Own H35.size H71 d.sl 1 bU d.bs := hd0.keep (by omega) fun x h1 h2 => mid71 x h1 h2
 refine See.at hJ71 hdk.off hdk.n hI (hd71.rows (fun _ => rfl) (fun _ => rfl)) hdk.u8 (by have := hdk.len; show d.bs.length ≤ _; have e : d.p.bs = d.bs := rfl; rw [e] at this; omega) (hO71.rows (fun _ => rfl) (fun _ => rfl)) hb8 hs ?_
 intro F' H72 hu72 hJ72
 have hz72 := hu72.1.1
 simp only at hJ72 ⊢
 rw [qmm,qc,qg (n := (i : Int) + 1) (by omega) (by omega)]
 refine hit _ _ ⟨i + 1,G',F',L',R.1,cost',ws',root',jw',by simp,by omega,by omega,fun x h1 h2 => ?_,hT71.congr hz72 fun x hx => hu72.1.2 x (hT71.gl x hx) (fun hh => hD' x hx hh),?_,hup',hcut',hJ72,lo',fun x hx => (hu72.2 x hx).elim (loF x) fun h => .inr (by omega),fun x h1 h2 => ?_,hjw'⟩ (by simp only; omega)
 ·rw [hu72.1.2 x (by omega) (fun hh => by have := loF x hh; omega)]; exact mid71 x h1 h2
 ·have q1 : 15 + 40 * (i + 1) = 15 + 40 * i + 40 := by omega
  have q2 : (14 : Int) * ((i + 1 : Nat) : Int) = 14 * (i : Int) + 14 := by omega
  rw [q1,q2]; exact hP'
 ·rcases hu72.2 x h2 with h2 | h2
  ·exact hD' x h1 h2
  ·have := hT71.gl x h1; omega
theorem qs.t {x0 x1 x2 x3 : Int} {x4 x5 : Sl} {limits b : List Int} (_ : (Lit.int .i64 x0).wf = true) (_ : (Lit.int .i64 x1).wf = true) (_ : (Lit.int .i64 x2).wf = true) (_ : (Lit.int .i64 x3).wf = true)
  (hr1 : ql5 H x4 1 iV limits) (_ : ∀ v ∈ limits,isI v) (_ : limits.length ≤ maxLen) (hr2 : ql5 H x5 1 bU b) (h8 : ∀ v ∈ b,isB v) (_ : b.length ≤ maxLen) : qs (pl x0 x1 x2 x3) x4 x5 H (fun r _ => r = true) := by
 refine qs.link ?_
 unfold qs.b
 rw [qp]
 have hk1 : qa H (H.push ⟨pl x0 x1 x2 x3,.rw,0⟩) := (qa.refl H).push _
 have g1 : (H.push ⟨pl x0 x1 x2 x3,.rw,0⟩).get H.size = ⟨pl x0 x1 x2 x3,.rw,0⟩ := by rw [qm,if_pos rfl]
 have hz1 : H.size < (H.push ⟨pl x0 x1 x2 x3,.rw,0⟩).size := by simp [qe]
 generalize H.push ⟨pl x0 x1 x2 x3,.rw,0⟩ = H1 at *
 have aw : ∀ x,x = true → qs.j5 x4 x5 (fun r _ => r = true) H.size H1 x := fun x hx => by
  unfold qs.j5
  rw [hx,qj]
  exact qdh rfl
 by_cases hb6 : ((x5.n : Nat) : Int) > 800
 ·rw [decide_eq_true hb6,qj]; exact aw _ rfl
 rw [decide_eq_false hb6,qc]
 have hbl : b.length ≤ 800 := by have := hr2.1; omega
 by_cases hl2 : ((x4.n : Nat) : Int) > 200
 ·rw [decide_eq_true hl2]; exact aw _ rfl
 rw [decide_eq_false hl2]
 unfold qs.j5
 rw [qc,ql (plg_row g1)]
 refine qfr ?_
 intro pa pb pc pd r1 r2 r3 r4 H26 hk26
 have hmay := qjA r1 r2 r3 r4
 have g26 : H26.get H.size = ⟨pl x0 x1 x2 x3,.rw,0⟩ := by rw [hk26.2 _ hz1]; exact g1
 refine ⟨⟨rfl,rfl⟩,?_⟩
 rw [qaQ]
 refine ⟨⟨rfl,by rw [g26],by rw [g26]; simp [pl]⟩,?_⟩
 have e1 : AH.put H26 ⟨H.size,0,none⟩ (pl pa pb pc pd) = H26.upd H.size ⟨pl pa pb pc pd,.rw,0⟩ := by simp only [AH.put,g26]; rfl
 rw [e1]
 have hk2 : qa H (H26.upd H.size ⟨pl pa pb pc pd,.rw,0⟩) := (hk1.trans hk26).upd (qlS _) _
 have g2 : (H26.upd H.size ⟨pl pa pb pc pd,.rw,0⟩).get H.size = ⟨pl pa pb pc pd,.rw,0⟩ := by rw [qu,if_pos rfl]
 have hz2 : H.size < (H26.upd H.size ⟨pl pa pb pc pd,.rw,0⟩).size := by have := hk26.1; show H.size < H26.size; omega
 generalize H26.upd H.size ⟨pl pa pb pc pd,.rw,0⟩ = H2 at *
 rw [ql (plg_row g2)]
 obtain ⟨ew,hmw⟩ := qiW (pb := pb) (pc := pc) (pd := pd) r1 hmay
 refine qbY.s (hr1.keep hk2) (fun h => by rw [hmay] at h; cases h) ?_ ?_
 ·intro _ he H30 hk30
  have hl : limits ≠ [] := fun hl => by subst hl; rw [qfp hmay] at he; exact absurd he (by decide)
  rw [ql (plg_row (e := 0) (by rw [hk30.2 _ hz2]; exact g2))]
  refine qb6.s ?_
  rw [ew]
  refine qcF.s (fun hn => absurd hmw hn) ?_
  intro _ F j H35 _ _ _
  rw [qm8,qj]
  unfold qs.j4
  have : 0 < limits.length := List.length_pos_iff.2 hl
  rw [qj,show ((3 : Int) != 0) = true from rfl,qj,hr1.1,decide_eq_true (by omega),qj]
  exact qdh rfl
 intro _ he G H30 t p c L hk30 lo hT _
 obtain ⟨hP,hup,hcut,hns,_,_⟩ := qim hmay he
 have hon : twStart pa pb pc pd limits = ⟨(twStart pa pb pc pd limits).s,true⟩ := rfl
 rw [hon] at hT
 generalize (twStart pa pb pc pd limits).s = s at *
 rw [ql (plg_row (e := 0) (by rw [hk30.2 _ hz2]; exact g2))]
 refine qb6.s ?_
 rw [ew]
 refine qcF.s (fun hn => absurd hmw hn) ?_
 intro _ F j H35 hk35 hu35 hJ35
 rw [qlZ,qc,qlZ]
 unfold qs.j4
 rw [qc]
 refine qaJ.s (hr2.keep ((hk2.trans hk30).trans hk35)) h8 (by omega) ?_
 intro s53 H53 ops hk53 hO hOO hmap
 exact qkP hO hOO hmap h8 (by omega) hk53 (hT.keeps hk35) hP hup hcut hJ35 fun x h1 h2 => (hu35.2 x h2).elim (fun h => h.elim) fun h => by have := hT.gl x h1; omega
end
end Go.Proofs.YtdcbkjgoaknmkaaGreat
