/- Lemmas for the law: an abstract machine, and what the functions do on it. No condition. -/
import Derived.Test.YtdcbkjgoaknmkaaGreatDT13
set_option linter.all false
open Go.Value renaming int → qkz
open Go.Addr renaming add → qkB
open List renaming getElem?_eq_getElem → qkC, length_cons → qkP, getElem_mem → qkR, length_append → qk5, mem_map → qla, length_map → qlz
open Int renaming toNat → qkF, toNat_natCast → qkH
open Nat renaming le_refl → qkK
open Go.Abs renaming Rows → qk3
open Option renaming map → qlQ
set_option linter.all false
namespace Go.Proofs.YtdcbkjgoaknmkaaGreat
open Go Go.Abs
section
variable {M : Mem} {n sp per pt k mvb len : Nat} {d : List Int}
theorem qku {i : Nat} (hd : M.down = false) (hc : M.cut = 0) (hi : i < M.cs.length) : (M.put i d).2 = 2 := by
 unfold Mem.put
 rw [if_pos (show M.has i from ⟨by omega, by omega⟩), if_neg (by simp [hd])]
 have hw : M.wr.down = true := by unfold Mem.wr; rw [if_pos hc]
 simp only
 split
 ·simp [Mem.told, hw]
 ·simp [Mem.told, hw]
theorem qgA {slot : Nat} (h : LV M n sp k) (hd : M.down = false) (hc : M.cut = 0) (hs : slot < n) : (lput n sp M slot d).2 = 2 := by
 unfold lput
 have hl := h.len
 have hp : M.place n slot sp < M.cs.length := by
  rcases qcB M n slot sp with e | ⟨j, hj, e, _⟩ <;> omega
 rw [if_pos (by omega), if_neg (by simp [hd])]
 simp only [qkH]
 have := qku (d := d) hd hc hp
 rw [if_neg (by omega)]
 exact this
theorem qjI {line : Nat} (h : LV M (n + 1) sp k) (hn : 1 ≤ n) (hd : M.down = false) (hc : M.cut = 0) (hl : line < n) : (tput n sp per M pt line d).2.2 = 2 := by
 unfold tput
 rw [if_pos (by omega), if_neg (by simp [hd])]
 split
 ·have hg : gapN n M.mv < n + 1 := by have := gapN_le (n := n) (mv := M.mv); omega
  have h2 : (tmove n sp M).2 = 2 := by
   unfold tmove
   have := qgA (d := M.view (n + 1) sp (fromN n M.mv)) h hd hc hg
   simp only
   rw [if_neg (by omega)]
   exact this
  simp only
  rw [if_neg (by omega)]
  exact h2
 ·have hsl := qcX (mv := M.mv) (line := line) hn
  simp only [qkH]
  exact qgA h hd hc (by omega)
theorem qiA {L : List (Int × List Int)} (h : LV M (n + 1) sp k) (hn : 1 ≤ n) (hd : M.down = false) (hc : M.cut = 0) (hL : L ≠ []) (hin : ∀ q ∈ L, 0 ≤ q.1 ∧ q.1 < n) : (tputs n sp per L M pt).2.2 = 2 := by
 cases L with
 | nil => exact absurd rfl hL
 | cons q r =>
  obtain ⟨h0, h1⟩ := hin q (by simp)
  obtain ⟨ln, hln⟩ := Int.eq_ofNat_of_zero_le h0
  have := qjI (per := per) (pt := pt) (d := q.2) h hn hd hc (line := ln) (by omega)
  unfold tputs
  rw [hln, this, if_neg (by omega)]
  exact this
end
section
variable {pa pb pc pd : Int} {s : HS} {ws : List Int} {root : Int} {mvb : Nat} {cb : Int}
theorem qfT {l : List (Int × List Int)} (hl1 : 1 ≤ l.length) (hl : l.length ≤ 14) : rowPuts l ≠ [] ∧ (∀ q ∈ rowPuts l, 0 ≤ q.1 ∧ q.1 < 16 ∧ isLine q.2 ∨ ¬ (∀ q ∈ l, isLine q.2)) ∧ (∀ q ∈ rowPuts l, 0 ≤ q.1 ∧ q.1 < 16) ∧ ((rowPuts l).map (·.1)).Nodup ∧ (rowPuts l).length ≤ 16 := by
 have hlen : (rowsN l).length = idxN l.length + l.length := qbL l (qkK _)
 have hidx : idxN l.length ≤ 2 := by unfold idxN; omega
 have hin : ∀ q ∈ rowPuts l, 0 ≤ q.1 ∧ q.1 < 16 := fun q hq => by
  unfold rowPuts at hq
  rw [qla] at hq
  obtain ⟨i, hi, rfl⟩ := hq
  rw [List.mem_range] at hi
  simp only
  omega
 refine ⟨?_, fun q hq => ?_, hin, ?_, ?_⟩
 ·intro h
  have := congrArg List.length h
  unfold rowPuts at this
  rw [qlz, List.length_range, List.length_nil] at this
  omega
 ·by_cases hh : ∀ q ∈ l, isLine q.2
  ·left
   refine ⟨(hin q hq).1, (hin q hq).2, ?_⟩
   unfold rowPuts at hq
   rw [qla] at hq
   obtain ⟨i, hi, rfl⟩ := hq
   rw [List.mem_range] at hi
   simp only
   rw [List.getD_eq_getElem?_getD, qkC hi]
   have hm := qkR hi
   generalize (rowsN l)[i] = x at *
   unfold rowsN rowsTo at hm
   rw [List.mem_append] at hm
   rcases hm with hm | hm
   ·rw [qla] at hm
    obtain ⟨j, _, rfl⟩ := hm
    exact qcN _ _ _
   ·rw [qla] at hm
    obtain ⟨q, hq, rfl⟩ := hm
    exact hh q (List.mem_of_mem_take hq)
  ·exact .inr hh
 ·exact qcU l
 ·unfold rowPuts
  rw [qlz, List.length_range]; omega
theorem qhY {E : List (Int × Int)} (h : HP pa pb pc pd s ws root mvb cb) (hup : s.M.down = false) (hcut : s.M.cut = 0) (hst : ¬ s.stuck) (hin : EdIn E ws.length) (h1 : 1 ≤ (eLines E).length) (h14 : (eLines E).length ≤ 14)
  (hok' : Ok (applyE ws E)) (hru' : root = 0 ∨ isUsed (applyE ws E) root = true) (hb : mvb + 2000 < 4611686018427387904) (hcb : cb + 100 < 4611686018427387904) :
  (commitH pa pb pc pd ws E s).2 = 2 ∧ (commitH pa pb pc pd ws E s).1.M.down = true ∧ HP pa pb pc pd (commitH pa pb pc pd ws E s).1 ws root (mvb + 40) (cb + 14) := by
 have hm := qO.1 h.may
 have hcm : commits s.M = 0 := by
  by_cases hc : commits s.M = 0
  ·exact hc
  ·exact absurd (.inr ⟨hup, hc⟩) hst
 obtain ⟨_, c2, _⟩ := qf0 h hup hst hin h1 h14 hok' hru' hb hcb
 obtain ⟨k, hlv⟩ := h.ps.lv
 have hhl : (homesC (applyE ws E) (eLines E)).length = (eLines E).length := by unfold homesC; rw [qlz]
 obtain ⟨r1, _, r3, _⟩ := qfT (l := homesC (applyE ws E) (eLines E)) (by omega) (by omega)
 have hT2 : (tputs (16 + pa.toNat) pb.toNat pc.toNat (rowPuts (homesC (applyE ws E) (eLines E))) s.M s.pt).2.2 = 2 :=
  qiA hlv (by omega) hup hcut r1 fun q hq => by have := r3 q hq; omega
 have hC : (comN (16 + pa.toNat) pb.toNat pc.toNat (homesC (applyE ws E) (eLines E)) s.M s.pt).2.2 = 1 ∨ comN (16 + pa.toNat) pb.toNat pc.toNat (homesC (applyE ws E) (eLines E)) s.M s.pt = tputs (16 + pa.toNat) pb.toNat pc.toNat (rowPuts (homesC (applyE ws E) (eLines E))) s.M s.pt := by
  unfold comN
  split
  ·exact .inl rfl
  ·rw [if_neg (by simp [hup]), if_neg (by simpa using hcm), if_pos (by omega)]
   exact .inr rfl
 have hCH : (commitH pa pb pc pd ws E s).2 = (comN (16 + pa.toNat) pb.toNat pc.toNat (homesC (applyE ws E) (eLines E)) s.M s.pt).2.2 ∧ (commitH pa pb pc pd ws E s).1.M = (comN (16 + pa.toNat) pb.toNat pc.toNat (homesC (applyE ws E) (eLines E)) s.M s.pt).1 := by
  unfold commitH
  simp only
  rw [if_pos]
  ·exact ⟨rfl, rfl⟩
  ·rcases hC with e | e
   ·omega
   ·rw [e]; omega
 rw [hCH.1] at c2 ⊢
 rcases hC with e | e
 ·rcases c2 with ⟨a, _⟩ | ⟨a, _⟩ | ⟨a, _⟩ <;> omega
 rw [e] at c2 hCH ⊢
 refine ⟨hT2, ?_⟩
 rcases c2 with ⟨a, _⟩ | ⟨a, _⟩ | ⟨_, hdn, _, hh⟩
 ·omega
 ·omega
 refine ⟨hdn, ?_⟩
 rcases hh with hh | hh
 ·exact hh
 refine ⟨h.may, hh.ps, ?_, h.ok, h.len, hh.rt, h.ru, hh.pg, hh.cp, hh.wl, hh.c0⟩
 -- the home lines are as they were
 have hok8 : ∀ q ∈ homesC (applyE ws E) (eLines E), isLine q.2 := by
  intro q hq
  unfold homesC at hq
  rw [qla] at hq
  obtain ⟨ln, hln, rfl⟩ := hq
  simp only
  have hEl := (qcj (l := E)).1 hln
  obtain ⟨e0, he0, he1, he2⟩ := hEl
  refine qcz hok'.len.2.2 ?_
  rw [qag]
  have hl := h.len
  have := hin.1 e0 he0
  omega
 obtain ⟨_, r2, r3, r4, r5⟩ := qfT (l := homesC (applyE ws E) (eLines E)) (by omega) (by omega)
 have hr : ∀ q ∈ rowPuts (homesC (applyE ws E) (eLines E)), 0 ≤ q.1 ∧ q.1 < ((16 + pa.toNat : Nat) : Int) ∧ isLine q.2 := fun q hq => by
  rcases r2 q hq with ⟨a, b, c⟩ | hn
  ·exact ⟨a, by omega, c⟩
  ·exact absurd hok8 hn
 obtain ⟨_, _, t3, t4⟩ := qcl (n := 16 + pa.toNat) (sp := pb.toNat) (per := pc.toNat) (by omega) h.ps hup (by omega) hr r4
 rw [hCH.2]
 rcases h.sd with ⟨_, hv⟩ | ⟨l, hp⟩
 ·exact .inl ⟨(t4 1 (.inl rfl)).trans hcm, fun s' a b => by rw [t3 s' b fun q hq hqe => by have := r3 q hq; omega]; exact hv s' a b⟩
 ·have := hp.cm; have := hp.may.2.1; omega
theorem qjK {off n : Int} {bs : List Int} (h : HP pa pb pc pd s ws root mvb cb) (hup : s.M.down = false) (hcut : s.M.cut = 0) (hst : ¬ s.stuck) (he : (imgFree ws off).2 = 0) (hr : root ≠ off) (hb : mvb + 2000 < 4611686018427387904) (hcb : cb + 100 < 4611686018427387904) :
  (doH pa pb pc pd s 2 off n bs).2 = (2, 0, []) ∧ (doH pa pb pc pd s 2 off n bs).1.M.down = true ∧ HP pa pb pc pd (doH pa pb pc pd s 2 off n bs).1 ws root (mvb + 40) (cb + 14) := by
 have eD : doH pa pb pc pd s 2 off n bs = ((freeH pa pb pc pd s off).1, (freeH pa pb pc pd s off).2, 0, []) := by unfold doH; rw [if_neg (by omega), if_pos rfl]
 have hF : freeH pa pb pc pd s off = commitH pa pb pc pd ws (imgFree ws off).1 s := by
  unfold freeH
  rw [if_neg (by simp [hup]), h.words hup, h.rootN.1, if_neg (by simpa using he), if_neg hr, if_neg hst]
 obtain ⟨k1, k2, k3, _⟩ := qe1 h.ok he
 have hml := (qec (ws := ws) (off := off)).most
 have := qcL 2 0 0
 obtain ⟨a, b, c⟩ := qhY (E := (imgFree ws off).1) h hup hcut hst qdx k3 (by omega) k1 (h.ru.imp id (fun hu => k2 root hu (fun e => hr e))) hb hcb
 rw [eD, hF]
 exact ⟨by simp only; rw [a], b, c⟩
end
section
variable {H : AH}
theorem qfV {s : HS} {a b : Int} (h : ¬ s.stuck) : ¬ ({ s with M := s.M.setCut a b } : HS).stuck := fun hh => h hh
theorem qci {k : Bool → AH → Prop} (hk : k true H) : qak H k := by
 refine gcB true (qak.link (_u := ()) ?_) hk
 unfold qak.b
 have hmay : mayP 4 1 2 2 = true := by decide
 have hff := qgy hmay
 show qbs (pl 4 1 2 2) _ _ _
 refine qbs.s (limits := []) qhp (fun h => by rw [hmay] at h; cases h) (fun _ h => by rw [hff] at h; exact absurd h (by decide)) ?_
 intro _ _ G H9 t p c L hk9 lo hT hW
 rw [show ((0 : Int) != 0) = false from rfl, qc, Option.isNone_some]
 unfold qak.j1
 rw [qc]
 obtain ⟨hP, hF⟩ := qiC hmay
 have hon : (twStart 4 1 2 2 []).on = true := rfl
 generalize twStart 4 1 2 2 [] = T0 at *
 obtain ⟨s0, on0⟩ := T0
 simp only at hon hP hF
 subst hon
 -- a block is taken
 obtain ⟨d1, d2, ws1, tk, d3, d4, d5⟩ := qgf (off := 0) (bs := []) (n := 9) hP hF (by omega) (by decide) (by omega) (by omega)
 have htk : tk = 3 := by rw [← d3]; decide
 subst htk
 have e1 : ∀ x y, twDoes 4 1 2 2 ⟨s0, true⟩ 1 0 9 0 [] = (⟨x, true⟩, y) ↔ doH 4 1 2 2 s0 1 0 9 [] = (x, y) := fun x y => by
  have : twDoes 4 1 2 2 ⟨s0, true⟩ 1 0 9 0 [] = (⟨(doH 4 1 2 2 s0 1 0 9 []).1, true⟩, (doH 4 1 2 2 s0 1 0 9 []).2) := rfl
  rw [this]
  constructor
  ·intro h; injection h with h1 h2; injection h1 with h1; exact Prod.ext h1 h2
  ·intro h; rw [h]
 have e1' := (e1 _ _).2 (Prod.ext rfl d1 : doH 4 1 2 2 s0 1 0 9 [] = ((doH 4 1 2 2 s0 1 0 9 []).1, 0, 8, []))
 show qY _ (opV 1 0 9 0 ⟨none, 0, 0⟩) _ _
 refine qdc.s (K := 1) (off := 0) (n := 9) (mask := 0) (x := ⟨none, 0, 0⟩) (bs := []) hT hW (by omega) (by omega) (by unfold isI; omega) (by unfold isI; omega) qcZ qce ?_
 have hW1 := hW.does (K := 1) (off := 0) (n := 9) (mask := 0) (bs := []) (by unfold isI; omega) (by unfold isI; omega) qce (by omega) (by omega)
 rw [e1'] at hW1 ⊢
 generalize (doH 4 1 2 2 s0 1 0 9 []).1 = s1 at *
 intro G1 H20 L1 x1 hu1 hT1 _ _
 refine qbW (n := 3) rfl rfl rfl ?_
 have hA3 : AnAt (H20.push ⟨anV 0 8 x1, .rw, 0⟩) H20.size 0 8 x1 := AnAt.new
 have hk3 : qa H20 (H20.push ⟨anV 0 8 x1, .rw, 0⟩) := (qa.refl H20).push _
 have hz3 : (H20.push ⟨anV 0 8 x1, .rw, 0⟩).size = H20.size + 1 := by simp [qf]
 generalize H20.push ⟨anV 0 8 x1, .rw, 0⟩ = H3 at *
 -- the power will go
 show qY _ (opV 7 0 0 0 ⟨none, 0, 0⟩) _ _
 have e2 : twDoes 4 1 2 2 ⟨s1, true⟩ 7 0 0 0 [] = (⟨{ s1 with M := s1.M.setCut 0 0 }, true⟩, 0, 0, []) := rfl
 refine qdc.s (K := 7) (off := 0) (n := 0) (mask := 0) (x := ⟨none, 0, 0⟩) (bs := []) (hT1.keeps hk3) hW1 (by omega) (by omega) (by unfold isI; omega) (by unfold isI; omega) qcZ qce ?_
 have hW2 := hW1.does (K := 7) (off := 0) (n := 0) (mask := 0) (bs := []) (by unfold isI; omega) (by unfold isI; omega) qce (by omega) (by omega)
 rw [e2] at hW2 ⊢
 have hP2 := d5.setCut (a := 0) (b := 0) (by omega)
 have hns2 : ¬ ({ s1 with M := s1.M.setCut 0 0 } : HS).stuck := qfV d2.ns
 have hup2 : ({ s1 with M := s1.M.setCut 0 0 } : HS).M.down = false := d2.up
 have hcut2 : ({ s1 with M := s1.M.setCut 0 0 } : HS).M.cut = 0 := rfl
 generalize ({ s1 with M := s1.M.setCut 0 0 } : HS) = s2 at *
 intro G2 H23 L2 x2 hu2 hT2 _ _
 -- a block is freed
 have hlen1 : (ws1.length : Int) = 32 := by have := d4.len; omega
 have d4' : MR ws1.length [((0 : Int), (3 : Int), List.replicate ((3 - 1) * 8) (0 : Int))] ws1 := MR.self d4 (by omega)
 have hif : (imgFree ws1 8).2 = 0 := by
  rw [MR.imgFree_at (e1 := []) (e2 := []) (off := 8) d4' (by decide)]
 obtain ⟨f1, f2, f3⟩ := qjK (off := 8) (n := 0) (bs := []) hP2 hup2 hcut2 hns2 hif (by omega) (by omega) (by omega)
 have e3 : twDoes 4 1 2 2 ⟨s2, true⟩ 2 8 0 0 [] = (⟨(doH 4 1 2 2 s2 2 8 0 []).1, true⟩, (doH 4 1 2 2 s2 2 8 0 []).2) := rfl
 show qY _ (opV 2 8 0 0 ⟨none, 0, 0⟩) _ _
 refine qdc.s (K := 2) (off := 8) (n := 0) (mask := 0) (x := ⟨none, 0, 0⟩) (bs := []) hT2 hW2 (by omega) (by omega) (by unfold isI; omega) (by unfold isI; omega) qcZ qce ?_
 have hW3 := hW2.does (K := 2) (off := 8) (n := 0) (mask := 0) (bs := []) (by unfold isI; omega) (by unfold isI; omega) qce (by omega) (by omega)
 rw [e3, f1] at hW3 ⊢
 generalize (doH 4 1 2 2 s2 2 8 0 []).1 = s3 at *
 intro G3 H26 L3 x3 hu3 hT3 _ _
 refine qbW (n := 3) rfl rfl rfl ?_
 have hA4 : AnAt (H26.push ⟨anV 2 0 x3, .rw, 0⟩) H26.size 2 0 x3 := AnAt.new
 have hk4 : qa H26 (H26.push ⟨anV 2 0 x3, .rw, 0⟩) := (qa.refl H26).push _
 have hz4 : (H26.push ⟨anV 2 0 x3, .rw, 0⟩).size = H26.size + 1 := by simp [qf]
 generalize H26.push ⟨anV 2 0 x3, .rw, 0⟩ = H4 at *
 -- the power comes
 have e4 : twDoes 4 1 2 2 ⟨s3, true⟩ 8 0 0 0 [] = ((twOpen 4 1 2 2 s3.M.power s3).1, (twOpen 4 1 2 2 s3.M.power s3).2, 0, []) := rfl
 have hMP := f3.mp.power
 obtain ⟨o1, _, o2⟩ := hMP.opened rfl (by omega)
 have o3 : (recN (16 + (4 : Int).toNat) (1 : Int).toNat (2 : Int).toNat s3.M.power 0).2.2 = 0 ∧ (openS 4 1 2 2 s3.M.power).M.down = false ∧ HP 4 1 2 2 (openS 4 1 2 2 s3.M.power) ws1 0 (15 + 40 + 40 + 14) (0 + 14 + 14) := by
  rcases o2 with o2 | ⟨_, _, hc, _⟩
  ·exact o2
  ·exact absurd rfl hc
 have e5 : twOpen 4 1 2 2 s3.M.power s3 = (⟨openS 4 1 2 2 s3.M.power, true⟩, 0) := by unfold twOpen; rw [if_pos o3.1]
 rw [e5] at e4
 show qY _ (opV 8 0 0 0 ⟨none, 0, 0⟩) _ _
 refine qdc.s (K := 8) (off := 0) (n := 0) (mask := 0) (x := ⟨none, 0, 0⟩) (bs := []) (hT3.keeps hk4) hW3 (by omega) (by omega) (by unfold isI; omega) (by unfold isI; omega) qcZ qce ?_
 have hW4 := hW3.does (K := 8) (off := 0) (n := 0) (mask := 0) (bs := []) (by unfold isI; omega) (by unfold isI; omega) qce (by omega) (by omega)
 rw [e4] at hW4 ⊢
 obtain ⟨_, o4, o5⟩ := o3
 generalize openS 4 1 2 2 s3.M.power = s4 at *
 intro G4 H29 L4 x4 hu4 hT4 _ _
 refine qbW (n := 3) rfl rfl rfl ?_
 have hA5 : AnAt (H29.push ⟨anV 0 0 x4, .rw, 0⟩) H29.size 0 0 x4 := AnAt.new
 have hk5 : qa H29 (H29.push ⟨anV 0 0 x4, .rw, 0⟩) := (qa.refl H29).push _
 have hz5 : (H29.push ⟨anV 0 0 x4, .rw, 0⟩).size = H29.size + 1 := by simp [qf]
 generalize H29.push ⟨anV 0 0 x4, .rw, 0⟩ = H5 at *
 -- it is read
 have hrd : aRead ws1 8 9 = (bytesOf ws1 8 9, 0) := d4'.rd ⟨by decide, by decide, _, List.mem_cons_self .., by decide, by decide⟩
 have e6 : twDoes 4 1 2 2 ⟨s4, true⟩ 3 8 9 0 [] = (⟨s4, true⟩, 0, 0, bytesOf ws1 8 9) := by
  have : twDoes 4 1 2 2 ⟨s4, true⟩ 3 8 9 0 [] = (⟨(doH 4 1 2 2 s4 3 8 9 []).1, true⟩, (doH 4 1 2 2 s4 3 8 9 []).2) := rfl
  rw [this, do_read o5 o4, hrd]
  rfl
 show qY _ (opV 3 8 9 0 ⟨none, 0, 0⟩) _ _
 refine qdc.s (K := 3) (off := 8) (n := 9) (mask := 0) (x := ⟨none, 0, 0⟩) (bs := []) (hT4.keeps hk5) hW4 (by omega) (by omega) (by unfold isI; omega) (by unfold isI; omega) qcZ qce ?_
 rw [e6]
 intro G5 H32 L5 x5 hu5 hT5 hO5 _
 refine qbW (n := 3) rfl rfl rfl ?_
 have hA6 : AnAt (H32.push ⟨anV 0 0 x5, .rw, 0⟩) H32.size 0 0 x5 := AnAt.new
 have hk6 : qa H32 (H32.push ⟨anV 0 0 x5, .rw, 0⟩) := (qa.refl H32).push _
 have hz6 : (H32.push ⟨anV 0 0 x5, .rw, 0⟩).size = H32.size + 1 := by simp [qf]
 generalize H32.push ⟨anV 0 0 x5, .rw, 0⟩ = H6 at *
 have z1 := hu1.1.1; have z2 := hu2.1.1; have z3 := hu3.1.1; have z4 := hu4.1.1; have z5 := hu5.1.1
 have g1 : ∀ b, G1 b → b < H20.size := hT1.gl
 have n2 : ∀ b, G2 b → b ≠ H20.size := fun b hb e => by
  rcases hu2.2 b hb with hb | hb
  ·have := g1 b hb; omega
  ·omega
 have n3 : ∀ b, G3 b → b ≠ H20.size := fun b hb e => by
  rcases hu3.2 b hb with hb | hb
  ·exact n2 b hb e
  ·omega
 have g3 : ∀ b, G3 b → b < H26.size := hT3.gl
 have n4 : ∀ b, G4 b → b ≠ H20.size ∧ b ≠ H26.size := fun b hb => by
  rcases hu4.2 b hb with hb | hb
  ·exact ⟨n3 b hb, by have := g3 b hb; omega⟩
  ·exact ⟨by omega, by omega⟩
 have hA3' : AnAt H6 H20.size 0 8 x1 := by
  have a1 := hA3.keep (hu2.1.2 _ (by omega) fun hb => by have := g1 _ hb; omega)
  have a2 := a1.keep (hu3.1.2 _ (by omega) fun hb => n2 _ hb rfl)
  have a3 := a2.keep (hk4.2 _ (by omega))
  have a4 := a3.keep (hu4.1.2 _ (by omega) fun hb => n3 _ hb rfl)
  have a5 := a4.keep (hk5.2 _ (by omega))
  have a6 := a5.keep (hu5.1.2 _ (by omega) fun hb => (n4 _ hb).1 rfl)
  exact a6.keep (hk6.2 _ (by omega))
 have hA4' : AnAt H6 H26.size 2 0 x3 := by
  have a4 := hA4.keep (hu4.1.2 _ (by omega) fun hb => by have := g3 _ hb; omega)
  have a5 := a4.keep (hk5.2 _ (by omega))
  have a6 := a5.keep (hu5.1.2 _ (by omega) fun hb => (n4 _ hb).2 rfl)
  exact a6.keep (hk6.2 _ (by omega))
 have hA5' : AnAt H6 H29.size 0 0 x4 := by
  have a6 := hA5.keep (hu5.1.2 _ (by omega) fun hb => by have := hT4.gl _ hb; omega)
  exact a6.keep (hk6.2 _ (by omega))
 rw [hA3'.c1, qg, show ((8 : Int) == 8) = true from rfl, qe, hA4'.c0, qg, show ((2 : Int) == 2) = true from rfl, qe, hA5'.c0, qg, show ((0 : Int) == 0) = true from rfl, qe, hA6.c2, qa9, own_len hO5, qd2]
 refine ⟨?_, rfl⟩
 have k1 : qa H H20 := hu1.1.base hk9 lo
 have lo1 : ∀ b, G1 b → H.size ≤ b := fun b hb => (hu1.2 b hb).elim (lo b) fun h => by have := hk9.1; omega
 have k2 : qa H H23 := hu2.1.base (k1.trans hk3) lo1
 have lo2 : ∀ b, G2 b → H.size ≤ b := fun b hb => (hu2.2 b hb).elim (lo1 b) fun h => by have := k1.1; omega
 have k3 : qa H H26 := hu3.1.base k2 lo2
 have lo3 : ∀ b, G3 b → H.size ≤ b := fun b hb => (hu3.2 b hb).elim (lo2 b) fun h => by have := k2.1; omega
 have k4 : qa H H29 := hu4.1.base (k3.trans hk4) lo3
 have lo4 : ∀ b, G4 b → H.size ≤ b := fun b hb => (hu4.2 b hb).elim (lo3 b) fun h => by have := k3.1; omega
 have k5 : qa H H32 := hu5.1.base (k4.trans hk5) lo4
 exact k5.trans hk6
end
section
variable {H : AH} {pa pb pc pd : Int}
theorem app_op {H0 Hj : AH} {t2 : Sl} {l : List OpR} {d : OpR} {k : Sl → AH → Prop} (hl : Own H0.size Hj t2 5 opRV l) (hk : qa H0 Hj) (hn : l.length ≤ 100000)
  (h : ∀ s' H', qa H0 H' → Own H0.size H' s' 5 opRV (l ++ [d]) → k s' H') : newC Hj ⟨opRV d, .rw, 5⟩ fun o H => appendC 5 H t2 ⟨some ⟨o, 0, none⟩, 1, 1⟩ k := by
 rw [qu]
 refine qeb (f := opRV) (x := d) (H0 := H0) qfo (opRV_ok d) hl (qkK _) hk.1 hk (Nat.le_trans (show l.length + 1 ≤ 100001 by omega) (by decide)) ?_
 intro s' H' hO' hk' _ _ _
 exact h s' H' hk' hO'
theorem qq.s {x0 : Sl} {b : List Int} {k : Sl → AH → Prop} (hr : qk3 H x0 1 bU b) (h8 : qa5 b) (hbl : b.length ≤ 100000)
  (hk : ∀ s H' l, qa H H' → Own H.size H' s 5 opRV l → l.length = (decL b).length → k s H') : qq x0 H k := by
 refine qq.link ?_
 unfold qq.b
 refine qJ (t := ((x0, ⟨none, 0, 0⟩) : Sl × Sl)) (I := fun (t : Sl × Sl) H' => ∃ (f : Nat) (r : List Int) (l : List OpR), qa H H' ∧ qk3 H t.1 1 bU r ∧ qa5 r ∧ r.length ≤ f ∧ Own H.size H' t.2 5 opRV l ∧ l.length + (decF f r).length = (decL b).length ∧ l.length + r.length ≤ b.length) (m := fun (t : Sl × Sl) _ => t.1.n) ?_
  ⟨b.length, b, [], qa.refl H, hr, h8, qkK _, .inl ⟨rfl, rfl⟩, by simp [decL], by simp⟩
 rintro ⟨t1, t2⟩ H7 ⟨f, r, l, hk7, hr1, h81, hf, hO, he, hlen⟩ it hit
 unfold qq.l4 qq.j3 qq.j2 qq.j1
 have hn1 : t1.n = r.length := hr1.1
 simp only at hr1 hO ⊢
 by_cases hge : ((t1.n : Nat) : Int) ≥ 4
 rotate_left 1
 ·rw [decide_eq_false hge, qc]
  rw [qfK (by omega), List.length_nil] at he
  exact hk t2 H7 l hk7 hO (by omega)
 rw [decide_eq_true hge, qe]
 match r, h81, hr1, hn1, hf, he, hlen with
 | [], _, _, hn1, _, _, _ => simp at hn1; omega
 | [_], _, _, hn1, _, _, _ => simp at hn1; omega
 | [_, _], _, _, hn1, _, _, _ => simp at hn1; omega
 | [_, _, _], _, _, hn1, _, _, _ => simp at hn1; omega
 | b0 :: b1 :: b2 :: b3 :: r, h81, hr1, hn1, hf, he, hlen =>
 simp only [qkP] at hn1 hf hlen
 obtain ⟨f, rfl⟩ : ∃ g, f = g + 1 := ⟨f - 1, by omega⟩
 have q0 := h81 b0 (by simp); have q1 := h81 b1 (by simp); have q2 := h81 b2 (by simp); have q3 := h81 b3 (by simp)
 unfold isB at q0 q1 q2 q3
 have h8r : qa5 r := fun v hv => h81 v (by simp [hv])
 have w : ∀ z : Int, 0 ≤ z → z ≤ 1000000 → IntKind.wrap .i64 z = z := fun z h0 h1 => qh (by omega) (by omega)
 have w0 := w b0 (by omega) (by omega)
 have w1 := w b1 (by omega) (by omega)
 have w2 := w b2 (by omega) (by omega)
 have w3 := w b3 (by omega) (by omega)
 have w4 := w (256 * b2) (by omega) (by omega)
 have w5 := w (b1 + 256 * b2) (by omega) (by omega)
 have e4 : t1.n - qkF (4 : Int) = r.length := by show t1.n - 4 = r.length; omega
 have hrr : qk3 H ⟨(qlQ (fun x => qkB x (qkF (4 : Int) * 1)) t1.a), (t1.n - qkF (4 : Int)), 0⟩ 1 bU r := qcO (z := 1) (k := 4) hr1 (by simp)
 have hmin : (if (((t1.n - qkF (4 : Int)) : Nat) : Int) < b3 then (((t1.n - qkF (4 : Int)) : Nat) : Int) else b3) = ((min r.length b3.toNat : Nat) : Int) := by
  rw [e4]
  split <;> omega
 have hR := hr1.keep hk7
 obtain ⟨e1, o1, a1, _, c1⟩ := qax (g := fun v => qkz .u8 v) hR (i := 1) (by simp)
 obtain ⟨e2, o2, a2, _, c2⟩ := qax (g := fun v => qkz .u8 v) hR (i := 2) (by simp)
 obtain ⟨e3, o3, a3, _, c3⟩ := qax (g := fun v => qkz .u8 v) hR (i := 3) (by simp)
 obtain ⟨e0, o0, a0, _, c0⟩ := qax (g := fun v => qkz .u8 v) hR (i := 0) (by simp)
 rw [a1] at a2 a3 a0
 cases a2; cases a3; cases a0
 have hlt : ∀ i : Int, 0 ≤ i → i < 4 → (0 ≤ i ∧ i < ((t1.n : Nat) : Int)) := fun i h0 h4 => ⟨h0, by omega⟩
 have itn : ∀ s' H' l', qa H H' → Own H.size H' s' 5 opRV l' → l'.length + (decF f r).length = (decL b).length → l'.length ≤ l.length + 1 → it (⟨(qlQ (fun x => qkB x (qkF (4 : Int) * 1)) t1.a), (t1.n - qkF (4 : Int)), 0⟩, s') H' := by
  intro s' H' l' hk' hO' he' hl'
  refine hit _ _ ⟨f, r, l', hk', hrr, h8r, by omega, hO', he', by omega⟩ ?_
  show t1.n - qkF (4 : Int) < t1.n
  have : qkF (4 : Int) = 4 := rfl
  omega
 have itd : ∀ s' H' l', qa H H' → Own H.size H' s' 5 opRV l' → l'.length + (decF f (r.drop b3.toNat)).length = (decL b).length → l'.length ≤ l.length + 1 → it (⟨(qlQ (fun x => qkB x (min r.length b3.toNat * 1)) (qlQ (fun x => qkB x (qkF (4 : Int) * 1)) t1.a)), ((t1.n - qkF (4 : Int)) - min r.length b3.toNat), 0⟩, s') H' := by
  intro s' H' l' hk' hO' he' hl'
  have hdr := qcO (z := 1) (k := min r.length b3.toNat) hrr (by omega)
  have ed : r.drop (min r.length b3.toNat) = r.drop b3.toNat := by
   by_cases h : r.length ≤ b3.toNat
   ·rw [Nat.min_eq_left h, List.drop_length, List.drop_eq_nil_of_le h]
   ·rw [Nat.min_eq_right (by omega)]
  rw [ed] at hdr
  refine hit _ _ ⟨f, r.drop b3.toNat, l', hk', hdr, fun v hv => h8r v (List.mem_of_mem_drop hv), by rw [List.length_drop]; omega, hO', he', by rw [List.length_drop]; omega⟩ ?_
  show (t1.n - qkF (4 : Int)) - _ < t1.n
  have : qkF (4 : Int) = 4 := rfl
  omega
 rw [a1] at hrr itn itd ⊢
 refine ⟨hlt 0 (by omega) (by omega), ?_⟩
 rw [qd, show qkF (0 : Int) = 0 from rfl, c0]
 show elI .u8 (some (.int .u8 b0)) _
 rw [qg]
 refine ⟨hlt 1 (by omega) (by omega), ?_⟩
 rw [qd, show qkF (1 : Int) = 1 from rfl, c1]
 show elI .u8 (some (.int .u8 b1)) _
 rw [qg]
 refine ⟨hlt 2 (by omega) (by omega), ?_⟩
 rw [qd, show qkF (2 : Int) = 2 from rfl, c2]
 show elI .u8 (some (.int .u8 b2)) _
 rw [qg]
 refine ⟨hlt 3 (by omega) (by omega), ?_⟩
 rw [qd, show qkF (3 : Int) = 3 from rfl, c3]
 show elI .u8 (some (.int .u8 b3)) _
 rw [qg]
 refine ⟨⟨by omega, by omega⟩, ?_⟩
 unfold decF at he
 rw [w0, w1, w2, w3, w4, w5, hmin, qkH]
 have one : ∀ {s' : Sl} {H' : AH} {d : OpR}, qa H H' → Own H.size H' s' 5 opRV (l ++ [d]) → (∃ K off n m, qbr b0 b1 b2 b3 = some (K, off, n, m) ∧ K ≠ 4) → it (⟨(qlQ (fun x => qkB x (qkF (4 : Int) * 1)) (some ⟨e1, o1, none⟩)), (t1.n - qkF (4 : Int)), 0⟩, s') H' := by
  rintro s' H' d hk' hO' ⟨K, off, n, m, hd, h4⟩
  rw [hd] at he
  simp only [if_neg h4, qkP] at he
  exact itn s' H' _ hk' hO' (by rw [qk5, List.length_singleton]; omega) (by rw [qk5, List.length_singleton]; omega)
 by_cases k1 : b0 = 1
 ·rw [show (b0 == 1) = true by simpa using k1, qe]
  refine ⟨rfl, app_op (d := ⟨b0, 0, b1 + 256 * b2, 0, ⟨none, 0, 0⟩, []⟩) hO hk7 (by omega) ?_⟩
  intro s' H' hk' hO'
  exact one hk' hO' ⟨1, 0, b1 + 256 * b2, 0, by unfold qbr; rw [if_pos k1], by omega⟩
 rw [show (b0 == 1) = false by simpa using k1, qc]
 have j25 : ∀ x, x = decide (b0 = 2 ∨ b0 = 5) → True := fun _ _ => trivial
 by_cases k2 : b0 = 2
 ·rw [show (b0 == 2) = true by simpa using k2, qe, qe]
  refine ⟨rfl, app_op (d := ⟨b0, b1 + 256 * b2, 0, 0, ⟨none, 0, 0⟩, []⟩) hO hk7 (by omega) ?_⟩
  intro s' H' hk' hO'
  exact one hk' hO' ⟨b0, b1 + 256 * b2, 0, 0, by unfold qbr; rw [if_neg k1, if_pos (.inl k2)], by omega⟩
 rw [show (b0 == 2) = false by simpa using k2, qc]
 by_cases k5 : b0 = 5
 ·rw [show (b0 == 5) = true by simpa using k5, qe]
  refine ⟨rfl, app_op (d := ⟨b0, b1 + 256 * b2, 0, 0, ⟨none, 0, 0⟩, []⟩) hO hk7 (by omega) ?_⟩
  intro s' H' hk' hO'
  exact one hk' hO' ⟨b0, b1 + 256 * b2, 0, 0, by unfold qbr; rw [if_neg k1, if_pos (.inr (.inr k5))], by omega⟩
 rw [show (b0 == 5) = false by simpa using k5, qc]
 by_cases k3 : b0 = 3
 ·rw [show (b0 == 3) = true by simpa using k3, qe]
  refine ⟨rfl, app_op (d := ⟨b0, b1 + 256 * b2, b3, 0, ⟨none, 0, 0⟩, []⟩) hO hk7 (by omega) ?_⟩
  intro s' H' hk' hO'
  exact one hk' hO' ⟨3, b1 + 256 * b2, b3, 0, by unfold qbr; rw [if_neg k1, if_neg (by omega), if_pos k3], by omega⟩
 rw [show (b0 == 3) = false by simpa using k3, qc]
 by_cases k4 : b0 = 4
 ·rw [show (b0 == 4) = true by simpa using k4, qe]
  have hd : qbr b0 b1 b2 b3 = some (b0, b1 + 256 * b2, 0, 0) := by unfold qbr; rw [if_neg k1, if_pos (.inr (.inl k4))]
  rw [hd] at he
  simp only [if_pos k4, qkP] at he
  refine ⟨⟨by omega, by rw [e4]; omega⟩, ?_⟩
  refine qdm (H0 := H) (B := H.size) (f := bU) (l := []) (r := r.take (min r.length b3.toNat)) (fun _ => rfl) (fun _ => rfl) (.inl ⟨rfl, rfl⟩) (qdz (hrr.keep hk7) (by omega)) (qkK _) hk7.1 hk7 (Nat.le_trans (show _ ≤ 255 by simp; omega) (by decide)) ?_
  intro s70 H70 hO70 hk70 hz70 hg70
  have hk70' : qa H7 H70 := ⟨hz70, fun i hi => hg70 i hi (fun a ha => by cases ha)⟩
  refine ⟨rfl, app_op (d := ⟨b0, b1 + 256 * b2, 0, 0, s70, []⟩) (hO.keep hk70'.1 fun b _ hb => hk70'.2 b hb) (hk7.trans hk70') (by omega) ?_⟩
  intro s' H' hk' hO'
  refine ⟨⟨by omega, by rw [e4]; omega⟩, ?_⟩
  exact itd s' H' _ hk' hO' (by rw [qk5, List.length_singleton]; omega) (by rw [qk5, List.length_singleton]; omega)
 rw [show (b0 == 4) = false by simpa using k4, qc]
 by_cases k6 : b0 = 6
 ·rw [show (b0 == 6) = true by simpa using k6, qe, qe]
  refine ⟨rfl, app_op (d := ⟨b0, 0, 0, 0, ⟨none, 0, 0⟩, []⟩) hO hk7 (by omega) ?_⟩
  intro s' H' hk' hO'
  exact one hk' hO' ⟨b0, 0, 0, 0, by unfold qbr; rw [if_neg k1, if_neg (by omega), if_neg k3, if_neg (by omega), if_pos (.inl k6)], by omega⟩
 rw [show (b0 == 6) = false by simpa using k6, qc]
 by_cases k8 : b0 = 8
 ·rw [show (b0 == 8) = true by simpa using k8, qe]
  refine ⟨rfl, app_op (d := ⟨b0, 0, 0, 0, ⟨none, 0, 0⟩, []⟩) hO hk7 (by omega) ?_⟩
  intro s' H' hk' hO'
  exact one hk' hO' ⟨b0, 0, 0, 0, by unfold qbr; rw [if_neg k1, if_neg (by omega), if_neg k3, if_neg (by omega), if_pos (.inr k8)], by omega⟩
 rw [show (b0 == 8) = false by simpa using k8, qc]
 by_cases k7 : b0 = 7
 ·rw [show (b0 == 7) = true by simpa using k7, qe]
  refine ⟨rfl, app_op (d := ⟨b0, 0, b1 + 256 * b2, b3, ⟨none, 0, 0⟩, []⟩) hO hk7 (by omega) ?_⟩
  intro s' H' hk' hO'
  exact one hk' hO' ⟨7, 0, b1 + 256 * b2, b3, by unfold qbr; rw [if_neg k1, if_neg (by omega), if_neg k3, if_pos k7], by omega⟩
 rw [show (b0 == 7) = false by simpa using k7, qc]
 have hd : qbr b0 b1 b2 b3 = none := by unfold qbr; rw [if_neg k1, if_neg (by omega), if_neg k3, if_neg k7, if_neg (by omega)]
 rw [hd] at he
 exact itn t2 H7 l hk7 hO he (by omega)
theorem do_only {s : HS} {K off n : Int} {bs : List Int} (ho : (doH pa pb pc pd s K off n bs).2.1 ≠ 0 ∨ K = 2 ∨ K = 4 ∨ K = 5) : (doH pa pb pc pd s K off n bs).2.2 = (0, []) := by
 revert ho
 unfold doH
 intro ho
 by_cases k1 : K = 1
 ·rw [if_pos k1] at ho ⊢
  simp only at ho ⊢
  rw [if_neg (by omega)]
 rw [if_neg k1] at ho ⊢
 by_cases k2 : K = 2
 ·rw [if_pos k2]
 rw [if_neg k2] at ho ⊢
 by_cases k3 : K = 3
 ·rw [if_pos k3] at ho ⊢
  simp only at ho ⊢
  rw [if_neg (by omega)]
 rw [if_neg k3] at ho ⊢
 by_cases k4 : K = 4
 ·rw [if_pos k4]
 rw [if_neg k4] at ho ⊢
 by_cases k5 : K = 5
 ·rw [if_pos k5]
 rw [if_neg k5] at ho ⊢
 by_cases k6 : K = 6
 ·rw [if_pos k6] at ho ⊢
  split
  ·rfl
  ·rename_i hd'
   rw [if_neg hd'] at ho
   simp only at ho
   omega
 ·rw [if_neg k6]
theorem tw_only {T : TS} {K off n mask : Int} {bs : List Int} (h : (twDoes pa pb pc pd T K off n mask bs).2.1 ≠ 0) : (twDoes pa pb pc pd T K off n mask bs).2.2 = (0, []) := by
 revert h
 unfold twDoes
 split
 ·intro _; rfl
 split
 ·intro _; rfl
 split
 ·intro _; rfl
 ·intro h; exact do_only (.inl h)
theorem qkn : ∀ {l : List OpP} {T : TS}, ∀ e ∈ runT pa pb pc pd T l, e.1 ≠ 0 → e.2 = (0, []) := by
 intro l
 induction l with
 | nil => intro T e he; cases he
 | cons d r ih =>
  intro T e he
  unfold runT at he
  rcases List.mem_cons.1 he with he | he
  ·subst he; exact tw_only
  ·exact ih e he
theorem qr.t {x0 x1 x2 x3 : Int} {x4 x5 : Sl} {limits b : List Int} (_ : (Lit.int .i64 x0).wf = true) (_ : (Lit.int .i64 x1).wf = true) (_ : (Lit.int .i64 x2).wf = true) (_ : (Lit.int .i64 x3).wf = true)
  (hr1 : qk3 H x4 1 iV limits) (_ : ∀ v ∈ limits, isI v) (_ : limits.length ≤ maxLen) (hr2 : qk3 H x5 1 bU b) (h8 : ∀ v ∈ b, isB v) (_ : b.length ≤ maxLen) : qr (pl x0 x1 x2 x3) x4 x5 H (fun r _ => r = true) := by
 refine qr.link ?_
 unfold qr.b
 rw [qu]
 have hk1 : qa H (H.push ⟨pl x0 x1 x2 x3, .rw, 0⟩) := (qa.refl H).push _
 have g1 : (H.push ⟨pl x0 x1 x2 x3, .rw, 0⟩).get H.size = ⟨pl x0 x1 x2 x3, .rw, 0⟩ := by rw [qo, if_pos rfl]
 generalize H.push ⟨pl x0 x1 x2 x3, .rw, 0⟩ = H1 at *
 have aw : ∀ x, x = true → qr.j4 x4 x5 (fun r _ => r = true) H.size H1 x := fun x hx => by
  unfold qr.j4
  rw [hx, qe]
  exact qci rfl
 by_cases hb6 : ((x5.n : Nat) : Int) > 600
 ·rw [decide_eq_true hb6, qe]; exact aw _ rfl
 rw [decide_eq_false hb6, qc]
 have hbl : b.length ≤ 600 := by have := hr2.1; omega
 by_cases hl2 : ((x4.n : Nat) : Int) > 200
 ·rw [decide_eq_true hl2]; exact aw _ rfl
 rw [decide_eq_false hl2]
 unfold qr.j4
 rw [qc, qs (plg_row g1)]
 refine qbt.s (hr1.keep hk1) (hr2.keep hk1) h8 (by omega) ?_ ?_ ?_
 ·intro _ H24 _
  rw [show ((1 : Int) != 0) = true from rfl, qe, show ((((0 : Nat) : Int) : Int) == 0) = true from rfl, qe]
  exact qci rfl
 ·intro _ _ H24 _
  rw [show ((3 : Int) != 0) = true from rfl, qe, show ((((0 : Nat) : Int) : Int) == 0) = true from rfl, qe]
  exact qci rfl
 intro _ _ s24 H24 A hk24 hA hAA hrun _
 rw [show ((0 : Int) != 0) = false from rfl, qc]
 have hn24 := own_len hA
 have hAl : A.length = (decL b).length := by have := congrArg List.length hrun; rw [qlz, qkk] at this; exact this
 have hol : 4 * (decL b).length ≤ b.length := qgS b.length b
 have hon : ∀ e ∈ A, e.cd ≠ 0 → e.m = 0 ∧ e.bs = [] := fun e he hne => by
  have := qkn e.p (by rw [← hrun]; exact List.mem_map_of_mem he) hne
  exact ⟨congrArg (fun z => z.1) this, congrArg (fun z => z.2) this⟩
 refine qJ (t := ((false, (0 : Int)) : Bool × Int)) (I := fun (t' : Bool × Int) H' => ∃ (i : Nat), t' = (false, (i : Int)) ∧ i ≤ A.length ∧ qa H24 H') (m := fun (t' : Bool × Int) _ => qkF ((A.length : Int) - t'.2)) ?_ ⟨0, rfl, by omega, qa.refl _⟩
 rintro ⟨q1, q2⟩ H7 ⟨i, e1, hi, hk7⟩ it hit
 injection e1 with e1 e2
 subst e1 e2
 unfold qr.l3
 rw [hn24]
 by_cases hlt : (i : Int) < (A.length : Int)
 rotate_left 1
 ·rw [decide_eq_false hlt, qc]
  unfold qr.j1
  refine qq.s (hr2.keep ((hk1.trans hk24).trans hk7)) h8 (by omega) ?_
  intro s59 H59 l59 hk59 hO59 hl59
  rw [hn24, own_len hO59, hl59, hAl, show (((((decL b).length : Nat) : Int) : Int) == (((decL b).length : Nat) : Int)) = true by simp, qe]
  exact qci rfl
 rw [decide_eq_true hlt, qe]
 have hi' : i < A.length := by omega
 have hA7 : Own H1.size H7 s24 3 anRV A := hA.keep hk7.1 fun x _ h2 => hk7.2 x h2
 obtain ⟨bb, o, ha, hb, hcells⟩ := qbo (hA7.rows qhe anRV_ok) (by omega)
 refine ⟨by omega, ?_⟩
 rw [ha, qd, qkH, qs (hcells i _ (qkC hi')).1]
 have hei := hon _ (qkR hi')
 have hsl := own_len (hAA _ (qkR hi'))
 generalize A[i] = e at *
 refine qbW (n := 3) rfl rfl rfl ?_
 have hAn : AnAt (H7.push ⟨anRV e, .rw, 0⟩) H7.size e.cd e.m e.sl := AnAt.new (cd := e.cd) (m := e.m) (sl := e.sl)
 have hk8 := hk7.push ⟨anRV e, .rw, 0⟩
 generalize H7.push ⟨anRV e, .rw, 0⟩ = H8 at *
 have go : qr.j2 (fun r _ => r = true) (false, (i : Int)) it H8 false := by
  unfold qr.j2
  rw [qc, qh (n := (i : Int) + 1) (by omega) (by omega)]
  exact hit _ _ ⟨i + 1, by simp, by omega, hk8⟩ (by simp only; omega)
 rw [hAn.c0, qg]
 by_cases hc : e.cd = 0
 ·rw [show (e.cd != 0) = false by simpa using hc, qc]; exact go
 ·obtain ⟨h1, h2⟩ := hei hc
  rw [show (e.cd != 0) = true by simpa using hc, qe, hAn.c1, qg, show (e.m != 0) = false by simpa using h1, qc, hAn.c2, qa9, hsl, h2, show ((((([] : List Int).length : Nat) : Int) : Int) != 0) = false from rfl]
  exact go
end
end Go.Proofs.YtdcbkjgoaknmkaaGreat
