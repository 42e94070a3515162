/- Lemmas for the law: an abstract machine, and what the functions do on it. No condition. -/
import Derived.Test.YtdcbkjgoaknmkaaGreatIT13
set_option linter.all false
open Go.IntKind renaming wrap → qkU
open Nat renaming le_refl → qk2
set_option linter.all false
namespace Go.Proofs.YtdcbkjgoaknmkaaGreat
open Go Go.Abs
section
variable {pa pb pc pd : Int} {s : HS} {ws : List Int} {root : Int} {mvb : Nat} {cb : Int}
theorem qfz {b : Int} {n : Nat} : linesP 2 b n = 1 := by unfold linesP; rw [if_neg (by omega), if_neg (by omega), if_pos rfl]
theorem qj7 {b : Int} {n n' : Nat} : linesP 1 b n = linesP 1 b n' := by unfold linesP; rw [if_pos rfl, if_pos rfl]
theorem qju {b b' : Int} {n : Nat} : linesP 4 b n = linesP 4 b' n := rfl
theorem qjI {pd : Int} : ∀ {ls : List Int} {M : Mem} {now kept : List Int}, (notesN pd ls M now kept).2.2.2 ≠ 3 := by
 intro ls
 induction ls with
 | nil => intro M now kept; simp [notesN]
 | cons a r ih =>
  intro M now kept
  unfold notesN
  split
  ·split
   ·exact ih
   ·simp only
    unfold Mem.set
    split
    ·split
     ·simp
     ·exact qhz _
    ·simp
  ·exact ih
theorem qen {E : List (Int × Int)} (h : NL s.M) : (commitH pa pb pc pd ws E s).2 ≠ 3 := by
 have := (h.com (n := 16 + pa.toNat) (sp := pb.toNat) (per := pc.toNat) (pt := s.pt) (l := homesC (applyE ws E) (eLines E))).1
 unfold commitH
 simp only
 split
 ·exact this
 ·exact qjI
def DoC (K n : Int) (bl : Nat) (sp : Nat) (N : Nat) (M M' : Mem) (e : Int) : Prop :=
 M' = M ∨ (e ≠ 1 ∧ (NL M → e = 0 ∨ e = 2) ∧ (((K = 1 ∨ K = 2 ∨ K = 4) ∧ linesP K n bl ≠ 0 ∧ ∃ c : Nat, WC N sp c M M' ∧ (c : Int) ≤ 10 * linesP K n bl + 5) ∨ (K = 5 ∧ ∃ v, M' = (M.set 2 v).1)))
theorem DoC.same {K n : Int} {bl sp N : Nat} {M : Mem} {e : Int} : DoC K n bl sp N M M e := .inl rfl
theorem do_wc {K off n : Int} {bs : List Int} (hio : isI off) (h8 : qca bs) (hp : HP pa pb pc pd s ws root mvb cb) (hb : mvb + 2000 < 4611686018427387904) (hcb : cb + 100 < 4611686018427387904) :
  DoC K n bs.length pb.toNat (16 + pa.toNat + 1) s.M (doH pa pb pc pd s K off n bs).1.M (doH pa pb pc pd s K off n bs).2.1 := by
 cases hup : s.M.down with
 | true => rw [do_down hup]; exact DoC.same
 | false =>
 unfold doH
 by_cases k1 : K = 1
 ·rw [if_pos k1]
  simp only
  obtain ⟨c1, c2, c3, c4, c5⟩ := qfd (n := n) hp hup hb hcb
  -- it is the state as it was, or a commit
  have hA : (allocH pa pb pc pd s n).1 = s ∨ (needN n ≠ 0 ∧ (imgAlloc ws n s.now).2.2 = 0 ∧ (allocH pa pb pc pd s n).1 = (commitH pa pb pc pd ws (imgAlloc ws n s.now).1 s).1 ∧ (allocH pa pb pc pd s n).2.1 = (commitH pa pb pc pd ws (imgAlloc ws n s.now).1 s).2) := by
   unfold allocH
   rw [if_neg (by simp [hup]), hp.words hup]
   by_cases h0 : needN n = 0
   ·rw [if_pos h0]; exact .inl rfl
   rw [if_neg h0]
   by_cases hs : s.stuck
   ·rw [if_pos hs]; exact .inl rfl
   rw [if_neg hs]
   by_cases he : (imgAlloc ws n s.now).2.2 ≠ 0
   ·rw [if_pos he]; exact .inl rfl
   rw [if_neg he]
   exact .inr ⟨h0, by simpa using he, rfl, rfl⟩
  rcases hA with hA | ⟨hn0, hE, hA, hA2⟩
  ·rw [hA]; exact DoC.same
  have hml := (qeh (ws := ws) (n := n) (cs := s.now)).most
  have e1 : linesP K n bs.length = linesP 1 n 0 := by rw [k1]; exact qj7
  have hn : 1 ≤ n ∧ n ≤ 448 := by
   unfold needN at hn0
   by_cases h : 1 ≤ n ∧ n ≤ 448
   ·exact h
   ·rw [if_neg h] at hn0; exact absurd rfl hn0
  have hl : linesP 1 n 0 = n / 64 + 4 := by unfold linesP; rw [if_pos rfl, if_pos (by omega)]
  have hne1 : (allocH pa pb pc pd s n).2.1 ≠ 1 := by
   rcases c1 with ⟨a, _⟩ | ⟨a, _⟩ | ⟨a, _⟩ | ⟨a, _⟩ <;> omega
  refine .inr ⟨hne1, fun hnl => ?_, .inl ⟨.inl k1, by omega, 10 * (eLines (imgAlloc ws n s.now).1).length + 5, by rw [hA]; exact qff, by omega⟩⟩
  have h3 := qen (pa := pa) (pb := pb) (pc := pc) (pd := pd) (ws := ws) (E := (imgAlloc ws n s.now).1) hnl
  rw [← hA2] at h3
  rcases c1 with ⟨a, _⟩ | ⟨a, _⟩ | ⟨a, _⟩ | ⟨a, _⟩ <;> omega
 rw [if_neg k1]
 by_cases k2 : K = 2
 ·rw [if_pos k2]
  simp only
  obtain ⟨c1, c2, c3⟩ := qhk (off := off) hp hup hb hcb
  have hF : (freeH pa pb pc pd s off).1 = s ∨ (errFree ws root off = 0 ∧ (freeH pa pb pc pd s off) = (commitH pa pb pc pd ws (imgFree ws off).1 s)) := by
   unfold freeH errFree
   rw [if_neg (by simp [hup]), hp.words hup, hp.rootN.1]
   by_cases he : (imgFree ws off).2 ≠ 0
   ·rw [if_pos he]; exact .inl rfl
   rw [if_neg he, if_neg he]
   by_cases hr : root = off
   ·rw [if_pos hr]; exact .inl rfl
   rw [if_neg hr, if_neg hr]
   by_cases hs : s.stuck
   ·rw [if_pos hs]; exact .inl rfl
   rw [if_neg hs]
   exact .inr ⟨rfl, rfl⟩
  rcases hF with hA | ⟨hE, hA⟩
  ·rw [hA]; exact DoC.same
  have hml := (qdF (ws := ws) (off := off)).most
  have e0 : linesP 2 0 0 = 1 := qfz
  have e1 : linesP K n bs.length = 1 := by rw [k2]; exact qfz
  have hne1 : (freeH pa pb pc pd s off).2 ≠ 1 := by
   rcases c1 with ⟨a, _⟩ | ⟨a, _⟩ | ⟨a, _⟩ | ⟨a, _⟩ <;> omega
  refine .inr ⟨hne1, fun hnl => ?_, .inl ⟨.inr (.inl k2), by omega, 10 * (eLines (imgFree ws off).1).length + 5, by rw [hA]; exact qff, by omega⟩⟩
  have h3 := qen (pa := pa) (pb := pb) (pc := pc) (pd := pd) (ws := ws) (E := (imgFree ws off).1) hnl
  rw [← hA] at h3
  rcases c1 with ⟨a, _⟩ | ⟨a, _⟩ | ⟨a, _⟩ | ⟨a, _⟩ <;> omega
 rw [if_neg k2]
 by_cases k3 : K = 3
 ·rw [if_pos k3]; exact DoC.same
 rw [if_neg k3]
 by_cases k4 : K = 4
 ·rw [if_pos k4]
  simp only
  obtain ⟨c1, c2, c3, c4, c5⟩ := qgS (off := off) (bs := bs) h8 hp hup hb hcb
  have hF : (writeH pa pb pc pd s off bs).1 = s ∨ ((imgWrite ws off bs).2 = 0 ∧ (writeH pa pb pc pd s off bs) = (commitH pa pb pc pd ws (imgWrite ws off bs).1 s)) := by
   unfold writeH
   rw [if_neg (by simp [hup]), hp.words hup]
   by_cases he : (imgWrite ws off bs).2 ≠ 0
   ·rw [if_pos he]; exact .inl rfl
   rw [if_neg he]
   by_cases hz : (imgWrite ws off bs).1.length = 0
   ·rw [if_pos hz]; exact .inl rfl
   rw [if_neg hz]
   by_cases hs : s.stuck
   ·rw [if_pos hs]; exact .inl rfl
   rw [if_neg hs]
   exact .inr ⟨by simpa using he, rfl⟩
  rcases hF with hA | ⟨hE, hA⟩
  ·rw [hA]; exact DoC.same
  have hml := (qed (ws := ws) hp.ok.len.2.2 (off := off) (bs := bs)).most
  have hbl : (bs.length : Int) ≤ 448 := by
   have hA' : aWrite ws off bs = (0, applyE ws (imgWrite ws off bs).1) := by unfold aWrite; rw [if_pos hE]
   obtain ⟨e, h⟩ := hp.ok
   by_cases hw : 0 ≤ (bs.length : Int) ∧ (bs.length : Int) ≤ 448 ∧ ∃ x ∈ e, (x.1 + 1) * 8 ≤ off ∧ off + bs.length ≤ (x.1 + x.2.1) * 8
   ·exact hw.2.1
   ·rw [h.wr0 hw] at hA'; simp at hA'
  have e1 : linesP K n bs.length = linesP 4 0 bs.length := by rw [k4]; exact qju
  have hl : linesP 4 0 bs.length = (bs.length : Int) / 64 + 2 := by unfold linesP; rw [if_neg (by omega), if_pos rfl, if_pos (by omega)]
  have hne1 : (writeH pa pb pc pd s off bs).2 ≠ 1 := by
   rcases c1 with ⟨a, _⟩ | ⟨a, _⟩ | ⟨a, _⟩ | ⟨a, _⟩ <;> omega
  refine .inr ⟨hne1, fun hnl => ?_, .inl ⟨.inr (.inr k4), by omega, 10 * (eLines (imgWrite ws off bs).1).length + 5, by rw [hA]; exact qff, by omega⟩⟩
  have h3 := qen (pa := pa) (pb := pb) (pc := pc) (pd := pd) (ws := ws) (E := (imgWrite ws off bs).1) hnl
  rw [← hA] at h3
  rcases c1 with ⟨a, _⟩ | ⟨a, _⟩ | ⟨a, _⟩ | ⟨a, _⟩ <;> omega
 rw [if_neg k4]
 by_cases k5 : K = 5
 ·rw [if_pos k5]
  simp only
  have hF : (setRootH pa pb s off).1 = s ∨ setRootH pa pb s off = ({ s with M := (s.M.set 2 (qkU .u64 off)).1 }, (s.M.set 2 (qkU .u64 off)).2) := by
   unfold setRootH
   rw [if_neg (by simp [hup])]
   split
   ·exact .inl rfl
   ·split
    ·exact .inl rfl
    ·exact .inr rfl
  rcases hF with hA | hA
  ·rw [hA]; exact DoC.same
  rw [hA]
  simp only
  have hv : (s.M.set 2 (qkU .u64 off)).2 = 0 ∨ (s.M.set 2 (qkU .u64 off)).2 = 2 := by
   unfold Mem.set
   rw [if_pos (show regIn 2 by unfold regIn; omega), if_neg (by simp [hup])]
   unfold Mem.told
   simp only
   split <;> simp
  exact .inr ⟨by omega, fun _ => hv, .inr ⟨k5, _, rfl⟩⟩
 rw [if_neg k5]
 by_cases k6 : K = 6
 ·rw [if_pos k6]
  split <;> exact DoC.same
 ·rw [if_neg k6]; exact DoC.same
theorem LV.power {M : Mem} {n sp k : Nat} (h : LV M n sp k) : LV M.power n sp k := h.same rfl rfl
structure TwC (K n : Int) (bl sp N : Nat) (M M' : Mem) (e : Int) (w rep k k' : Nat) : Prop where
 lv : LV M N sp k
 lv' : LV M' N sp k'
 le : k ≤ k'
 wr : Wr w M M'
 up : M'.down = false → k + rep ≤ k'
 nl : NL M → rep = 0 ∧ NL M'
 r17 : rep ≤ 17
 st : K = 8 → w ≤ 43 + 2 * rep
 op : K ≠ 8 → w = 0 ∨ (e ≠ 1 ∧ (NL M → e = 0 ∨ e = 2) ∧ (((K = 1 ∨ K = 2 ∨ K = 4) ∧ linesP K n bl ≠ 0 ∧ (w : Int) ≤ 10 * linesP K n bl + 5 + 2 * rep) ∨ (K = 5 ∧ w ≤ 1)))
theorem tw_wc {T : TS} {K off n mask : Int} {bs : List Int} (h : TW pa pb pc pd T mvb cb) (hio : isI off) (h8 : qca bs) (hb : mvb + 2000 < 4611686018427387904) (hcb : cb + 100 < 4611686018427387904) :
  ∃ w rep k k' : Nat, TwC K n bs.length pb.toNat (16 + pa.toNat + 1) T.s.M (twDoes pa pb pc pd T K off n mask bs).1.s.M (twDoes pa pb pc pd T K off n mask bs).2.1 w rep k k' := by
 obtain ⟨ws0, root0, hMP⟩ := h.mp
 obtain ⟨k, hlv⟩ := hMP.lv
 have hreg := hMP.mok.regs
 unfold twDoes
 by_cases k7 : K = 7
 ·rw [if_pos k7]
  exact ⟨0, 0, k, k, hlv, hlv.same rfl rfl, qk2 _, fun _ _ => by simp [Mem.setCut], fun _ => qk2 _, fun hn => ⟨rfl, hn.cs rfl⟩, by omega, fun hh => by omega, fun _ => .inl rfl⟩
 rw [if_neg k7]
 by_cases k8 : K = 8
 ·rw [if_pos k8]
  have hR : (twOpen pa pb pc pd T.s.M.power T.s).1.s.M = (recN (16 + pa.toNat) pb.toNat pc.toNat T.s.M.power 0).1 := by
   unfold twOpen
   split <;> rfl
  obtain ⟨w, rep, k', a1, a2, a3, a4, a5, a6, a7, a8, a9⟩ := rec_wc (n := 16 + pa.toNat) (sp := pb.toNat) (per := pc.toNat) (pt := 0) (M := T.s.M.power) k hlv.power hreg
  have h16 := hlv.sp16
  refine ⟨w, rep, k, k', hlv, ?_, a6, ?_, ?_, ?_, by omega, fun _ => by omega, fun hh => absurd k8 hh⟩
  ·simp only; rw [hR]; exact a4
  ·simp only; rw [hR]; exact fun h0 h1 => a1 h0 h1
  ·simp only; rw [hR]; exact a7
  ·simp only; rw [hR]; exact fun hn => a8 (hn.cs rfl)
 rw [if_neg k8]
 by_cases ho : T.on = false
 ·rw [if_pos ho]
  exact ⟨0, 0, k, k, hlv, hlv, qk2 _, Wr.refl _, fun _ => qk2 _, fun hn => ⟨rfl, hn⟩, by omega, fun hh => absurd hh k8, fun _ => .inl rfl⟩
 rw [if_neg ho]
 obtain ⟨ws, root, hP⟩ := h.1 (by simpa using ho)
 simp only
 rcases do_wc (K := K) (off := off) (n := n) (bs := bs) hio h8 hP hb hcb with hc | ⟨h1, h2, ⟨h3, h4, c, h5, h6⟩ | ⟨h3, v, h4⟩⟩
 ·rw [hc]
  exact ⟨0, 0, k, k, hlv, hlv, qk2 _, Wr.refl _, fun _ => qk2 _, fun hn => ⟨rfl, hn⟩, by omega, fun hh => absurd hh k8, fun _ => .inl rfl⟩
 ·obtain ⟨w, rep, k', a1, a2, a3, a4, a5, a6, a7, a8, a9⟩ := h5 k hlv hreg
  have h16 := hlv.sp16
  exact ⟨w, rep, k, k', hlv, a4, a6, a1, a7, a8, by omega, fun hh => absurd hh k8, fun _ => .inr ⟨h1, h2, .inl ⟨h3, h4, by omega⟩⟩⟩
 ·obtain ⟨⟨w, a1, a2⟩, _⟩ := qc3 (M := T.s.M) (i := 2) (v := v)
  rw [h4]
  exact ⟨w, 0, k, k, hlv, hlv.setOut (.inl (by omega)) (by omega), qk2 _, a2, fun _ => qk2 _, fun hn => ⟨rfl, hn.set.2⟩, by omega, fun hh => absurd hh k8, fun _ => .inr ⟨h1, h2, .inr ⟨h3, a1⟩⟩⟩
end
section
variable {H : AH} {pa pb pc pd : Int}
theorem qkb {limits : List Int} (hmay : mayP pa pb pc pd = true) (he : (formN pa pb pc limits).2.2 = 0) :
  0 ≤ (twStart pa pb pc pd limits).s.M.writes ∧ (twStart pa pb pc pd limits).s.M.writes ≤ 100 ∧ (limits = [] → (twStart pa pb pc pd limits).s.M.writes ≤ 3) := by
 have hm := qM.1 hmay
 obtain ⟨_, _, _, _, _, eM⟩ := qfB hmay he
 rw [eM]
 have hlv := new_lv (limits := limits) (pa := pa) (pb := pb) (by omega)
 have hw := tput_wc (n := 16 + pa.toNat) (sp := pb.toNat) (per := pc.toNat) (pt := 0) (M := Mem.new (16 + pa.toNat + 1 + pb.toNat) limits) (line := 16) (d := lineOf (firstN (8 * pa)) 0)
 obtain ⟨w, rep, k', a1, a2, a3, a4, a5, a6, a7, a8, a9⟩ := hw _ hlv (by simp [Mem.new])
 have h16 := hlv.sp16
 have e := a1 (by simp [Mem.new]) (by simp [Mem.new]; omega)
 have e0 : (Mem.new (16 + pa.toNat + 1 + pb.toNat) limits).writes = 0 := rfl
 have eF : (formN pa pb pc limits).1 = (tput (16 + pa.toNat) pb.toNat pc.toNat (Mem.new (16 + pa.toNat + 1 + pb.toNat) limits) 0 16 (lineOf (firstN (8 * pa)) 0)).1 := rfl
 rw [eF, e, e0]
 refine ⟨by omega, by omega, fun hl => ?_⟩
 subst hl
 have := (a8 NL.new).1
 omega
theorem qkg {a b : Int} {w : Nat} (h : b = a + w) (hw : (w : Int) ≤ 1000000) : qkU .i64 (b - a) = (w : Int) := by
 rw [h, show a + (w : Int) - a = (w : Int) by omega, qe (by omega) (by omega)]
end
section
variable {H : AH} {pa pb pc pd : Int}
theorem qjg {x5 : Sl} {l : List OpR} {H0 : AH} {G : Nat → Prop} {t p c : Nat} {L : Pl} {T : TS} (hr : Abs.Rows H0 x5 5 opRV l) (hok : ∀ d ∈ l, opROK H0 d) (hl : l.length ≤ 80) (hk0 : qa H0 H) (hsl : ∀ d ∈ l, d.sl.n ≤ 500)
  (hT : TwAt G H t p c L pa pb pc pd T 0) (hW : TW pa pb pc pd T 15 0) (lo : ∀ x, G x → H0.size ≤ x) (hw0 : 0 ≤ T.s.M.writes) (hw1 : T.s.M.writes ≤ 100) (hnl : NL T.s.M)
  (aw : ∀ H', qm.j1 (fun r _ => r = true) H') :
  loopT (qm.l3 x5 (fun r _ => r = true) (some ⟨t, 0, none⟩)) ((false, (0 : Int)) : Bool × Int) H := by
 refine qI (t := ((false, (0 : Int)) : Bool × Int)) (I := fun (t' : Bool × Int) H' => ∃ (i : Nat) (G : Nat → Prop) (L : Pl) (T : TS) (cost : Int), t' = (false, (i : Int)) ∧ i ≤ l.length ∧ qa H0 H' ∧ TwAt G H' t p c L pa pb pc pd T cost ∧ TW pa pb pc pd T (15 + 40 * i) (14 * i) ∧ (∀ x, G x → H0.size ≤ x) ∧ NL T.s.M ∧ 0 ≤ T.s.M.writes ∧ T.s.M.writes ≤ 100 + 300 * i) (m := fun (t' : Bool × Int) _ => Int.toNat ((l.length : Int) - t'.2)) ?_
  ⟨0, G, L, T, 0, rfl, by omega, hk0, hT, hW, lo, hnl, hw0, by omega⟩
 clear hT hW lo hw0 hw1 hk0 hnl
 rintro ⟨q1, q2⟩ H8 ⟨i, G, L, T, cost, e1, hi, hk8, hT, hW, lo, hnl, hw0, hw1⟩ it hit
 injection e1 with e1 e2
 subst e1 e2
 unfold qm.l3
 rw [hr.1]
 by_cases hlt : (i : Int) < (l.length : Int)
 rotate_left 1
 ·rw [decide_eq_false hlt, qc]
  exact aw _
 rw [decide_eq_true hlt, qk]
 have hi' : i < l.length := by omega
 obtain ⟨b, o, ha, hb, hcells⟩ := qbx (hr.keep hk8) (by omega)
 refine ⟨by omega, ?_⟩
 rw [ha, qd, Int.toNat_natCast, qr (hcells i _ (List.getElem?_eq_getElem hi')).1]
 have hd := hok _ (List.getElem_mem hi')
 have hdn := hsl _ (List.getElem_mem hi')
 generalize l[i] = d at *
 have hdl : d.sl.n = d.bs.length := hd.rows.1
 refine qbM (n := 5) rfl rfl rfl ?_
 have hO : OpAt (H8.push ⟨opRV d, .rw, 0⟩) H8.size d.K d.off d.n d.c d.sl := OpAt.new
 have hkp : qa H8 (H8.push ⟨opRV d, .rw, 0⟩) := (qa.refl H8).push _
 have hzp : (H8.push ⟨opRV d, .rw, 0⟩).size = H8.size + 1 := by simp [qi]
 generalize H8.push ⟨opRV d, .rw, 0⟩ = H9 at *
 have hT9 := hT.keeps hkp
 have hk9 := hk8.trans hkp
 rw [qr hO.row]
 refine qdi.s (K := d.K) (off := d.off) (n := d.n) (mask := d.c) (x := d.sl) (bs := d.bs) hT9 hW (by omega) (by omega) hd.off hd.n (hd.rows.keep hk9) hd.u8 ?_
 obtain ⟨w, rep, kk, k', hC⟩ := tw_wc (K := d.K) (off := d.off) (n := d.n) (mask := d.c) (bs := d.bs) hW hd.off hd.u8 (by omega) (by omega)
 have hW' := hW.does (K := d.K) (off := d.off) (n := d.n) (mask := d.c) (bs := d.bs) hd.off hd.n hd.u8 (by omega) (by omega)
 have hlp := qcv d.K d.n d.bs.length
 obtain ⟨hrep, hnl'⟩ := hC.nl hnl
 have hwb : w ≤ 190 := by
  by_cases k8 : d.K = 8
  ·have := hC.st k8; omega
  ·rcases hC.op k8 with h | ⟨_, _, ⟨_, _, h⟩ | ⟨_, h⟩⟩ <;> omega
 have hwr : (twDoes pa pb pc pd T d.K d.off d.n d.c d.bs).1.s.M.writes = T.s.M.writes + w := hC.wr hw0 (by omega)
 have htc : twCost pa pb pc pd T d.K d.off d.n d.c d.bs = (w : Int) := by unfold twCost; exact qkg hwr (by omega)
 rw [htc]
 generalize twDoes pa pb pc pd T d.K d.off d.n d.c d.bs = R at *
 intro G' H62 L' x62 hu hT62 hO62 hn62
 have hz62 := hu.1.1
 have nO : ¬ G H8.size := fun hh => by have := hT.gl _ hh; omega
 refine qbM (n := 3) rfl rfl rfl ?_
 have hA : AnAt (H62.push ⟨anV R.2.1 R.2.2.1 x62, .rw, 0⟩) H62.size R.2.1 R.2.2.1 x62 := AnAt.new
 have hk63 : qa H62 (H62.push ⟨anV R.2.1 R.2.2.1 x62, .rw, 0⟩) := (qa.refl H62).push _
 generalize H62.push ⟨anV R.2.1 R.2.2.1 x62, .rw, 0⟩ = H63 at *
 have hT63 := hT62.keeps hk63
 have hO63 : OpAt H63 H8.size d.K d.off d.n d.c d.sl := (hO.keep (hu.1.2 _ (by omega) nO)).keep (hk63.2 _ (by omega))
 have hkall : qa H0 H63 := (hu.1.base hk9 lo).trans hk63
 have go : it (false, qkU .i64 ((i : Int) + 1)) H63 := by
  rw [qe (n := (i : Int) + 1) (by omega) (by omega)]
  refine hit _ _ ⟨i + 1, G', L', R.1, _, by simp, by omega, hkall, hT63, ?_, fun x hx => ?_, hnl', by omega, by omega⟩ (by simp only; omega)
  ·have q1 : 15 + 40 * (i + 1) = 15 + 40 * i + 40 := by omega
   have q2 : (14 : Int) * ((i + 1 : Nat) : Int) = 14 * (i : Int) + 14 := by omega
   rw [q1, q2]; exact hW'
  ·rcases hu.2 x hx with hx | hx
   ·exact lo x hx
   ·have := hk9.1; omega
 rw [hO63.c0, qg]
 by_cases k8 : d.K = 8
 ·rw [show (d.K == 8) = true by simpa using k8, qk]
  refine qeu.s hT63 (qbG.s ?_)
  have := hC.st k8
  rw [show recP 0 = 192 from rfl, decide_eq_false (show ¬ (w : Int) > 192 by omega), qc]
  exact go
 rw [show (d.K == 8) = false by simpa using k8, qc, qg]
 have zero : w = 0 → ∀ x, x = true → qm.j2 (fun r _ => r = true) (some ⟨t, 0, none⟩) (false, (i : Int)) it H8.size H63 x := by
  intro hw00 x hx
  unfold qm.j2
  rw [hx, qk]
  refine qeu.s hT63 ?_
  rw [hw00, show (((0 : Nat) : Int) != 0) = false from rfl, qc]
  exact go
 have wz : (d.K = 7 ∨ d.K = 3 ∨ d.K = 6) → w = 0 := fun hK => by
  rcases hC.op k8 with h | ⟨_, _, ⟨h, _⟩ | ⟨h, _⟩⟩
  ·exact h
  ·omega
  ·omega
 have price : ∀ x, x = false → qm.j2 (fun r _ => r = true) (some ⟨t, 0, none⟩) (false, (i : Int)) it H8.size H63 x := by
  intro x hx
  unfold qm.j2
  rw [hx, qc, qr hO63.row]
  refine qeu.s hT63 ?_
  refine ⟨hO63.row, ?_⟩
  refine cost_Op.s ?_
  rw [hdl]
  have h0 := (qdh (K := d.K) (b := d.n) (sl := ⟨none, d.bs.length, 0⟩)).1
  simp only at h0
  have hcost : (w : Int) ≤ costP d.K d.n d.bs.length 0 := by
   unfold costP
   rw [if_pos (by omega)]
   rcases hC.op k8 with h | ⟨_, _, ⟨h1, h2, h3⟩ | ⟨h1, h3⟩⟩
   ·rw [h]; split
    ·omega
    ·split <;> omega
   ·rw [if_neg (by omega), if_neg h2]; omega
   ·rw [if_pos h1]; omega
  rw [decide_eq_false (show ¬ (w : Int) > costP d.K d.n d.bs.length 0 by omega), qc]
  exact go
 by_cases k7 : d.K = 7
 ·rw [show (d.K == 7) = true by simpa using k7, qk]; exact zero (wz (.inl k7)) _ rfl
 rw [show (d.K == 7) = false by simpa using k7, qc, qg]
 by_cases k3 : d.K = 3
 ·rw [show (d.K == 3) = true by simpa using k3, qk]; exact zero (wz (.inr (.inl k3))) _ rfl
 rw [show (d.K == 3) = false by simpa using k3, qc, qg]
 by_cases k6 : d.K = 6
 ·rw [show (d.K == 6) = true by simpa using k6, qk]; exact zero (wz (.inr (.inr k6))) _ rfl
 rw [show (d.K == 6) = false by simpa using k6, qc, hA.c0, qg]
 by_cases e0 : R.2.1 = 0
 ·rw [show (R.2.1 != 0) = false by simpa using e0, qc]; exact price _ rfl
 rw [show (R.2.1 != 0) = true by simpa using e0, qk, qg]
 by_cases e2 : R.2.1 = 2
 ·exact price _ (by simpa using e2)
 ·refine zero ?_ _ (by simpa using e2)
  rcases hC.op k8 with h | ⟨_, h, _⟩
  ·exact h
  ·rcases h hnl with h | h
   ·exact absurd h e0
   ·exact absurd h e2
theorem qm.t {x0 x1 x2 x3 : Int} {x5 : Sl} {l : List OpR} (_ : (Lit.int .i64 x0).wf = true) (_ : (Lit.int .i64 x1).wf = true) (_ : (Lit.int .i64 x2).wf = true) (_ : (Lit.int .i64 x3).wf = true)
  (hr : Abs.Rows H x5 5 opRV l) (hok : ∀ d ∈ l, opROK H d) (_ : l.length ≤ maxLen) : qm (pl x0 x1 x2 x3) x5 H (fun r _ => r = true) := by
 refine qm.link ?_
 unfold qm.b
 rw [qu]
 have hk1 : qa H (H.push ⟨pl x0 x1 x2 x3, .rw, 0⟩) := (qa.refl H).push _
 have g1 : (H.push ⟨pl x0 x1 x2 x3, .rw, 0⟩).get H.size = ⟨pl x0 x1 x2 x3, .rw, 0⟩ := by rw [qq, if_pos rfl]
 have hz1 : H.size < (H.push ⟨pl x0 x1 x2 x3, .rw, 0⟩).size := by simp [qi]
 generalize H.push ⟨pl x0 x1 x2 x3, .rw, 0⟩ = H1 at *
 refine qt.s (l := l) (hr.keep hk1) ?_ ?_
 rotate_left 1
 ·intro v hv
  rw [decide_eq_true hv, qk]
  exact qdy rfl
 intro hsl hl80 _
 rw [show (decide ((0 : Int) > 0)) = false from rfl, qc, qr (plg_row g1)]
 refine qdx ?_
 intro pa pb pc pd r1 r2 r3 r4 H16 hk16
 have hmay := qgk r1 r2 r3 r4
 have hff := qeS hmay
 refine qbr.s (limits := []) qfN (fun h => by rw [hmay] at h; cases h) (fun _ h => by rw [hff] at h; exact absurd h (by decide)) ?_
 intro _ he G H17 t p c L hk17 lo hT hW
 obtain ⟨_, _, _, _, hnl, _⟩ := qfB hmay he
 obtain ⟨w0, w1, w3⟩ := qkb hmay he
 have g17 : H17.get H.size = ⟨pl x0 x1 x2 x3, .rw, 0⟩ := by rw [(hk16.trans hk17).2 _ hz1]; exact g1
 rw [show ((0 : Int) != 0) = false from rfl, qc, Option.isNone_some]
 unfold qm.j4
 rw [qc, qr (plg_row g17)]
 refine qhg.s hT ?_
 refine ⟨plg_row g17, ?_⟩
 refine qad.s hT.m ?_
 refine ⟨plg_row g17, ?_⟩
 refine qdx ?_
 intro pa' pb' pc' pd' q1 q2 q3 q4 H30 hk30
 have hmay' := qgk q1 q2 q3 q4
 refine qbS.s ?_
 have := w3 rfl
 rw [if_pos hmay', decide_eq_false (by omega), qc]
 have hz16 := hk16.1
 have ok1 : ∀ d ∈ l, opROK H1 d := fun d hd => ⟨(hok d hd).off, (hok d hd).n, (hok d hd).rows.keep hk1, (hok d hd).u8⟩
 exact qjg (H0 := H1) (hr.keep hk1) ok1 hl80 ((hk16.trans hk17).trans hk30) hsl (hT.keeps hk30) hW (fun x hx => by have := lo x hx; omega) w0 (by omega) (hnl rfl) fun H' => by unfold qm.j1; exact qdy rfl
end
end Go.Proofs.YtdcbkjgoaknmkaaGreat
