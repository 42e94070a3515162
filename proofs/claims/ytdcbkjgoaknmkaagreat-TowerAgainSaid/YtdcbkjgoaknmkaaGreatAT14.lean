/- Lemmas for the law: an abstract machine, and what the functions do on it. No condition. -/
import Derived.Test.YtdcbkjgoaknmkaaGreatAT13
set_option linter.all false
open Go.Value renaming int → qkG
open List renaming getElem?_eq_getElem → qkI, getElem?_map → qkU
open Int renaming toNat → qkP
open Bool renaming false_eq_true → qkS
open Option renaming isSome_none → qk1
set_option linter.all false
namespace Go.Proofs.YtdcbkjgoaknmkaaGreat
open Go Go.Abs
def AnR.p (d : AnR) : Int × Int × List Int := (d.cd, d.m, d.bs)
def twOp (pa pb pc pd : Int) (T : TS) (d : OpP) : TS × Int × Int × List Int := twDoes pa pb pc pd T d.K d.off d.n d.c d.bs
def runT (pa pb pc pd : Int) : TS → List OpP → List (Int × Int × List Int)
 | _, [] => []
 | T, d :: r => (twOp pa pb pc pd T d).2 :: runT pa pb pc pd (twOp pa pb pc pd T d).1 r
def OwnAns (B : Nat) (H : AH) (l : List AnR) : Prop := ∀ d ∈ l, Own B H d.sl 1 bU d.bs
def NotIn (G : Nat → Prop) (s : Sl) : Prop := ∀ a, s.a = some a → ¬ G a.block
theorem qhM (d : AnR) : (anRV d).length = 3 := rfl
theorem own_up {α : Type} {B : Nat} {H H' : AH} {s : Sl} {z : Nat} {f : α → List Value} {l : List α} {G : Nat → Prop} (h : Own B H s z f l) (hn : NotIn G s) (hu : Kp G H H') : Own B H' s z f l := by
 rcases h with h | ⟨b, e, q1, q2, q3⟩
 ·exact .inl h
 ·exact .inr ⟨b, e, q1, by have := hu.1; omega, by rw [hu.2 b q2 (hn ⟨b, 0, none⟩ (by rw [e]))]; exact q3⟩
theorem own_lt {α : Type} {B : Nat} {H : AH} {s : Sl} {z : Nat} {f : α → List Value} {l : List α} (h : Own B H s z f l) {a : Addr} (ha : s.a = some a) : B ≤ a.block ∧ a.block < H.size := by
 rcases h with ⟨e, _⟩ | ⟨b, e, q1, q2, _⟩
 ·rw [e] at ha; cases ha
 ·rw [e] at ha; cases ha; exact ⟨q1, q2⟩
theorem NotIn.up {G G' : Nat → Prop} {H H' : AH} {s : Sl} (h : NotIn G s) (hu : Up G H G' H') (hlt : ∀ a, s.a = some a → a.block < H.size) : NotIn G' s := fun a ha hg => by
 rcases hu.2 _ hg with hg | hg
 ·exact h a ha hg
 ·have := hlt a ha; omega
section
variable {H : AH} {pa pb pc pd : Int}
theorem qbm.s {x1 x2 : Sl} {limits b : List Int} {k : Sl → Int → AH → Prop} (hr1 : Abs.Rows H x1 1 iV limits) (hr2 : Abs.Rows H x2 1 bU b) (h8 : qaK b) (hbl : b.length ≤ 2000)
  (hbad : mayP pa pb pc pd = false → ∀ H', qa H H' → k ⟨none, 0, 0⟩ 1 H')
  (hworn : mayP pa pb pc pd = true → (formN pa pb pc limits).2.2 = 3 → ∀ H', qa H H' → k ⟨none, 0, 0⟩ 3 H')
  (hgo : mayP pa pb pc pd = true → (formN pa pb pc limits).2.2 = 0 → ∀ s H' A, qa H H' → Own H.size H' s 3 anRV A → OwnAns H.size H' A → A.map AnR.p = runT pa pb pc pd (twStart pa pb pc pd limits) (decL b) → TW pa pb pc pd (twStart pa pb pc pd limits) 15 0 → k s 0 H') :
  qbm (pl pa pb pc pd) x1 x2 H k := by
 refine qbm.link ?_
 unfold qbm.b
 rw [qs, pl_ld]
 have hk3 : qa H (H.push ⟨pl pa pb pc pd, .rw, 0⟩) := (qa.refl H).push _
 generalize H.push ⟨pl pa pb pc pd, .rw, 0⟩ = H3 at *
 refine qa9.s (hr1.keep hk3) ?_ ?_ ?_
 ·intro hm H' hk'
  rw [show ((1 : Int) != 0) = true from rfl, qi]
  exact hbad hm _ (hk3.trans hk')
 ·intro hm he H' hk'
  rw [show ((3 : Int) != 0) = true from rfl, qi]
  exact hworn hm he _ (hk3.trans hk')
 intro hm he G H16 tt p c L hk16 lo hT hW0
 have hkH := hk3.trans hk16
 rw [show ((0 : Int) != 0) = false from rfl, qc]
 refine qam.s (hr2.keep hkH) h8 (by omega) ?_
 intro s23 H23 ops hk23 hOp hOO hmap
 have hops : ops.length = (decL b).length := by rw [← hmap, List.length_map]
 have hol : 4 * (decL b).length ≤ b.length := qjT b.length b
 have hdok : ∀ d ∈ decL b, d.ok := decF_ok b.length b h8
 have hz16 := hkH.1; have hz23 := hk23.1
 have hn23 := own_len hOp
 refine qI (t := ((⟨none, 0, 0⟩, (0 : Int)) : Sl × Int)) (I := fun (t : Sl × Int) H' => ∃ (i : Nat) (G : Nat → Prop) (L : Pl) (T : TS) (cost : Int) (A : List AnR), t.2 = (i : Int) ∧ i ≤ ops.length ∧ qa H H' ∧ H23.size ≤ H'.size ∧ (∀ x, H16.size ≤ x → x < H23.size → H'.get x = H23.get x) ∧ TwAt G H' tt p c L pa pb pc pd T cost ∧ TW pa pb pc pd T (15 + 40 * i) (14 * i) ∧
   (∀ x, G x → H.size ≤ x ∧ (x < H16.size ∨ H23.size ≤ x)) ∧ Own H.size H' t.1 3 anRV A ∧ OwnAns H.size H' A ∧ NotIn G t.1 ∧ (∀ d ∈ A, NotIn G d.sl) ∧ (∀ a, t.1.a = some a → H23.size ≤ a.block) ∧ A.map AnR.p ++ runT pa pb pc pd T ((decL b).drop i) = runT pa pb pc pd (twStart pa pb pc pd limits) (decL b) ∧ A.length = i) (m := fun (t : Sl × Int) _ => qkP ((ops.length : Int) - t.2)) ?_
  ⟨0, G, L, _, 0, [], rfl, by omega, hkH.trans hk23, Nat.le_refl _, fun _ _ _ => rfl, hT.keeps hk23, hW0, fun x hx => ⟨by have := lo x hx; have := hk3.1; omega, .inl (hT.gl x hx)⟩, .inl ⟨rfl, rfl⟩, fun d hd => (by cases hd), fun a ha => (by cases ha), fun d hd => (by cases hd), fun a ha => (by cases ha), rfl, rfl⟩
 clear hT lo
 rintro ⟨t1, t2⟩ H6 ⟨i, G, L, T, cost, A, e1, hi, hk6, hz6, mid, hT, hW, lo, hA, hAA, nt, nA, nt2, hrun, hAl⟩ it hit
 simp only at e1 hA nt nt2
 subst e1
 unfold qbm.l1
 rw [hn23]
 by_cases hlt : (i : Int) < (ops.length : Int)
 rotate_left 1
 ·rw [decide_eq_false hlt, qc]
  rw [List.drop_eq_nil_of_le (by omega)] at hrun
  rw [show runT pa pb pc pd T [] = [] from rfl, List.append_nil] at hrun
  exact hgo hm he t1 H6 A hk6 hA hAA hrun hW0
 rw [decide_eq_true hlt, qi]
 have hi' : i < ops.length := by omega
 have hO6 : Own H16.size H6 s23 5 opRV ops := hOp.keep hz6 fun x h1 h2 => mid x h1 h2
 have hrK := hO6.rows qhE opRV_ok
 obtain ⟨bb, o, ha, hb, hcells⟩ := qbs hrK (by omega)
 refine ⟨by omega, ?_⟩
 rw [ha, qd, Int.toNat_natCast, qq (hcells i _ (qkI hi')).1]
 have hd0 := hOO _ (List.getElem_mem hi')
 have hdp : (decL b)[i]'(by omega) = (ops[i]).p := by simp only [← hmap, List.getElem_map]
 have hdk := hdok _ (List.getElem_mem (show i < (decL b).length by omega))
 have hdr : (decL b).drop i = (ops[i]).p :: (decL b).drop (i + 1) := by rw [← hdp]; exact List.drop_eq_getElem_cons (by omega)
 rw [hdp] at hdk
 rw [hdr] at hrun
 generalize ops[i] = d at *
 refine qcb (n := 5) rfl rfl rfl ?_
 have hO : OpAt (H6.push ⟨opRV d, .rw, 0⟩) H6.size d.K d.off d.n d.c d.sl := OpAt.new
 have hk8 : qa H6 (H6.push ⟨opRV d, .rw, 0⟩) := (qa.refl H6).push _
 have hz8 : (H6.push ⟨opRV d, .rw, 0⟩).size = H6.size + 1 := by simp [qf]
 generalize H6.push ⟨opRV d, .rw, 0⟩ = H8 at *
 rw [qq hO.row]
 have hd8 : Own H16.size H8 d.sl 1 bU d.bs := (hd0.keep hz6 fun x h1 h2 => mid x h1 h2).keep hk8.1 fun x _ h2 => hk8.2 x h2
 refine qfw.s (K := d.K) (off := d.off) (n := d.n) (mask := d.c) (x := d.sl) (bs := d.bs) (hT.keeps hk8) hW (by omega) (by omega) hdk.off hdk.n (hd8.rows (fun _ => rfl) (fun _ => rfl)) hdk.u8 ?_
 intro G' H32 L' x32 hu hT32 hO32 hn32
 have hu1 := hu.1.1
 refine ⟨rfl, ?_⟩
 rw [qs]
 have hAi : H6.size ≤ H8.size := hk8.1
 have h23 : ∀ x, G x → x < H6.size := hT.gl
 have hk32 : qa H H32 := hu.1.base (hk6.trans hk8) fun x hx => (lo x hx).1
 have kp8 : Kp G H6 H32 := ⟨by omega, fun x hx hn => by rw [hu.1.2 x (by omega) hn, hk8.2 x hx]⟩
 have hA32 : Own H.size H32 t1 3 anRV A := own_up hA nt kp8
 have hAA32 : OwnAns H.size H32 A := fun e he => own_up (hAA e he) (nA e he) kp8
 have hu8 : Up G H6 G' H32 := ⟨kp8, fun x hx => (hu.2 x hx).elim .inl fun h => .inr ⟨by omega, h.2⟩⟩
 refine qfW (f := anRV) (x := ⟨(twDoes pa pb pc pd T d.K d.off d.n d.c d.bs).2.1, (twDoes pa pb pc pd T d.K d.off d.n d.c d.bs).2.2.1, x32, (twDoes pa pb pc pd T d.K d.off d.n d.c d.bs).2.2.2⟩) (H0 := H) qhM rfl hA32 (Nat.le_refl _) hk32.1 hk32 (Nat.le_trans (show A.length + 1 ≤ 100001 by omega) (by decide)) ?_
 intro s' H' hO' hk' hz' hnew hg'
 have nt' : NotIn G' t1 := nt.up hu8 fun a ha => (own_lt hA ha).2
 have hX : Own H.size H32 x32 1 bU (twDoes pa pb pc pd T d.K d.off d.n d.c d.bs).2.2.2 := qcd hO32 (by have := hk6.1; omega)
 have hx' : Own H.size H' x32 1 bU (twDoes pa pb pc pd T d.K d.off d.n d.c d.bs).2.2.2 := qeb hX hA32 (by omega) hz' hg'
 refine hit _ _ ⟨i + 1, G', L', _, _, A ++ [⟨(twDoes pa pb pc pd T d.K d.off d.n d.c d.bs).2.1, (twDoes pa pb pc pd T d.K d.off d.n d.c d.bs).2.2.1, x32, (twDoes pa pb pc pd T d.K d.off d.n d.c d.bs).2.2.2⟩], ?_, by omega, hk', by omega, fun x h1 h2 => ?_, hT32.congr hz' fun x hx => hg' x (hT32.gl x hx) fun a ha hh => nt' a ha (hh ▸ hx), ?_, fun x hx => ?_, hO', fun e he => ?_, fun a ha hg => ?_, fun e he => ?_, fun a ha => ?_, ?_, by simp [hAl]⟩ ?_
 ·rw [qe (n := (i : Int) + 1) (by omega) (by omega)]; simp
 ·have hxG : ¬ G x := fun hg => by have := lo x hg; omega
  rw [hg' x (by omega) (fun a ha hh => by have := nt2 a ha; omega), kp8.2 x (by omega) hxG]
  exact mid x h1 h2
 ·have := hW.does (K := d.K) (off := d.off) (n := d.n) (mask := d.c) (bs := d.bs) hdk.off hdk.n hdk.u8 (by omega) (by omega)
  have q1 : 15 + 40 * (i + 1) = 15 + 40 * i + 40 := by omega
  have q2 : (14 : Int) * ((i + 1 : Nat) : Int) = 14 * (i : Int) + 14 := by omega
  rw [q1, q2]; exact this
 ·rcases hu8.2 x hx with hx | hx
  ·exact lo x hx
  ·have := hk6.1
   exact ⟨by omega, .inr (by omega)⟩
 ·rcases List.mem_append.1 he with he | he
  ·exact qeb (hAA32 e he) hA32 (by omega) hz' hg'
  ·rw [List.mem_singleton] at he; subst he; exact hx'
 ·have q1 := hnew a ha
  have q2 := hT32.gl _ hg
  omega
 ·rcases List.mem_append.1 he with he | he
  ·exact (nA e he).up hu8 fun a ha => (own_lt (hAA e he) ha).2
  ·rw [List.mem_singleton] at he; subst he; exact hn32
 ·have := hnew a ha; omega
 ·rw [← hrun, List.map_append, List.append_assoc]
  rfl
 ·show qkP ((ops.length : Int) - IntKind.wrap .i64 ((i : Int) + 1)) < qkP ((ops.length : Int) - (i : Int))
  rw [qe (n := (i : Int) + 1) (by omega) (by omega)]
  omega
end
section
variable {H : AH} {pa pb pc pd : Int}
theorem qkh {limits : List Int} (hmay : mayP pa pb pc pd = true) (he : (formN pa pb pc limits).2.2 = 0) :
  HP pa pb pc pd (twStart pa pb pc pd limits).s (firstN (8 * pa)) 0 15 0 ∧ (twStart pa pb pc pd limits).s.M.down = false ∧ (twStart pa pb pc pd limits).s.M.cut = -1 ∧ ¬ (twStart pa pb pc pd limits).s.stuck ∧ (limits = [] → NL (twStart pa pb pc pd limits).s.M) ∧ (twStart pa pb pc pd limits).s.M = (formN pa pb pc limits).1 := by
 obtain ⟨f1, f2, f3, _, _, f4⟩ := formed (limits := limits) hmay
 rcases f4 with ⟨_, hMP, hc⟩ | e
 rotate_left 1
 ·omega
 have hrc : recN (16 + pa.toNat) pb.toNat pc.toNat (formN pa pb pc limits).1 0 = ((formN pa pb pc limits).1, 0, 0) := qe4 f1 hc
 have hop := hMP.opened f1 (by omega)
 have hP : HP pa pb pc pd (openS pa pb pc pd (formN pa pb pc limits).1) (firstN (8 * pa)) 0 (1 + 14) 0 := by
  rcases hop.2.2 with ⟨_, _, hP⟩ | ⟨e2, _⟩
  ·exact hP
  ·rw [hrc] at e2; simp at e2
 have eM : (openS pa pb pc pd (formN pa pb pc limits).1).M = (formN pa pb pc limits).1 := by unfold openS; rw [hrc]
 refine ⟨hP, by show (openS pa pb pc pd _).M.down = false; rw [eM]; exact f1, by show (openS pa pb pc pd _).M.cut = -1; rw [eM]; exact f2, fun hst => ?_, fun hl => by show NL (openS pa pb pc pd _).M; rw [eM]; exact (f3 hl).2, eM⟩
 rcases hst with hst | ⟨_, hst⟩
 ·cases hst
 ·have hst' : commits (openS pa pb pc pd (formN pa pb pc limits).1).M ≠ 0 := hst
  rw [eM] at hst'; exact hst' hc
theorem qgL (hmay : mayP pa pb pc pd = true) : (formN pa pb pc []).2.2 = 0 := ((formed (limits := []) hmay).2.2.1 rfl).1
theorem qiv (hmay : mayP pa pb pc pd = true) : HP pa pb pc pd (twStart pa pb pc pd []).s (firstN (8 * pa)) 0 15 0 ∧ FreeS (twStart pa pb pc pd []).s := by
 obtain ⟨a, b, c, d, e, _⟩ := qkh (limits := []) hmay (qgL hmay)
 exact ⟨a, b, c, e rfl, d⟩
theorem ans_c {α : Type} {B : Nat} {H : AH} {s : Sl} {A : List AnR} (hO : Own B H s 3 anRV A) {i : Nat} (hi : i < A.length) : ∃ a, s.a = some a ∧ a.spot = none ∧ AH.cell? H (Addr.add (Addr.add a (i * 3)) 0) = some (.int .i64 (A[i]).cd) ∧ AH.cell? H (Addr.add (Addr.add a (i * 3)) 1) = some (.int .i64 (A[i]).m) := by
 rcases hO with ⟨_, e⟩ | ⟨b, e, _, hb, hg⟩
 ·subst e; simp at hi
 refine ⟨⟨b, 0, none⟩, by rw [e], rfl, ?_⟩
 have hr := qfs qhM A i _ (qkI hi)
 have hc : ∀ j, j < 3 → (A.flatMap anRV)[i * 3 + j]? = (anRV A[i])[j]? := fun j hj => by
  rw [← hr, List.getElem?_take, if_pos hj, List.getElem?_drop]
 refine ⟨?_, ?_⟩
 ·rw [qj, qj]
  simp only [AH.cell?, hg, qk1, qkS, if_false, Nat.zero_add]
  have := hc 0 (by omega)
  rw [this]; rfl
 ·rw [qj, qj]
  simp only [AH.cell?, hg, qk1, qkS, if_false, Nat.zero_add]
  have := hc 1 (by omega)
  rw [this]; rfl
theorem qem {k : Bool → AH → Prop} (hk : k true H) : qav H k := by
 refine gcB true (qav.link (_u := ()) ?_) hk
 unfold qav.b
 rw [qs]
 have hk5 : qa H (H.push ⟨[(qkG .u8 (1 : Int)), (qkG .u8 (8 : Int)), (qkG .u8 (0 : Int)), (qkG .u8 (0 : Int)), (qkG .u8 (6 : Int)), (qkG .u8 (0 : Int)), (qkG .u8 (0 : Int)), (qkG .u8 (0 : Int))], .rw, 1⟩) := (qa.refl H).push _
 have hO5 : Own 0 (H.push ⟨[(qkG .u8 (1 : Int)), (qkG .u8 (8 : Int)), (qkG .u8 (0 : Int)), (qkG .u8 (0 : Int)), (qkG .u8 (6 : Int)), (qkG .u8 (0 : Int)), (qkG .u8 (0 : Int)), (qkG .u8 (0 : Int))], .rw, 1⟩) ⟨some ⟨H.size, 0, none⟩, 8, 1⟩ 1 bU [1, 8, 0, 0, 6, 0, 0, 0] := .inr ⟨H.size, rfl, Nat.zero_le _, by simp [qf], by rw [qo, if_pos rfl]; rfl⟩
 generalize H.push ⟨[(qkG .u8 (1 : Int)), (qkG .u8 (8 : Int)), (qkG .u8 (0 : Int)), (qkG .u8 (0 : Int)), (qkG .u8 (6 : Int)), (qkG .u8 (0 : Int)), (qkG .u8 (0 : Int)), (qkG .u8 (0 : Int))], .rw, 1⟩ = H5 at *
 have hmay : mayP 4 0 3 2 = true := by decide
 have hff := qgL hmay
 show qbm (pl 4 0 3 2) _ _ _ _
 refine qbm.s (limits := []) qgW (hO5.rows (fun _ => rfl) (fun _ => rfl)) (fun v hv => ?_) (by decide) (fun h => by rw [hmay] at h; cases h) (fun _ h => by rw [hff] at h; exact absurd h (by decide)) ?_
 ·simp only [List.mem_cons, List.not_mem_nil, or_false] at hv
  omega
 intro _ _ s6 H6 A hk6 hO6 hOA hA hW
 have hdec : decL [1, 8, 0, 0, 6, 0, 0, 0] = [⟨1, 0, 8, 0, []⟩, ⟨6, 0, 0, 0, []⟩] := by rfl
 rw [hdec] at hA
 obtain ⟨hP, hF⟩ := qiv hmay
 obtain ⟨d1, d2, ws1, tk, d3, d4, d5⟩ := qgd (off := 0) (bs := []) (n := 8) hP hF (by omega) (by decide) (by omega) (by omega)
 have e1 : twOp 4 0 3 2 (twStart 4 0 3 2 []) ⟨1, 0, 8, 0, []⟩ = (⟨(doH 4 0 3 2 (twStart 4 0 3 2 []).s 1 0 8 []).1, true⟩, (doH 4 0 3 2 (twStart 4 0 3 2 []).s 1 0 8 []).2) := rfl
 have e2 : (twOp 4 0 3 2 (twOp 4 0 3 2 (twStart 4 0 3 2 []) ⟨1, 0, 8, 0, []⟩).1 ⟨6, 0, 0, 0, []⟩).2 = (0, 0, []) := by
  rw [e1]
  have : twOp 4 0 3 2 ⟨(doH 4 0 3 2 (twStart 4 0 3 2 []).s 1 0 8 []).1, true⟩ ⟨6, 0, 0, 0, []⟩ = (⟨(doH 4 0 3 2 (doH 4 0 3 2 (twStart 4 0 3 2 []).s 1 0 8 []).1 6 0 0 []).1, true⟩, (doH 4 0 3 2 (doH 4 0 3 2 (twStart 4 0 3 2 []).s 1 0 8 []).1 6 0 0 []).2) := rfl
  rw [this, do_get d5 d2.up]
 have hrun : runT 4 0 3 2 (twStart 4 0 3 2 []) [⟨1, 0, 8, 0, []⟩, ⟨6, 0, 0, 0, []⟩] = [(0, 8, []), (0, 0, [])] := by
  show [(twOp 4 0 3 2 (twStart 4 0 3 2 []) ⟨1, 0, 8, 0, []⟩).2, (twOp 4 0 3 2 (twOp 4 0 3 2 (twStart 4 0 3 2 []) ⟨1, 0, 8, 0, []⟩).1 ⟨6, 0, 0, 0, []⟩).2] = _
  rw [e2, e1]
  simp only
  rw [d1]
 rw [hrun] at hA
 have hAl : A.length = 2 := by have := congrArg List.length hA; simpa using this
 have hn : s6.n = 2 := (own_len hO6).trans hAl
 rw [show ((0 : Int) == 0) = true from rfl, qi, hn, show ((((2 : Nat) : Int) : Int) == 2) = true from rfl, qi]
 refine ⟨by omega, ?_⟩
 obtain ⟨a, ha, hs, _, c1⟩ := ans_c (α := Unit) hO6 (i := 0) (by omega)
 obtain ⟨a', ha', _, c2, _⟩ := ans_c (α := Unit) hO6 (i := 1) (by omega)
 rw [ha] at ha'; cases ha'
 have q1 : (A[0]'(by omega)).m = 8 := by
  have := congrArg (fun l => (l[0]?).map fun x => x.2.1) hA
  simp only [qkU, qkI (show 0 < A.length by omega)] at this
  simpa [AnR.p] using this
 have q2 : (A[1]'(by omega)).cd = 0 := by
  have := congrArg (fun l => (l[1]?).map fun x => x.1) hA
  simp only [qkU, qkI (show 1 < A.length by omega)] at this
  simpa [AnR.p] using this
 rw [ha, qd, show qkP (0 : Int) = 0 from rfl, c1, qh, q1, show ((8 : Int) == 8) = true from rfl, qi]
 refine ⟨by omega, ?_⟩
 rw [qd, show qkP (1 : Int) = 1 from rfl, c2, qh, q2]
 exact ⟨hk5.trans hk6, rfl⟩
theorem ql.t {x0 x1 x2 x3 : Int} {x4 x5 : Sl} {limits : List Int} {l : List OpR} (_ : (Lit.int .i64 x0).wf = true) (_ : (Lit.int .i64 x1).wf = true) (_ : (Lit.int .i64 x2).wf = true) (_ : (Lit.int .i64 x3).wf = true)
  (hr1 : Abs.Rows H x4 1 iV limits) (_ : ∀ v ∈ limits, isI v) (_ : limits.length ≤ maxLen) (hr : Abs.Rows H x5 5 opRV l) (hok : ∀ d ∈ l, opROK H d) (_ : l.length ≤ maxLen) : ql (pl x0 x1 x2 x3) x4 x5 H (fun r _ => r = true) :=
 ql.t' (fun hk => qem hk) hr1 hr hok
end
end Go.Proofs.YtdcbkjgoaknmkaaGreat
