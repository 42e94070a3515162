/- Lemmas for the law: an abstract machine, and what the functions do on it. No condition. -/
import Derived.Test.YtdcbkjgoaknmkaaGreatCT13
set_option linter.all false
open List renaming getElem?_eq_getElem → qkz, getElem_mem → qkN, length_map → qlq, drop_eq_getElem_cons → qly
open Option renaming isNone_some → qkS, isNone_none → qlV
set_option linter.all false
namespace Go.Proofs.YtdcbkjgoaknmkaaGreat
open Go Go.Abs
section
variable {H : AH} {pa pb pc pd : Int}
theorem qiZ {x27 x63 : Sl} {A : List AnR} {ops : List OpR} {b : List Int} {B0 : Nat} {H27 H33 H63 : AH} {G : Nat → Prop} {t p c : Nat} {L : Pl} {T : TS} (hA : Own B0 H27 x27 3 anRV A) (hAA : OwnAns B0 H27 A) (hO : Own H33.size H63 x63 5 opRV ops) (hOO : OwnOps H33.size H63 ops) (hmap : ops.map OpR.p = decL b) (h8 : qaD b) (hbl : b.length ≤ 2000)
  (hrun : A.map AnR.p = runT pa pb pc pd T (decL b)) (hk33 : qa H27 H33) (hk63 : qa H33 H63) (lo : ∀ x, G x → H27.size ≤ x) (hT : TwAt G H33 t p c L pa pb pc pd T 0) (hW : TW pa pb pc pd T 15 0) (aw : ∀ H', ql.j1 (fun r _ => r = true) H') :
  loopT (ql.l2 (fun r _ => r = true) x27 (some ⟨t, 0, none⟩) x63) ((false, (0 : Int)) : Bool × Int) H63 := by
 have hops : ops.length = (decL b).length := by rw [← hmap, qlq]
 have hol : 4 * (decL b).length ≤ b.length := qgW b.length b
 have hdok : ∀ d ∈ decL b, d.ok := decF_ok b.length b h8
 have hAl : A.length = ops.length := by have := congrArg List.length hrun; rw [qlq, qhE] at this; omega
 have hz27 := hk33.1; have hz63 := hk63.1
 have hn63 := own_len hO
 have hn27 := own_len hA
 refine qI (t := ((false, (0 : Int)) : Bool × Int)) (I := fun (t' : Bool × Int) H' => ∃ (i : Nat) (G : Nat → Prop) (L : Pl) (T : TS) (cost : Int), t' = (false, (i : Int)) ∧ i ≤ ops.length ∧ qa H27 H' ∧ H63.size ≤ H'.size ∧ (∀ x, H33.size ≤ x → x < H63.size → H'.get x = H63.get x) ∧ TwAt G H' t p c L pa pb pc pd T cost ∧ TW pa pb pc pd T (15 + 40 * i) (14 * i) ∧
   (∀ x, G x → H27.size ≤ x ∧ (x < H33.size ∨ H63.size ≤ x)) ∧ (A.map AnR.p).drop i = runT pa pb pc pd T ((decL b).drop i)) (m := fun (t' : Bool × Int) _ => Int.toNat ((ops.length : Int) - t'.2)) ?_
  ⟨0, G, L, T, 0, rfl, by omega, hk33.trans hk63, Nat.le_refl _, fun _ _ _ => rfl, hT.keeps hk63, hW, fun x hx => ⟨lo x hx, .inl (hT.gl x hx)⟩, hrun⟩
 clear hT hW lo
 rintro ⟨q1, q2⟩ H13 ⟨i, G, L, T, cost, e1, hi, hk13, hz13, mid, hT, hW, lo, hrun⟩ it hit
 injection e1 with e1 e2
 subst e1 e2
 unfold ql.l2
 rw [hn63]
 by_cases hlt : (i : Int) < (ops.length : Int)
 rotate_left 1
 ·rw [decide_eq_false hlt, qc]
  exact aw _
 rw [decide_eq_true hlt, qi]
 have hi' : i < ops.length := by omega
 have hO13 : Own H33.size H13 x63 5 opRV ops := hO.keep hz13 fun x h1 h2 => mid x h1 h2
 obtain ⟨bb, o, ha, hb, hcells⟩ := qbc (hO13.rows qfu opRV_ok) (by omega)
 refine ⟨by omega, ?_⟩
 rw [ha, qd, Int.toNat_natCast, qo (hcells i _ (qkz hi')).1]
 have hd0 := hOO _ (qkN hi')
 have hdp : (decL b)[i]'(by omega) = (ops[i]).p := by simp only [← hmap, List.getElem_map]
 have hdk := hdok _ (qkN (show i < (decL b).length by omega))
 have hdr : (decL b).drop i = (ops[i]).p :: (decL b).drop (i + 1) := by rw [← hdp]; exact qly (by omega)
 rw [hdp] at hdk
 have hAi : i < A.length := by omega
 have hAr : (A.map AnR.p).drop i = (A[i]).p :: (A.map AnR.p).drop (i + 1) := by
  rw [qly (by rw [qlq]; exact hAi), List.getElem_map]
 have hai0 := hAA _ (qkN hAi)
 rw [hdr, hAr] at hrun
 have hrc := (hA.rows qfr anRV_ok)
 obtain ⟨bA, oA, haA, hbA, hcA⟩ := qbc hrc (by omega)
 have hcAi := hcA i _ (qkz hAi)
 generalize ops[i] = d at *
 generalize A[i] = e at *
 unfold runT at hrun
 injection hrun with hr1 hr2
 refine qcg (n := 5) rfl rfl rfl ?_
 have hOd : OpAt (H13.push ⟨opRV d, .rw, 0⟩) H13.size d.K d.off d.n d.c d.sl := OpAt.new
 have hk8 : qa H13 (H13.push ⟨opRV d, .rw, 0⟩) := (qa.refl H13).push _
 have hz8 : (H13.push ⟨opRV d, .rw, 0⟩).size = H13.size + 1 := by simp [qe]
 generalize H13.push ⟨opRV d, .rw, 0⟩ = H8 at *
 rw [qo hOd.row, hn27]
 refine ⟨by omega, ?_⟩
 have hrow : ∀ H', qa H27 H' → AH.row? H' (Addr.add ⟨bA, oA, none⟩ (i * 3)) 3 = some (anRV e) := fun H' hk => by
  have h0 := hcAi.1
  simp only [AH.row?, qj] at h0 ⊢
  rw [hk.2 _ hbA]; exact h0
 have hk08 := hk13.trans hk8
 rw [haA, qd, qo (hrow H8 hk08)]
 have hd8 : Own H33.size H8 d.sl 1 bU d.bs := (hd0.keep hz13 fun x h1 h2 => mid x h1 h2).keep hk8.1 fun x _ h2 => hk8.2 x h2
 refine qhb.s (K := d.K) (off := d.off) (n := d.n) (mask := d.c) (x := d.sl) (bs := d.bs) (hT.keeps hk8) hW (by omega) (by omega) hdk.off hdk.n (hd8.rows (fun _ => rfl) (fun _ => rfl)) hdk.u8 ?_
 intro G' H78 L' x78 hu hT78 hO78 hn78
 have hz78 := hu.1.1
 have lo1 : ∀ x, G x → H27.size ≤ x := fun x hx => (lo x hx).1
 have hk78 : qa H27 H78 := hu.1.base hk08 lo1
 have hGlt : ∀ x, G x → x < H13.size := hT.gl
 refine ⟨hrow H78 hk78, ?_⟩
 have hb8 := qjY (K := d.K) (off := d.off) (n := d.n) (mask := d.c) (bs := d.bs) hW
 have he8 : e.p = (twDoes pa pb pc pd T d.K d.off d.n d.c d.bs).2 := hr1
 have he1 : e.cd = (twDoes pa pb pc pd T d.K d.off d.n d.c d.bs).2.1 := congrArg (fun z => z.1) he8
 have he2 : e.m = (twDoes pa pb pc pd T d.K d.off d.n d.c d.bs).2.2.1 := congrArg (fun z => z.2.1) he8
 have he3 : e.bs = (twDoes pa pb pc pd T d.K d.off d.n d.c d.bs).2.2.2 := congrArg (fun z => z.2.2) he8
 have haw : Own B0 H78 e.sl 1 bU e.bs := hai0.keep hk78.1 fun x _ h2 => hk78.2 x h2
 rw [he3] at haw
 show qao _ (anV e.cd e.m e.sl) _ _
 refine qao.s (hO78.rows (fun _ => rfl) (fun _ => rfl)) (haw.rows (fun _ => rfl) (fun _ => rfl)) hb8 hb8 ?_
 rw [decide_eq_true ⟨he1.symm, he2.symm, rfl⟩, Bool.not_true, qc, qg (n := (i : Int) + 1) (by omega) (by omega)]
 refine hit _ _ ⟨i + 1, G', L', _, _, by simp, by omega, hk78, by omega, fun x h1 h2 => ?_, hT78, ?_, fun x hx => ?_, hr2⟩ (by simp only; omega)
 ·have hxG : ¬ G x := fun hg => by have := lo x hg; omega
  rw [hu.1.2 x (by omega) hxG, hk8.2 x (by omega)]
  exact mid x h1 h2
 ·have := hW.does (K := d.K) (off := d.off) (n := d.n) (mask := d.c) (bs := d.bs) hdk.off hdk.n hdk.u8 (by omega) (by omega)
  have q1 : 15 + 40 * (i + 1) = 15 + 40 * i + 40 := by omega
  have q2 : (14 : Int) * ((i + 1 : Nat) : Int) = 14 * (i : Int) + 14 := by omega
  rw [q1, q2]; exact this
 ·rcases hu.2 x hx with hx | hx
  ·exact lo x hx
  ·exact ⟨by omega, .inr (by omega)⟩
theorem ql.t {x0 x1 x2 x3 : Int} {x4 x5 : Sl} {limits b : List Int} (_ : (Lit.int .i64 x0).wf = true) (_ : (Lit.int .i64 x1).wf = true) (_ : (Lit.int .i64 x2).wf = true) (_ : (Lit.int .i64 x3).wf = true)
  (hr1 : Abs.Rows H x4 1 iV limits) (_ : ∀ v ∈ limits, isI v) (_ : limits.length ≤ maxLen) (hr2 : Abs.Rows H x5 1 bU b) (h8 : ∀ v ∈ b, isB v) (_ : b.length ≤ maxLen) : ql (pl x0 x1 x2 x3) x4 x5 H (fun r _ => r = true) := by
 refine ql.link ?_
 unfold ql.b
 rw [qs]
 have hk1 : qa H (H.push ⟨pl x0 x1 x2 x3, .rw, 0⟩) := (qa.refl H).push _
 have g1 : (H.push ⟨pl x0 x1 x2 x3, .rw, 0⟩).get H.size = ⟨pl x0 x1 x2 x3, .rw, 0⟩ := by rw [qp, if_pos rfl]
 have hz1 : H.size < (H.push ⟨pl x0 x1 x2 x3, .rw, 0⟩).size := by simp [qe]
 generalize H.push ⟨pl x0 x1 x2 x3, .rw, 0⟩ = H1 at *
 have aw : ∀ x, x = true → ql.j4 x4 x5 (fun r _ => r = true) H.size H1 x := fun x hx => by
  unfold ql.j4
  rw [hx, qi]
  exact qca rfl
 by_cases hb6 : ((x5.n : Nat) : Int) > 600
 ·rw [decide_eq_true hb6, qi]; exact aw _ rfl
 rw [decide_eq_false hb6, qc]
 have hbl : b.length ≤ 600 := by have := hr2.1; omega
 by_cases hl2 : ((x4.n : Nat) : Int) > 200
 ·rw [decide_eq_true hl2]; exact aw _ rfl
 rw [decide_eq_false hl2]
 unfold ql.j4
 rw [qc, qo (plg_row g1)]
 have g : ∀ {H' : AH}, qa H1 H' → H'.get H.size = ⟨pl x0 x1 x2 x3, .rw, 0⟩ := fun hk => by rw [hk.2 _ hz1]; exact g1
 refine qaW.s (hr1.keep hk1) (hr2.keep hk1) h8 (by omega) ?_ ?_ ?_
 ·intro hm H27 hk27
  rw [qo (plg_row (g hk27))]
  refine qbi.s (hr1.keep (hk1.trans hk27)) ?_ (fun h => by rw [hm] at h; cases h) (fun h => by rw [hm] at h; cases h)
  intro _ H33 hk33
  rw [show ((1 : Int) != 1) = false from rfl, qc, qlV, show (!((!true) == ((1 : Int) == (0 : Int)))) = false from rfl, qc, qo (plg_row (g (hk27.trans hk33)))]
  refine qaf.s ?_
  rw [hm]
  unfold ql.j3
  rw [show (!(((1 : Int) == (1 : Int)) == (!false))) = false from rfl, qc, qlV, qi, show ((((0 : Nat) : Int) : Int) == 0) = true from rfl, qi]
  exact qca rfl
 ·intro hm he H27 hk27
  rw [qo (plg_row (g hk27))]
  refine qbi.s (hr1.keep (hk1.trans hk27)) (fun h => by rw [hm] at h; cases h) ?_ (fun _ h => by rw [he] at h; exact absurd h (by decide))
  intro _ _ H33 hk33
  rw [show ((3 : Int) != 3) = false from rfl, qc, qlV, show (!((!true) == ((3 : Int) == (0 : Int)))) = false from rfl, qc, qo (plg_row (g (hk27.trans hk33)))]
  refine qaf.s ?_
  rw [hm]
  unfold ql.j3
  rw [show (!(((3 : Int) == (1 : Int)) == (!true))) = false from rfl, qc, qlV, qi, show ((((0 : Nat) : Int) : Int) == 0) = true from rfl, qi]
  exact qca rfl
 ·intro hm he s27 H27 A hk27 hA hAA hrun hW
  rw [qo (plg_row (g hk27))]
  refine qbi.s (hr1.keep (hk1.trans hk27)) (fun h => by rw [hm] at h; cases h) (fun _ h => by rw [he] at h; exact absurd h (by decide)) ?_
  intro _ _ G H33 t p c L hk33 lo hT _
  rw [show ((0 : Int) != 0) = false from rfl, qc, qkS, show (!((!false) == ((0 : Int) == (0 : Int)))) = false from rfl, qc, qo (plg_row (g (hk27.trans hk33)))]
  refine qaf.s ?_
  rw [hm]
  unfold ql.j3
  rw [show (!(((0 : Int) == (1 : Int)) == (!true))) = false from rfl, qc, qkS, qc]
  refine qad.s (hr2.keep ((hk1.trans hk27).trans hk33)) h8 (by omega) ?_
  intro s63 H63 ops hk63 hO hOO hmap
  have hl : A.length = ops.length := by
   have := congrArg List.length hrun
   rw [qlq, qhE, ← hmap, qlq] at this
   exact this
  rw [own_len hA, own_len hO, hl, show ((((ops.length : Nat) : Int) : Int) != ((ops.length : Nat) : Int)) = false by simp, qc]
  exact qiZ hA hAA hO hOO hmap h8 (by omega) hrun hk33 hk63 lo hT hW fun H' => by unfold ql.j1; exact qca rfl
end
end Go.Proofs.YtdcbkjgoaknmkaaGreat
