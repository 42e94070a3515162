import Derived.Test.YtgddfhnochcolaaU5
set_option linter.all false
set_option linter.all false
namespace Go.Proofs.Ytgddfhnochcolaa
open Go Go.Abs

/-! ### what is told -/
structure OpR where
  K : Int
  off : Int
  n : Int
  c : Int
  sl : Sl
  bs : List Int
def opRV (d : OpR) : List Value := opl d.K d.off d.n d.c d.sl
structure opROK (H : AH) (d : OpR) : Prop where
  off : isI d.off
  n : isI d.n
  rows : Abs.Rows H d.sl 1 bU d.bs
  u8 : ∀ v ∈ d.bs, isB v
structure AnR where
  cd : Int
  m : Int
  sl : Sl
  bs : List Int
def anRV (d : AnR) : List Value := ansl d.cd d.m d.sl
structure anROK (H : AH) (d : AnR) : Prop where
  m : isI d.m
  rows : Abs.Rows H d.sl 1 bU d.bs
  u8 : ∀ v ∈ d.bs, isB v
structure ToR where
  op : OpR
  an : AnR
def toldV (d : ToR) : List Value := opRV d.op ++ anRV d.an
structure toldOK (H : AH) (d : ToR) : Prop where
  op : opROK H d.op
  an : anROK H d.an
theorem toldV_len (d : ToR) : (toldV d).length = 8 := rfl
theorem toldV_ok (d : ToR) : (toldV d).all cellOK = true := rfl

section
variable {H : AH}
theorem darninglaw25_JudgeNil.t' {d : ToR} (_ : toldOK H d) : darninglaw25_JudgeNil (toldV d) H (fun r _ => r = true) := darninglaw25_JudgeNil.t (e := 0) (a := d.op.K) (b := d.op.off) (c := d.op.n) (d := d.op.c) (f := d.an.cd) (g := d.an.m) (s1 := d.op.sl) (s2 := d.an.sl)

structure ToAt (H : AH) (o : Nat) (d : ToR) : Prop where
  get : ∃ e, H.get o = ⟨toldV d, .rw, e⟩
theorem ToAt.c4 {o : Nat} {d : ToR} (h : ToAt H o d) : AH.cell? H (Addr.add (Addr.add ⟨o, 0, none⟩ 0) 4) = some (.slice d.op.sl.a d.op.sl.n d.op.sl.k) := by
  obtain ⟨e, h⟩ := h.get
  rw [addr_add, addr_add]; simp [AH.cell?, h, toldV, opRV, anRV, opl, ansl, Sl.val]
theorem ToAt.c7 {o : Nat} {d : ToR} (h : ToAt H o d) : AH.cell? H (Addr.add (Addr.add ⟨o, 0, none⟩ 5) 2) = some (.slice d.an.sl.a d.an.sl.n d.an.sl.k) := by
  obtain ⟨e, h⟩ := h.get
  rw [addr_add, addr_add]; simp [AH.cell?, h, toldV, opRV, anRV, opl, ansl, Sl.val]
theorem ToAt.r0 {o : Nat} {d : ToR} (h : ToAt H o d) : AH.row? H (Addr.add ⟨o, 0, none⟩ 0) 5 = some (opl d.op.K d.op.off d.op.n d.op.c d.op.sl) := by
  obtain ⟨e, h⟩ := h.get
  rw [addr_add]
  simp only [AH.row?, h, Option.isSome_none, Bool.false_eq_true, if_false]
  rw [if_neg (by simp)]
  rfl
theorem ToAt.r5 {o : Nat} {d : ToR} (h : ToAt H o d) : AH.row? H (Addr.add ⟨o, 0, none⟩ 5) 3 = some (ansl d.an.cd d.an.m d.an.sl) := by
  obtain ⟨e, h⟩ := h.get
  rw [addr_add]
  simp only [AH.row?, h, Option.isSome_none, Bool.false_eq_true, if_false]
  rw [if_neg (by simp)]
  rfl
theorem ToAt.keep {H' : AH} {o : Nat} {d : ToR} (h : ToAt H o d) (hg : H'.get o = H.get o) : ToAt H' o d := by obtain ⟨e, h⟩ := h.get; exact ⟨e, hg.trans h⟩

theorem seeP_ok {F : Nat → Prop} {H' : AH} {j : Nat} {r : Bool × List Int × Int × Bool} (h : JW F H' j r.2.1 r.2.2.1 r.2.2.2) : Ok r.2.1 := h.ok

theorem darninglaw25_JudgeSees.t {x0 : Int} {x1 : Sl} {l : List ToR} (h0 : (Lit.int .i64 x0).wf = true) (hr : Abs.Rows H x1 8 toldV l) (hok : ∀ d ∈ l, toldOK H d) (_ : l.length ≤ maxLen) : darninglaw25_JudgeSees x0 x1 H (fun r _ => r = true) := by
  have aw : ∀ H', darninglaw25_awake H' fun b _ => b = true := fun H' => darninglaw25_awake.s fun _ => rfl
  refine darninglaw25_JudgeSees.link ?_
  unfold darninglaw25_JudgeSees.b
  rw [hr.1]
  by_cases hbig : ((l.length : Nat) : Int) > 100
  · rw [decide_eq_true hbig, bcase_true]; exact aw _
  rw [decide_eq_false hbig, bcase_false]
  refine judge_New.s (fun hm => ?_) ?_
  · refine darningref4_NewModel.s (fun _ => ?_) (fun hh => absurd hh hm)
    rw [bcase_eq, if_neg (by simp)]
    rw [Option.isNone_none, bcase_true]
    exact aw H
  intro hm F1 p15 H15 hk15 hu15 hJ15
  refine darningref4_NewModel.s (fun hh => absurd hm hh) ?_
  intro _ G2 p17 H17 hk17 hu17 hR17
  rw [bcase_eq, if_neg (by simp), Option.isNone_some, bcase_false, newC_eq]
  have hk28 := (Keeps.refl H17).push ⟨[.pointer (some ⟨p17, 0, none⟩), .bool false], .rw, 0⟩
  have hg28 : (H17.push ⟨[.pointer (some ⟨p17, 0, none⟩), .bool false], .rw, 0⟩).get H17.size = ⟨[.pointer (some ⟨p17, 0, none⟩), .bool false], .rw, 0⟩ := by rw [push_get, if_pos rfl]
  have hz28 : (H17.push ⟨[.pointer (some ⟨p17, 0, none⟩), .bool false], .rw, 0⟩).size = H17.size + 1 := rfl
  generalize H17.push ⟨[.pointer (some ⟨p17, 0, none⟩), .bool false], .rw, 0⟩ = H28 at *
  have hs15 := hk15.1
  have hs17 := hk17.1
  have hge1 : ∀ b, F1 b → H.size ≤ b ∧ b < H15.size := fun b hb => by rcases hu15.2 b hb with h | h; exact h.elim; exact h
  have hge2 : ∀ b, G2 b → H15.size ≤ b ∧ b < H17.size := fun b hb => by rcases hu17.2 b hb with h | h; exact h.elim; exact h
  have hJR : JR (fun b => H15.size ≤ b ∧ b < H28.size) H28 H17.size (firstN x0) 0 false :=
    ⟨p17, G2, hg28, hR17.keeps hk28, ⟨hs17, by omega⟩, fun b hb => by have := hge2 b hb; exact ⟨this.1, by omega⟩, fun hb => by have := hge2 _ hb; omega, fun b hb => hb.2⟩
  have hJ28 := (hJ15.keeps hk17).keeps hk28
  have hlow : ∀ b, F1 b → H.size ≤ b := fun b hb => (hge1 b hb).1
  refine loopT_inv (t := ((false, (0 : Int)) : Bool × Int)) (I := fun (t : Bool × Int) H' => ∃ (i : Nat) (A B : Nat → Prop) (ws : List Int) (root : Int) (worn : Bool), t.2 = (i : Int) ∧ i ≤ l.length ∧ Keeps H H' ∧ JW A H' p15 ws root worn ∧ JR B H' H17.size ws root worn ∧ Dj A B ∧ (∀ b, A b ∨ B b → H.size ≤ b)) (m := fun (t : Bool × Int) _ => Int.toNat ((l.length : Int) - t.2)) ?_ ⟨0, F1, _, firstN x0, 0, false, rfl, by omega, (hk15.trans hk17).trans hk28, hJ28, hJR, fun b h1 h2 => by have := hge1 b h1; omega, fun b hb => by rcases hb with hb | hb; exact hlow b hb; omega⟩
  rintro ⟨t0, t2⟩ H1 ⟨i, A, B, ws, root, worn, e1, hi, hk, hJ, hR, hD, hG⟩ it hit
  simp only at e1
  subst e1
  unfold darninglaw25_JudgeSees.l4
  simp only [bcase_eq, decide_eq_true_eq, hr.1]
  by_cases hlt : (i : Int) < (l.length : Int)
  rotate_left 1
  · rw [if_neg hlt]
    exact aw _
  rw [if_pos hlt]
  have hi' : i < l.length := by omega
  obtain ⟨b, ofs, ha, hb, hcells⟩ := rows_cells (hr.keep hk) (by omega)
  refine ⟨by omega, ?_⟩
  rw [ha, onPtr_mk, Int.toNat_natCast, ldA_some (hcells i _ (List.getElem?_eq_getElem hi')).1]
  have hd := hok _ (List.getElem_mem hi')
  generalize l[i] = d at *
  refine new_row (n := 8) rfl (toldV_len d) (toldV_ok d) ?_
  obtain ⟨H2, hH2⟩ : ∃ H2, H2 = H1.push ⟨toldV d, .rw, 0⟩ := ⟨_, rfl⟩
  have hT : ToAt H2 H1.size d := ⟨0, by rw [hH2, push_get, if_pos rfl]⟩
  have hk2 : Keeps H1 H2 := by rw [hH2]; exact (Keeps.refl H1).push _
  have hz2 : H1.size < H2.size := by rw [hH2]; simp [push_size]
  rw [← hH2]
  clear hH2
  have hJ2 := hJ.keeps hk2
  have hR2 := hR.keeps hk2
  have hnA : ¬ A H1.size := fun h => by have := hJ.lt _ h; omega
  have hnB : ¬ B H1.size := fun h => by have := hR.lt _ h; omega
  have hK2 := hk.trans hk2
  have hh1 := hk.1
  have j3 : ∀ x : Bool, (x = false → d.op.sl.n ≤ 500 ∧ d.an.sl.n ≤ 500) → darninglaw25_JudgeSees.j3 (fun r _ => r = true) (some ⟨p15, 0, none⟩) H17.size (t0, (i : Int)) it H1.size H2 x := by
    intro x hx
    unfold darninglaw25_JudgeSees.j3
    rw [bcase_eq]
    by_cases hx' : x = true
    · rw [if_pos hx']; exact aw _
    rw [if_neg hx', ldA_some hT.r0, ldA_some hT.r5, ldA_some hT.r0, ldA_some hT.r5]
    obtain ⟨hn1, hn2⟩ := hx (by cases x; rfl; exact absurd rfl hx')
    have hbl : d.op.bs.length ≤ 500 := by have := hd.op.rows.1; omega
    refine judge_Judge_See.s hJ2 hd.op.off hd.op.n hd.an.m (hd.op.rows.keep hK2) hd.op.u8 (by omega) (hd.an.rows.keep hK2) hd.an.u8 ?_
    intro r hs A' H53 hu53 hJ53
    have hT53 := hT.keep (hu53.1.2 _ hz2 hnA)
    refine ⟨hT53.r5, hT53.r0, ?_⟩
    have hK53 : Keeps H H53 := ⟨by have := hu53.1.1; have := hK2.1; omega, fun b hb => by rw [hu53.1.2 b (by have := hK2.1; omega) (fun hh => by have := hG b (.inl hh); omega), hK2.2 b hb]⟩
    have hR53 := hR2.up hu53 hD
    refine darningref4_Judge_See.s hJ2.ok hR53 hd.op.off hd.op.n hd.an.m (hd.op.rows.keep hK53) hd.op.u8 (by omega) (hd.an.rows.keep hK53) hd.an.u8 ?_
    intro r2 hs2 B' H59 hu59 hR59
    rw [hs] at hs2
    subst hs2
    clear hs
    obtain ⟨rv, ws', root', worn'⟩ := r
    simp only at hJ53 hR59
    have hD1 : Dj A' B := hu53.dj hD hR2.lt
    have hJ59 := hJ53.up hu59 hD1.symm
    have hD2 : Dj B' A' := hu59.dj hD1.symm hJ53.lt
    have hK59 : Keeps H H59 := ⟨by have := hu59.1.1; have := hK53.1; omega, fun b hb => by rw [hu59.1.2 b (by have := hK53.1; omega) (fun hh => by have := hG b (.inr hh); omega), hK53.2 b hb]⟩
    have hG59 : ∀ b, A' b ∨ B' b → H.size ≤ b := fun b hb => by
      have h53 := hK53.1
      have hk2' := hK2.1
      rcases hb with hb | hb
      · rcases hu53.2 b hb with h | h
        · exact hG b (.inl h)
        · omega
      · rcases hu59.2 b hb with h | h
        · exact hG b (.inr h)
        · omega
    rw [beq_self_eq_true, Bool.not_true, bcase_false]
    have hokw := hJ59.ok
    obtain ⟨rp, rG, hRs⟩ := hR59
    rw [hRs.c1, elB_some]
    refine judge_Judge_Worn.s hJ59 ?_
    refine ⟨hRs.c1, ?_⟩
    rw [beq_self_eq_true, Bool.not_true, bcase_false, hRs.c0, elP_some, onPtr_mk]
    obtain ⟨sw, hRW⟩ := hRs.m
    rw [hRW.c1, elI_some]
    refine judge_Judge_Root.s hJ59 ?_
    refine ⟨hRW.c1, hRs.c0, ?_⟩
    rw [bcase_eq, if_neg (by simp), hRs.c0, elP_some]
    refine judge_Judge_Blocks.s hJ59 ?_
    intro s84 H84 hk84 hO84
    refine ⟨(hRs.keeps hk84).c0, ?_⟩
    refine darningref4_Model_Blocks.s hokw (RM.keeps (⟨sw, hRW⟩ : RM rG H59 rp ws' root') hk84) ?_
    intro s89 H89 hk89 hO89
    have hbl2 := hokw.blen.1
    refine darningref4_SameBlocks.s ((hO84.rows bkV_len bkV_ok).keep hk89) (hO89.rows bkV_len bkV_ok) (by omega) ?_
    unfold darninglaw25_JudgeSees.j2
    rw [Bool.not_true, bcase_false]
    show it (t0, IntKind.wrap .i64 ((i : Int) + 1)) H89
    rw [wrap_i64 (n := (i : Int) + 1) (by omega) (by omega)]
    have hkk := hk84.trans hk89
    exact hit _ _ ⟨i + 1, A', B', ws', root', worn', by simp, by omega, hK59.trans hkk, hJ59.keeps hkk, ⟨rp, rG, hRs.keeps hkk⟩, hD2.symm, hG59⟩ (by simp only; omega)
  rw [hT.c4, elL_some]
  by_cases hb1 : ((d.op.sl.n : Nat) : Int) > 500
  · rw [if_pos hb1]; exact j3 true (fun hh => by cases hh)
  · rw [if_neg hb1, hT.c7, elL_some]
    refine j3 _ (fun hh => ?_)
    have : ¬ ((d.an.sl.n : Nat) : Int) > 500 := by simpa using hh
    omega
end
end Go.Proofs.Ytgddfhnochcolaa
