import Derived.Test.YtgechnnadjonaabN13
set_option linter.all false
set_option linter.all false
namespace Go.Proofs.Ytgechnnadjonaab
open Go Go.Abs

structure KL (H0 H : AH) (g t x p c nn sp per puts o : Nat) (M : Mem) (ws : List (List Int)) (mvb : Nat) : Prop where
  keeps : Keeps H0 H
  gat : GAt H g t x p c (16 + nn) sp per puts M
  calm : Calm (16 + nn) sp per M puts mvb (16 + nn + 1 + sp)
  w : WantAt H o ws
  wl : ws.length = nn
  low : H0.size ≤ g ∧ H0.size ≤ t ∧ H0.size ≤ p ∧ H0.size ≤ c ∧ H0.size ≤ x ∧ H0.size ≤ o
  op : o ≠ g ∧ o ≠ t ∧ o ≠ p ∧ o ≠ c ∧ o ≠ x

section
variable {H0 H H' : AH} {g t x p c nn sp per puts puts' o mvb mvb' : Nat} {M M' : Mem} {ws ws' : List (List Int)}
theorem KL.push (h : KL H0 H g t x p c nn sp per puts o M ws mvb) (ob : AObj) : KL H0 (H.push ob) g t x p c nn sp per puts o M ws mvb :=
  ⟨h.keeps.push _, h.gat.push _, h.calm, h.w.push _, h.wl, h.low, h.op⟩
theorem KL.step (h : KL H0 H g t x p c nn sp per puts o M ws mvb) (hG : GAt H' g t x p c (16 + nn) sp per puts' M') (hC : Calm (16 + nn) sp per M' puts' mvb' (16 + nn + 1 + sp)) (f : Frt H H' t p c) : KL H0 H' g t x p c nn sp per puts' o M' ws mvb' :=
  ⟨f.keeps h.keeps h.low.2.1 h.low.2.2.1 h.low.2.2.2.1, hG, hC, h.w.keep (f.get o h.w.lt h.op.2.1 h.op.2.2.1 h.op.2.2.2.1) f.size, h.wl, h.low, h.op⟩
theorem GAt.other (h : GAt H g t x p c nn sp per puts M) (ho : o ≠ g ∧ o ≠ t ∧ o ≠ p ∧ o ≠ c ∧ o ≠ x) (hg : ∀ b, b ≠ o → H'.get b = H.get b) (hs : H'.size = H.size) : GAt H' g t x p c nn sp per puts M := by
  have hl := h.tn.l
  obtain ⟨o1, o2, o3, o4, o5⟩ := ho
  refine ⟨by rw [hg g (Ne.symm o1), h.hg], by rw [hs]; exact h.lg, h.ne, ?_, h.n16⟩
  exact ⟨by rw [hg t (Ne.symm o2)]; exact h.tn.ht, by rw [hs]; exact h.tn.lt, h.tn.tp, h.tn.tc, h.tn.tx, ⟨by rw [hg x (Ne.symm o5), hl.hx], by rw [hs]; exact hl.lx, hl.xp, hl.xc, hl.m.keep (by rw [hs]; exact Nat.le_refl _) (hg p (Ne.symm o3)) (hg c (Ne.symm o4)), hl.len, hl.n1, hl.sp16⟩, h.tn.n1, h.tn.per, h.tn.pl, h.tn.mv⟩
theorem KL.want (h : KL H0 H g t x p c nn sp per puts o M ws mvb) {i : Nat} (hi : i < nn) {l : List Int} (hl : isLine l) :
    AH.canPut H (Addr.add ⟨o, 0, none⟩ (i * 8)) (lineV l).length ∧ KL H0 (AH.put H (Addr.add ⟨o, 0, none⟩ (i * 8)) (lineV l)) g t x p c nn sp per puts o M (ws.set i l) mvb := by
  obtain ⟨w1, w2, w3⟩ := h.w.put (i := i) (by rw [h.wl]; exact hi) hl
  have hs : (AH.put H (Addr.add ⟨o, 0, none⟩ (i * 8)) (lineV l)).size = H.size := rfl
  refine ⟨w1, ⟨by rw [hs]; exact h.keeps.1, fun b hb => by rw [w3 b (by have := h.low.2.2.2.2.2; omega)]; exact h.keeps.2 b hb⟩, h.gat.other h.op w3 hs, h.calm, w2, by simp [h.wl], h.low, h.op⟩
end

section
variable {H : AH}
theorem KL.new {H1 : AH} {g t x nn sp per o : Nat} {limits : List Int} (hnn : 1 ≤ nn) (hsp : sp ≤ 16) (hk : Keeps H H1) (hG : GAt H1 g t x (H.size + 1) H.size (16 + nn) sp per 0 (Mem.new (16 + nn + 1 + sp) limits)) (hg : H.size ≤ g) (ht : H.size ≤ t) (hx : H.size ≤ x) (ho : o = H1.size) :
    KL H (H1.push ⟨(List.replicate nn (List.replicate 8 (0 : Int))).flatMap lineV, .rw, 8⟩) g t x (H.size + 1) H.size nn sp per 0 o (Mem.new (16 + nn + 1 + sp) limits) (List.replicate nn (List.replicate 8 0)) 0 := by
  subst ho
  have hLV : LV (Mem.new (16 + nn + 1 + sp) limits) (16 + nn + 1) sp 0 := LV.zero (by simp [Mem.new]) (by omega) hsp fun i hi => whose_new (by omega)
  have lp := hG.tn.l.m.lp
  have lc := hG.tn.l.m.lc
  have lx := hG.tn.l.lx
  have lt := hG.tn.lt
  have lg := hG.lg
  refine ⟨hk.push _, hG.push _, ⟨hG.pst hLV (by rw [mv_new]; omega), rfl, rfl⟩, ⟨by rw [push_get, if_pos rfl], by simp [push_size], ?_⟩, by simp, ⟨hg, ht, by omega, Nat.le_refl _, hx, hk.1⟩, by omega⟩
  intro l hl; rw [List.eq_of_mem_replicate hl]; exact zero_line

theorem get_new {nn sp : Nat} {limits : List Int} (hnn : 1 ≤ nn) (hsp : sp ≤ 16) (i : Nat) (hi : i < nn) : getN (16 + nn) sp (Mem.new (16 + nn + 1 + sp) limits) ((16 + i : Nat) : Int) = ((List.replicate nn (List.replicate 8 (0 : Int))).getD i [], 0) := by
  have hzero : ∀ i, i < sp → (Mem.new (16 + nn + 1 + sp) limits).whose i = 0 := fun i hi => whose_new (by omega)
  rw [get_clean rfl rfl (by omega), Int.toNat_natCast]
  unfold Mem.tview
  have hsl := slotN_le (mv := (Mem.new (16 + nn + 1 + sp) limits).mv) (line := 16 + i) (n := 16 + nn) (by omega)
  rw [view_zero hzero, Mem.new_cl (by omega)]; simp [List.getD_eq_getElem?_getD, hi]

end
end Go.Proofs.Ytgechnnadjonaab
