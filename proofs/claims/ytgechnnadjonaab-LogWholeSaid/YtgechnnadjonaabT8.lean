import Derived.Test.YtgechnnadjonaabT7
set_option linter.all false
set_option linter.all false
namespace Go.Proofs.Ytgechnnadjonaab
open Go Go.Abs

section
variable {H0 H H' H2 : AH} {t x p c n sp period puts puts' o k : Nat} {M M' : Mem} {ws : List (List Int)}
/-- The array is written before the Put. -/
theorem K9.put0 (h : K9 H0 H t x p c n sp period puts o M ws k) {line : Nat} {d : List Int} (hl : line < n) (hd : isLine d) :
    AH.canPut H (Addr.add ⟨o, 0, none⟩ (line * 8)) (lineV d).length ∧ ∃ H1, AH.put H (Addr.add ⟨o, 0, none⟩ (line * 8)) (lineV d) = H1 ∧ WantAt H1 o (ws.set line d) ∧ TAt H1 t x p c n sp period puts M ∧ Keeps H0 H1 := by
  obtain ⟨w1, w2, w3⟩ := h.w.put (i := line) (by rw [h.wl]; exact hl) hd
  refine ⟨w1, _, rfl, w2, ?_, ?_⟩
  · have hl := h.tn.l
    exact ⟨by rw [w3 t (Ne.symm h.op.1)]; exact h.tn.ht, h.tn.lt, h.tn.tp, h.tn.tc, h.tn.tx, ⟨by rw [w3 x (Ne.symm h.op.2.2.2), hl.hx], hl.lx, hl.xp, hl.xc, hl.m.keep (Nat.le_refl _) (w3 p (Ne.symm h.op.2.1)) (w3 c (Ne.symm h.op.2.2.1)), hl.len, hl.n1, hl.sp16⟩, h.tn.n1, h.tn.per, h.tn.pl, h.tn.mv⟩
  · exact ⟨h.keeps.1, fun b hb => by rw [w3 b (by have := h.low.2.2.2; omega)]; exact h.keeps.2 b hb⟩
theorem K9.done (h : K9 H0 H t x p c n sp period puts o M ws k) {line may : Nat} {d : List Int} (hl : line < n) (hW : WantAt H' o (ws.set line d)) (hk0 : Keeps H0 H')
    (hT : TAt H2 t x p c n sp period puts' M') (f : Frt H' H2 t p c) (hP : TPut n sp M (some line) d k may M' 0) : ∃ k', K9 H0 H2 t x p c n sp period puts' o M' (ws.set line d) k' := by
  obtain ⟨⟨k', hk', hlv, he3⟩, h2, h3, h4, h5, h6, h7, h8⟩ := hP
  have hlo := h.low
  have hw := hW.keep (f.get o hW.lt h.op.1 h.op.2.1 h.op.2.2.1) f.size
  rcases h7 with ⟨_, hd, hv⟩ | ⟨e1, _⟩ | ⟨e1, _⟩
  · refine ⟨k', f.keeps hk0 hlo.1 hlo.2.1 hlo.2.2.1, hT, hw, by simp [h.wl], hlo, h.op, hlv, h8 h.cut, hd, fun s hs' => ?_⟩
    by_cases hss : s = line
    · subst hss; rw [hv s rfl, List.getD_eq_getElem?_getD, List.getElem?_set_self (by rw [h.wl]; exact hs')]; rfl
    · rw [h2 s hs' (by simp; omega), h.view s hs', List.getD_eq_getElem?_getD, List.getD_eq_getElem?_getD, List.getElem?_set_ne (by omega)]
  · omega
  · omega
end

section
variable {H : AH}

theorem isLine2 {a b : Int} (ha : isU a) (hb : isU b) : isLine [a, b, 0, 0, 0, 0, 0, 0] := ⟨rfl, fun v hv => by
  simp only [List.mem_cons, List.not_mem_nil, or_false] at hv
  rcases hv with rfl | rfl | rfl | rfl | rfl | rfl | rfl | rfl <;> first | assumption | (unfold isU; omega)⟩
theorem isU_wrap (z : Int) : isU (IntKind.wrap .u64 z) := by
  unfold isU
  simp only [IntKind.wrap, IntKind.bits, IntKind.signed, Bool.false_and, Int.reducePow, Bool.false_eq_true, if_false]; omega

end
end Go.Proofs.Ytgechnnadjonaab
