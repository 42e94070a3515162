import Derived.Test.YtgechnnadjonaabN8
set_option linter.all false
set_option linter.all false
namespace Go.Proofs.Ytgechnnadjonaab
open Go Go.Abs

section
variable {H H' : AH} {g t x p c n sp per puts : Nat} {M M' : Mem}
theorem GAt.mem (h : GAt H g t x p c n sp per puts M) (hm : MemAt H' p c M') (f : Frm H H' p c) (hl : M'.cs.length = M.cs.length) (hmv : M'.mv ≤ 4611686018427387904) : GAt H' g t x p c n sp per puts M' :=
  h.step (h.tn.mem ⟨by rw [f.get _ h.tn.l.xp h.tn.l.xc, h.tn.l.hx], by rw [f.size]; exact h.tn.l.lx, h.tn.l.xp, h.tn.l.xc, hm, hl.trans h.tn.l.len, h.tn.l.n1, h.tn.l.sp16⟩ f hmv) (Frt.of_frm f)

end
section
variable {H : AH}
theorem darninglaw12_sized.s {x0 x1 x2 : Int} {k : Int → Int → Int → AH → Prop}
    (h : ∀ nn sp per : Nat, 1 ≤ nn ∧ nn ≤ 20 → sp ≤ 16 → 1 ≤ per ∧ per ≤ 20 → (nn : Int) = 1 + Int.tmod (IntKind.wrap .u64 x0) 20 → (sp : Int) = Int.tmod (IntKind.wrap .u64 x1) 17 → k nn sp per H) : darninglaw12_sized x0 x1 x2 H k := by
  have hx := umod (m := 20) (by omega) x0
  have hy := umod (m := 17) (by omega) x1
  have hz := umod (m := 20) (by omega) x2
  refine darninglaw12_sized.link ?_
  unfold darninglaw12_sized.b
  refine ⟨by decide, by decide, by decide, ?_⟩
  have e0 := wrap_i64 (n := Int.tmod (IntKind.wrap .u64 x0) 20) (by omega) (by omega)
  have e1 := wrap_i64 (n := Int.tmod (IntKind.wrap .u64 x1) 17) (by omega) (by omega)
  have e2 := wrap_i64 (n := Int.tmod (IntKind.wrap .u64 x2) 20) (by omega) (by omega)
  obtain ⟨nn, hn⟩ := Int.eq_ofNat_of_zero_le (show 0 ≤ 1 + Int.tmod (IntKind.wrap .u64 x0) 20 by omega)
  obtain ⟨sp, hsp⟩ := Int.eq_ofNat_of_zero_le hy.1
  obtain ⟨per, hper⟩ := Int.eq_ofNat_of_zero_le (show 0 ≤ 1 + Int.tmod (IntKind.wrap .u64 x2) 20 by omega)
  rw [e0, e1, e2, hn, hsp, hper, wrap_i64 (n := (nn : Int)) (by omega) (by omega), wrap_i64 (n := (per : Int)) (by omega) (by omega)]
  exact h nn sp per (by omega) (by omega) (by omega) hn.symm hsp.symm

theorem not_may_nil {n : Int} : ¬ MayL n [] := fun h => by have := h.2.1; simp at this

end
end Go.Proofs.Ytgechnnadjonaab
