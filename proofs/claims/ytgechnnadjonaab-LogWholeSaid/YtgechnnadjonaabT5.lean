import Derived.Test.YtgechnnadjonaabT4
set_option linter.all false
set_option linter.all false
namespace Go.Proofs.Ytgechnnadjonaab
open Go Go.Abs

section
variable {H : AH}

theorem mv_new {n : Nat} {l : List Int} : (Mem.new n l).mv = 0 := rfl
theorem K9.new {H H1 : AH} {t x n sp period o : Nat} {limits : List Int} {N : Nat} (hN : N = n + 1 + sp) (hk : Keeps H H1) (hT : TAt H1 t x (H.size + 1) H.size n sp period 0 (Mem.new N limits)) (ht : H.size ≤ t) (ho : o = H1.size) :
    K9 H (H1.push ⟨(List.replicate n (List.replicate 8 (0 : Int))).flatMap lineV, .rw, 8⟩) t x (H.size + 1) H.size n sp period 0 o (Mem.new N limits) (List.replicate n (List.replicate 8 0)) 0 := by
  subst ho
  have hlenM : (Mem.new N limits).cs.length = n + 1 + sp := by simp [Mem.new]; omega
  have hzero : ∀ i, i < sp → (Mem.new N limits).whose i = 0 := fun i hi => whose_new (by have := hT.l.sp16; omega)
  have hLV : LV (Mem.new N limits) (n + 1) sp 0 := LV.zero hlenM (by omega) hT.l.sp16 hzero
  have lp := hT.l.m.lp
  have lc := hT.l.m.lc
  have lx := hT.l.lx
  have lt := hT.lt
  refine ⟨hk.push _, hT.push _, ⟨by rw [push_get, if_pos rfl], by simp [push_size], ?_⟩, by simp, ⟨ht, by omega, by omega, by have := hk.1; omega⟩, by omega, hLV, rfl, rfl, fun s hs => ?_⟩
  · intro l hl; rw [List.eq_of_mem_replicate hl]; exact zero_line
  · unfold Mem.tview
    have hsl := slotN_le (mv := (Mem.new N limits).mv) (line := s) (show 1 ≤ n by omega)
    rw [view_zero hzero, Mem.new_cl (by omega)]; simp [List.getD_eq_getElem?_getD, hs]

end
end Go.Proofs.Ytgechnnadjonaab
