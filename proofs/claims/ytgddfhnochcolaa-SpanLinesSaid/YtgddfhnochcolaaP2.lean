import Derived.Test.YtgddfhnochcolaaP1
set_option linter.all false
namespace Go.Proofs.Ytgddfhnochcolaa
open Go Go.Abs

section
variable {a b c d x y : Int} {H : AH} {e : Nat}

theorem pl_nil : ([(Value.int .i64 (0 : Int)), (Value.int .i64 (0 : Int)), (Value.int .i64 (0 : Int)), (Value.int .i64 (0 : Int))] : List Value) = pl 0 0 0 0 := rfl
theorem pl_put (p q r s p' q' r' s' : Int) : AH.put (H.push ⟨pl p q r s, .rw, e⟩) ⟨H.size, 0, none⟩ [(Value.int .i64 p'), (Value.int .i64 q'), (Value.int .i64 r'), (Value.int .i64 s')] = H.push ⟨pl p' q' r' s', .rw, e⟩ := put_new _ _ _ _ _
theorem pl_put0 (v : Int) : AH.put (H.push ⟨pl a b c d, .rw, e⟩) (Addr.add ⟨H.size, 0, none⟩ 0) [(Value.int .i64 v)] = H.push ⟨pl v b c d, .rw, e⟩ := put_new _ _ _ _ _
theorem pl_put1 (v : Int) : AH.put (H.push ⟨pl a b c d, .rw, e⟩) (Addr.add ⟨H.size, 0, none⟩ 1) [(Value.int .i64 v)] = H.push ⟨pl a v c d, .rw, e⟩ := put_new _ _ _ _ _
theorem pl_put2 (v : Int) : AH.put (H.push ⟨pl a b c d, .rw, e⟩) (Addr.add ⟨H.size, 0, none⟩ 2) [(Value.int .i64 v)] = H.push ⟨pl a b v d, .rw, e⟩ := put_new _ _ _ _ _
theorem pl_put3 (v : Int) : AH.put (H.push ⟨pl a b c d, .rw, e⟩) (Addr.add ⟨H.size, 0, none⟩ 3) [(Value.int .i64 v)] = H.push ⟨pl a b c v, .rw, e⟩ := put_new _ _ _ _ _
theorem pl_can : AH.canPut (H.push ⟨pl a b c d, .rw, e⟩) ⟨H.size, 0, none⟩ 4 := canPut_new.2 (by simp [pl])
theorem pl_can0 : AH.canPut (H.push ⟨pl a b c d, .rw, e⟩) (Addr.add ⟨H.size, 0, none⟩ 0) 1 := canPut_new.2 (by simp [pl])
theorem pl_can1 : AH.canPut (H.push ⟨pl a b c d, .rw, e⟩) (Addr.add ⟨H.size, 0, none⟩ 1) 1 := canPut_new.2 (by simp [pl])
theorem pl_can2 : AH.canPut (H.push ⟨pl a b c d, .rw, e⟩) (Addr.add ⟨H.size, 0, none⟩ 2) 1 := canPut_new.2 (by simp [pl])
theorem pl_can3 : AH.canPut (H.push ⟨pl a b c d, .rw, e⟩) (Addr.add ⟨H.size, 0, none⟩ 3) 1 := canPut_new.2 (by simp [pl])

end
end Go.Proofs.Ytgddfhnochcolaa
