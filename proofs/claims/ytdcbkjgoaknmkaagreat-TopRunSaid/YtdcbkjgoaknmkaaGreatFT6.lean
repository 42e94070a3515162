/- Lemmas for the law: an abstract machine, and what the functions do on it. No condition. -/
import Derived.Test.YtdcbkjgoaknmkaaGreatFT5
import Derived.SizedLaws
set_option linter.all false
namespace Go.Abs
open Go.RowKit
theorem qgM {H : Type} {enc : TypeId × Value → H} {P : Program} {W : World} {ts : List TypeId} {ds : List (DataW H)} {j : Nat} {t e : TypeId} {a : Option Addr} {n c : Nat} {d : DataW H} {ps : List MemPlace}
  (hsz : (DataW.weightsEach P ts ds).all (· ≤ reachBytes) = true) (ht : ts[j]? = some t) (hd : ds[j]? = some d) (hu : P.underlying t = some (.slice e)) (h : DataW.Trod enc P W 0 (fun _ => true) true t (.slice a n c) d ps) :
  n * P.bytesOf e ≤ reachBytes := by
 obtain ⟨fuel,h⟩ := h
 rcases DataW.trod_slice hu h with ⟨e1,_⟩ | ⟨a',len,cap,elems,rest,_,_,e1,e2,_,_,_,e3,_⟩
 ·simp only [Value.cells,List.cons.injEq,and_true] at e1
  injection e1 with _ h2 _
  subst h2
  rw [Nat.zero_mul]; exact Nat.zero_le _
 ·simp only [Value.cells,List.cons.injEq,and_true] at e1
  injection e1 with _ h2 _
  injection e2 with e2 _
  subst e2
  have hs := sized_slice hsz ht hd hu
  simp only [List.length_map] at hs
  have hle : n * P.bytesOf e ≤ (elems.length + rest.length) * P.bytesOf e := Nat.mul_le_mul_right _ (by omega)
  omega
end Go.Abs
