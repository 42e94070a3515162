/- Lemmas for the law: an abstract machine, and what the functions do on it. No condition. -/
import Derived.Test.YtdcbkjgoaknmkaaGreatFT6
import Derived.ChangeSame
import Derived.Sort.Grow
import Derived.Sort.Row
set_option linter.all false
namespace Go.Abs
open Go.ChangeShapes Go.WideShapes Go.RowKit Go.Sort
theorem qkH {H : Type} {enc : TypeId × Value → H} {P : Program} {f : Func} {s : ChangeSpec} {apart fresh handsOn again : Bool} {W W' : World} {args : Array Value} {v : Value} {ds gs : List (DataW H)} {before pa pv : List MemPlace}
  (hW : DataW.Whole enc P f.params.toList s.vars apart W args.toList ds gs before)
  (hres : ∀ (b : Nat) (sp : Nat → Bool) (hd : Bool),DataW.TrodAll enc P W' b sp hd f.resultTypes.toList (v.resultList f.resultTypes.size) (s.fn H (ds ++ gs)).results [])
  (hargs : ∀ sp : Nat → Bool,(∀ p ∈ before,sp p.block = true) → DataW.TrodAll enc P W' 0 sp true f.params.toList args.toList (s.fn H (ds ++ gs)).args pa)
  (hvars : ∀ sp : Nat → Bool,(∀ p ∈ before,sp p.block = true) → DataW.TrodVars enc P W' sp s.vars (s.fn H (ds ++ gs)).vars pv)
  (hps : before = pa ++ pv) (hk : W.keptBut W' (· ∈ before)) (hfz : ∀ a,a.block < W.heap.size → W'.frozen? a = W.frozen? a)
  (hok : ∀ (j : Nat) (t : TypeId) (r : Value),f.resultTypes[j]? = some t → (v.resultList f.resultTypes.size)[j]? = some r → Value.okWide P W' .any 0 t r) :
  s.post enc P f apart fresh handsOn again W args v W' := by
 have all : ∀ x,x ∈ before ↔ x ∈ pa ++ pv := fun x => by rw [hps]
 have lt := fun x hx => hW.lt x hx
 have keep : W.keptBut W' (fun x => x ∈ before ∧ (x ∈ ([] : List MemPlace) ∨ x ∈ pa ∨ x ∈ pv)) := World.keptBut_mono (fun x hx => ⟨hx,.inr (List.mem_append.1 ((all x).1 hx))⟩) hk
 have rd := fun sp hsp => hargs sp hsp
 have low : ∀ x ∈ before,decide (x.block < W.heap.size) = true := fun x hx => decide_eq_true (lt x hx)
 obtain ⟨_,_,_,_,_,thaw,diff⟩ := id hW
 have both := fun sp hsp => trodAll_append (rd sp hsp) (hres 0 sp true)
 refine ⟨ds,gs,before,[],pa,pv,hW,hres _ _ _,rd (fun b => decide (b < W.heap.size)) low,hvars (fun b => decide (b < W.heap.size)) low,?_,fun _ => ⟨hok,_,_,([] ++ pa) ++ pv,⟨[] ++ pa,pv,both _ (fun _ _ => rfl),hvars _ (fun _ _ => rfl),rfl,fun b off hx => ?_,fun hd => ?_⟩,fun x hx _ => (all x).2 (by simpa using hx)⟩⟩
 ·exact World.keptBut_mono (fun x hx => ⟨hx,.inr (by have := List.mem_append.1 ((all x).1 hx); simpa using this)⟩) hk
 ·have hin := (all _).2 (by simpa using hx)
  rw [hfz ⟨b,off,none⟩ (lt _ hin)]
  exact thaw b off hin
 ·have := diff hd
  rw [hps] at this
  simpa using this
theorem Rel.grow {W w : World} {φ : Emb} {H : AH} (R : Rel W φ H w) (os : Array Obj) : Rel W φ H (grow w os) := by
 have hc : ∀ {b : Nat},b < w.heap.size → ∀ i,(Sort.grow w os).cell? ⟨b,i,none⟩ = w.cell? ⟨b,i,none⟩ := fun h i => cell?_grow w os _ h
 have hold : ∀ b,b < w.heap.size → (Sort.grow w os).heap[b]? = w.heap[b]? := fun b hb => by
  show (w.heap ++ os)[b]? = w.heap[b]?
  exact Array.getElem?_append_left hb
 refine { below := fun b hb => ?_,size := ?_,tape := R.tape,os := R.os,output := R.output,froz := fun b B hb i => ?_,dom := fun b B hb => ?_,cell := fun b B hb hd i v hv => ?_,room := fun b B hb hm => ?_,own := R.own,out := R.out }
 ·rw [hold b (Nat.lt_of_lt_of_le hb R.size)]; exact R.below b hb
 ·rw [size_grow]; have := R.size; omega
 ·rw [frozen?_grow w os _ (R.dom b B hb).2]; exact R.froz b B hb i
 ·have := R.dom b B hb
  rw [size_grow]; exact ⟨this.1,by omega⟩
 ·obtain ⟨v',h1,h2⟩ := R.cell b B hb hd i v hv
  exact ⟨v',by rw [hc (R.dom b B hb).2]; exact h1,h2⟩
 ·obtain ⟨h1,h2,h3⟩ := R.room b B hb hm
  exact ⟨h1,fun i hi => by rw [hc (R.dom b B hb).2]; exact h2 i hi,h3⟩
end Go.Abs
