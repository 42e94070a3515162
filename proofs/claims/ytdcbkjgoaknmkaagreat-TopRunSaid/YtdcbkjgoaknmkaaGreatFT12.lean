/- Lemmas for the law: an abstract machine, and what the functions do on it. No condition. -/
import Derived.Test.YtdcbkjgoaknmkaaGreatFT11
import Derived.Test.YtdcbkjgoaknmkaaGreatProg
import Derived.WalkKit
import Derived.Deep.RegionLaw
import Derived.Laws.IdiomCopy
set_option linter.all false
set_option linter.all false
namespace Go.Proofs.YtdcbkjgoaknmkaaGreat
open Go Go.RowKit
theorem info168 : (Tryz.prog.info? 168).map (fun i => (i.zero,i.size,i.bytes)) = some (some (.agg #[.int .i64 0,.int .i64 0,.slice none 0 0]),3,40) := by kernel_rfl
theorem zero103 (w : World) : (zeroValue 168).run Tryz.prog w = .ok (.agg #[.int .i64 0,.int .i64 0,.slice none 0 0]) w := by kernel_rfl
def zex : List Value := [.int .i64 0,.int .i64 0,.slice none 0 0]
theorem qb7 (b : Nat) (vs : List Value) (o : Nat) {w : World} {x : Addr} (h : (w.cell? x).isSome = true) : ((w.setCells b o vs).cell? x).isSome = true := by
 induction vs generalizing o w with
 | nil => exact h
 | cons v vs ih =>
  refine ih (o + 1) ?_
  by_cases e : (⟨b,o,none⟩ : Addr) = x
  ·subst e
   obtain ⟨u,hu⟩ := Option.isSome_iff_exists.1 h
   rw [World.cell?_setCell_same _ _ _ hu]; rfl
  ·rw [World.cell?_setCell_other _ _ _ _ e]; exact h
theorem qif (W : World) (ty : TypeId) (blk o c : Nat) (hc : ∀ j,j < 3 → (W.cell? ⟨blk,o + j,none⟩).isSome = true) (hf : ∀ j,j < 3 → W.frozen? ⟨blk,o + j,none⟩ = false) :
  (Builtin.clear_ #[154] ty #[.slice (some ⟨blk,o,none⟩) 1 c]).run Tryz.prog W = .ok (.tuple #[]) (W.setCells blk o zex) := by
 have hst := run_storeCells_cells (P := Tryz.prog) blk o zex 0 W (fun j hj => hc j hj) (fun j hj => hf j hj) (by
  intro v hv
  simp only [zex,List.mem_cons,List.not_mem_nil,or_false] at hv
  rcases hv with rfl | rfl | rfl <;> rfl)
 have hz : (Builtin.zeroCells (Value.agg #[.int .i64 0,.int .i64 0,.slice none 0 0]).cells 1).toList = zex := by kernel_rfl
 simp [Builtin.clear_,run_underlying Tryz.underlying154,zero103,hz,hst]
set_option maxRecDepth 1000000 in
theorem del_any (blk n cap i : Nat) (cs : List Value) (w : World) (hi : i < n) (hl : n ≤ cap) (hm : n ≤ 1000000000) (hn : cs.length = n * 3)
  (hc : ∀ j u,cs[j]? = some u → w.cell? ⟨blk,j,none⟩ = some u) (hf : ∀ j,w.frozen? ⟨blk,j,none⟩ = false) (h1 : ∀ u ∈ cs,u.oneCell' = true) :
  Calls Tryz.prog 188 #[.slice (some ⟨blk,0,none⟩) n cap,.int .i64 i,.int .i64 ((i : Int) + 1)] w fun e w' => e = .returned (.slice (some ⟨blk,0,none⟩) (n - 1) cap) ∧ w' = (w.drew.setCells blk (i * 3) (cs.drop ((i + 1) * 3))).setCells blk ((n - 1) * 3) zex := by
 obtain ⟨i0,hi0,hz0,hz1,hz2⟩ := info_parts info168
 obtain ⟨news,hnews⟩ : ∃ news,news = cs.drop ((i + 1) * 3) := ⟨_,rfl⟩
 have hlen : news.length = (n - (i + 1)) * 3 := by rw [hnews,List.length_drop]; omega
 obtain ⟨A,hA,hsrc⟩ : ∃ A : Addr,(if cap = i + 1 then some (⟨blk,0,none⟩ : Addr) else some ⟨blk,(i + 1) * 3,none⟩) = some A ∧ Hid (∀ t u,news[t]? = some u → w.drew.cell? (A.add t) = some u) := by
  by_cases h : cap = i + 1
  ·refine ⟨⟨blk,0,none⟩,by simp [h],fun t u hu => ?_⟩
   have h0 : news.length = 0 := by rw [hlen]; omega
   rw [List.length_eq_zero_iff.1 h0] at hu
   simp at hu
  ·refine ⟨⟨blk,(i + 1) * 3,none⟩,by simp [h],fun t u hu => ?_⟩
   rw [hnews,List.getElem?_drop] at hu
   rw [Addr.add_lit]
   exact hc _ u hu
 have s1 : Hid (news.length = (n - (i + 1)) * 3) := hlen
 have s2 : Hid (∀ u ∈ news,u.oneCell' = true) := by
  intro u hu
  rw [hnews] at hu
  exact h1 u (List.mem_of_mem_drop hu)
 have hcell : ∀ j,j < n * 3 → (w.cell? ⟨blk,j,none⟩).isSome = true := by
  intro j hj
  rw [hc j _ (List.getElem?_eq_getElem (by omega))]; rfl
 have s3 : Hid (∀ t,t < news.length → (w.drew.cell? ⟨blk,0 + i * 3 + t,none⟩).isSome = true ∧ w.drew.frozen? ⟨blk,0 + i * 3 + t,none⟩ = false) := by
  intro t ht
  rw [hlen] at ht
  rw [Nat.zero_add]
  exact ⟨hcell _ (by omega),hf _⟩
 obtain ⟨W1,hW1⟩ : ∃ W1,W1 = w.drew.setCells blk (0 + i * 3) news := ⟨_,rfl⟩
 have hcl : ∀ ty,(Builtin.clear_ #[154] ty #[.slice (some ⟨blk,(i + (n - (i + 1))) * 3,none⟩) (n - (i + (n - (i + 1)))) (cap - (i + (n - (i + 1))))]).run Tryz.prog W1 = .ok (.tuple #[]) (W1.setCells blk ((n - 1) * 3) zex) := by
  intro ty
  have e1 : i + (n - (i + 1)) = n - 1 := by omega
  have e2 : n - (n - 1) = 1 := by omega
  rw [e1,e2]
  refine qif W1 ty blk _ _ (fun j hj => ?_) (fun j hj => ?_)
  ·rw [hW1]
   exact qb7 _ _ _ (hcell _ (by omega))
  ·rw [hW1,World.frozen?_setCells]
   exact hf _
 have hW : Hid (W1 = w.drew.setCells blk (0 + i * 3) news) := hW1
 have hwr : IntKind.i64.wrap ((i : Int) + 1) = (i : Int) + 1 := by rw [IntKind.wrap_i64]; omega
 have hp0 : (0 : Int) ≤ (i : Int) + 1 := by omega
 have hp1 : (i : Int) + 1 ≤ (n : Int) := by omega
 have hp2 : ((i : Int) + 1).toNat = i + 1 := by omega
 have hp3 : ¬ (i : Int) = (i : Int) + 1 := by omega
 have hic : i ≤ cap := by omega
 have hjc : i + 1 ≤ cap := by omega
 have X : Hid (W1 = w.drew.setCells blk (0 + i * 3) news ∧ news = cs.drop ((i + 1) * 3)) := ⟨hW1,hnews⟩
 clear hW1 hnews hlen hcell hc hf h1 hn
 go_enter Tryz.func188,Tryz.ntmps188
 go_wp2_with fail
 go_region_law (refine step_append_room rfl (.tmp 22) (.tmp 25) 154 rfl 168 i0 3 Tryz.underlying154 hi0 hz1 blk 0 i cap (by simp [Act.eval,Act.put]) A (n - (i + 1)) (cap - (i + 1)) news (by simp [Act.eval,Act.put]) s1.out hsrc.out s2.out (by omega) s3.out ?_; rw [← hW.out])
 go_wp2
 go_ret
 refine ⟨by rw [show i + (n - (i + 1)) = n - 1 by omega]; rfl,?_⟩
 rw [X.out.1,X.out.2,Nat.zero_add]
end Go.Proofs.YtdcbkjgoaknmkaaGreat
