import Derived.Test.YtgechnnadjonaabProg
import Derived.WalkKit
import Derived.Maps.OwnOps
import Derived.Maps.OwnSet
import Derived.Maps.Views
import Derived.Test.YtgechnnadjonaabT11
set_option linter.all false
set_option linter.all false
namespace Go.Proofs.Ytgechnnadjonaab
open Go Go.RowKit Go.Maps
theorem law3 : Keyed Try.prog 3 := int_keyed Try.underlying3
theorem zero3 (w : World) : (zeroValue 3).run Try.prog w = .ok (.int .i64 0) w := by kernel_rfl

def cntZ (z : Nat → Int) (v : Int) : Nat → Nat
  | 0 => 0
  | k + 1 => cntZ z v k + (if z k = v then 1 else 0)
def MayZ (n : Int) (len : Nat) (z : Nat → Int) : Prop := 16 ≤ n ∧ 1 ≤ len ∧ len ≤ 14 ∧ ∀ i, i < len → 16 ≤ z i ∧ z i < n ∧ ∀ j, j < i → z j ≠ z i
def okZ (n : Int) (z : Nat → Int) (k : Nat) : Prop := ∀ i, i < k → 16 ≤ z i ∧ z i < n ∧ ∀ j, j < i → z j ≠ z i
def MapZ {H : Type} (z : Nat → Int) (k : Nat) (D : DataW H) : Prop := ∀ v : Int, D.atKey (.int .i64 v) (.lit (.int .i64 0)) = .lit (.int .i64 (cntZ z v k))
theorem cntZ_le (z : Nat → Int) (v : Int) : ∀ k, cntZ z v k ≤ k := by
  intro k
  induction k with
  | zero => exact Nat.le_refl _
  | succ k ih => simp only [cntZ]; split <;> omega
theorem cntZ_zero {z : Nat → Int} {v : Int} : ∀ {k : Nat}, cntZ z v k = 0 ↔ ∀ i, i < k → z i ≠ v := by
  intro k
  induction k with
  | zero => exact ⟨fun _ i hi => by omega, fun _ => rfl⟩
  | succ k ih =>
    simp only [cntZ]
    constructor
    · intro h i hi
      have h1 : cntZ z v k = 0 := by omega
      by_cases hik : i = k
      · subst hik
        intro he
        rw [if_pos he] at h; omega
      · exact ih.1 h1 i (by omega)
    · intro h
      rw [if_neg (h k (by omega)), ih.2 fun i hi => h i (by omega)]
theorem put_step {H : Type} {z : Nat → Int} {k : Nat} {D : DataW H} {c c2 : Int} (hR : MapZ z k D) (hM : IsMap D) (hk : k ≤ 1000000) (hat : D.atKey (.int .i64 (z k)) (.lit (.int .i64 0)) = .lit (.int .i64 c))
    (hat2 : (D.put (.int .i64 (z k)) (.lit (.int .i64 (wrap64 (c + 1))))).atKey (.int .i64 (z k)) (.lit (.int .i64 0)) = .lit (.int .i64 c2)) :
    c2 = (cntZ z (z k) k : Int) + 1 ∧ MapZ z (k + 1) (D.put (.int .i64 (z k)) (.lit (.int .i64 (wrap64 (c + 1))))) := by
  have hle := cntZ_le z (z k) k
  have h1 := (hR (z k)).symm.trans hat
  injection h1 with h1
  injection h1 with _ h1
  have hw : wrap64 (c + 1) = c + 1 := by
    unfold wrap64; omega
  rw [hw] at hat2 ⊢
  have hkl : WideAt.IsKeyLit (Lit.int .i64 (z k)) := by unfold WideAt.IsKeyLit; trivial
  rw [atKey_put_same hM hkl] at hat2
  injection hat2 with h2
  injection h2 with _ h2
  refine ⟨by omega, fun v => ?_⟩
  simp only [cntZ]
  by_cases hv : z k = v
  · rw [if_pos hv, ← hv, atKey_put_same hM hkl]
    rw [← h1]
    congr 2
  · rw [if_neg hv, atKey_put_other (fun e => hv (by injection e with _ e; exact e.symm)), hR v]
    rfl
set_option maxRecDepth 100000 in
theorem may_any {H : Type} (b off len cap : Nat) (n : Int) (w : World) (v : Bool) (z : Nat → Int)
   (hb : b < w.heap.size) (hlen : len ≤ 1000000) (hv : v = true ↔ MayZ n len z)
   (ds : Nat → Nat → Int) (hc : ∀ k i, k < len → 1 ≤ i → i < 9 → w.cell? ⟨b, off + k * 9 + i, none⟩ = some (.int .u64 (ds k i)))
   (hc0 : ∀ k, k < len → w.cell? ⟨b, off + k * 9, none⟩ = some (.int .i64 (z k))) (hwz : ∀ k, (Lit.int .i64 (z k)).wf = true) :
    Calls Try.prog 16 #[.int .i64 n, .slice (some ⟨b, off, none⟩) len cap] w fun e w' => e = .returned (.bool v) ∧ Below w.heap.size w w' ∧ ∀ a, w'.frozen? a = w.frozen? a := by
  have vf : ¬ MayZ n len z → v = false := fun h => by
    cases v with
    | false => rfl
    | true => exact absurd (hv.1 rfl) h
  have hmm := @run_makeMap Try.prog
  go_enter Try.func16, Try.ntmps16
  go_wp2
  go_loopw [11] (fun i wr => ∃ k : Nat, ∃ D : DataW H, k ≤ len ∧ i = .int .i64 k ∧ wr.ownsMap Try.prog 3 (plainElem Try.prog 3) w.heap.size k D ∧ MapZ z k D ∧ okZ n z k ∧ Below w.heap.size w wr ∧ ∀ a, wr.frozen? a = w.frozen? a)
    (fun i _ => len - (intOf i).toNat)
  case atStart =>
    refine ⟨0, _, Nat.zero_le _, rfl, World.ownsMap_made _ _ _ _, fun v => rfl, fun i hi => by omega, (Below.refl _ _).alloc (Nat.le_refl _) _, fun a => frozen?_alloc_map _ _ _ a⟩
  case round =>
    obtain ⟨k, D, hk, rfl, hown, hR, hokz, hnx, hfz⟩ := hrel
    have hx1 : k < len → wr.cell? ⟨b, off + k * 9 + 1, none⟩ = some (.int .u64 (ds k 1)) := fun h => (hnx.cell (by exact hb)).trans (hc k 1 h (by omega) (by omega))
    have hx2 : k < len → wr.cell? ⟨b, off + k * 9 + 2, none⟩ = some (.int .u64 (ds k 2)) := fun h => (hnx.cell (by exact hb)).trans (hc k 2 h (by omega) (by omega))
    have hx3 : k < len → wr.cell? ⟨b, off + k * 9 + 3, none⟩ = some (.int .u64 (ds k 3)) := fun h => (hnx.cell (by exact hb)).trans (hc k 3 h (by omega) (by omega))
    have hx4 : k < len → wr.cell? ⟨b, off + k * 9 + 4, none⟩ = some (.int .u64 (ds k 4)) := fun h => (hnx.cell (by exact hb)).trans (hc k 4 h (by omega) (by omega))
    have hx5 : k < len → wr.cell? ⟨b, off + k * 9 + 5, none⟩ = some (.int .u64 (ds k 5)) := fun h => (hnx.cell (by exact hb)).trans (hc k 5 h (by omega) (by omega))
    have hx6 : k < len → wr.cell? ⟨b, off + k * 9 + 6, none⟩ = some (.int .u64 (ds k 6)) := fun h => (hnx.cell (by exact hb)).trans (hc k 6 h (by omega) (by omega))
    have hx7 : k < len → wr.cell? ⟨b, off + k * 9 + 7, none⟩ = some (.int .u64 (ds k 7)) := fun h => (hnx.cell (by exact hb)).trans (hc k 7 h (by omega) (by omega))
    have hx8 : k < len → wr.cell? ⟨b, off + k * 9 + 8, none⟩ = some (.int .u64 (ds k 8)) := fun h => (hnx.cell (by exact hb)).trans (hc k 8 h (by omega) (by omega))
    have hx0 : k < len → wr.cell? ⟨b, off + k * 9, none⟩ = some (.int .i64 (z k)) := fun h => (hnx.cell (by exact hb)).trans (hc0 k h)
    have hne : some (⟨wr.heap.size, 0, none⟩ : Addr).block ≠ some w.heap.size := by
      have := hown.lt
      intro e
      simp only [Option.some.injEq] at e
      omega
    have hkey : keyOf Try.prog 3 (.int .i64 (z k)) = some (.int .i64 (z k)) := keyOf_int_mk Try.underlying3 (hwz k)
    go_wp2_with (first
      | (at_lookup; refine wpList_lookup_own_int _ rfl _ _ 66 rfl 3 3 .i64 law3 Try.underlying66 Try.underlying3 (zero3 _) w.heap.size k _ rfl (hown.alloc _) _ _ rfl hkey ?_; intro c hat hwc)
      | (at_mapUpdate; refine wpList_mapUpdate_in _ rfl _ _ _ 66 rfl 3 3 law3 Try.underlying66 _ w.heap.size k _ rfl (hown.alloc _) (by unfold maxLen; omega) _ _ _ rfl rfl hkey _ [] (plainElem_int Try.underlying3 (wrap64_wf _)) ?_; intro w1 hown1 hturn1; have hgrow1 := hturn1.grown; have hfz1 : ∀ a, w1.frozen? a = w.frozen? a := fun a => (hturn1.frozen a).trans ((frozen?_alloc_cells _ _ _ a).trans (hfz a)); have hself : w1.cell? ⟨wr.heap.size, 0, none⟩ = some (.int .i64 (z k)) := hgrow1.cell (by rw [World.cell?_alloc_new]; rfl) hne; obtain ⟨c2, hlk, hat2, hwc2⟩ := hown1.lookup_int law3 Try.underlying66 Try.underlying3 (zero3 _) hkey)
      | go_in)
    case roundEnd =>
      have hlt : k < len := by assumption
      obtain ⟨e2, hM⟩ := put_step hR (World.ownsMap.isMap hown) (by omega) hat hat2
      have hcond : (16 ≤ z k ∧ z k < n) ∧ c2 ≤ 1 := by assumption
      have hz : cntZ z (z k) k = 0 := by omega
      have hnw := hnx.alloc hnx.size (.cells #[.int .i64 (z k), .int .u64 (ds k 1), .int .u64 (ds k 2), .int .u64 (ds k 3), .int .u64 (ds k 4), .int .u64 (ds k 5), .int .u64 (ds k 6), .int .u64 (ds k 7), .int .u64 (ds k 8)] 40)
      refine ⟨⟨k + 1, _, by omega, by simp, hown1, hM, fun i hi => ?_, hnw.grown hgrow1 hnw.size (fun j hj => by cases hj; exact Nat.le_refl _), hfz1⟩, by simp [intOf]; omega⟩
      by_cases hik : i = k
      · subst hik; exact ⟨hcond.1.1, hcond.1.2, cntZ_zero.1 hz⟩
      · exact hokz i (by omega)
    all_goals go_ret
    · have hlt : k < len := by assumption
      have hcond : (z k < 16 ∨ n ≤ z k) ∨ 1 < c2 := by assumption
      obtain ⟨e2, _⟩ := put_step hR (World.ownsMap.isMap hown) (by omega) hat hat2
      have hnw := hnx.alloc hnx.size (.cells #[.int .i64 (z k), .int .u64 (ds k 1), .int .u64 (ds k 2), .int .u64 (ds k 3), .int .u64 (ds k 4), .int .u64 (ds k 5), .int .u64 (ds k 6), .int .u64 (ds k 7), .int .u64 (ds k 8)] 40)
      have hvf : v = false := vf fun hm => by
        have := hm.2.2.2 k hlt
        have h0 := cntZ_zero.2 this.2.2
        omega
      exact ⟨by rw [hvf]; rfl, hnw.grown hgrow1 hnw.size (fun j hj => by cases hj; exact Nat.le_refl _), hfz1⟩
    · have hlt : k < len := by assumption
      have hcond : n ≤ z k := by assumption
      have hnw := hnx.alloc hnx.size (.cells #[.int .i64 (z k), .int .u64 (ds k 1), .int .u64 (ds k 2), .int .u64 (ds k 3), .int .u64 (ds k 4), .int .u64 (ds k 5), .int .u64 (ds k 6), .int .u64 (ds k 7), .int .u64 (ds k 8)] 40)
      have hvf : v = false := vf fun hm => by
        have := hm.2.2.2 k hlt
        omega
      exact ⟨by rw [hvf]; rfl, hnw.grown hgrow1 hnw.size (fun j hj => by cases hj; exact Nat.le_refl _), hfz1⟩
    · have hlt : k < len := by assumption
      have hcond : z k < 16 := by assumption
      have hnw := hnx.alloc hnx.size (.cells #[.int .i64 (z k), .int .u64 (ds k 1), .int .u64 (ds k 2), .int .u64 (ds k 3), .int .u64 (ds k 4), .int .u64 (ds k 5), .int .u64 (ds k 6), .int .u64 (ds k 7), .int .u64 (ds k 8)] 40)
      have hvf : v = false := vf fun hm => by
        have := hm.2.2.2 k hlt
        omega
      exact ⟨by rw [hvf]; rfl, hnw.grown hgrow1 hnw.size (fun j hj => by cases hj; exact Nat.le_refl _), hfz1⟩
    · have hge : ¬ k < len := by assumption
      have hn : 16 ≤ n := by assumption
      have h1 : 1 ≤ (len : Int) := by assumption
      have hkl : k = len := by omega
      subst hkl
      have hvd : v = decide ((k : Int) ≤ 14) := by
        by_cases h14 : (k : Int) ≤ 14
        · rw [decide_eq_true h14]; exact hv.2 ⟨hn, by omega, by omega, hokz⟩
        · rw [decide_eq_false h14]; exact vf fun hm => by have := hm.2.2.1; omega
      exact ⟨by rw [hvd]; rfl, hnx, hfz⟩
    · have h1 : (len : Int) < 1 := by assumption
      have hvf : v = false := vf fun hm => by have := hm.2.1; omega
      exact ⟨by rw [hvf]; rfl, hnx, hfz⟩
    · have h1 : n < 16 := by assumption
      have hvf : v = false := vf fun hm => by have := hm.1; omega
      exact ⟨by rw [hvf]; rfl, hnx, hfz⟩

set_option maxRecDepth 100000 in
theorem may_none (a : Option Addr) (cap : Nat) (n : Int) (w : World) :
    Calls Try.prog 16 #[.int .i64 n, .slice a 0 cap] w fun e w' => e = .returned (.bool false) ∧ Below w.heap.size w w' ∧ ∀ a, w'.frozen? a = w.frozen? a := by
  have hmm := @run_makeMap Try.prog
  go_enter Try.func16, Try.ntmps16
  go_wp2
  refine wp_loop_rounds 1 ?_
  rw [rounds_succ]
  go_wp2
  all_goals go_ret
  all_goals exact ⟨rfl, (Below.refl _ _).alloc (Nat.le_refl _) _, fun a => frozen?_alloc_map _ _ _ a⟩

open Go.Abs in
theorem rel_below {W w w' : World} {φ : Emb} {H : AH} (R : Rel W φ H w) (hb : Below w.heap.size w w') (hf : ∀ a, w'.frozen? a = w.frozen? a) : Rel W φ H w' := by
  have hcell : ∀ a : Addr, a.block < w.heap.size → w'.cell? a = w.cell? a := fun a ha => hb.cell ha
  refine ⟨fun b h => by rw [hb.block b (by have := R.size; omega)]; exact R.below b h, Nat.le_trans R.size hb.size, hb.tape.trans R.tape, hb.os.trans R.os, hb.output.trans R.output, fun a => (hf a).trans (R.froz a), fun b B h => ⟨(R.dom b B h).1, by have := (R.dom b B h).2; have := hb.size; omega⟩, ?_, ?_, R.own, R.out⟩
  · intro b B h hm i v hi
    obtain ⟨v', h1, h2⟩ := R.cell b B h hm i v hi
    exact ⟨v', by rw [hcell _ (R.dom b B h).2]; exact h1, h2⟩
  · intro b B h hm
    obtain ⟨h1, h2, h3⟩ := R.room b B h hm
    exact ⟨h1, fun i hi => by rw [hcell _ (R.dom b B h).2]; exact h2 i hi, h3⟩
end Go.Proofs.Ytgechnnadjonaab
