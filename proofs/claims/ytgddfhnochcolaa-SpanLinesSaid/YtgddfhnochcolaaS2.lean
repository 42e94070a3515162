import Derived.Test.YtgddfhnochcolaaS1
import Derived.Test.YtgddfhnochcolaaEnc
import Derived.Test.YtgddfhnochcolaaAbsTwo
set_option linter.all false
namespace Go.Proofs.Ytgddfhnochcolaa
open Go Go.Abs

theorem row_cell1 {H : AH} {b o : Nat} {v : Value} (h : AH.row? H ⟨b, o, none⟩ 1 = some [v]) : AH.cell? H ⟨b, o, none⟩ = some v := by
  have := (AH.row?_cell h).2.2.2.2 0 v rfl
  simpa using this

theorem rows_cell1 {α : Type} {H : AH} {s : Sl} {g : α → Value} {l : List α} (h : Abs.Rows H s 1 (fun x => [g x]) l) {i : Nat} (hi : i < l.length) :
    ∃ b o, s.a = some ⟨b, o, none⟩ ∧ b < H.size ∧ AH.cell? H (Addr.add ⟨b, o, none⟩ (i * 1)) = some (g (l[i])) := by
  obtain ⟨b, o, h1, h2, h3⟩ := h.at hi
  refine ⟨b, o, h1, h2, ?_⟩
  rw [addr_add] at h3 ⊢
  exact row_cell1 h3

def inside (len : Nat) (off n : Int) : Prop := 0 ≤ off ∧ 0 ≤ n ∧ n ≤ 448 ∧ off ≤ 8 * len - n
instance (len : Nat) (off n : Int) : Decidable (inside len off n) := by unfold inside; infer_instance
def byteAt (ws : List Int) (i : Nat) : Int := getB (ws.getD (i / 8) 0) (i % 8)
def bytesOf (ws : List Int) (off n : Nat) : List Int := (List.range n).map fun j => byteAt ws (off + j)
def words64 (ws : List Int) : Prop := ∀ v ∈ ws, 0 ≤ v ∧ v ≤ 18446744073709551615

section
variable {off n : Int} {H : AH} {sl : Sl}

theorem span_within.s {k : Bool → AH → Prop} (hs : sl.n ≤ 1000000000) (ho : -9223372036854775808 ≤ off ∧ off ≤ 9223372036854775807) (h : k (decide (inside sl.n off n)) H) : span_within sl off n H k := by
  refine gcB (decide (inside sl.n off n)) (span_within.link ?_) h
  simp only [span_within.b, bcase_eq, decide_eq_true_eq, Keeps.refl, true_and]
  by_cases h1 : off ≥ 0
  · rw [if_pos h1]
    by_cases h2 : n ≥ 0
    · rw [if_pos h2]
      by_cases h3 : n ≤ 448
      · rw [if_pos h3, wrap_i64 (n := (sl.n : Int) * 8) (by omega) (by omega), wrap_i64 (by omega) (by omega)]
        refine decide_eq_decide.2 ?_; unfold inside; omega
      · rw [if_neg h3]; refine (decide_eq_false ?_).symm; unfold inside; omega
    · rw [if_neg h2]; refine (decide_eq_false ?_).symm; unfold inside; omega
  · rw [if_neg h1]; refine (decide_eq_false ?_).symm; unfold inside; omega

theorem span_Read.s {ws : List Int} {k : Sl → Bool → AH → Prop} (hw : Abs.Rows H sl 1 wU ws) (h64 : words64 ws) (hlen : ws.length ≤ 1000000) (ho : -9223372036854775808 ≤ off ∧ off ≤ 9223372036854775807)
    (h1 : inside ws.length off n → ∀ s H', Keeps H H' → Own H.size H' s 1 bU (bytesOf ws off.toNat n.toNat) → k s true H') (h0 : ¬ inside ws.length off n → k ⟨none, 0, 0⟩ false H) : span_Read sl off n H k := by
  refine span_Read.link ?_
  unfold span_Read.b
  have hn : sl.n = ws.length := hw.1
  refine span_within.s (by omega) ho ?_
  rw [hn]
  by_cases hin : inside ws.length off n
  · rw [show decide (inside ws.length off n) = true from by simpa using hin, Bool.not_true, bcase_false]
    have hin' := hin
    unfold inside at hin
    refine loopT_inv (t := ((⟨none, 0, 0⟩, off) : Sl × Int)) (H := H) (I := fun (t : Sl × Int) H' => ∃ j : Nat, t.2 = off + j ∧ (j : Int) ≤ n ∧ Keeps H H' ∧ Own H.size H' t.1 1 bU (bytesOf ws off.toNat j)) (m := fun (t : Sl × Int) _ => Int.toNat (off + n - t.2)) ?_ ?_
    · intro t H1 hI it hit
      obtain ⟨s, i⟩ := t
      obtain ⟨j, hi, hj, hK, hO⟩ := hI
      simp only at hi hO
      subst hi
      have hR := hw.keep hK
      unfold span_Read.l1
      simp only
      rw [wrap_i64 (n := off + n) (by omega) (by omega)]
      by_cases hlt : (j : Int) < n
      · rw [show decide (off + (j : Int) < off + n) = true from by simp; omega, bcase_true]
        rw [Int.tdiv_eq_ediv_of_nonneg (by omega), Int.tmod_eq_emod_of_nonneg (by omega), wrap_i64 (n := (off + (j : Int)) / 8) (by omega) (by omega), hn]
        have hidx : ((off + (j : Int)) / 8).toNat < ws.length := by omega
        obtain ⟨b, o, ha, hb, hcell⟩ := rows_cell1 (g := fun v => Value.int .u64 v) hR hidx
        refine ⟨by decide, ⟨by omega, by omega⟩, ?_⟩
        rw [ha, onPtr_mk, hcell, elI_some, wrap_i64 (n := (off + (j : Int)) % 8 * 8) (by omega) (by omega)]
        refine ⟨by decide, by omega, ?_⟩
        have hjm : ((off + (j : Int)) % 8) = (((off.toNat + j) % 8 : Nat) : Int) := by omega
        have hidx' : ((off + (j : Int)) / 8).toNat = (off.toNat + j) / 8 := by omega
        have hv := h64 _ (List.getElem_mem hidx)
        have hbyte : IntKind.wrap .u8 (shrI .u64 ws[((off + (j : Int)) / 8).toNat] ((off + (j : Int)) % 8 * 8)) = byteAt ws (off.toNat + j) := by
          rw [Int.mul_comm, hjm, word_get hv (by omega)]
          unfold byteAt
          rw [List.getD_eq_getElem?_getD, ← hidx', List.getElem?_eq_getElem hidx, Option.getD_some]
        rw [hbyte]
        simp only [newC_eq]
        refine append_own (H0 := H) (B := H.size) (f := bU) (x := byteAt ws (off.toNat + j)) (l := bytesOf ws off.toNat j) (fun _ => rfl) rfl hO (Nat.le_refl _) hK.1 hK (by simp only [bytesOf, List.length_map, List.length_range, lim]; omega) ?_
        intro s' H' hO' hK' _ _
        rw [wrap_i64 (n := off + (j : Int) + 1) (by omega) (by omega)]
        refine hit _ _ ⟨j + 1, by simp only; omega, by omega, hK', ?_⟩ (by simp only; omega)
        have : bytesOf ws off.toNat (j + 1) = bytesOf ws off.toNat j ++ [byteAt ws (off.toNat + j)] := by simp [bytesOf, List.range_succ]
        rw [this]; exact hO'
      · rw [show decide (off + (j : Int) < off + n) = false from by simp; omega, bcase_false]
        have hjn : n.toNat = j := by omega
        exact h1 hin' _ _ hK (hjn ▸ hO)
    · exact ⟨0, by simp, by omega, Keeps.refl H, .inl ⟨rfl, rfl⟩⟩
  · rw [show decide (inside ws.length off n) = false from by simpa using hin, Bool.not_false, bcase_true]
    exact h0 hin
end
end Go.Proofs.Ytgddfhnochcolaa
