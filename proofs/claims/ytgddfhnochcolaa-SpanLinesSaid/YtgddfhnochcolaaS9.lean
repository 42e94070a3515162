import Derived.Test.YtgddfhnochcolaaS8
set_option linter.all false
set_option linter.all false
namespace Go.Proofs.Ytgddfhnochcolaa
open Go Go.Abs

theorem umod18 {m : Int} (hm : 0 < m) (z : Int) : 0 ≤ Int.tmod (IntKind.wrap .u64 z) m ∧ Int.tmod (IntKind.wrap .u64 z) m < m := by
  have h0 : 0 ≤ IntKind.wrap .u64 z := by
    simp only [IntKind.wrap, IntKind.bits, IntKind.signed, Bool.false_and, Int.reducePow, Bool.false_eq_true, if_false]; omega
  rw [Int.tmod_eq_emod_of_nonneg h0]
  exact ⟨Int.emod_nonneg _ (by omega), Int.emod_lt_of_pos _ (by omega)⟩

theorem Chain.count {e : Int} : ∀ {l : List (Int × Int × Int)} {a : Int}, 0 ≤ a → Chain e a l e → (l.length : Int) = if a = e then 0 else (e - 1) / 8 - a / 8 + 1 := by
  intro l
  induction l with
  | nil => intro a _ h; simp only [Chain] at h; rw [if_pos h]; rfl
  | cons x r ih =>
    intro a ha h
    obtain ⟨h1, h2, h3, h4, h5, h6⟩ := h
    have hle := h6.le
    have hr := ih (by omega) h6
    simp only [List.length_cons]
    rw [if_neg (by omega)]
    by_cases he : a + x.2.2 = e
    · rw [if_pos he] at hr; omega
    · rw [if_neg he] at hr; omega

theorem map_byte {l : List Int} (h8 : bytes8 l) : (l.map fun v => UInt8.ofNat v.toNat).map byteV = l.map fun v => Value.int .u8 v := by
  rw [List.map_map]
  refine List.map_congr_left fun v hv => ?_
  have := h8 v hv
  simp only [Function.comp, byteV, UInt8.toNat_ofNat']
  congr 1
  omega
theorem rows_str {H : AH} {s : Sl} {l : List Int} {k : List UInt8 → Prop} (h : Abs.Rows H s 1 bU l) (h8 : bytes8 l) (hk : k (l.map fun v => UInt8.ofNat v.toNat)) : strC H s k :=
  ⟨_, by rw [map_byte h8]; exact rows_all (g := fun v => Value.int .u8 v) (fun _ => rfl) h, hk⟩

theorem bytes8_of (ws : List Int) (off n : Nat) (h64 : words64 ws) : bytes8 (bytesOf ws off n) := by
  intro v hv
  simp only [bytesOf, List.mem_map] at hv
  obtain ⟨j, _, rfl⟩ := hv
  unfold byteAt getB
  omega

section
variable {H : AH}
end
end Go.Proofs.Ytgddfhnochcolaa
