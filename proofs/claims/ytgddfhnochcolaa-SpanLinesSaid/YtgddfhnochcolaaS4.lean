import Derived.Test.YtgddfhnochcolaaS3
set_option linter.all false
namespace Go.Proofs.Ytgddfhnochcolaa
open Go Go.Abs

section
variable {H : AH}

theorem rows_lit {g : Int → Value} (hg : ∀ v, cellOK (g v) = true) (v : Int) : Abs.Rows (H.push ⟨[g v], .rw, 1⟩) ⟨some ⟨H.size, 0, none⟩, 1, 1⟩ 1 (fun x => [g x]) [v] := by
  refine ⟨rfl, fun i x hi => ?_⟩
  cases i with
  | zero =>
    simp only [List.getElem?_cons_zero, Option.some.injEq] at hi
    subst hi
    refine ⟨_, rfl, rfl, by simp [push_size], ?_⟩
    exact row_new rfl (by simp [hg])
  | succ i => simp at hi

theorem own_str {B : Nat} {s : Sl} {l : List Int} {k : List UInt8 → Prop} (h : Own B H s 1 bU l) (h8 : bytes8 l) (hk : k (l.map fun v => UInt8.ofNat v.toNat)) : strC H s k := by
  have hm : (l.map fun v => UInt8.ofNat v.toNat).map byteV = l.flatMap bU := by
    clear hk h
    induction l with
    | nil => rfl
    | cons a l ih =>
      have ha := h8 a (by simp)
      have := ih (fun v hv => h8 v (by simp [hv]))
      simp only [List.map_cons, List.flatMap_cons, bU, List.singleton_append] at this ⊢
      rw [this]
      congr 1
      simp only [byteV, UInt8.toNat_ofNat']
      congr 1
      omega
  refine ⟨_, ?_, hk⟩
  rw [hm]
  rcases h with ⟨rfl, rfl⟩ | ⟨b, rfl, _, _, hg⟩
  · rfl
  · simp only [AH.rowS?]
    by_cases h0 : l.length = 0
    · rw [if_pos h0]
      have : l = [] := List.length_eq_zero_iff.1 h0
      subst this; rfl
    · rw [if_neg h0]
      simp only [Nat.mul_one, AH.row?, hg, Option.isSome_none, Bool.false_eq_true, if_false, List.drop_zero, Nat.zero_add]
      have hall : (l.flatMap bU).all cellOK = true := by simp [List.all_flatMap, bU, cellOK]
      have hlen : (l.flatMap bU).length = l.length := by rw [flat_len (z := 1) (fun _ => rfl)]; omega
      rw [if_neg (by simp), show l.length = (l.flatMap bU).length from hlen.symm, List.take_length, if_pos ⟨Nat.le_refl _, hall⟩]

theorem darninglaw18_awake.s {k : Bool → AH → Prop} (hk : ∀ H', k true H') : darninglaw18_awake H k := by
  refine darninglaw18_awake.link (_u := ()) ?_
  unfold darninglaw18_awake.b
  refine span_Pieces.s (by omega) ?_
  intro s6 H6 l6 hK6 hc6 hO6
  have hl6 := Chain.known hc6
  subst hl6
  rw [newC_eq]
  have hR8 := rows_lit (H := H6) (g := fun v => Value.int .u64 v) (fun _ => rfl) 578437695752307201
  refine span_Read.s (ws := [578437695752307201]) hR8 (by intro v hv; simp at hv; subst hv; omega) (by simp) (by omega) ?_ (fun h => absurd (by unfold inside; simp) h)
  intro _ s9 H9 hK9 hO9
  rw [newC_eq, newC_eq]
  have hR13 := rows_lit (H := H9) (g := fun v => Value.int .u64 v) (fun _ => rfl) 0
  have hR14 := rows_lit (H := H9.push ⟨[Value.int .u64 0], .rw, 1⟩) (g := fun v => Value.int .u8 v) (fun _ => rfl) 5
  refine span_Edits.s (ws := [0]) (bs := [5]) (hR13.keep ((Keeps.refl _).push _)) (by intro v hv; simp at hv; subst hv; omega) (by simp) hR14 (by intro v hv; simp at hv; subst hv; omega) (by omega) ?_ (fun h => absurd (by unfold inside; simp) h)
  intro _ s15 H15 hK15 hO15
  have hK915 : Keeps H9 H15 := ((Keeps.refl H9).push _ |>.push _).trans hK15
  have hK615 : Keeps H6 H15 := ((Keeps.refl H6).push _).trans (hK9.trans hK915)
  have hr6 := (hO6.rows (fun _ => rfl) (fun _ => rfl)).keep hK615
  have ho9 := hO9.keep hK915.1 (fun b _ hb => hK915.2 b hb)
  rw [show s6.n = 2 from own_n hO6, show (((2 : Nat) : Int) == 2) = true from rfl, bcase_true]
  obtain ⟨b0, o0, ha0, _, hrow0⟩ := hr6.at (i := 0) (by simp)
  obtain ⟨b1, o1, ha1, _, hrow1⟩ := hr6.at (i := 1) (by simp)
  refine ⟨by omega, ?_⟩
  rw [ha0, onPtr_mk]
  refine (ldA_some (show AH.row? H15 (Addr.add ⟨b0, o0, none⟩ (Int.toNat 0 * 3)) 3 = _ from hrow0)).2 ?_
  refine ⟨true, rfl, ?_⟩
  rw [bcase_true]
  refine ⟨by omega, ?_⟩
  rw [ha1] at ha0
  injection ha0 with ha0
  rw [← ha0, onPtr_mk]
  refine (ldA_some (show AH.row? H15 (Addr.add ⟨b1, o1, none⟩ (Int.toNat 1 * 3)) 3 = _ from hrow1)).2 ?_
  refine ⟨true, rfl, ?_⟩
  rw [bcase_true, bcase_true]
  have hb9 : bytesOf [578437695752307201] (Int.toNat 2) (Int.toNat 3) = [3, 4, 5] := by decide
  rw [hb9] at ho9
  refine own_str ho9 (by intro v hv; simp at hv; omega) ?_
  rw [show (ByteArray.toList ⟨List.toArray (List.map (fun v => UInt8.ofNat (Int.toNat v)) [3, 4, 5])⟩ == ByteArray.toList ⟨#[3, 4, 5]⟩) = true from by simp, bcase_true]
  have he : editsOf (putBs [0] (Int.toNat 1) [5]) (Int.toNat 1 / 8) (touched (Int.toNat 1) (List.length [(5 : Int)])) = [(0, 1280)] := by decide
  rw [he] at hO15
  rw [show s15.n = 1 from own_n hO15, show (((1 : Nat) : Int) == 1) = true from rfl]
  obtain ⟨b2, ha2, _, _, hcell⟩ := hO15.cell (i := 0) (fun _ => rfl) rfl (j := 1) (by omega)
  show (_ ∧ _)
  refine ⟨by omega, ?_⟩
  rw [ha2, onPtr_mk, addr_add, addr_add]
  rw [show AH.cell? H15 ⟨b2, 0 + Int.toNat 0 * 2 + 1, none⟩ = some (.int .u64 1280) from hcell, elI_some]
  · exact hk _
  all_goals exact True

end
end Go.Proofs.Ytgddfhnochcolaa
