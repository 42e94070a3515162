import Derived.Test.YtmbipadfcbndgaaS9
set_option linter.all false
set_option linter.all false
namespace Go.Proofs.Ytmbipadfcbndgaa
open Go Go.Abs

theorem putBs_app : ∀ (a b ws : List Int) (i : Nat), putBs (putBs ws i a) (i + a.length) b = putBs ws i (a ++ b) := by
  intro a
  induction a with
  | nil => intro b ws i; rfl
  | cons c r ih =>
    intro b ws i
    simp only [List.cons_append, putBs, List.length_cons]
    rw [show i + (r.length + 1) = i + 1 + r.length by omega]
    exact ih b _ _
/-- Written again they are the same. -/
theorem getB_ext {v w : Int} (hv : 0 ≤ v ∧ v ≤ 18446744073709551615) (hw : 0 ≤ w ∧ w ≤ 18446744073709551615) (h : ∀ j, j < 8 → getB v j = getB w j) : v = w := by
  have h0 := h 0 (by omega)
  have h1 := h 1 (by omega)
  have h2 := h 2 (by omega)
  have h3 := h 3 (by omega)
  have h4 := h 4 (by omega)
  have h5 := h 5 (by omega)
  have h6 := h 6 (by omega)
  have h7 := h 7 (by omega)
  simp only [getB, Nat.reduceMul, Int.reducePow] at h0 h1 h2 h3 h4 h5 h6 h7
  omega
theorem putBs_again {ws bs : List Int} {off : Nat} (h64 : words64 ws) (h8 : bytes8 bs) (hl : off + bs.length ≤ ws.length * 8) : putBs (putBs ws off bs) off bs = putBs ws off bs := by
  have h1 := words64_putBs bs ws off h64
  have h2 := words64_putBs bs (putBs ws off bs) off h1
  have hlen := putBs_length bs ws off
  refine words_ext (putBs_length _ _ _) fun w hw => ?_
  rw [putBs_length, hlen] at hw
  have hm : ∀ (l : List Int), words64 l → l.length = ws.length → 0 ≤ l.getD w 0 ∧ l.getD w 0 ≤ 18446744073709551615 := by
    intro l hl' hll
    rw [List.getD_eq_getElem?_getD, List.getElem?_eq_getElem (by omega), Option.getD_some]
    exact hl' _ (List.getElem_mem _)
  refine getB_ext (hm _ h2 (by rw [putBs_length, hlen])) (hm _ h1 hlen) fun j hj => ?_
  have e : ∀ l : List Int, getB (l.getD w 0) j = byteAt l (w * 8 + j) := fun l => by
    unfold byteAt
    rw [show (w * 8 + j) / 8 = w by omega, show (w * 8 + j) % 8 = j by omega]
  rw [e, e, byteAt_putBs _ _ _ _ h1 h8 (by rw [hlen]; exact hl) (by rw [hlen]; omega), byteAt_putBs _ _ _ _ h64 h8 hl (by omega)]
  split <;> rfl

theorem rows_take {α : Type} {H : AH} {s : Sl} {f : α → List Value} {l : List α} {k : Nat} (h : Abs.Rows H s 1 f l) (hk : k ≤ l.length) : Abs.Rows H ⟨s.a, k, 0⟩ 1 f (l.take k) := by
  refine ⟨by simp; omega, fun i x hi => h.2 i x ?_⟩
  rw [List.getElem?_take] at hi
  split at hi
  · exact hi
  · cases hi
theorem rows_drop {α : Type} {H : AH} {s : Sl} {f : α → List Value} {l : List α} {k : Nat} (h : Abs.Rows H s 1 f l) (hk : k ≤ l.length) : Abs.Rows H ⟨Option.map (fun x => Addr.add x (k * 1)) s.a, s.n - k, 0⟩ 1 f (l.drop k) := by
  refine ⟨by simp [h.1], fun i x hi => ?_⟩
  rw [List.getElem?_drop] at hi
  obtain ⟨a, h1, h2, h3, h4⟩ := h.2 _ _ hi
  obtain ⟨b, o, sp⟩ := a
  simp only at h2 h3 h4
  subst h2
  refine ⟨⟨b, o + k * 1, none⟩, by rw [h1, Option.map_some, addr_add], rfl, h3, ?_⟩
  rw [← h4]
  simp only
  congr 2
  omega

section
variable {H : AH}
theorem darningref4_SameWords.s {x0 x1 : Sl} {a b : List Int} {k : Bool → AH → Prop} (h0 : Abs.Rows H x0 1 wU a) (h1 : Abs.Rows H x1 1 wU b) (hl : a.length ≤ 1000000) (hab : a = b) (hk : k true H) : darningref4_SameWords x0 x1 H k := by
  subst hab
  refine darningref4_SameWords.link ?_
  unfold darningref4_SameWords.b
  rw [h0.1, h1.1, show ((a.length : Int) != (a.length : Int)) = false by simp, bcase_false]
  refine loopT_inv (t := ((false, (0 : Int)) : Bool × Int)) (I := fun (t : Bool × Int) H' => ∃ i : Nat, t.2 = (i : Int) ∧ i ≤ a.length ∧ H' = H) (m := fun (t : Bool × Int) _ => Int.toNat ((a.length : Int) - t.2)) ?_ ⟨0, rfl, by omega, rfl⟩
  intro t H' hI it hit
  obtain ⟨t1, t2⟩ := t
  obtain ⟨i, e1, hi, rfl⟩ := hI
  simp only at e1
  subst e1
  unfold darningref4_SameWords.l1
  simp only [bcase_eq, decide_eq_true_eq, h0.1, h1.1]
  by_cases hlt : (i : Int) < (a.length : Int)
  · rw [if_pos hlt]
    obtain ⟨b1, o1, e1, _, c1⟩ := rows_cell1 (g := fun v => Value.int .u64 v) h0 (i := i) (by omega)
    obtain ⟨b2, o2, e2, _, c2⟩ := rows_cell1 (g := fun v => Value.int .u64 v) h1 (i := i) (by omega)
    rw [e1, e2]
    refine ⟨by omega, ?_⟩
    rw [onPtr_mk, Int.toNat_natCast, c1, elI_some]
    refine ⟨by omega, ?_⟩
    rw [onPtr_mk, c2, elI_some, if_neg (by simp), wrap_i64 (n := (i : Int) + 1) (by omega) (by omega)]
    exact hit _ _ ⟨i + 1, by simp, by omega, rfl⟩ (by simp only; omega)
  · rw [if_neg hlt]; exact hk

theorem darninglaw18_SpanTwice.t {x0 x2 : Sl} {x1 x3 : Int} {ws bs : List Int} (hw : Abs.Rows H x0 1 wU ws) (h64' : ∀ v ∈ ws, isU v) (_ : ws.length ≤ maxLen) (_ : (Lit.int .i64 x1).wf = true)
    (hb : Abs.Rows H x2 1 bU bs) (h8' : ∀ v ∈ bs, isB v) (_ : bs.length ≤ maxLen) (_ : (Lit.int .i64 x3).wf = true) : darninglaw18_SpanTwice x0 x1 x2 x3 H (fun r _ => r = true) := by
  have h64 : words64 ws := h64'
  have h8 : bytes8 bs := h8'
  have aw : ∀ H', darninglaw18_awake H' fun b _ => b = true := fun H' => darninglaw18_awake.s fun _ => rfl
  refine darninglaw18_SpanTwice.link ?_
  unfold darninglaw18_SpanTwice.b darninglaw18_SpanTwice.j1
  simp only [bcase_eq, decide_eq_true_eq, hw.1, hb.1, beq_iff_eq]
  by_cases g1 : (ws.length : Int) > 200
  · rw [if_pos g1]; exact aw _
  rw [if_neg g1]
  by_cases g2 : (ws.length : Int) = 0
  · rw [if_pos g2]; exact aw _
  rw [if_neg g2]
  by_cases g3 : (bs.length : Int) > 448
  · rw [if_pos g3]; exact aw _
  rw [if_neg g3, wrap_i64 (n := 8 * (ws.length : Int)) (by omega) (by omega), wrap_u64 (n := 8 * (ws.length : Int)) (by omega) (by omega)]
  have ho := umod18 (m := 8 * (ws.length : Int)) (by omega) x1
  obtain ⟨off, hoff⟩ := Int.eq_ofNat_of_zero_le ho.1
  have hO : IntKind.wrap .i64 (Int.tmod (IntKind.wrap .u64 x1) (8 * (ws.length : Int))) = (off : Int) := by rw [hoff, wrap_i64 (by omega) (by omega)]
  have lo : off < 8 * ws.length := by omega
  rw [hO, wrap_i64 (n := (off : Int) + (bs.length : Int)) (by omega) (by omega)]
  refine ⟨by omega, ?_⟩
  by_cases g4 : (off : Int) + (bs.length : Int) > 8 * (ws.length : Int)
  · rw [if_pos g4]; exact aw _
  rw [if_neg g4, wrap_i64 (n := (bs.length : Int) + 1) (by omega) (by omega), wrap_u64 (n := (bs.length : Int) + 1) (by omega) (by omega)]
  have hkk := umod18 (m := (bs.length : Int) + 1) (by omega) x3
  obtain ⟨k, hk⟩ := Int.eq_ofNat_of_zero_le hkk.1
  have hK : IntKind.wrap .i64 (Int.tmod (IntKind.wrap .u64 x3) ((bs.length : Int) + 1)) = (k : Int) := by rw [hk, wrap_i64 (by omega) (by omega)]
  have lk : k ≤ bs.length := by omega
  rw [hK, wrap_i64 (n := (off : Int) + (k : Int)) (by omega) (by omega), Int.toNat_natCast]
  have hl : off + bs.length ≤ ws.length * 8 := by omega
  have ltake : (bs.take k).length = k := by simp; omega
  have ldrop : (bs.drop k).length = bs.length - k := by simp
  have h8t : bytes8 (bs.take k) := fun v hv => h8 v (List.mem_of_mem_take hv)
  have h8d : bytes8 (bs.drop k) := fun v hv => h8 v (List.mem_of_mem_drop hv)
  have tl : ∀ (o m : Nat), m ≤ 448 → touched o m ≤ 448 := fun o m hm => by unfold touched; split <;> omega
  refine ⟨by omega, ?_⟩
  refine span_Edits.s hw h64 (by omega) hb h8 (by omega) ?_ (fun h => absurd (by unfold inside; omega) h)
  intro _ s63 H63 k63 O63
  refine ⟨by omega, ?_⟩
  refine span_Edits.s (hw.keep k63) h64 (by omega) (rows_take (hb.keep k63) lk) h8t (by omega) ?_ (fun h => absurd (by unfold inside; omega) h)
  intro _ s72 H72 k72 O72
  rw [Int.toNat_natCast] at O63 O72
  have K72 := k63.trans k72
  refine span_Apply.s (hw.keep K72) (by omega) (O72.rows (fun _ => rfl) (fun _ => rfl)) (by rw [editsOf_length]; have := tl off (bs.take k).length (by omega); omega) ?_
  intro s77 H77 k77 O77
  rw [applyE_edits (by omega)] at O77
  have O77 : Own H72.size H77 s77 1 wU (putBs ws off (bs.take k)) := by
    rcases O77 with h | ⟨h, _⟩
    · exact h
    · rw [h] at g2; simp at g2
  have K77 := K72.trans k77
  have R77 := O77.rows (fun _ => rfl) (fun _ => rfl)
  have l77 := putBs_length (bs.take k) ws off
  have w77 := words64_putBs (bs.take k) ws off h64
  refine ⟨by omega, ?_⟩
  have hbd := rows_drop (hb.keep K77) lk
  rw [hb.1] at hbd
  rw [show k * 1 = k by omega] at hbd ⊢
  refine span_Edits.s R77 w77 (by omega) hbd h8d (by omega) ?_ (fun h => absurd (by unfold inside; omega) h)
  intro _ s86 H86 k86 O86
  have e1 : ((off : Int) + (k : Int)).toNat = off + k := by omega
  rw [e1] at O86
  have K86 := K77.trans k86
  have R63 := (O63.rows (fun _ => rfl) (fun _ => rfl)).keep (((k72.trans k77)).trans k86)
  refine span_Apply.s (hw.keep K86) (by omega) R63 (by rw [editsOf_length]; have := tl off bs.length (by omega); omega) ?_
  intro s91 H91 k91 O91
  rw [applyE_edits (by omega)] at O91
  have O91 : Own H86.size H91 s91 1 wU (putBs ws off bs) := by
    rcases O91 with h | ⟨h, _⟩
    · exact h
    · rw [h] at g2; simp at g2
  have R91 := O91.rows (fun _ => rfl) (fun _ => rfl)
  have l91 := putBs_length bs ws off
  have w91 := words64_putBs bs ws off h64
  refine span_Edits.s R91 w91 (by omega) (hb.keep (K86.trans k91)) h8 (by omega) ?_ (fun h => absurd (by unfold inside; omega) h)
  intro _ s96 H96 k96 O96
  rw [Int.toNat_natCast] at O96
  simp only [if_true]
  have R86 := (O86.rows (fun _ => rfl) (fun _ => rfl)).keep (k91.trans k96)
  refine span_Apply.s (R77.keep ((k86.trans k91).trans k96)) (by omega) R86 (by rw [editsOf_length]; have := tl (off + k) (bs.drop k).length (by omega); omega) ?_
  intro s112 H112 k112 O112
  have ea : applyE (putBs ws off (bs.take k)) (editsOf (putBs (putBs ws off (bs.take k)) (off + k) (bs.drop k)) ((off + k) / 8) (touched (off + k) (bs.drop k).length)) = putBs ws off bs := by
    rw [applyE_edits (by omega)]
    have := putBs_app (bs.take k) (bs.drop k) ws off
    rw [ltake, List.take_append_drop] at this
    exact this
  rw [ea] at O112
  have O112 : Own H96.size H112 s112 1 wU (putBs ws off bs) := by
    rcases O112 with h | ⟨h, _⟩
    · exact h
    · rw [h] at l77; simp at l77; omega
  refine darningref4_SameWords.s (O112.rows (fun _ => rfl) (fun _ => rfl)) (R91.keep (k96.trans k112)) (by omega) rfl ?_
  rw [if_pos rfl]
  refine span_Apply.s (R91.keep (k96.trans k112)) (by omega) ((O96.rows (fun _ => rfl) (fun _ => rfl)).keep k112) (by rw [editsOf_length]; have := tl off bs.length (by omega); omega) ?_
  intro s119 H119 k119 O119
  rw [applyE_edits (by omega), putBs_again h64 h8 hl] at O119
  have O119 : Own H112.size H119 s119 1 wU (putBs ws off bs) := by
    rcases O119 with h | ⟨h, _⟩
    · exact h
    · rw [h] at l91; simp at l91; omega
  refine darningref4_SameWords.s (O119.rows (fun _ => rfl) (fun _ => rfl)) ((R91.keep (k96.trans k112)).keep k119) (by omega) rfl ?_
  rw [if_pos rfl]
  exact aw _
end
end Go.Proofs.Ytmbipadfcbndgaa
