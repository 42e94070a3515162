import Derived.Test.YtmbipadfcbndgaaS8
set_option linter.all false
set_option linter.all false
namespace Go.Proofs.Ytmbipadfcbndgaa
open Go Go.Abs

theorem umod18 {m : Int} (hm : 0 < m) (z : Int) : 0 ≤ Int.tmod (IntKind.wrap .u64 z) m ∧ Int.tmod (IntKind.wrap .u64 z) m < m := by
  have h0 : 0 ≤ IntKind.wrap .u64 z := by
    simp only [IntKind.wrap, IntKind.bits, IntKind.signed, Bool.false_and, Int.reducePow, Bool.false_eq_true, if_false]; omega
  rw [Int.tmod_eq_emod_of_nonneg h0]
  exact ⟨Int.emod_nonneg _ (by omega), Int.emod_lt_of_pos _ (by omega)⟩

theorem Chain.count {e : Int} : ∀ {l : List (Int × Int × Int)} {a : Int}, 0 ≤ a → Chain e a l e → (l.length : Int) = if a = e then 0 else (e - 1) / 8 - a / 8 + 1 := by
  intro l
  induction l with
  | nil => intro a _ h; simp only [Chain] at h; rw [if_pos h]; rfl
  | cons x r ih =>
    intro a ha h
    obtain ⟨h1, h2, h3, h4, h5, h6⟩ := h
    have hle := h6.le
    have hr := ih (by omega) h6
    simp only [List.length_cons]
    rw [if_neg (by omega)]
    by_cases he : a + x.2.2 = e
    · rw [if_pos he] at hr; omega
    · rw [if_neg he] at hr; omega

theorem map_byte {l : List Int} (h8 : bytes8 l) : (l.map fun v => UInt8.ofNat v.toNat).map byteV = l.map fun v => Value.int .u8 v := by
  rw [List.map_map]
  refine List.map_congr_left fun v hv => ?_
  have := h8 v hv
  simp only [Function.comp, byteV, UInt8.toNat_ofNat']
  congr 1
  omega
theorem rows_str {H : AH} {s : Sl} {l : List Int} {k : List UInt8 → Prop} (h : Abs.Rows H s 1 bU l) (h8 : bytes8 l) (hk : k (l.map fun v => UInt8.ofNat v.toNat)) : strC H s k :=
  ⟨_, by rw [map_byte h8]; exact rows_all (g := fun v => Value.int .u8 v) (fun _ => rfl) h, hk⟩

theorem bytes8_of (ws : List Int) (off n : Nat) (h64 : words64 ws) : bytes8 (bytesOf ws off n) := by
  intro v hv
  simp only [bytesOf, List.mem_map] at hv
  obtain ⟨j, _, rfl⟩ := hv
  unfold byteAt getB
  omega

section
variable {H : AH}
theorem darninglaw18_SpanBack.t {x0 x2 : Sl} {x1 x3 : Int} {ws bs : List Int} (hw : Abs.Rows H x0 1 wU ws) (h64' : ∀ v ∈ ws, isU v) (_ : ws.length ≤ maxLen) (_ : (Lit.int .i64 x1).wf = true)
    (hb : Abs.Rows H x2 1 bU bs) (h8' : ∀ v ∈ bs, isB v) (_ : bs.length ≤ maxLen) (_ : (Lit.int .i64 x3).wf = true) : darninglaw18_SpanBack x0 x1 x2 x3 H (fun r _ => r = true) := by
  have h64 : words64 ws := h64'
  have h8 : bytes8 bs := h8'
  have aw : ∀ H', darninglaw18_awake H' fun b _ => b = true := fun H' => darninglaw18_awake.s fun _ => rfl
  refine darninglaw18_SpanBack.link ?_
  unfold darninglaw18_SpanBack.b darninglaw18_SpanBack.j4
  simp only [bcase_eq, decide_eq_true_eq, hw.1, hb.1, beq_iff_eq]
  by_cases g1 : (ws.length : Int) > 300
  · rw [if_pos g1]; exact aw _
  rw [if_neg g1]
  by_cases g2 : (ws.length : Int) = 0
  · rw [if_pos g2]; exact aw _
  rw [if_neg g2]
  by_cases g3 : (bs.length : Int) > 448
  · rw [if_pos g3]; exact aw _
  rw [if_neg g3, wrap_i64 (n := 8 * (ws.length : Int)) (by omega) (by omega), wrap_u64 (n := 8 * (ws.length : Int)) (by omega) (by omega)]
  have ho := umod18 (m := 8 * (ws.length : Int)) (by omega) x1
  have ha := umod18 (m := 8 * (ws.length : Int)) (by omega) x3
  obtain ⟨off, hoff⟩ := Int.eq_ofNat_of_zero_le ho.1
  obtain ⟨pt, hat⟩ := Int.eq_ofNat_of_zero_le ha.1
  have hO : IntKind.wrap .i64 (Int.tmod (IntKind.wrap .u64 x1) (8 * (ws.length : Int))) = (off : Int) := by rw [hoff, wrap_i64 (by omega) (by omega)]
  have hA : IntKind.wrap .i64 (Int.tmod (IntKind.wrap .u64 x3) (8 * (ws.length : Int))) = (pt : Int) := by rw [hat, wrap_i64 (by omega) (by omega)]
  have lo : off < 8 * ws.length := by omega
  have la : pt < 8 * ws.length := by omega
  rw [hO, hA, wrap_i64 (n := (off : Int) + (bs.length : Int)) (by omega) (by omega)]
  refine ⟨by omega, ?_⟩
  refine span_Edits.s hw h64 (by omega) hb h8 (by omega) ?_ ?_
  rotate_left 1
  · intro hni
    rw [if_pos (by unfold inside at hni; omega)]
    simp only [Bool.not_false, if_true]
    rw [if_pos (by simp)]
    exact aw _
  intro hin s45 H45 hk45 hO45
  have hl : off + bs.length ≤ ws.length * 8 := by unfold inside at hin; omega
  rw [Int.toNat_natCast] at hO45
  rw [if_neg (by omega)]
  have hcur64 := words64_putBs bs ws off h64
  have hcl := putBs_length bs ws off
  have htl : touched off bs.length ≤ 448 := by unfold touched; split <;> omega
  refine span_Apply.s (hw.keep hk45) (by omega) (hO45.rows (fun _ => rfl) (fun _ => rfl)) (by rw [editsOf_length]; omega) ?_
  intro s68 H68 hk68 hO68
  rw [applyE_edits hl] at hO68
  have hO68 : Own H45.size H68 s68 1 wU (putBs ws off bs) := by
    rcases hO68 with h | ⟨h, _⟩
    · exact h
    · rw [h] at g2; simp at g2
  have hR68 := hO68.rows (fun _ => rfl) (fun _ => rfl)
  refine span_Read.s hR68 hcur64 (by omega) (by omega) ?_ (fun h => absurd (by unfold inside at hin ⊢; rw [hcl]; exact hin) h)
  intro _ s74 H74 hk74 hO74
  rw [Int.toNat_natCast, Int.toNat_natCast, bytesOf_putBs h64 h8 hl] at hO74
  refine ⟨by omega, ?_⟩
  refine span_Read.s (hR68.keep hk74) hcur64 (by omega) (by omega) ?_ (fun h => absurd (by unfold inside; rw [hcl]; omega) h)
  intro _ s88 H88 hk88 hO88
  refine span_Read.s (hw.keep (((hk45.trans hk68).trans hk74).trans hk88)) h64 (by omega) (by omega) ?_ (fun h => absurd (by unfold inside; omega) h)
  intro _ s94 H94 hk94 hO94
  rw [Int.toNat_natCast] at hO88 hO94
  have hk4594 := ((hk68.trans hk74).trans hk88).trans hk94
  have hR74 := (hO74.rows (fun _ => rfl) (fun _ => rfl)).keep (hk88.trans hk94)
  have hR88 := (hO88.rows (fun _ => rfl) (fun _ => rfl)).keep hk94
  have hR94 := hO94.rows (fun _ => rfl) (fun _ => rfl)
  have hRb := hb.keep (hk45.trans hk4594)
  have hE := hO45.keep hk4594.1 (fun b _ hb => hk4594.2 b hb)
  simp only [Bool.not_true, Bool.false_eq_true, if_false]
  refine rows_str hR74 h8 (rows_str hRb h8 ?_)
  rw [beq_self_eq_true, Bool.not_true, if_neg (by simp), hR68.1, hcl, if_neg (by simp)]
  refine span_Pieces.s (by omega) ?_
  intro s131 H131 lp hk131 hcp hO131
  have hcnt := hcp.count (by omega)
  have hn131 : s131.n = lp.length := own_n hO131
  have hn45 : s45.n = touched off bs.length := by rw [own_n hO45, editsOf_length]
  have heq : touched off bs.length = lp.length := by
    unfold touched
    by_cases h0 : bs.length = 0
    · rw [if_pos h0]; rw [h0, if_pos (by omega)] at hcnt; omega
    · rw [if_neg h0]; rw [if_neg (by omega)] at hcnt; omega
  have hE1 := hE.keep hk131.1 (fun b _ hb => hk131.2 b hb)
  have hF88 := hR88.keep hk131
  have hF94 := hR94.keep hk131
  unfold darninglaw18_SpanBack.j3
  rw [hn45, hn131, heq, show (((lp.length : Nat) : Int) != ((lp.length : Nat) : Int)) = false by simp, bcase_false]
  refine loopT_inv (t := ((false, (1 : Int)) : Bool × Int)) (I := fun (t : Bool × Int) H' => ∃ i : Nat, t.2 = (i : Int) ∧ 1 ≤ i ∧ H' = H131) (m := fun (t : Bool × Int) _ => Int.toNat ((lp.length : Int) - t.2)) ?_ ⟨1, rfl, by omega, rfl⟩
  intro t H' hI it hit
  obtain ⟨t1, t2⟩ := t
  obtain ⟨i, h1, h2, rfl⟩ := hI
  simp only at h1
  subst h1
  unfold darninglaw18_SpanBack.l2
  simp only [bcase_eq, decide_eq_true_eq, hn45, heq]
  by_cases hlt : (i : Int) < (lp.length : Int)
  · rw [if_pos hlt, wrap_i64 (n := (i : Int) - 1) (by omega) (by omega)]
    obtain ⟨b1, ha1, _, _, hc1⟩ := hE1.cell (fun _ => rfl) (editsOf_get (i := i) (by omega)) (j := 0) (by omega)
    obtain ⟨b2, ha2, _, _, hc2⟩ := hE1.cell (fun _ => rfl) (editsOf_get (i := i - 1) (by omega)) (j := 0) (by omega)
    rw [ha1] at ha2
    injection ha2 with ha2
    injection ha2 with ha2 _ _
    subst ha2
    rw [ha1]
    have ei : ((i : Int) - 1).toNat = i - 1 := by omega
    simp only [onPtr_mk, addr_add, Nat.zero_add, Int.toNat_natCast, ei]
    rw [show AH.cell? H' ⟨b1, i * 2 + 0, none⟩ = some (.int .i64 ((off / 8 + i : Nat) : Int)) from hc1, show AH.cell? H' ⟨b1, (i - 1) * 2 + 0, none⟩ = some (.int .i64 ((off / 8 + (i - 1) : Nat) : Int)) from hc2]
    refine ⟨by omega, ?_⟩
    rw [elI_some]
    refine ⟨by omega, ?_⟩
    rw [elI_some, wrap_i64 (n := ((off / 8 + (i - 1) : Nat) : Int) + 1) (by omega) (by omega), if_neg (by simp; omega), wrap_i64 (n := (i : Int) + 1) (by omega) (by omega)]
    exact hit _ _ ⟨i + 1, by simp, by omega, rfl⟩ (by simp only; omega)
  · rw [if_neg hlt]
    unfold darninglaw18_SpanBack.j1
    simp only [bcase_eq, decide_eq_true_eq, hw.1, hb.1]
    rw [wrap_i64 (n := 8 * (ws.length : Int)) (by omega) (by omega), wrap_u64 (n := 8 * (ws.length : Int)) (by omega) (by omega), hO, hA, wrap_i64 (n := (off : Int) + (bs.length : Int)) (by omega) (by omega)]
    have b1 : bytesOf (putBs ws off bs) pt (Int.toNat 1) = [byteAt (putBs ws off bs) pt] := by simp [bytesOf]
    have b2 : bytesOf ws pt (Int.toNat 1) = [byteAt ws pt] := by simp [bytesOf]
    have q1 := bytes8_of (putBs ws off bs) pt (Int.toNat 1) hcur64
    have q2 := bytes8_of ws pt (Int.toNat 1) h64
    have hp := byteAt_putBs bs ws off pt h64 h8 hl (by omega)
    have same : ¬ (off ≤ pt ∧ pt < off + bs.length) → strC H' s88 fun y167 => strC H' s94 fun y169 => if (ByteArray.toList ⟨List.toArray y167⟩ == ByteArray.toList ⟨List.toArray y169⟩) = true then (darninglaw18_awake H' fun b173 H173 => b173 = true) else false = true := by
      intro hn
      rw [if_neg hn] at hp
      refine rows_str hF88 q1 (rows_str hF94 q2 ?_)
      rw [b1, b2, hp, beq_self_eq_true, if_pos rfl]
      exact aw _
    by_cases c1 : (pt : Int) ≥ (off : Int)
    · rw [if_pos c1]
      by_cases c2 : (pt : Int) < (off : Int) + (bs.length : Int)
      · rw [if_pos c2]; exact aw _
      · rw [if_neg c2]; exact same (by omega)
    · rw [if_neg c1]; exact same (by omega)
end
end Go.Proofs.Ytmbipadfcbndgaa
