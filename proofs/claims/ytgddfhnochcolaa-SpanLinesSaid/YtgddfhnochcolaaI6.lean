import Derived.Test.YtgddfhnochcolaaI5
set_option linter.all false
set_option linter.all false
namespace Go.Proofs.Ytgddfhnochcolaa
open Go Go.Abs

section
variable {H : AH} {x0 x2 : Sl} {off : Nat}

theorem darningref4_inside.s {m : Nat} {o n : Int} {k : Bool → AH → Prop} (hm : m ≤ 1000000) (ho : -9223372036854775808 ≤ o ∧ o ≤ 9223372036854775807) (hn : -9223372036854775808 ≤ n ∧ n ≤ 9223372036854775807) (h : k (decide (inside m o n)) H) : darningref4_inside (m : Int) o n H k := by
  have main : ∀ v : Bool, (v = true ↔ inside m o n) → k v H := fun v hv => by
    have : v = decide (inside m o n) := by
      by_cases hi : inside m o n
      · rw [decide_eq_true hi]; exact hv.2 hi
      · rw [decide_eq_false hi]; cases v; rfl; exact absurd (hv.1 rfl) hi
    rw [this]; exact h
  clear h
  unfold inside at main
  refine darningref4_inside.link ?_
  unfold darningref4_inside.b
  simp only [bcase_eq, decide_eq_true_eq]
  by_cases c1 : o ≥ 0
  rotate_left 1
  · rw [if_neg c1]; exact main false ⟨fun hh => (by cases hh), fun hh => by omega⟩
  rw [if_pos c1]
  by_cases c2 : n ≥ 0
  rotate_left 1
  · rw [if_neg c2]; exact main false ⟨fun hh => (by cases hh), fun hh => by omega⟩
  rw [if_pos c2]
  by_cases c3 : n ≤ 448
  rotate_left 1
  · rw [if_neg c3]; exact main false ⟨fun hh => (by cases hh), fun hh => by omega⟩
  rw [if_pos c3, wrap_i64 (n := 8 * (m : Int)) (by omega) (by omega)]
  by_cases c4 : o ≤ 8 * (m : Int)
  rotate_left 1
  · rw [if_neg c4]; exact main false ⟨fun hh => (by cases hh), fun hh => by omega⟩
  rw [if_pos c4, wrap_i64 (n := 8 * (m : Int) - o) (by omega) (by omega)]
  refine main _ ?_
  rw [decide_eq_true_eq]
  constructor
  · intro hh; omega
  · intro hh; omega

theorem REdits_j1 {it : Sl × Int → AH → Prop} {H0 H1 : AH} {s : Sl} {cur : List Int} {k m : Nat} {c : Int} {t : Sl × Int} (ht : t.2 = (k : Int)) (hK : Keeps H0 H1) (hO : Own H0.size H1 s 2 eU (editsOf cur (off / 8) m)) (hm : 1 ≤ m) (hm' : m ≤ 1000)
    (hi : (off + k) / 8 = off / 8 + m - 1) (hl : (off + k) / 8 < cur.length) (hc : 0 ≤ c ∧ c ≤ 255) (hoff : off + k ≤ 100000000)
    (hit : ∀ H', Keeps H0 H' → Own H0.size H' s 2 eU (editsOf (putB cur (off + k) c) (off / 8) m) → it (s, (k : Int) + 1) H') : darningref4_ByteEdits.j1 (off : Int) t it c s H1 := by
  unfold darningref4_ByteEdits.j1
  have hlen : s.n = m := by
    rcases hO with ⟨rfl, h⟩ | ⟨b, rfl, _, _, _⟩
    · have := editsOf_length cur (off / 8) m
      rw [h] at this; simpa using this
    · simp [editsOf_length]
  rw [hlen, ht, wrap_i64 (n := (m : Int) - 1) (by omega) (by omega), wrap_i64 (n := (off : Int) + (k : Int)) (by omega) (by omega)]
  have hidx : ((m : Int) - 1).toNat = m - 1 := by omega
  have hget := editsOf_get (cur := cur) (q := off / 8) (show m - 1 < m from by omega)
  have hq : off / 8 + (m - 1) = (off + k) / 8 := by omega
  rw [hq] at hget
  obtain ⟨b, ha, hb1, hb2, hcell⟩ := hO.cell (fun _ => rfl) hget (j := 1) (by omega)
  refine ⟨⟨by omega, by omega⟩, ?_⟩
  rw [ha, onPtr_mk, hidx, addr_add, addr_add, Nat.zero_add, hcell]
  have hmod : ((off : Int) + (k : Int)).tmod 8 = (((off + k) % 8 : Nat) : Int) := by rw [Int.tmod_eq_emod_of_nonneg (by omega)]; omega
  rw [hmod]
  show elI .u64 (some (Value.int .u64 (cur.getD ((off + k) / 8) 0))) _
  rw [elI_some, wrap_i64 (n := (((off + k) % 8 : Nat) : Int) * 8) (by omega) (by omega), wrap_u64 (n := (((off + k) % 8 : Nat) : Int) * 8) (by omega) (by omega), Int.mul_comm _ 8, word_set hc (by omega)]
  refine ⟨by omega, by omega, ?_⟩
  obtain ⟨b', ha', _, _, hcan, hO', hsame⟩ := hO.put (y := ((((off + k) / 8 : Nat) : Int), setB (cur.getD ((off + k) / 8) 0) ((off + k) % 8) c)) (fun _ => rfl) hget (j := 1) (by omega) (v := .int .u64 (setB (cur.getD ((off + k) / 8) 0) ((off + k) % 8) c)) rfl
  rw [ha] at ha'
  injection ha' with ha'
  injection ha' with ha'
  subst ha'
  refine ⟨hcan, ?_⟩
  rw [wrap_i64 (n := (k : Int) + 1) (by omega) (by omega)]
  rw [editsOf_put hm hi hl] at hO'
  exact hit _ (hK.put hb1 _) hO'

theorem REdits_j2 {it : Sl × Int → AH → Prop} {H0 H1 : AH} {s : Sl} {ws cur : List Int} {k m : Nat} {c : Int} {t : Sl × Int} (ht : t = (s, (k : Int))) (hw : Abs.Rows H1 x0 1 wU ws) (hcl : cur.length = ws.length) (hcw : cur.getD ((off + k) / 8) 0 = ws.getD ((off + k) / 8) 0)
    (hK : Keeps H0 H1) (hO : Own H0.size H1 s 2 eU (editsOf cur (off / 8) m)) (hm' : m ≤ 900)
    (hi : (off + k) / 8 = off / 8 + m) (hl : (off + k) / 8 < cur.length) (hc : 0 ≤ c ∧ c ≤ 255) (hoff : off + k ≤ 100000000) (hwl : ws.length ≤ 1000000)
    (hit : ∀ s' H', Keeps H0 H' → Own H0.size H' s' 2 eU (editsOf (putB cur (off + k) c) (off / 8) (m + 1)) → it (s', (k : Int) + 1) H') : darningref4_ByteEdits.j2 x0 (off : Int) t it H1 c true := by
  subst ht
  unfold darningref4_ByteEdits.j2
  rw [bcase_true]
  simp only
  rw [wrap_i64 (n := (off : Int) + (k : Int)) (by omega) (by omega), Int.tdiv_eq_ediv_of_nonneg (by omega), wrap_i64 (n := ((off : Int) + (k : Int)) / 8) (by omega) (by omega), hw.1]
  refine ⟨⟨by omega, by omega⟩, ?_⟩
  have hidx : (((off : Int) + (k : Int)) / 8).toNat = (off + k) / 8 := by omega
  have hlt : (off + k) / 8 < ws.length := by omega
  obtain ⟨b, o, ha, hb, hcell⟩ := rows_cell1 (g := fun v => Value.int .u64 v) hw hlt
  rw [ha, onPtr_mk, hidx, hcell, elI_some]
  refine ⟨rfl, ?_⟩
  rw [newC_eq]
  have hx : [Value.int .i64 (((off : Int) + (k : Int)) / 8), Value.int .u64 ws[(off + k) / 8]] = eU ((((off + k) / 8 : Nat) : Int), cur.getD ((off + k) / 8) 0) := by
    rw [hcw]
    simp only [eU, List.getD_eq_getElem?_getD, List.getElem?_eq_getElem hlt, Option.getD_some]
    congr 1
  rw [hx]
  refine append_own (H0 := H0) (B := H0.size) (f := eU) (x := ((((off + k) / 8 : Nat) : Int), cur.getD ((off + k) / 8) 0)) (l := editsOf cur (off / 8) m) (fun _ => rfl) rfl hO (Nat.le_refl _) hK.1 hK (by rw [editsOf_length]; simp only [lim]; omega) ?_
  intro s' H' hO' hK' _ _
  have hl' : editsOf cur (off / 8) m ++ [((((off + k) / 8 : Nat) : Int), cur.getD ((off + k) / 8) 0)] = editsOf cur (off / 8) (m + 1) := by
    simp only [editsOf, List.range_succ, List.map_append, List.map_cons, List.map_nil, hi]
  rw [hl'] at hO'
  exact REdits_j1 rfl hK' hO' (by omega) (by omega) (by omega) hl hc hoff (fun H'' hK'' hO'' => hit s' H'' hK'' hO'')

theorem darningref4_ByteEdits.s {ws bs : List Int} {k : Sl → Bool → AH → Prop} {offI : Int} (hw : Abs.Rows H x0 1 wU ws) (h64 : words64 ws) (hwl : ws.length ≤ 1000000) (hb : Abs.Rows H x2 1 bU bs) (hbl : bs.length ≤ 1000000000000) (h8 : bytes8 bs) (ho : -9223372036854775808 ≤ offI ∧ offI ≤ 9223372036854775807)
    (h1 : inside ws.length offI bs.length → ∀ s H', Keeps H H' → Own H.size H' s 2 eU (editsOf (putBs ws offI.toNat bs) (offI.toNat / 8) (touched offI.toNat bs.length)) → k s true H')
    (h0 : ¬ inside ws.length offI bs.length → k ⟨none, 0, 0⟩ false H) : darningref4_ByteEdits x0 offI x2 H k := by
  refine darningref4_ByteEdits.link ?_
  unfold darningref4_ByteEdits.b
  rw [hb.1]
  rw [hw.1]
  refine darningref4_inside.s (by omega) ho (by omega) ?_
  by_cases hin : inside ws.length offI bs.length
  · rw [show decide (inside ws.length offI bs.length) = true from by simpa using hin, Bool.not_true, bcase_false]
    have hin' := hin
    unfold inside at hin
    obtain ⟨off, rfl⟩ := Int.eq_ofNat_of_zero_le hin.1
    simp only [Int.toNat_natCast] at h1
    refine loopT_inv (t := ((⟨none, 0, 0⟩, (0 : Int)) : Sl × Int)) (H := H) (I := fun (t : Sl × Int) H' => ∃ j : Nat, t.2 = (j : Int) ∧ j ≤ bs.length ∧ Keeps H H' ∧ Own H.size H' t.1 2 eU (editsOf (putBs ws off (bs.take j)) (off / 8) (touched off j))) (m := fun (t : Sl × Int) _ => Int.toNat ((bs.length : Int) - t.2)) ?_ ?_
    · intro t H1 hI it hit
      obtain ⟨s, i⟩ := t
      obtain ⟨j, hi, hj, hK, hO⟩ := hI
      simp only at hi hO
      subst hi
      have hR := hw.keep hK
      have hB := hb.keep hK
      unfold darningref4_ByteEdits.l3
      simp only
      rw [hb.1]
      by_cases hlt : j < bs.length
      · rw [show decide ((j : Int) < (bs.length : Int)) = true from by simpa using hlt, bcase_true]
        obtain ⟨b, o, ha, hbb, hcell⟩ := rows_cell1 (g := fun v => Value.int .u8 v) hB hlt
        refine ⟨⟨by omega, by omega⟩, ?_⟩
        rw [ha, onPtr_mk, Int.toNat_natCast, hcell, elI_some]
        refine ⟨by decide, by decide, ?_⟩
        have hc := h8 _ (List.getElem_mem hlt)
        have hcl : (putBs ws off (bs.take j)).length = ws.length := putBs_length _ _ _
        have hstep : putB (putBs ws off (bs.take j)) (off + j) bs[j] = putBs ws off (bs.take (j + 1)) := by
          rw [List.take_succ, List.getElem?_eq_getElem hlt, Option.toList_some, putBs_snoc, List.length_take, Nat.min_eq_left (by omega)]
        have hnext : ∀ s' H', Keeps H H' → Own H.size H' s' 2 eU (editsOf (putB (putBs ws off (bs.take j)) (off + j) bs[j]) (off / 8) (touched off (j + 1))) → it (s', (j : Int) + 1) H' := by
          intro s' H' hK' hO'
          rw [hstep] at hO'
          exact hit _ _ ⟨j + 1, by simp, by omega, hK', hO'⟩ (by simp only; omega)
        rw [own_n hO, editsOf_length]
        have hlw : (off + j) / 8 < (putBs ws off (bs.take j)).length := by rw [hcl]; omega
        by_cases hj0 : j = 0
        · subst hj0
          rw [show (((touched off 0 : Nat) : Int) == 0) = true from rfl, bcase_true]
          refine REdits_j2 (m := 0) (cur := putBs ws off (bs.take 0)) rfl hR hcl rfl hK hO (by omega) (by omega) hlw hc (by omega) hwl ?_
          intro s' H' hK' hO'
          have : touched off (0 + 1) = 0 + 1 := by simp [touched]
          exact hnext s' H' hK' (by rw [this]; exact hO')
        · have htm : touched off j = (off + j - 1) / 8 - off / 8 + 1 := by simp [touched, hj0]
          have htn : touched off (j + 1) = (off + j) / 8 - off / 8 + 1 := by simp [touched]
          have hle : touched off j ≤ 60 := by omega
          rw [show (((touched off j : Nat) : Int) == 0) = false from by simp; omega, bcase_false, wrap_i64 (n := ((touched off j : Nat) : Int) - 1) (by omega) (by omega)]
          refine ⟨⟨by omega, by omega⟩, ?_⟩
          have hget := editsOf_get (cur := putBs ws off (bs.take j)) (q := off / 8) (show touched off j - 1 < touched off j from by omega)
          obtain ⟨b', ha', _, _, hcell'⟩ := hO.cell (fun _ => rfl) hget (j := 0) (by omega)
          have hidx : (((touched off j : Nat) : Int) - 1).toNat = touched off j - 1 := by omega
          rw [ha', onPtr_mk, hidx, addr_add, addr_add, Nat.zero_add, hcell']
          show elI .i64 (some (Value.int .i64 ((off / 8 + (touched off j - 1) : Nat) : Int))) _
          rw [elI_some, wrap_i64 (n := (off : Int) + (j : Int)) (by omega) (by omega), Int.tdiv_eq_ediv_of_nonneg (by omega), wrap_i64 (n := ((off : Int) + (j : Int)) / 8) (by omega) (by omega)]
          by_cases hsame : (off + j) / 8 = off / 8 + touched off j - 1
          · rw [show ((((off / 8 + (touched off j - 1) : Nat) : Int)) != ((off : Int) + (j : Int)) / 8) = false from by simp; omega]
            unfold darningref4_ByteEdits.j2
            rw [bcase_false]
            refine REdits_j1 (m := touched off j) (cur := putBs ws off (bs.take j)) rfl hK hO (by omega) (by omega) hsame hlw hc (by omega) ?_
            intro H' hK' hO'
            exact hnext s H' hK' (by rw [show touched off (j + 1) = touched off j from by omega]; exact hO')
          · rw [show ((((off / 8 + (touched off j - 1) : Nat) : Int)) != ((off : Int) + (j : Int)) / 8) = true from by simp; omega]
            refine REdits_j2 (m := touched off j) (cur := putBs ws off (bs.take j)) rfl hR hcl ?_ hK hO (by omega) (by omega) hlw hc (by omega) hwl ?_
            · exact putBs_far _ _ _ _ (.inl (by rw [List.length_take]; omega)) (by rw [List.length_take]; omega)
            · intro s' H' hK' hO'
              exact hnext s' H' hK' (by rw [show touched off (j + 1) = touched off j + 1 from by omega]; exact hO')
      · rw [show decide ((j : Int) < (bs.length : Int)) = false from by simpa using hlt, bcase_false]
        have hjn : j = bs.length := by omega
        subst hjn
        rw [List.take_length] at hO
        exact h1 hin' _ _ hK hO
    · exact ⟨0, rfl, by omega, Keeps.refl H, .inl ⟨rfl, rfl⟩⟩
  · rw [show decide (inside ws.length offI bs.length) = false from by simpa using hin, Bool.not_false, bcase_true]
    exact h0 hin
end
end Go.Proofs.Ytgddfhnochcolaa
