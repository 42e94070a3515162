import Derived.Test.YtgddfhnochcolaaS2
import Derived.Test.YtgddfhnochcolaaAbsTwo
set_option linter.all false
namespace Go.Proofs.Ytgddfhnochcolaa
open Go Go.Abs

def putB (ws : List Int) (i : Nat) (c : Int) : List Int := ws.set (i / 8) (setB (ws.getD (i / 8) 0) (i % 8) c)
def putBs : List Int → Nat → List Int → List Int
  | ws, _, [] => ws
  | ws, i, c :: r => putBs (putB ws i c) (i + 1) r
def eU (x : Int × Int) : List Value := [.int .i64 x.1, .int .u64 x.2]
/-- The m words from q on, as edits. -/
def editsOf (cur : List Int) (q m : Nat) : List (Int × Int) := (List.range m).map fun j => (((q + j : Nat) : Int), cur.getD (q + j) 0)
/-- How many words k bytes from off on touch. -/
def touched (off k : Nat) : Nat := if k = 0 then 0 else (off + k - 1) / 8 - off / 8 + 1
def bytes8 (bs : List Int) : Prop := ∀ v ∈ bs, 0 ≤ v ∧ v ≤ 255

theorem putB_length (ws : List Int) (i : Nat) (c : Int) : (putB ws i c).length = ws.length := by simp [putB]
theorem putBs_length : ∀ (bs ws : List Int) (i : Nat), (putBs ws i bs).length = ws.length := by
  intro bs
  induction bs with
  | nil => intro ws i; rfl
  | cons c r ih => intro ws i; simp [putBs, ih, putB_length]
theorem putBs_snoc : ∀ (bs ws : List Int) (i : Nat) (c : Int), putBs ws i (bs ++ [c]) = putB (putBs ws i bs) (i + bs.length) c := by
  intro bs
  induction bs with
  | nil => intro ws i c; rfl
  | cons b r ih => intro ws i c; simp only [List.cons_append, putBs, ih, List.length_cons]; congr 1; omega
theorem putB_getD (ws : List Int) (i : Nat) (c : Int) (w : Nat) (h : i / 8 < ws.length) : (putB ws i c).getD w 0 = if w = i / 8 then setB (ws.getD (i / 8) 0) (i % 8) c else ws.getD w 0 := by
  unfold putB
  simp only [List.getD_eq_getElem?_getD]
  by_cases hw : w = i / 8
  · subst hw; simp [h]
  · rw [if_neg hw, List.getElem?_set_ne (by omega)]
theorem putBs_far : ∀ (bs ws : List Int) (i w : Nat), (i + bs.length ≤ w * 8 ∨ w < i / 8) → i + bs.length ≤ ws.length * 8 → (putBs ws i bs).getD w 0 = ws.getD w 0 := by
  intro bs
  induction bs with
  | nil => intro ws i w _ _; rfl
  | cons c r ih =>
    intro ws i w h hl
    simp only [List.length_cons] at h hl
    simp only [putBs]
    rw [ih _ _ _ (by omega) (by rw [putB_length]; omega), putB_getD _ _ _ _ (by omega), if_neg (by omega)]

section
variable {off : Nat} {H : AH} {x0 x2 : Sl}

theorem editsOf_length (cur : List Int) (q m : Nat) : (editsOf cur q m).length = m := by simp [editsOf]
theorem editsOf_get {cur : List Int} {q m i : Nat} (h : i < m) : (editsOf cur q m)[i]? = some (((q + i : Nat) : Int), cur.getD (q + i) 0) := by
  simp [editsOf, h]

theorem words64_putB {ws : List Int} (h : words64 ws) (i : Nat) (c : Int) : words64 (putB ws i c) := by
  intro v hv
  unfold putB at hv
  rcases List.mem_or_eq_of_mem_set hv with hv | rfl
  · exact h v hv
  · exact setB_range _ _ _

theorem editsOf_put {cur : List Int} {q m i : Nat} {c : Int} (hm : 1 ≤ m) (hi : i / 8 = q + m - 1) (hl : i / 8 < cur.length) :
    (editsOf cur q m).set (m - 1) (((i / 8 : Nat) : Int), setB (cur.getD (i / 8) 0) (i % 8) c) = editsOf (putB cur i c) q m := by
  apply List.ext_getElem?
  intro j
  by_cases hj : j < m
  · rw [editsOf_get hj, putB_getD _ _ _ _ hl]
    by_cases hjm : j = m - 1
    · subst hjm
      rw [List.getElem?_set_self (by rw [editsOf_length]; omega), if_pos (by omega), show q + (m - 1) = i / 8 from by omega]
    · rw [List.getElem?_set_ne (by omega), editsOf_get hj, if_neg (by omega)]
  · rw [List.getElem?_eq_none (by rw [List.length_set, editsOf_length]; omega), List.getElem?_eq_none (by rw [editsOf_length]; omega)]

theorem Edits_j1 {it : Sl × Int → AH → Prop} {H0 H1 : AH} {s : Sl} {cur : List Int} {k m : Nat} {c : Int} {t : Sl × Int} (ht : t.2 = (k : Int)) (hK : Keeps H0 H1) (hO : Own H0.size H1 s 2 eU (editsOf cur (off / 8) m)) (hm : 1 ≤ m) (hm' : m ≤ 1000)
    (hi : (off + k) / 8 = off / 8 + m - 1) (hl : (off + k) / 8 < cur.length) (hc : 0 ≤ c ∧ c ≤ 255) (hoff : off + k ≤ 100000000)
    (hit : ∀ H', Keeps H0 H' → Own H0.size H' s 2 eU (editsOf (putB cur (off + k) c) (off / 8) m) → it (s, (k : Int) + 1) H') : span_Edits.j1 (off : Int) t it c s H1 := by
  unfold span_Edits.j1
  have hlen : s.n = m := by
    rcases hO with ⟨rfl, h⟩ | ⟨b, rfl, _, _, _⟩
    · have := editsOf_length cur (off / 8) m
      rw [h] at this; simpa using this
    · simp [editsOf_length]
  rw [hlen, ht, wrap_i64 (n := (m : Int) - 1) (by omega) (by omega), wrap_i64 (n := (off : Int) + (k : Int)) (by omega) (by omega)]
  have hidx : ((m : Int) - 1).toNat = m - 1 := by omega
  have hget := editsOf_get (cur := cur) (q := off / 8) (show m - 1 < m from by omega)
  have hq : off / 8 + (m - 1) = (off + k) / 8 := by omega
  rw [hq] at hget
  obtain ⟨b, ha, hb1, hb2, hcell⟩ := hO.cell (fun _ => rfl) hget (j := 1) (by omega)
  refine ⟨⟨by omega, by omega⟩, ?_⟩
  rw [ha, onPtr_mk, hidx, addr_add, addr_add, Nat.zero_add, hcell]
  have hmod : ((off : Int) + (k : Int)).tmod 8 = (((off + k) % 8 : Nat) : Int) := by rw [Int.tmod_eq_emod_of_nonneg (by omega)]; omega
  rw [hmod]
  show elI .u64 (some (Value.int .u64 (cur.getD ((off + k) / 8) 0))) _
  rw [elI_some, wrap_i64 (n := (((off + k) % 8 : Nat) : Int) * 8) (by omega) (by omega), Int.mul_comm _ 8, word_set hc (by omega)]
  refine ⟨by decide, by omega, by decide, by omega, ?_⟩
  obtain ⟨b', ha', _, _, hcan, hO', hsame⟩ := hO.put (y := ((((off + k) / 8 : Nat) : Int), setB (cur.getD ((off + k) / 8) 0) ((off + k) % 8) c)) (fun _ => rfl) hget (j := 1) (by omega) (v := .int .u64 (setB (cur.getD ((off + k) / 8) 0) ((off + k) % 8) c)) rfl
  rw [ha] at ha'
  injection ha' with ha'
  injection ha' with ha'
  subst ha'
  refine ⟨hcan, ?_⟩
  rw [wrap_i64 (n := (k : Int) + 1) (by omega) (by omega)]
  rw [editsOf_put hm hi hl] at hO'
  exact hit _ (hK.put hb1 _) hO'

theorem own_n {α : Type} {B : Nat} {H : AH} {s : Sl} {z : Nat} {f : α → List Value} {l : List α} (h : Own B H s z f l) : s.n = l.length := by
  rcases h with ⟨rfl, rfl⟩ | ⟨b, rfl, _, _, _⟩ <;> rfl

theorem Edits_j2 {it : Sl × Int → AH → Prop} {H0 H1 : AH} {s : Sl} {ws cur : List Int} {k m : Nat} {c : Int} {t : Sl × Int} (ht : t = (s, (k : Int))) (hw : Abs.Rows H1 x0 1 wU ws) (hcl : cur.length = ws.length) (hcw : cur.getD ((off + k) / 8) 0 = ws.getD ((off + k) / 8) 0)
    (hK : Keeps H0 H1) (hO : Own H0.size H1 s 2 eU (editsOf cur (off / 8) m)) (hm' : m ≤ 900)
    (hi : (off + k) / 8 = off / 8 + m) (hl : (off + k) / 8 < cur.length) (hc : 0 ≤ c ∧ c ≤ 255) (hoff : off + k ≤ 100000000) (hwl : ws.length ≤ 1000000)
    (hit : ∀ s' H', Keeps H0 H' → Own H0.size H' s' 2 eU (editsOf (putB cur (off + k) c) (off / 8) (m + 1)) → it (s', (k : Int) + 1) H') : span_Edits.j2 x0 (off : Int) t it H1 c true := by
  subst ht
  unfold span_Edits.j2
  rw [bcase_true]
  simp only
  rw [wrap_i64 (n := (off : Int) + (k : Int)) (by omega) (by omega), Int.tdiv_eq_ediv_of_nonneg (by omega), wrap_i64 (n := ((off : Int) + (k : Int)) / 8) (by omega) (by omega), hw.1]
  refine ⟨by decide, by decide, ⟨by omega, by omega⟩, ?_⟩
  have hidx : (((off : Int) + (k : Int)) / 8).toNat = (off + k) / 8 := by omega
  have hlt : (off + k) / 8 < ws.length := by omega
  obtain ⟨b, o, ha, hb, hcell⟩ := rows_cell1 (g := fun v => Value.int .u64 v) hw hlt
  rw [ha, onPtr_mk, hidx, hcell, elI_some]
  refine ⟨rfl, ?_⟩
  rw [newC_eq]
  have hx : [Value.int .i64 (((off : Int) + (k : Int)) / 8), Value.int .u64 ws[(off + k) / 8]] = eU ((((off + k) / 8 : Nat) : Int), cur.getD ((off + k) / 8) 0) := by
    rw [hcw]
    simp only [eU, List.getD_eq_getElem?_getD, List.getElem?_eq_getElem hlt, Option.getD_some]
    congr 1
  rw [hx]
  refine append_own (H0 := H0) (B := H0.size) (f := eU) (x := ((((off + k) / 8 : Nat) : Int), cur.getD ((off + k) / 8) 0)) (l := editsOf cur (off / 8) m) (fun _ => rfl) rfl hO (Nat.le_refl _) hK.1 hK (by rw [editsOf_length]; simp only [lim]; omega) ?_
  intro s' H' hO' hK' _ _
  have hl' : editsOf cur (off / 8) m ++ [((((off + k) / 8 : Nat) : Int), cur.getD ((off + k) / 8) 0)] = editsOf cur (off / 8) (m + 1) := by
    simp only [editsOf, List.range_succ, List.map_append, List.map_cons, List.map_nil, hi]
  rw [hl'] at hO'
  exact Edits_j1 rfl hK' hO' (by omega) (by omega) (by omega) hl hc hoff (fun H'' hK'' hO'' => hit s' H'' hK'' hO'')

theorem span_Edits.s {ws bs : List Int} {k : Sl → Bool → AH → Prop} {offI : Int} (hw : Abs.Rows H x0 1 wU ws) (h64 : words64 ws) (hwl : ws.length ≤ 1000000) (hb : Abs.Rows H x2 1 bU bs) (h8 : bytes8 bs) (ho : -9223372036854775808 ≤ offI ∧ offI ≤ 9223372036854775807)
    (h1 : inside ws.length offI bs.length → ∀ s H', Keeps H H' → Own H.size H' s 2 eU (editsOf (putBs ws offI.toNat bs) (offI.toNat / 8) (touched offI.toNat bs.length)) → k s true H')
    (h0 : ¬ inside ws.length offI bs.length → k ⟨none, 0, 0⟩ false H) : span_Edits x0 offI x2 H k := by
  refine span_Edits.link ?_
  unfold span_Edits.b
  rw [hb.1]
  refine span_within.s (by rw [hw.1]; omega) ho ?_
  rw [hw.1]
  by_cases hin : inside ws.length offI bs.length
  · rw [show decide (inside ws.length offI bs.length) = true from by simpa using hin, Bool.not_true, bcase_false]
    have hin' := hin
    unfold inside at hin
    obtain ⟨off, rfl⟩ := Int.eq_ofNat_of_zero_le hin.1
    simp only [Int.toNat_natCast] at h1
    refine loopT_inv (t := ((⟨none, 0, 0⟩, (0 : Int)) : Sl × Int)) (H := H) (I := fun (t : Sl × Int) H' => ∃ j : Nat, t.2 = (j : Int) ∧ j ≤ bs.length ∧ Keeps H H' ∧ Own H.size H' t.1 2 eU (editsOf (putBs ws off (bs.take j)) (off / 8) (touched off j))) (m := fun (t : Sl × Int) _ => Int.toNat ((bs.length : Int) - t.2)) ?_ ?_
    · intro t H1 hI it hit
      obtain ⟨s, i⟩ := t
      obtain ⟨j, hi, hj, hK, hO⟩ := hI
      simp only at hi hO
      subst hi
      have hR := hw.keep hK
      have hB := hb.keep hK
      unfold span_Edits.l3
      simp only
      rw [hb.1]
      by_cases hlt : j < bs.length
      · rw [show decide ((j : Int) < (bs.length : Int)) = true from by simpa using hlt, bcase_true]
        obtain ⟨b, o, ha, hbb, hcell⟩ := rows_cell1 (g := fun v => Value.int .u8 v) hB hlt
        refine ⟨⟨by omega, by omega⟩, ?_⟩
        rw [ha, onPtr_mk, Int.toNat_natCast, hcell, elI_some]
        have hc := h8 _ (List.getElem_mem hlt)
        have hcl : (putBs ws off (bs.take j)).length = ws.length := putBs_length _ _ _
        have hstep : putB (putBs ws off (bs.take j)) (off + j) bs[j] = putBs ws off (bs.take (j + 1)) := by
          rw [List.take_succ, List.getElem?_eq_getElem hlt, Option.toList_some, putBs_snoc, List.length_take, Nat.min_eq_left (by omega)]
        have hnext : ∀ s' H', Keeps H H' → Own H.size H' s' 2 eU (editsOf (putB (putBs ws off (bs.take j)) (off + j) bs[j]) (off / 8) (touched off (j + 1))) → it (s', (j : Int) + 1) H' := by
          intro s' H' hK' hO'
          rw [hstep] at hO'
          exact hit _ _ ⟨j + 1, by simp, by omega, hK', hO'⟩ (by simp only; omega)
        rw [own_n hO, editsOf_length]
        have hlw : (off + j) / 8 < (putBs ws off (bs.take j)).length := by rw [hcl]; omega
        by_cases hj0 : j = 0
        · subst hj0
          rw [show (((touched off 0 : Nat) : Int) == 0) = true from rfl, bcase_true]
          refine Edits_j2 (m := 0) (cur := putBs ws off (bs.take 0)) rfl hR hcl rfl hK hO (by omega) (by omega) hlw hc (by omega) hwl ?_
          intro s' H' hK' hO'
          have : touched off (0 + 1) = 0 + 1 := by simp [touched]
          exact hnext s' H' hK' (by rw [this]; exact hO')
        · have htm : touched off j = (off + j - 1) / 8 - off / 8 + 1 := by simp [touched, hj0]
          have htn : touched off (j + 1) = (off + j) / 8 - off / 8 + 1 := by simp [touched]
          have hle : touched off j ≤ 60 := by omega
          rw [show (((touched off j : Nat) : Int) == 0) = false from by simp; omega, bcase_false, wrap_i64 (n := ((touched off j : Nat) : Int) - 1) (by omega) (by omega)]
          refine ⟨⟨by omega, by omega⟩, ?_⟩
          have hget := editsOf_get (cur := putBs ws off (bs.take j)) (q := off / 8) (show touched off j - 1 < touched off j from by omega)
          obtain ⟨b', ha', _, _, hcell'⟩ := hO.cell (fun _ => rfl) hget (j := 0) (by omega)
          have hidx : (((touched off j : Nat) : Int) - 1).toNat = touched off j - 1 := by omega
          rw [ha', onPtr_mk, hidx, addr_add, addr_add, Nat.zero_add, hcell']
          show elI .i64 (some (Value.int .i64 ((off / 8 + (touched off j - 1) : Nat) : Int))) _
          rw [elI_some, wrap_i64 (n := (off : Int) + (j : Int)) (by omega) (by omega), Int.tdiv_eq_ediv_of_nonneg (by omega), wrap_i64 (n := ((off : Int) + (j : Int)) / 8) (by omega) (by omega)]
          refine ⟨by decide, ?_⟩
          by_cases hsame : (off + j) / 8 = off / 8 + touched off j - 1
          · rw [show ((((off / 8 + (touched off j - 1) : Nat) : Int)) != ((off : Int) + (j : Int)) / 8) = false from by simp; omega]
            unfold span_Edits.j2
            rw [bcase_false]
            refine Edits_j1 (m := touched off j) (cur := putBs ws off (bs.take j)) rfl hK hO (by omega) (by omega) hsame hlw hc (by omega) ?_
            intro H' hK' hO'
            exact hnext s H' hK' (by rw [show touched off (j + 1) = touched off j from by omega]; exact hO')
          · rw [show ((((off / 8 + (touched off j - 1) : Nat) : Int)) != ((off : Int) + (j : Int)) / 8) = true from by simp; omega]
            refine Edits_j2 (m := touched off j) (cur := putBs ws off (bs.take j)) rfl hR hcl ?_ hK hO (by omega) (by omega) hlw hc (by omega) hwl ?_
            · exact putBs_far _ _ _ _ (.inl (by rw [List.length_take]; omega)) (by rw [List.length_take]; omega)
            · intro s' H' hK' hO'
              exact hnext s' H' hK' (by rw [show touched off (j + 1) = touched off j + 1 from by omega]; exact hO')
      · rw [show decide ((j : Int) < (bs.length : Int)) = false from by simpa using hlt, bcase_false]
        have hjn : j = bs.length := by omega
        subst hjn
        rw [List.take_length] at hO
        exact h1 hin' _ _ hK hO
    · exact ⟨0, rfl, by omega, Keeps.refl H, .inl ⟨rfl, rfl⟩⟩
  · rw [show decide (inside ws.length offI bs.length) = false from by simpa using hin, Bool.not_false, bcase_true]
    exact h0 hin
end
end Go.Proofs.Ytgddfhnochcolaa
