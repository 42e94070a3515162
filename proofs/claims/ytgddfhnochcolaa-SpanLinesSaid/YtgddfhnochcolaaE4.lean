import Derived.Test.YtgddfhnochcolaaE3
set_option linter.all false
set_option linter.all false
namespace Go.Proofs.Ytgddfhnochcolaa
open Go Go.Abs

def ExAt (H : AH) (o : Nat) (x : Ex × Nat) : Prop := ∃ e, H.get o = ⟨exV x, .rw, e⟩
section
variable {H : AH} {o : Nat} {x : Ex × Nat}
theorem ExAt.c0 (h : ExAt H o x) : AH.cell? H (Addr.add ⟨o, 0, none⟩ 0) = some (.int .i64 x.1.1) := by obtain ⟨e, h⟩ := h; simp [addr_add, AH.cell?, h, exV]
theorem ExAt.c1 (h : ExAt H o x) : AH.cell? H (Addr.add ⟨o, 0, none⟩ 1) = some (.int .i64 x.1.2.1) := by obtain ⟨e, h⟩ := h; simp [addr_add, AH.cell?, h, exV]
theorem ExAt.c2 (h : ExAt H o x) : AH.cell? H (Addr.add ⟨o, 0, none⟩ 2) = some (.slice (some ⟨x.2, 0, none⟩) x.1.2.2.length 1) := by obtain ⟨e, h⟩ := h; simp [addr_add, AH.cell?, h, exV]
theorem ExAt.row (h : ExAt H o x) : AH.row? H ⟨o, 0, none⟩ 3 = some (exV x) := by
  obtain ⟨e, h⟩ := h
  simp only [AH.row?, h, Option.isSome_none, Bool.false_eq_true, if_false]
  rw [if_neg (by simp)]
  rfl
theorem ExAt.new {e : Nat} : ExAt (H.push ⟨exV x, .rw, e⟩) H.size x := ⟨e, by rw [push_get, if_pos rfl]⟩
end

section
variable {F : Nat → Prop} {H : AH} {p : Nat} {ws : List Int} {root : Int}

def hitX (off n : Int) (x : Ex × Nat) : Prop := (x.1.1 + 1) * 8 ≤ off ∧ off + n ≤ (x.1.1 + x.1.2.1) * 8
instance {off n : Int} {x : Ex × Nat} : Decidable (hitX off n x) := by unfold hitX; infer_instance

theorem within_iff {E : List (Ex × Nat)} {off n : Int} (hR : MR ws.length (E.map (·.1)) ws) : withinN (blkL ws) off n ↔ 0 ≤ n ∧ n ≤ 448 ∧ ∃ x ∈ E, hitX off n x := by
  rw [MW.blk hR, hR.within]
  constructor
  · rintro ⟨h1, h2, x, hx, h3⟩
    rw [List.mem_map] at hx
    obtain ⟨y, hy, rfl⟩ := hx
    exact ⟨h1, h2, y, hy, h3⟩
  · rintro ⟨h1, h2, x, hx, h3⟩
    exact ⟨h1, h2, x.1, List.mem_map_of_mem hx, h3⟩

theorem model_Model_bytes.s {s : Sl} {E : List (Ex × Nat)} {off n : Int} {k : Sl → Int → AH → Prop} (hA : MdAt F H p ws.length s E root) (hR : MR ws.length (E.map (·.1)) ws) (hoff : isI off) (hn : isI n)
    (h0 : ¬ withinN (blkL ws) off n → ∀ H', Keeps H H' → k ⟨none, 0, 0⟩ 1 H')
    (h1 : ∀ e1 x e2, E = e1 ++ x :: e2 → 0 ≤ n → n ≤ 448 → hitX off n x → ∀ H', Keeps H H' → k ⟨some ⟨x.2, (off - (x.1.1 + 1) * 8).toNat, none⟩, n.toNat, 0⟩ 0 H') : model_Model_bytes (some ⟨p, 0, none⟩) off n H k := by
  rw [within_iff hR] at h0
  unfold isI at hoff hn
  refine model_Model_bytes.link ?_
  unfold model_Model_bytes.b
  rw [Option.isNone_some, bcase_false]
  have bad : ¬ (0 ≤ n ∧ n ≤ 448) → model_Model_bytes.j3 (some ⟨p, 0, none⟩) off n H k true := by
    intro hb
    unfold model_Model_bytes.j3
    rw [bcase_true]
    exact h0 (fun hh => hb ⟨hh.1, hh.2.1⟩) H (Keeps.refl H)
  by_cases hn0 : n < 0
  · rw [decide_eq_true hn0, bcase_true]; exact bad (by omega)
  rw [decide_eq_false hn0, bcase_false]
  by_cases hn1 : n > 448
  · rw [decide_eq_true hn1]; exact bad (by omega)
  rw [decide_eq_false hn1]
  unfold model_Model_bytes.j3
  rw [bcase_false, onPtr_mk, hA.c1, elL_some]
  obtain ⟨hel, hex⟩ := MdAt.elen (s := s) hR
  have hr := hA.rows
  show loopT (model_Model_bytes.l2 off n k s) ((⟨none, 0, 0⟩, 0, 0) : Sl × Int × Int) H
  refine loopT_inv (t := ((⟨none, 0, 0⟩, (0 : Int), (0 : Int)) : Sl × Int × Int)) (I := fun (t : Sl × Int × Int) H' => ∃ i : Nat, t.2.2 = (i : Int) ∧ i ≤ E.length ∧ Keeps H H' ∧ ∀ x ∈ E.take i, ¬ hitX off n x) (m := fun (t : Sl × Int × Int) _ => Int.toNat ((E.length : Int) - t.2.2)) ?_ ⟨0, rfl, by omega, Keeps.refl H, fun x hx => by simp at hx⟩
  intro t H1 hI it hit
  obtain ⟨t0, t1, t2⟩ := t
  obtain ⟨i, e1, hi, hk, hno⟩ := hI
  simp only at e1
  subst e1
  unfold model_Model_bytes.l2
  simp only [bcase_eq, decide_eq_true_eq, hr.1]
  by_cases hlt : (i : Int) < (E.length : Int)
  rotate_left 1
  · rw [if_neg hlt]
    have : i = E.length := by omega
    subst this
    rw [List.take_length] at hno
    exact h0 (fun ⟨_, _, x, hx, hh⟩ => hno x hx hh) H1 hk
  rw [if_pos hlt]
  have hi' : i < E.length := by omega
  obtain ⟨b, ofs, ha, hb, hcells⟩ := rows_cells (hr.keep hk) (by omega)
  refine ⟨by omega, ?_⟩
  rw [ha, onPtr_mk, Int.toNat_natCast, ldA_some (hcells i E[i] (List.getElem?_eq_getElem hi')).1]
  have hq := hex E[i] (List.getElem_mem hi')
  have hsp : E = E.take i ++ E[i] :: E.drop (i + 1) := by rw [← drop_cons hi', List.take_append_drop]
  have hnext : ¬ hitX off n E[i] → ∀ x ∈ E.take (i + 1), ¬ hitX off n x := by
    intro hh x hx
    rw [List.take_succ, List.getElem?_eq_getElem hi'] at hx
    rw [List.mem_append] at hx
    rcases hx with hx | hx
    · exact hno x hx
    · simp at hx; subst hx; exact hh
  generalize E[i] = q at *
  refine new_row (n := 3) rfl (exV_len q) (exV_ok q) ?_
  have hB : ExAt (H1.push ⟨exV q, .rw, 0⟩) H1.size q := ExAt.new
  have hk2 : Keeps H (H1.push ⟨exV q, .rw, 0⟩) := hk.push _
  generalize H1.push ⟨exV q, .rw, 0⟩ = H2 at *
  rw [ldA_some hB.row]
  refine model_extent_off.s (by omega) ?_
  have hw1 : IntKind.wrap .i64 ((i : Int) + 1) = ((i + 1 : Nat) : Int) := by rw [wrap_i64 (by omega) (by omega)]; omega
  have j1f : ¬ hitX off n q → model_Model_bytes.j1 off n k (t0, t1, (i : Int)) it H1.size false H2 := by
    intro hh
    unfold model_Model_bytes.j1
    rw [bcase_false]
    show it (t0, t1, IntKind.wrap .i64 ((i : Int) + 1)) H2
    rw [hw1]
    exact hit _ _ ⟨i + 1, rfl, by omega, hk2, hnext hh⟩ (by simp only; omega)
  by_cases hg : off ≥ (q.1.1 + 1) * 8
  rotate_left 1
  · rw [if_neg hg]
    exact j1f (fun hh => hg hh.1)
  rw [if_pos hg, ldA_some hB.row, hB.c2, elL_some]
  refine model_extent_off.s (by omega) ?_
  refine ⟨hB.c2, ?_⟩
  have hln : (q.1.2.2.length : Int) = (q.1.2.1 - 1) * 8 := by omega
  rw [wrap_i64 (n := (q.1.1 + 1) * 8 + ((q.1.2.2.length : Nat) : Int)) (by omega) (by omega), wrap_i64 (by omega) (by omega)]
  by_cases hg2 : off ≤ (q.1.1 + 1) * 8 + (q.1.2.2.length : Int) - n
  rotate_left 1
  · rw [decide_eq_false hg2]
    exact j1f (fun hh => hg2 (by have := hh.2; omega))
  rw [decide_eq_true hg2]
  unfold model_Model_bytes.j1
  rw [bcase_true, ldA_some hB.row]
  refine model_extent_off.s (by omega) ?_
  rw [hB.c2, elL_some]
  have hh : hitX off n q := ⟨hg, by omega⟩
  rw [wrap_i64 (n := off - (q.1.1 + 1) * 8) (by omega) (by omega), wrap_i64 (n := off - (q.1.1 + 1) * 8 + n) (by omega) (by omega)]
  refine ⟨by simp only; omega, ?_⟩
  have := h1 _ q _ hsp (by omega) (by omega) hh H2 hk2
  simp only [Option.map_some, addr_add, Nat.zero_add, Nat.mul_one]
  rw [show (off - (q.1.1 + 1) * 8 + n).toNat - (off - (q.1.1 + 1) * 8).toNat = n.toNat by omega]
  exact this

theorem bytes_rows {s : Sl} {E : List (Ex × Nat)} {words : Int} {x : Ex × Nat} {a n : Nat} (hA : MdAt F H p words s E root) (hx : x ∈ E) (hn : a + n ≤ x.1.2.2.length) : Abs.Rows H ⟨some ⟨x.2, a, none⟩, n, 0⟩ 1 bU ((x.1.2.2.drop a).take n) := by
  have hb := hA.bys x hx
  refine ⟨by simp; omega, fun i y hi => ⟨_, rfl, rfl, hA.lt _ (hA.fx x hx), ?_⟩⟩
  rw [List.getElem?_take] at hi
  split at hi
  · rename_i hin
    rw [List.getElem?_drop] at hi
    have hr := flat_row (f := bU) (z := 1) (fun _ => rfl) x.1.2.2 (a + i) y hi
    rw [Nat.mul_one] at hr
    simp only [AH.row?, hb, Option.isSome_none, Bool.false_eq_true, if_false]
    have hl : (x.1.2.2.flatMap bU).length = x.1.2.2.length := by rw [flat_len (f := bU) (z := 1) (fun _ => rfl), Nat.mul_one]
    rw [if_neg (by simp), Nat.mul_one, hr, if_pos ⟨by rw [hl]; omega, rfl⟩]
  · cases hi

theorem bytesOf_part {ws : List Int} {o m a n : Nat} (h : a + n ≤ m) : ((bytesOf ws o m).drop a).take n = bytesOf ws (o + a) n := by
  unfold bytesOf
  apply List.ext_getElem?
  intro i
  rw [List.getElem?_take]
  by_cases hi : i < n
  · rw [if_pos hi, List.getElem?_drop, List.getElem?_map, List.getElem?_map, List.getElem?_range (by omega), List.getElem?_range hi, Option.map_some, Option.map_some]
    congr 2; omega
  · rw [if_neg hi, List.getElem?_eq_none (by simp; omega)]

theorem model_Model_Read.s {off n : Int} {k : Sl → Int → AH → Prop} (hM : MW F H p ws root) (hoff : isI off) (hn : isI n)
    (h : ∀ s H', Keeps H H' → Own H.size H' s 1 bU (aRead ws off n).1 → k s (aRead ws off n).2 H') : model_Model_Read (some ⟨p, 0, none⟩) off n H k := by
  obtain ⟨s, E, hA, hR⟩ := hM
  refine model_Model_Read.link ?_
  unfold model_Model_Read.b
  unfold aRead at h
  refine model_Model_bytes.s hA hR hoff hn ?_ ?_
  · intro hw H' hk
    rw [if_neg hw] at h
    refine slices_Clone_bytebyte.s (bs := []) rows_none (by simp) ?_
    intro s' H2 hk2 hO2
    exact h s' H2 (hk.trans hk2) (own_base hO2 hk.1)
  · intro e1 x e2 hE hn0 hn1 hh H' hk
    have hxm : x ∈ E := by rw [hE]; simp
    rw [if_pos ((within_iff hR).2 ⟨hn0, hn1, x, hxm, hh⟩)] at h
    obtain ⟨_, hex⟩ := MdAt.elen (s := s) hR
    have hq := hex x hxm
    have hh1 := hh.1
    have hh2 := hh.2
    refine slices_Clone_bytebyte.s (bytes_rows (hA.keeps hk) hxm (a := (off - (x.1.1 + 1) * 8).toNat) (n := n.toNat) (by omega)) (by simp; omega) ?_
    intro s' H2 hk2 hO2
    refine h s' H2 (hk.trans hk2) (own_base ?_ hk.1)
    rw [hR.by8 x.1 (List.mem_map_of_mem hxm), bytesOf_part (by omega)] at hO2
    rw [show (x.1.1.toNat + 1) * 8 + (off - (x.1.1 + 1) * 8).toNat = off.toNat by omega] at hO2
    exact hO2
end
end Go.Proofs.Ytgddfhnochcolaa
