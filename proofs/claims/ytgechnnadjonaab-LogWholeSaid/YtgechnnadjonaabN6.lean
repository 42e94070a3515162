import Derived.Test.YtgechnnadjonaabN5
set_option linter.all false
set_option linter.all false
namespace Go.Proofs.Ytgechnnadjonaab
open Go Go.Abs

theorem own_nn {α : Type} {B : Nat} {H : AH} {s : Sl} {z : Nat} {f : α → List Value} {l : List α} (h : Own B H s z f l) : s.n = l.length := by
  rcases h with ⟨rfl, rfl⟩ | ⟨b, rfl, _, _, _⟩ <;> rfl
def lineF (r : List Int) : List Value := if r.length = 8 then lineV r else List.replicate 8 (Value.int .u64 0)
theorem lineF_len (r : List Int) : (lineF r).length = 8 := by
  unfold lineF; split
  · rename_i h; exact lineV_len h
  · rfl
theorem lineF_ok (r : List Int) : (lineF r).all cellOK = true := by
  unfold lineF; split
  · exact lineV_ok _
  · rfl
theorem lineF_eq {r : List Int} (h : isLine r) : lineF r = lineV r := if_pos h.1
theorem own_rows_line {B : Nat} {H : AH} {s : Sl} {l : List (List Int)} (hO : Own B H s 8 lineV l) (hok : ∀ r ∈ l, isLine r) : Abs.Rows H s 8 lineV l := by
  have hR := (own_congr (f' := lineF) (fun r hr => lineF_eq (hok r hr)) hO).rows lineF_len lineF_ok
  refine ⟨hR.1, fun i q hq => ?_⟩
  have := hR.2 i q hq
  rw [lineF_eq (hok q (List.mem_of_getElem? hq))] at this
  exact this
theorem own_lines {l : List (List Int)} {i j : Nat} {r r0 : List Int} {v : Int} (hr : r ∈ l.set i (r0.set j v)) (hok : ∀ r ∈ l, isLine r) (hg : l[i]? = some r0) (hv : isU v) : isLine r := by
  have h0 := hok r0 (List.mem_of_getElem? hg)
  rcases List.mem_or_eq_of_mem_set hr with h | rfl
  · exact hok r h
  · refine ⟨by rw [List.length_set]; exact h0.1, fun u hu => ?_⟩
    rcases List.mem_or_eq_of_mem_set hu with h | rfl
    · exact h0.2 u h
    · exact hv
theorem own_put_line {B : Nat} {H : AH} {s : Sl} {l : List (List Int)} (hO : Own B H s 8 lineV l) (hok : ∀ r ∈ l, isLine r) {i : Nat} {r0 : List Int} (hg : l[i]? = some r0) {j : Nat} (hj : j < 8) {v : Int} (hv : isU v) :
    ∃ b, s.a = some ⟨b, 0, none⟩ ∧ B ≤ b ∧ b < H.size ∧ AH.canPut H ⟨b, i * 8 + j, none⟩ 1 ∧ Own B (AH.put H ⟨b, i * 8 + j, none⟩ [Value.int .u64 v]) s 8 lineV (l.set i (r0.set j v)) ∧ ∀ x, x ≠ b → (AH.put H ⟨b, i * 8 + j, none⟩ [Value.int .u64 v]).get x = H.get x := by
  have h0 := hok r0 (List.mem_of_getElem? hg)
  have hy : isLine (r0.set j v) := own_lines (List.mem_of_getElem? (List.getElem?_set_self (by have := (List.getElem?_eq_some_iff.1 hg).1; omega))) hok hg hv
  obtain ⟨b, h1, h2, h3, h4, h5, h6⟩ := (own_congr (f' := lineF) (fun r hr => lineF_eq (hok r hr)) hO).put (y := r0.set j v) lineF_len hg hj (v := .int .u64 v) (by
    rw [lineF_eq h0, lineF_eq hy]
    simp [lineV, List.map_set, u64V])
  exact ⟨b, h1, h2, h3, h4, own_congr (fun r hr => (lineF_eq (own_lines hr hok hg hv)).symm) h5, h6⟩

/-! ### the rows of a commit -/

def idxLine (l : List (Int × List Int)) (m j : Nat) : List Int := (List.range 8).map fun i => if 8 * j + i < m then IntKind.wrap .u64 (lnAt l (8 * j + i)) else 0
def rowsTo (l : List (Int × List Int)) (m : Nat) : List (List Int) := (List.range (idxN l.length)).map (idxLine l m) ++ (l.take m).map (·.2)
def rowsN (l : List (Int × List Int)) : List (List Int) := rowsTo l l.length
def rowPuts (l : List (Int × List Int)) : List (Int × List Int) := (List.range (rowsN l).length).map fun (i : Nat) => ((i : Int), (rowsN l).getD i [])
def comN (n sp per : Nat) (l : List (Int × List Int)) (M : Mem) (pt : Nat) : Mem × Nat × Int :=
  if ¬ MayL n l then (M, pt, 1) else if M.down then (M, pt, 2) else if commits M ≠ 0 then (M, pt, 5) else
  if (tputs n sp per (rowPuts l) M pt).2.2 ≠ 0 then tputs n sp per (rowPuts l) M pt else
  if ((tputs n sp per (rowPuts l) M pt).1.set 1 l.length).2 ≠ 0 then (((tputs n sp per (rowPuts l) M pt).1.set 1 l.length).1, (tputs n sp per (rowPuts l) M pt).2.1, ((tputs n sp per (rowPuts l) M pt).1.set 1 l.length).2) else
  finN n sp per l ((tputs n sp per (rowPuts l) M pt).1.set 1 l.length).1 (tputs n sp per (rowPuts l) M pt).2.1

theorem isU_w (z : Int) : isU (IntKind.wrap .u64 z) := isU_wrap z
theorem idxLine_ok (l : List (Int × List Int)) (m j : Nat) : isLine (idxLine l m j) := by
  refine ⟨by simp [idxLine], fun v hv => ?_⟩
  unfold idxLine at hv
  rw [List.mem_map] at hv
  obtain ⟨i, _, rfl⟩ := hv
  split
  · exact isU_w _
  · unfold isU; omega
theorem rowsTo_ok {l : List (Int × List Int)} (hok : ∀ q ∈ l, putOK q) (m : Nat) : ∀ r ∈ rowsTo l m, isLine r := by
  intro r hr
  unfold rowsTo at hr
  rw [List.mem_append, List.mem_map, List.mem_map] at hr
  rcases hr with ⟨j, _, rfl⟩ | ⟨q, hq, rfl⟩
  · exact idxLine_ok _ _ _
  · exact (hok q (List.mem_of_mem_take hq)).line
theorem rowsTo_len (l : List (Int × List Int)) {m : Nat} (hm : m ≤ l.length) : (rowsTo l m).length = idxN l.length + m := by
  unfold rowsTo; simp; omega
theorem rowPuts_len (l : List (Int × List Int)) : (rowPuts l).length = idxN l.length + l.length := by
  unfold rowPuts rowsN; rw [List.length_map, List.length_range, rowsTo_len l (Nat.le_refl _)]
theorem rowPuts_ok {l : List (Int × List Int)} (hok : ∀ q ∈ l, putOK q) (hl : l.length ≤ 1000) : ∀ q ∈ rowPuts l, putOK q := by
  intro q hq
  unfold rowPuts at hq
  rw [List.mem_map] at hq
  obtain ⟨i, hi, rfl⟩ := hq
  rw [List.mem_range] at hi
  have hlen : (rowsN l).length = idxN l.length + l.length := rowsTo_len l (Nat.le_refl _)
  refine ⟨by unfold isI idxN at *; simp only; omega, ?_⟩
  simp only
  rw [List.getD_eq_getElem?_getD, List.getElem?_eq_getElem hi]
  exact rowsTo_ok hok _ _ (List.getElem_mem hi)

/-- One home more. -/
theorem rowsTo_succ {l : List (Int × List Int)} {m : Nat} (hm : m < l.length) :
    rowsTo l (m + 1) = (rowsTo l m).set (m / 8) ((idxLine l m (m / 8)).set (m % 8) (IntKind.wrap .u64 (lnAt l m))) ++ [(l.getD m (0, [])).2] := by
  have hmi : m / 8 < idxN l.length := by unfold idxN; omega
  have ht : (l.take (m + 1)).map (·.2) = (l.take m).map (·.2) ++ [(l.getD m (0, [])).2] := by
    rw [List.take_succ, List.getElem?_eq_getElem hm, Option.toList_some, List.map_append, List.getD_eq_getElem?_getD, List.getElem?_eq_getElem hm]; rfl
  unfold rowsTo
  rw [ht, ← List.append_assoc, List.set_append_left _ _ (by simpa using hmi)]
  congr 2
  apply List.ext_getElem?
  intro j
  by_cases hj : j < idxN l.length
  · rw [List.getElem?_map, List.getElem?_range hj, Option.map_some]
    by_cases hjm : j = m / 8
    · subst hjm
      rw [List.getElem?_set_self (by simpa using hj)]
      congr 1
      apply List.ext_getElem?
      intro i
      by_cases hi : i < 8
      · by_cases him : i = m % 8
        · subst him
          rw [List.getElem?_set_self (by rw [(idxLine_ok _ _ _).1]; omega)]
          unfold idxLine
          rw [List.getElem?_map, List.getElem?_range hi, Option.map_some, if_pos (by omega), show 8 * (m / 8) + m % 8 = m by omega]
        · rw [List.getElem?_set_ne (by omega)]
          unfold idxLine
          rw [List.getElem?_map, List.getElem?_map, List.getElem?_range hi, Option.map_some, Option.map_some]
          congr 1
          by_cases hlt : 8 * (m / 8) + i < m
          · rw [if_pos hlt, if_pos (by omega)]
          · rw [if_neg hlt, if_neg (by omega)]
      · rw [List.getElem?_eq_none (by rw [(idxLine_ok _ _ _).1]; omega), List.getElem?_eq_none (by rw [List.length_set, (idxLine_ok _ _ _).1]; omega)]
    · rw [List.getElem?_set_ne (by omega), List.getElem?_map, List.getElem?_range hj, Option.map_some]
      congr 1
      unfold idxLine
      apply List.map_congr_left
      intro i hi
      rw [List.mem_range] at hi
      by_cases hlt : 8 * j + i < m
      · rw [if_pos hlt, if_pos (by omega)]
      · rw [if_neg hlt, if_neg (by omega)]
  · rw [List.getElem?_eq_none (by simp; omega), List.getElem?_eq_none (by simp; omega)]
theorem rowsTo_zero (l : List (Int × List Int)) : rowsTo l 0 = List.replicate (idxN l.length) (List.replicate 8 0) := by
  unfold rowsTo
  rw [List.take_zero, List.map_nil, List.append_nil]
  apply List.ext_getElem?
  intro j
  by_cases hj : j < idxN l.length
  · rw [List.getElem?_map, List.getElem?_range hj, Option.map_some, List.getElem?_replicate, if_pos hj]
    congr 1
  · rw [List.getElem?_eq_none (by simp; omega), List.getElem?_eq_none (by simp; omega)]

section
variable {H H' : AH} {g t x p c n sp per puts puts' : Nat} {M M' : Mem} {mvb len : Nat}

theorem PSt.com (h : PSt n sp per M puts mvb len) (hn : 1 ≤ n) {l : List (Int × List Int)} (hb : mvb + 1000 < 4611686018427387904) (hok : ∀ q ∈ l, putOK q) :
    PSt n sp per (comN n sp per l M puts).1 (comN n sp per l M puts).2.1 (mvb + 40) len := by
  unfold comN
  split
  · exact h.mono (by omega)
  rename_i hm
  have hl14 : l.length ≤ 14 := by
    have : MayL n l := Decidable.not_not.1 hm
    exact this.2.2.1
  split
  · exact h.mono (by omega)
  split
  · exact h.mono (by omega)
  have hrl := rowPuts_len l
  have hro := rowPuts_ok hok (by omega)
  have hidx : idxN l.length ≤ 2 := by unfold idxN; omega
  have h1 := h.puts hn (l := rowPuts l) (by omega) hro
  have h2 := h1.set1 (v := (l.length : Int)) (by unfold isU; omega)
  split
  · exact h1.mono (by omega)
  split
  · exact h2.mono (by omega)
  · exact (h2.fin hn (by omega) hok).mono (by omega)

theorem log_Commit.s {x1 : Sl} {l : List (Int × List Int)} {K : Int → AH → Prop} (h : GAt H g t x p c n sp per puts M) (hp : PSt n sp per M puts mvb (n + 1 + sp)) (hb : mvb + 1000 < 4611686018427387904) (hr : Abs.Rows H x1 9 putV l) (hok : ∀ q ∈ l, putOK q) (hl : l.length ≤ 100000)
    (hx1 : 0 < l.length → ∀ b, x1.a.map (·.block) = some b → b ≠ t ∧ b ≠ p ∧ b ≠ c)
    (hk : ∀ H', GAt H' g t x p c n sp per (comN n sp per l M puts).2.1 (comN n sp per l M puts).1 → Frt H H' t p c → H'.size = H.size → K (comN n sp per l M puts).2.2 H') : log_Log_Commit (some ⟨g, 0, none⟩) x1 H K := by
  have hcom := hp.com h.tn.n1 hb hok
  refine canon1 (κ := .int .i64) (v := (comN n sp per l M puts).2.2) (H2 := setT H t x p c n per (comN n sp per l M puts).2.1 (comN n sp per l M puts).1) (by simp) rfl (log_Log_Commit.link ?_) (hk _ (h.setT hcom (by omega)) setT_frt rfl)
  clear hk hcom
  unfold log_Log_Commit.b
  rw [Option.isNone_some, bcase_false]
  simp only [onPtr_mk, h.c1, elP_some]
  refine turn_Lines.s h.tn ?_
  refine log_May.s hr hok (by omega) ?_
  unfold log_Log_Commit.j4 comN
  have same : ∀ e : Int, At H H (setT H t x p c n per puts M) ∧ e = e := fun e => ⟨h.tn.at h.tn Frt.refl, rfl⟩
  by_cases c3 : MayL n l
  rotate_left 1
  · rw [decide_eq_false c3, Bool.not_false, bcase_true, if_pos c3]
    exact same 1
  rw [decide_eq_true c3, Bool.not_true, bcase_false, if_neg (fun hh => hh c3)]
  simp only [onPtr_mk, h.c0, elP_some]
  refine nvm_Memory_Down.s h.tn.l.m ?_
  by_cases hd : M.down = true
  · rw [hd, bcase_true, if_pos rfl]
    exact same 2
  have hd' : M.down = false := by simpa using hd
  rw [hd', bcase_false, if_neg (show ¬ false = true by simp)]
  refine log_Pending.s h ?_
  by_cases hcm : commits M ≠ 0
  · rw [decide_eq_true ⟨hd', hcm⟩, bcase_true, if_pos hcm]
    exact same 5
  rw [decide_eq_false (fun hh => hcm hh.2), bcase_false, if_neg hcm, hr.1]
  have hl14 : l.length ≤ 14 := c3.2.2.1
  have hidx : idxN l.length ≤ 2 := by unfold idxN; omega
  refine log_index.s (by omega) ⟨by simp only [lim]; omega, ?_⟩
  rw [newC_eq, Int.toNat_natCast, zeroV, zeros_flat7, ← rowsTo_zero l]
  have lt := h.tn.lt
  have lp := h.tn.l.m.lp
  have lc := h.tn.l.m.lc
  have hrl := rowPuts_len l
  have hro := rowPuts_ok hok (by omega)
  have hkeep : ∀ {H1 : AH} (b : Nat), Frt H H1 t p c → b < H.size → b ≠ t ∧ b ≠ p ∧ b ≠ c → H1.get b = H.get b := fun b f hb hne => f.get b hb hne.1 hne.2.1 hne.2.2
  -- own lines, encoded by a function of one length
  have hO0 : Own H.size (H.push ⟨(rowsTo l 0).flatMap lineV, .rw, 8⟩) ⟨some ⟨H.size, 0, none⟩, idxN l.length, 1⟩ 8 lineV (rowsTo l 0) :=
    .inr ⟨H.size, by rw [rowsTo_len l (Nat.zero_le _)]; rfl, Nat.le_refl _, by simp [push_size], by rw [push_get, if_pos rfl]⟩
  refine loopT_inv (t := ((⟨some ⟨H.size, 0, none⟩, idxN l.length, 1⟩, (0 : Int)) : Sl × Int)) (I := fun (t' : Sl × Int) H' => ∃ i : Nat, t'.2 = (i : Int) ∧ i ≤ l.length ∧ Keeps H H' ∧ Own H.size H' t'.1 8 lineV (rowsTo l i)) (m := fun (t' : Sl × Int) _ => Int.toNat ((l.length : Int) - t'.2)) ?_ ⟨0, rfl, by omega, (Keeps.refl H).push _, hO0⟩
  intro t' H1 hI it hit
  obtain ⟨s, t2⟩ := t'
  obtain ⟨i, e1, hi, hkk, hO⟩ := hI
  simp only at e1 hO
  subst e1
  have hsn : s.n = idxN l.length + i := by rw [own_nn hO, rowsTo_len l hi]
  unfold log_Log_Commit.l3
  simp only [bcase_eq, decide_eq_true_eq, hr.1]
  by_cases hlt : (i : Int) < (l.length : Int)
  · rw [if_pos hlt]
    have hi' : i < l.length := by omega
    obtain ⟨b, o, ha, hbz, hrow⟩ := (hr.keep hkk).at hi'
    refine ⟨by omega, ?_⟩
    rw [ha, onPtr_mk, Int.toNat_natCast, ldA_some hrow]
    have hcl := hok _ (List.getElem_mem hi')
    have hsucc := rowsTo_succ hi'
    have hln : lnAt l i = l[i].1 := by unfold lnAt; rw [List.getD_eq_getElem?_getD, List.getElem?_eq_getElem hi']; rfl
    have hdt : (l.getD i (0, [])).2 = l[i].2 := by rw [List.getD_eq_getElem?_getD, List.getElem?_eq_getElem hi']; rfl
    rw [hln, hdt] at hsucc
    generalize l[i] = q at *
    refine new_put hcl rfl ?_
    intro hQ
    have hk2 : Keeps H (H1.push ⟨putV q, .rw, 0⟩) := hkk.push _
    have hO2 : Own H.size (H1.push ⟨putV q, .rw, 0⟩) s 8 lineV (rowsTo l i) := hO.keep (by simp [push_size]) (fun b _ hb => push_get_ne (by omega))
    have s2 : H1.size < (H1.push ⟨putV q, .rw, 0⟩).size := by simp [push_size]
    have hsge : ∀ b' , s.a = some ⟨b', 0, none⟩ → b' ≠ H1.size := by
      intro b' hb'
      rcases hO with ⟨rfl, _⟩ | ⟨b2, rfl, _, h2, _⟩
      · cases hb'
      · simp at hb'; omega
    generalize H1.push ⟨putV q, .rw, 0⟩ = H2 at *
    have hdiv : IntKind.wrap .i64 (Int.tdiv (i : Int) 8) = ((i / 8 : Nat) : Int) := by rw [show (8 : Int) = ((8 : Nat) : Int) from rfl, tdiv_nat]; exact wrap_i64 (by omega) (by omega)
    have hmod : Int.tmod (i : Int) 8 = ((i % 8 : Nat) : Int) := by rw [show (8 : Int) = ((8 : Nat) : Int) from rfl, tmod_nat]
    simp only [hdiv, hmod, hsn, hQ.c0, elI_some, Int.toNat_natCast]
    have h8 : i / 8 < idxN l.length := by unfold idxN; omega
    refine ⟨by decide, by decide, by omega, ?_⟩
    have hgi : (rowsTo l i)[i / 8]? = some (idxLine l i (i / 8)) := by
      unfold rowsTo
      rw [List.getElem?_append_left (by simpa using h8), List.getElem?_map, List.getElem?_range h8]; rfl
    have hl8 := idxLine_ok l i (i / 8)
    obtain ⟨b', ha', hb1, hb2, hcan, hO', hsame⟩ := own_put_line hO2 (rowsTo_ok hok i) hgi (j := i % 8) (by omega) (v := IntKind.wrap .u64 q.1) (isU_w _)
    rw [ha', onPtr_mk]
    refine ⟨by omega, ?_⟩
    rw [addr_add, addr_add, Nat.zero_add, Nat.mul_one]
    refine stC_to hcan rfl ?_
    have hQ3 := hQ.keep (hsame H1.size (fun e => hsge b' ha' e.symm))
    rw [ldA_some hQ3.row]
    refine ⟨lineV_len hcl.line.1, ?_⟩
    rw [newC_eq]
    have hsm : setMany [Value.int .u64 0, Value.int .u64 0, Value.int .u64 0, Value.int .u64 0, Value.int .u64 0, Value.int .u64 0, Value.int .u64 0, Value.int .u64 0] 0 (lineV q.2) = lineV q.2 := by
      have h8 := hcl.line.1
      generalize q.2 = d at h8
      match d, h8 with
      | [a0, a1, a2, a3, a4, a5, a6, a7], _ => rfl
    rw [hsm]
    have hk3 : Keeps H (AH.put H2 ⟨b', i / 8 * 8 + i % 8, none⟩ [Value.int .u64 (IntKind.wrap .u64 q.1)]) := hk2.put hb1 _
    refine append_put (f := lineV) (fun r hr => lineV_len (own_lines hr (rowsTo_ok hok i) hgi (isU_w _)).1) (lineV_len hcl.line.1) (lineV_ok _) hO' (Nat.le_refl _) hk3.1 hk3 (by rw [List.length_set, rowsTo_len l hi]; simp only [lim]; omega) ?_
    intro s' H' hO3 hK'
    rw [wrap_i64 (n := (i : Int) + 1) (by omega) (by omega)]
    rw [← hsucc] at hO3
    exact hit _ _ ⟨i + 1, by simp, by omega, hK', hO3⟩ (by simp only; omega)
  · rw [if_neg hlt]
    have : i = l.length := by omega
    subst this
    have hrows : rowsTo l l.length = rowsN l := rfl
    rw [hrows] at hO
    have hRok : ∀ r ∈ rowsN l, isLine r := rowsTo_ok hok _
    have hRlen : (rowsN l).length = idxN l.length + l.length := rowsTo_len l (Nat.le_refl _)
    have hRr := own_rows_line hO hRok
    have hG1 := h.keeps hkk
    have f1 : Frt H H1 t p c := Frt.of_keeps hkk
    have hsb : ∀ b, s.a.map (·.block) = some b → H.size ≤ b := by
      intro b hb
      rcases hO with ⟨rfl, _⟩ | ⟨b', rfl, h1, _⟩
      · simp at hb
      · simp at hb; subst hb; exact h1
    refine loopT_inv (t := (((0 : Int), (0 : Int)) : Int × Int)) (I := fun (t' : Int × Int) H' => ∃ i : Nat, ∃ pt M', t'.2 = (i : Int) ∧ i ≤ (rowPuts l).length ∧ TAt H' t x p c n sp per pt M' ∧ Frt H1 H' t p c ∧ PSt n sp per M' pt (mvb + i) (n + 1 + sp) ∧ tputs n sp per (rowPuts l) M puts = tputs n sp per ((rowPuts l).drop i) M' pt) (m := fun (t' : Int × Int) _ => Int.toNat (((rowPuts l).length : Int) - t'.2)) ?_ ⟨0, puts, M, rfl, by omega, hG1.tn, Frt.refl, hp, rfl⟩
    intro t' H2 hI it2 hit2
    obtain ⟨v1, v2⟩ := t'
    obtain ⟨j, pt, M1, e1, hj, hT, f, hps, heq⟩ := hI
    simp only at e1
    subst e1
    have hG := h.step hT (f1.trans f)
    unfold log_Log_Commit.l2
    simp only [bcase_eq, decide_eq_true_eq, hRr.1]
    by_cases hlt2 : (j : Int) < ((rowsN l).length : Int)
    · rw [if_pos hlt2]
      have hj' : j < (rowsN l).length := by omega
      obtain ⟨b, o, ha, hbz, hrow⟩ := hRr.at hj'
      have hbge := hsb b (by rw [ha]; rfl)
      have hrow1 : AH.row? H2 (Addr.add ⟨b, o, none⟩ (j * 8)) 8 = some (lineV (rowsN l)[j]) := by
        rw [← hrow, addr_add]
        simp only [AH.row?, f.get b hbz (by omega) (by omega) (by omega)]
      refine ⟨by omega, ?_⟩
      rw [ha, onPtr_mk, Int.toNat_natCast, ldA_some hrow1]
      have hcl := hRok _ (List.getElem_mem hj')
      have hgp : (rowPuts l)[j]'(by omega) = ((j : Int), (rowsN l)[j]) := by
        unfold rowPuts
        simp only [List.getElem_map, List.getElem_range]
        rw [List.getD_eq_getElem?_getD, List.getElem?_eq_getElem hj']; rfl
      rw [List.drop_eq_getElem_cons (show j < (rowPuts l).length by omega), hgp] at heq
      generalize (rowsN l)[j] = d at *
      rw [zeroV]
      refine new_line hcl ?_
      have hG3 := hG.push ⟨lineV d, .rw, 0⟩
      have f3 : Frt H1 (H2.push ⟨lineV d, .rw, 0⟩) t p c := f.trans (Frt.of_keeps ((Keeps.refl H2).push _))
      simp only [onPtr_mk, hG3.c1, elP_some]
      rw [ldA_some (line_new hcl)]
      obtain ⟨k1, hlv1⟩ := hps.lv
      have hmv1 := hps.mv
      refine turn_Put.s hG3.tn hlv1 (by omega) hcl ?_
      intro H4 hT4 f4 _
      have hps3 := hps.tput h.tn.n1 (by omega) (line := (j : Int)) hcl
      have hdef : tputs n sp per (((j : Int), d) :: (rowPuts l).drop (j + 1)) M1 pt = if (tput n sp per M1 pt (j : Int) d).2.2 = 0 then tputs n sp per ((rowPuts l).drop (j + 1)) (tput n sp per M1 pt (j : Int) d).1 (tput n sp per M1 pt (j : Int) d).2.1 else tput n sp per M1 pt (j : Int) d := rfl
      rw [hdef] at heq
      by_cases he : (tput n sp per M1 pt (j : Int) d).2.2 = 0
      · rw [if_pos he] at heq
        rw [if_neg (by simpa using he), wrap_i64 (n := (j : Int) + 1) (by omega) (by omega)]
        exact hit2 _ _ ⟨j + 1, _, _, by simp, by omega, hT4, f3.trans f4, hps3.mono (by omega), heq⟩ (by simp only; omega)
      · rw [if_neg he] at heq
        rw [if_pos (by simpa using he), heq, if_pos he]
        exact ⟨h.tn.at hT4 ((f1.trans f3).trans f4), rfl⟩
    · rw [if_neg hlt2]
      have : j = (rowPuts l).length := by omega
      subst this
      rw [List.drop_length] at heq
      have heq' : tputs n sp per (rowPuts l) M puts = (M1, pt, 0) := heq
      rw [heq', if_neg (by simp)]
      unfold log_Log_Commit.j1
      simp only [onPtr_mk, hG.c0, elP_some, hr.1]
      rw [wrap_u64 (n := (l.length : Int)) (by omega) (by omega)]
      refine nvm_Memory_Set.g hT.l.m (by unfold isU; omega) (Prod.eta _).symm ?_
      intro H3 hm3 f3
      have hs := hps.set1 (v := (l.length : Int)) (by unfold isU; omega)
      have hT3 : TAt H3 t x p c n sp per pt (M1.set 1 l.length).1 := hT.mem ⟨by rw [f3.get _ hT.l.xp hT.l.xc, hT.l.hx], by rw [f3.size]; exact hT.l.lx, hT.l.xp, hT.l.xc, hm3, hs.len, hT.l.n1, hT.l.sp16⟩ f3 (by have := hs.mv; omega)
      have f13 : Frt H H3 t p c := (f1.trans f).trans (Frt.of_frm f3)
      have hG3 := h.step hT3 f13
      by_cases he : (M1.set 1 (l.length : Int)).2 ≠ 0
      · rw [show ((M1.set 1 (l.length : Int)).2 != 0) = true from by simpa using he, bcase_true, if_pos he]
        exact ⟨h.tn.at hT3 f13, rfl⟩
      · rw [show ((M1.set 1 (l.length : Int)).2 != 0) = false from by simpa using he, bcase_false, if_neg he]
        have hr3 : Abs.Rows H3 x1 9 putV l := by
          refine ⟨hr.1, fun i q hq => ?_⟩
          obtain ⟨a, e1, e2, e3, e4⟩ := hr.2 i q hq
          have hne := hx1 (by have := (List.getElem?_eq_some_iff.1 hq).1; omega) a.block (by rw [e1]; rfl)
          refine ⟨a, e1, e2, by have := f13.size; omega, ?_⟩
          rw [← e4]
          simp only [AH.row?, f13.get a.block e3 hne.1 hne.2.1 hne.2.2]
        refine log_finish.s hG3 hs (by omega) hr3 hok (by omega) hx1 ?_
        intro H5 hG5 f5 _
        exact ⟨h.tn.at hG5.tn (f13.trans f5), rfl⟩
theorem log_Commit.nil {x1 : Sl} {K : Int → AH → Prop} (hk : K 1 H) : log_Log_Commit none x1 H K := by
  refine canon1 (κ := .int .i64) (v := 1) (by simp) rfl (log_Log_Commit.link ?_) hk
  unfold log_Log_Commit.b log_Log_Commit.j4
  rw [Option.isNone_none, bcase_true, bcase_true]
  exact ⟨At.of_keeps (Keeps.refl H), rfl⟩
end
end Go.Proofs.Ytgechnnadjonaab
