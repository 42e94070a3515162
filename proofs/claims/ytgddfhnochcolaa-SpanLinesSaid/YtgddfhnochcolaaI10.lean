import Derived.Test.YtgddfhnochcolaaI9
set_option linter.all false
set_option linter.all false
namespace Go.Proofs.Ytgddfhnochcolaa
open Go Go.Abs

theorem isI_wrap (z : Int) : isI (IntKind.wrap .i64 z) := by
  unfold isI IntKind.wrap
  simp only [IntKind.bits, IntKind.signed, Bool.true_and, Int.reducePow, Nat.reduceSub]
  split <;> rename_i h <;> simp at h <;> omega

theorem carveE_mem {b : Bk} {need : Int} (hn : 2 ≤ need ∧ need ≤ b.2.1) : (∀ e ∈ carveE b need, b.1 ≤ e.1 ∧ e.1 ≤ b.1 + need ∧ isU e.2) ∧ ((carveE b need).length : Int) ≤ need + 3 := by
  have htk : takesN b.2.1 need = (if b.2.1 - need < 2 then b.2.1 else need) := by unfold takesN; rw [if_pos hn]
  have ht : 2 ≤ takesN b.2.1 need ∧ takesN b.2.1 need ≤ need + 1 ∧ (takesN b.2.1 need < b.2.1 → takesN b.2.1 need = need) := by
    rw [htk]; split <;> omega
  unfold carveE carveTo
  generalize takesN b.2.1 need = tk at *
  refine ⟨fun e he => ?_, ?_⟩
  · rw [List.cons_append, List.mem_cons, List.mem_append] at he
    rcases he with rfl | he | he
    · exact ⟨by simp only; omega, by simp only; omega, wordN_u _ _⟩
    · rw [List.mem_map] at he
      obtain ⟨t, ht1, rfl⟩ := he
      rw [List.mem_range] at ht1
      refine ⟨by simp only; omega, by simp only; omega, by unfold isU; omega⟩
    · split at he
      · rename_i hlt
        have := ht.2.2 hlt
        simp at he
        subst he
        exact ⟨by simp only; omega, by simp only; omega, wordN_u _ _⟩
      · cases he
  · split <;> simp <;> omega

/-- What edits of a call are like. -/
structure EdOK (E : List (Int × Int)) (most : Int) : Prop where
  mem : ∀ e ∈ E, 0 ≤ e.1 ∧ e.1 ≤ 5000 ∧ isU e.2
  len : E.length ≤ 5000
  most : ((eLines E).length : Int) ≤ most
theorem EdOK.nil {m : Int} (h : 0 ≤ m) : EdOK [] m := ⟨fun e he => (by cases he), (by simp), (by simpa [eLines] using h)⟩

theorem imgAlloc_ok {ws : List Int} {n : Int} {cs : List Int} : EdOK (imgAlloc ws n cs).1 (linesP 1 n 0) := by
  have h0 : 0 ≤ linesP 1 n 0 := linesP_range (sl := ⟨none, 0, 0⟩).1
  unfold imgAlloc
  split
  · exact EdOK.nil h0
  · rename_i hn0
    split
    · exact EdOK.nil h0
    · rename_i l hb
      have hB := blocksN_may hb
      have hlen := hB.len
      split
      · exact EdOK.nil h0
      · rename_i hc
        rcases chooseN_mem (l := l) (need := needN n) (cs := cs) with h | ⟨i, h, hi, hu, hn1, hn2⟩
        · omega
        · rw [h, Int.toNat_natCast]
          have hm := hB.mem (List.mem_of_getElem? (bkAt_get hi))
          generalize bkAt l i = b at *
          obtain ⟨h1, h2⟩ := carveE_mem ⟨hn2, hn1⟩
          have hneed : 1 ≤ n ∧ n ≤ 448 ∧ needN n = 1 + (n + 7) / 8 := by
            unfold needN at hn0 ⊢
            split at hn0
            · rename_i hh; rw [if_pos hh]; exact ⟨hh.1, hh.2, rfl⟩
            · exact absurd rfl hn0
          show EdOK (carveE b (needN n)) (linesP 1 n 0)
          refine ⟨fun e he => ?_, by omega, ?_⟩
          · have := h1 e he; exact ⟨by omega, by omega, this.2.2⟩
          · have := eLines_len (lo := b.1) (hi := b.1 + needN n) (fun e he => ⟨(h1 e he).1, (h1 e he).2.1⟩) (by omega)
            unfold linesP
            rw [if_pos rfl, if_pos ⟨by omega, by omega⟩]
            omega
theorem imgFree_ok {ws : List Int} {off : Int} : EdOK (imgFree ws off).1 (linesP 2 0 0) := by
  unfold imgFree
  split
  · exact EdOK.nil (by decide)
  · rename_i l hb
    have hB := blocksN_may hb
    have hlen := hB.len
    split
    · exact EdOK.nil (by decide)
    · rename_i hc
      rcases isN_cases off l 0 with h | ⟨i, h, hi, hu, ho⟩
      · omega
      · rw [Nat.zero_add] at h
        rw [h, Int.toNat_natCast]
        have hF : mFrom l i < l.length := by unfold mFrom; split <;> omega
        have hm := hB.mem (List.mem_of_getElem? (bkAt_get hF))
        simp only
        refine ⟨fun e he => ?_, by simp, ?_⟩
        · simp at he
          subst he
          exact ⟨by simp only; omega, by simp only; omega, wordN_u _ _⟩
        · have := eLines_len (l := [((bkAt l (mFrom l i)).1, wordN (sumTo l (mFrom l i) (mTo l i - mFrom l i)) false)]) (lo := (bkAt l (mFrom l i)).1) (hi := (bkAt l (mFrom l i)).1) (fun e he => by simp at he; subst he; exact ⟨by simp, by simp⟩) (by omega)
          have e1 : linesP 2 0 0 = 1 := by decide
          rw [e1]; omega
theorem imgWrite_ok {ws : List Int} (h64 : words64 ws) {off : Int} {bs : List Int} : EdOK (imgWrite ws off bs).1 (linesP 4 0 bs.length) := by
  have h0 : 0 ≤ linesP 4 0 bs.length := linesP_range (sl := ⟨none, bs.length, 0⟩).1
  unfold imgWrite
  split
  · exact EdOK.nil h0
  · rename_i l hb
    have hB := blocksN_may hb
    have hlen := hB.len
    split
    · rename_i hw
      have hin := within_inside hB hw
      unfold inside at hin
      obtain ⟨o, rfl⟩ := Int.eq_ofNat_of_zero_le hin.1
      rw [Int.toNat_natCast]
      have hcur := words64_putBs bs ws o h64
      have hcl := putBs_length bs ws o
      by_cases hz : bs.length = 0
      · have ht : touched o bs.length = 0 := by rw [hz]; rfl
        rw [ht]
        exact EdOK.nil h0
      have ht : touched o bs.length = (o + bs.length - 1) / 8 - o / 8 + 1 := by unfold touched; rw [if_neg hz]
      have hmem : ∀ e ∈ editsOf (putBs ws o bs) (o / 8) (touched o bs.length), ((o / 8 : Nat) : Int) ≤ e.1 ∧ e.1 ≤ (((o + bs.length - 1) / 8 : Nat) : Int) ∧ isU e.2 := by
        intro e he
        unfold editsOf at he
        rw [List.mem_map] at he
        obtain ⟨j, hj, rfl⟩ := he
        rw [List.mem_range] at hj
        refine ⟨by simp only; omega, by simp only; omega, ?_⟩
        have hlt : o / 8 + j < (putBs ws o bs).length := by omega
        simp only
        rw [List.getD_eq_getElem?_getD, List.getElem?_eq_getElem hlt, Option.getD_some]
        exact hcur _ (List.getElem_mem hlt)
      simp only
      refine ⟨fun e he => ?_, by rw [editsOf_length]; omega, ?_⟩
      · have := hmem e he; exact ⟨by omega, by omega, this.2.2⟩
      · have := eLines_len (lo := ((o / 8 : Nat) : Int)) (hi := (((o + bs.length - 1) / 8 : Nat) : Int)) (fun e he => ⟨(hmem e he).1, (hmem e he).2.1⟩) (by omega)
        unfold linesP
        rw [if_neg (by omega), if_pos rfl, if_pos (by omega)]
        omega
    · exact EdOK.nil h0

theorem applyE_u : ∀ (l : List (Int × Int)) (ws : List Int), words64 ws → (∀ e ∈ l, isU e.2) → words64 (applyE ws l) := by
  intro l
  induction l with
  | nil => intro ws h _; exact h
  | cons e r ih =>
    intro ws h he
    simp only [applyE, List.foldl_cons]
    refine ih _ ?_ fun e' he' => he e' (by simp [he'])
    unfold putE
    split
    · intro v hv
      rcases List.mem_or_eq_of_mem_set hv with hv | rfl
      · exact h v hv
      · exact he e (by simp)
    · exact h

/-! ### what is done -/

structure DoR where
  k : Int
  n : Int
  kk : Int
  off : Int
  sl : Sl
  bs : List Int
def doV (d : DoR) : List Value := opl d.k d.n d.kk d.off d.sl
structure doOK (H : AH) (d : DoR) : Prop where
  n : isI d.n
  rows : Abs.Rows H d.sl 1 bU d.bs
  u8 : ∀ v ∈ d.bs, isB v
theorem doOK.keep {H H' : AH} {d : DoR} (h : doOK H d) (hk : Keeps H H') : doOK H' d := ⟨h.n, h.rows.keep hk, h.u8⟩

def OpAt (H : AH) (o : Nat) (K a b c : Int) (sl : Sl) : Prop := ∃ e, H.get o = ⟨opl K a b c sl, .rw, e⟩
section
variable {H : AH} {o : Nat} {K a b c : Int} {sl : Sl}
theorem OpAt.c0 (h : OpAt H o K a b c sl) : AH.cell? H (Addr.add ⟨o, 0, none⟩ 0) = some (.int .i64 K) := by obtain ⟨e, h⟩ := h; simp [addr_add, AH.cell?, h, opl]
theorem OpAt.c1 (h : OpAt H o K a b c sl) : AH.cell? H (Addr.add ⟨o, 0, none⟩ 1) = some (.int .i64 a) := by obtain ⟨e, h⟩ := h; simp [addr_add, AH.cell?, h, opl]
theorem OpAt.c2 (h : OpAt H o K a b c sl) : AH.cell? H (Addr.add ⟨o, 0, none⟩ 2) = some (.int .i64 b) := by obtain ⟨e, h⟩ := h; simp [addr_add, AH.cell?, h, opl]
theorem OpAt.c3 (h : OpAt H o K a b c sl) : AH.cell? H (Addr.add ⟨o, 0, none⟩ 3) = some (.int .i64 c) := by obtain ⟨e, h⟩ := h; simp [addr_add, AH.cell?, h, opl]
theorem OpAt.c4 (h : OpAt H o K a b c sl) : AH.cell? H (Addr.add ⟨o, 0, none⟩ 4) = some sl.val := by obtain ⟨e, h⟩ := h; simp [addr_add, AH.cell?, h, opl]
theorem OpAt.row (h : OpAt H o K a b c sl) : AH.row? H ⟨o, 0, none⟩ 5 = some (opl K a b c sl) := by
  obtain ⟨e, h⟩ := h
  simp only [AH.row?, h, Option.isSome_none, Bool.false_eq_true, if_false, List.drop_zero]
  rw [if_neg (by simp), List.take_of_length_le (by rw [op_len]; omega), if_pos ⟨by rw [op_len]; omega, op_ok⟩]
theorem OpAt.keep {H' : AH} (h : OpAt H o K a b c sl) (hg : H'.get o = H.get o) : OpAt H' o K a b c sl := by obtain ⟨e, h⟩ := h; exact ⟨e, hg.trans h⟩
theorem OpAt.new {e : Nat} : OpAt (H.push ⟨opl K a b c sl, .rw, e⟩) H.size K a b c sl := ⟨e, by rw [push_get, if_pos rfl]⟩
theorem OpAt.store {K' a' b' c' : Int} {sl' : Sl} {k : AH → Prop} (h : OpAt H o K a b c sl) (hk : ∀ H', OpAt H' o K' a' b' c' sl' → (∀ x, x ≠ o → H'.get x = H.get x) → H'.size = H.size → k H') :
    ((opl K' a' b' c' sl').length = 5 ∧ (opl K' a' b' c' sl').all cellOK = true) ∧ stC H ⟨o, 0, none⟩ (opl K' a' b' c' sl') k := by
  obtain ⟨e, h⟩ := h
  refine ⟨⟨rfl, rfl⟩, ?_⟩
  refine ⟨⟨rfl, congrArg AObj.md h, by rw [h]; simp [opl]⟩, hk _ ⟨e, ?_⟩ (fun x hx => by simp only [AH.put, upd_get]; rw [if_neg hx]) rfl⟩
  simp only [AH.put, upd_get, if_true, h]
  rfl

theorem darninglaw19_Heavy.s {x0 : Sl} {l : List DoR} {k : Int → AH → Prop} (hr : Abs.Rows H x0 5 doV l) (h0 : (∀ d ∈ l, d.sl.n ≤ 500) → l.length ≤ 100 → k 0 H) (h1 : ∀ v, 0 < v → k v H) : darninglaw19_Heavy x0 H k := by
  have main : ∀ v : Int, (v = 0 → (∀ d ∈ l, d.sl.n ≤ 500) ∧ l.length ≤ 100) → 0 ≤ v → k v H := fun v hv hv0 => by
    by_cases hz : v = 0
    · subst hz; exact h0 (hv rfl).1 (hv rfl).2
    · exact h1 v (by omega)
  by_cases hbad : (∀ d ∈ l, d.sl.n ≤ 500) ∧ l.length ≤ 100
  · refine gcI (j := .i64) 0 (darninglaw19_Heavy.link ?_) (h0 hbad.1 hbad.2)
    unfold darninglaw19_Heavy.b
    refine loopT_inv (t := (((0 : Int), (0 : Int)) : Int × Int)) (I := fun (t : Int × Int) H' => ∃ i : Nat, t.2 = (i : Int) ∧ i ≤ l.length ∧ Keeps H H') (m := fun (t : Int × Int) _ => Int.toNat ((l.length : Int) - t.2)) ?_ ⟨0, rfl, by omega, Keeps.refl H⟩
    intro t H1 hI it hit
    obtain ⟨t1, t2⟩ := t
    obtain ⟨i, e1, hi, hk⟩ := hI
    simp only at e1
    subst e1
    unfold darninglaw19_Heavy.l2
    simp only [bcase_eq, decide_eq_true_eq, hr.1]
    by_cases hlt : (i : Int) < (l.length : Int)
    · rw [if_pos hlt]
      have hi' : i < l.length := by omega
      obtain ⟨b, o, ha, hb, hrow⟩ := (hr.keep hk).at hi'
      refine ⟨by omega, ?_⟩
      rw [ha, onPtr_mk, Int.toNat_natCast, ldA_some hrow]
      have hd := hbad.1 _ (List.getElem_mem hi')
      generalize l[i] = d at *
      refine new_row (n := 5) rfl rfl rfl ?_
      have hB : OpAt (H1.push ⟨doV d, .rw, 0⟩) H1.size d.k d.n d.kk d.off d.sl := OpAt.new
      have hk2 : Keeps H (H1.push ⟨doV d, .rw, 0⟩) := hk.push _
      generalize H1.push ⟨doV d, .rw, 0⟩ = H2 at *
      rw [if_neg (by omega), hB.c4, elL_val, decide_eq_false (by omega)]
      unfold darninglaw19_Heavy.j1
      rw [bcase_false, wrap_i64 (n := (i : Int) + 1) (by omega) (by omega)]
      exact hit _ _ ⟨i + 1, by simp, by omega, hk2⟩ (by simp only; omega)
    · rw [if_neg hlt]
      exact ⟨hk, trivial⟩
  · -- the first one that is too much
    have hex : ∃ j : Nat, j < l.length ∧ (∀ i, i < j → (i : Nat) < 100 ∧ ((l[i]?).map fun d => d.sl.n).getD 0 ≤ 500) ∧ (100 ≤ j ∨ 500 < ((l[j]?).map fun d => d.sl.n).getD 0) := by
      have key : ∀ m, m ≤ l.length → (∃ j : Nat, j < m ∧ (∀ i, i < j → (i : Nat) < 100 ∧ ((l[i]?).map fun d => d.sl.n).getD 0 ≤ 500) ∧ (100 ≤ j ∨ 500 < ((l[j]?).map fun d => d.sl.n).getD 0)) ∨ ∀ i, i < m → (i : Nat) < 100 ∧ ((l[i]?).map fun d => d.sl.n).getD 0 ≤ 500 := by
        intro m
        induction m with
        | zero => intro _; exact .inr fun i hi => by omega
        | succ m ih =>
          intro hm
          rcases ih (by omega) with ⟨j, h1, h2, h3⟩ | h
          · exact .inl ⟨j, by omega, h2, h3⟩
          · by_cases hc : 100 ≤ m ∨ 500 < ((l[m]?).map fun d => d.sl.n).getD 0
            · exact .inl ⟨m, by omega, h, hc⟩
            · refine .inr fun i hi => ?_
              by_cases him : i = m
              · subst him; omega
              · exact h i (by omega)
      rcases key l.length (Nat.le_refl _) with h | h
      · exact h
      · exfalso
        refine hbad ⟨fun d hd => ?_, ?_⟩
        · obtain ⟨i, hi, e⟩ := List.getElem_of_mem hd
          have := (h i hi).2
          rw [List.getElem?_eq_getElem hi, e] at this
          exact this
        · by_cases hl : l.length ≤ 100
          · exact hl
          · have := (h 100 (by omega)).1; omega
    obtain ⟨j, hj, hbefore, hat⟩ := hex
    have hj100 : j ≤ 100 := by
      by_cases h : j ≤ 100
      · exact h
      · have := (hbefore 100 (by omega)).1; omega
    refine gcI (j := .i64) ((j : Int) + 1) (darninglaw19_Heavy.link ?_) (h1 _ (by omega))
    unfold darninglaw19_Heavy.b
    refine loopT_inv (t := (((0 : Int), (0 : Int)) : Int × Int)) (I := fun (t : Int × Int) H' => ∃ i : Nat, t.2 = (i : Int) ∧ i ≤ j ∧ Keeps H H') (m := fun (t : Int × Int) _ => Int.toNat ((l.length : Int) - t.2)) ?_ ⟨0, rfl, by omega, Keeps.refl H⟩
    intro t H1 hI it hit
    obtain ⟨t1, t2⟩ := t
    obtain ⟨i, e1, hi, hk⟩ := hI
    simp only at e1
    subst e1
    unfold darninglaw19_Heavy.l2
    simp only [bcase_eq, decide_eq_true_eq, hr.1]
    rw [if_pos (by omega)]
    have hi' : i < l.length := by omega
    obtain ⟨b, o, ha, hb, hrow⟩ := (hr.keep hk).at hi'
    refine ⟨by omega, ?_⟩
    rw [ha, onPtr_mk, Int.toNat_natCast, ldA_some hrow]
    have hbi : i < j → i < 100 ∧ l[i].sl.n ≤ 500 := fun h => by have := hbefore i h; rw [List.getElem?_eq_getElem hi'] at this; exact this
    have hai : i = j → 100 ≤ i ∨ 500 < l[i].sl.n := fun h => by
      subst h
      rw [List.getElem?_eq_getElem hi'] at hat; exact hat
    generalize l[i] = d at *
    refine new_row (n := 5) rfl rfl rfl ?_
    have hB : OpAt (H1.push ⟨doV d, .rw, 0⟩) H1.size d.k d.n d.kk d.off d.sl := OpAt.new
    have hk2 : Keeps H (H1.push ⟨doV d, .rw, 0⟩) := hk.push _
    generalize H1.push ⟨doV d, .rw, 0⟩ = H2 at *
    have hwi : IntKind.wrap .i64 ((i : Int) + 1) = (i : Int) + 1 := wrap_i64 (by omega) (by omega)
    have stop : i = j → darninglaw19_Heavy.j1 (fun r H' => Keeps H H' ∧ r = (j : Int) + 1) (t1, (i : Int)) it H2 true := by
      intro h
      unfold darninglaw19_Heavy.j1
      rw [bcase_true, hwi, h]
      exact ⟨hk2, rfl⟩
    by_cases hij : i = j
    · by_cases h100 : (i : Int) ≥ 100
      · rw [if_pos h100]; exact stop hij
      · rw [if_neg h100, hB.c4, elL_val, decide_eq_true (show ((d.sl.n : Nat) : Int) > 500 by have := hai hij; omega)]
        exact stop hij
    · have := hbi (by omega)
      rw [if_neg (by omega), hB.c4, elL_val, decide_eq_false (by omega)]
      unfold darninglaw19_Heavy.j1
      rw [bcase_false, hwi]
      exact hit _ _ ⟨i + 1, by simp, by omega, hk2⟩ (by simp only; omega)

end
end Go.Proofs.Ytgddfhnochcolaa
