import Derived.Test.YtgechnnadjonaabN6
set_option linter.all false
set_option linter.all false
namespace Go.Proofs.Ytgechnnadjonaab
open Go Go.Abs

section
variable {H : AH}

theorem darninglaw12_over.s {p c : Nat} {M : Mem} {nn sp per : Nat} {k : Option Addr → AH → Prop} {k0 : Nat} (hm : MemAt H p c M) (hnn : 1 ≤ nn ∧ nn ≤ 100) (hsp : sp ≤ 16) (hper : 1 ≤ per ∧ per ≤ 1000) (hup : M.down = false) (hlv : LV M (16 + nn + 1) sp k0) (hmv : M.mv ≤ 1099511627776)
    (h : ∀ H' g t x, GAt H' g t x p c (16 + nn) sp per 0 M → Keeps H H' → H.size ≤ g → H.size ≤ t → H.size ≤ x → k (some ⟨g, 0, none⟩) H') : darninglaw12_over (some ⟨p, 0, none⟩) nn sp per H k := by
  refine darninglaw12_over.link ?_
  unfold darninglaw12_over.b
  have hlen := hlv.len
  rw [wrap_i64 (n := 16 + (nn : Int)) (by omega) (by omega)]
  refine turn_New.s hm (by unfold isI; omega) (fun hh => absurd ⟨by omega, by omega, by omega, by omega, by omega, by omega, hup, ?_, by omega⟩ hh) ?_
  · intro _ H1 t x hT hk1 ht hx
    have e : (16 + (nn : Int)).toNat = 16 + nn := by omega
    rw [e, Int.toNat_natCast, Int.toNat_natCast] at hT
    refine log_New.s (q := 0) (u := 0) hT (fun hh => by omega) ?_
    intro _ H2 g hG hk2 hg
    exact h _ _ _ _ hG (hk1.trans hk2) (by have := hk1.1; omega) ht hx
  · have := hlv.may
    rw [Int.toNat_natCast]
    rw [show ((16 + nn + 1 : Nat) : Int) = 16 + (nn : Int) + 1 by omega] at this
    exact this

theorem darninglaw12_made.s {nn sp per : Nat} {x3 : Sl} {limits : List Int} {k : Option Addr → Option Addr → AH → Prop} (hlim : Abs.Rows H x3 1 iV limits) (hnn : 1 ≤ nn ∧ nn ≤ 100) (hsp : sp ≤ 16) (hper : 1 ≤ per ∧ per ≤ 1000)
    (h : ∀ H' g t x, GAt H' g t x (H.size + 1) H.size (16 + nn) sp per 0 (Mem.new (16 + nn + 1 + sp) limits) → Keeps H H' → H.size + 2 ≤ g → H.size + 2 ≤ t → H.size + 2 ≤ x → k (some ⟨g, 0, none⟩) (some ⟨H.size + 1, 0, none⟩) H') : darninglaw12_made nn sp per x3 H k := by
  refine darninglaw12_made.link ?_
  unfold darninglaw12_made.b
  rw [wrap_i64 (n := 16 + (nn : Int)) (by omega) (by omega), wrap_i64 (n := 16 + (nn : Int) + 1) (by omega) (by omega), wrap_i64 (n := 16 + (nn : Int) + 1 + (sp : Int)) (by omega) (by omega)]
  refine nvm_New.s hlim ?_ (fun h => absurd (by omega) h)
  intro _ H1 hm hk hs
  have e : (16 + (nn : Int) + 1 + (sp : Int)).toNat = 16 + nn + 1 + sp := by omega
  rw [e] at hm
  have hLV : LV (Mem.new (16 + nn + 1 + sp) limits) (16 + nn + 1) sp 0 := LV.zero (by simp [Mem.new]) (by omega) hsp fun i hi => whose_new (by omega)
  refine darninglaw12_over.s hm hnn hsp hper rfl hLV (by rw [mv_new]; omega) ?_
  intro H2 g t x hG hk2 hg ht hx
  exact h _ _ _ _ hG (hk.trans hk2) (by omega) (by omega) (by omega)

theorem rows_none9 {z : Nat} {α : Type} {f : α → List Value} : Abs.Rows H ⟨none, 0, 0⟩ z f [] := ⟨rfl, fun i x h => by simp at h⟩
theorem lit_rows {o : Nat} {l : List (Int × List Int)} (hok : ∀ q ∈ l, putOK q) (hlt : o < H.size) (hg : H.get o = ⟨l.flatMap putV, .rw, 9⟩) : Abs.Rows H ⟨some ⟨o, 0, none⟩, l.length, 1⟩ 9 putV l :=
  own_rows_put (B := 0) (.inr ⟨o, rfl, Nat.zero_le _, hlt, hg⟩) hok

def h12 : List (Int × List Int) := [(16, [1, 0, 0, 0, 0, 0, 0, 0]), (18, [2, 0, 0, 0, 0, 0, 0, 0])]
def a12 : Mem × Nat × Int := comN 20 0 1 h12 (Mem.new 21 []) 0
theorem a12_ok : a12.2.2 = 0 ∧ getN 20 0 a12.1 16 = ([1, 0, 0, 0, 0, 0, 0, 0], 0) ∧ getN 20 0 a12.1 18 = ([2, 0, 0, 0, 0, 0, 0, 0], 0) ∧ a12.1.down = false ∧ commits a12.1 = 0 := by decide +kernel
theorem h12_ok : ∀ q ∈ h12, putOK q := by
  intro q hq
  simp only [h12, List.mem_cons, List.not_mem_nil, or_false] at hq
  rcases hq with rfl | rfl
  · exact ⟨by unfold isI; simp, isLine_lit (by unfold isU; omega)⟩
  · exact ⟨by unfold isI; simp, isLine_lit (by unfold isU; omega)⟩

theorem darninglaw12_awake.s {k : Bool → AH → Prop} (h : k true H) : darninglaw12_awake H k := by
  obtain ⟨f1, f2, f3, f4, f5⟩ := a12_ok
  refine canon1 (κ := .bool) (by simp) rfl (darninglaw12_awake.link (_u := ()) ?_) h
  unfold darninglaw12_awake.b
  simp only [bcase_eq]
  refine darninglaw12_made.s (nn := 4) (sp := 0) (per := 1) (limits := []) rows_none9 (by omega) (by omega) (by omega) ?_
  intro H9 g t x hG hk9 hg ht hx
  rw [Option.isNone_some, if_neg (by simp)]
  refine ⟨rfl, rfl, rfl, rfl, ?_⟩
  rw [newC_eq]
  have hflat : [(Value.int .i64 16), (Value.int .u64 1), (Value.int .u64 0), (Value.int .u64 0), (Value.int .u64 0), (Value.int .u64 0), (Value.int .u64 0), (Value.int .u64 0), (Value.int .u64 0), (Value.int .i64 18), (Value.int .u64 2), (Value.int .u64 0), (Value.int .u64 0), (Value.int .u64 0), (Value.int .u64 0), (Value.int .u64 0), (Value.int .u64 0), (Value.int .u64 0)] = h12.flatMap putV := rfl
  rw [hflat]
  have hG1 := hG.push ⟨h12.flatMap putV, .rw, 9⟩
  have hk1 : Keeps H (H9.push ⟨h12.flatMap putV, .rw, 9⟩) := hk9.push _
  have hR : Abs.Rows (H9.push ⟨h12.flatMap putV, .rw, 9⟩) ⟨some ⟨H9.size, 0, none⟩, 2, 1⟩ 9 putV h12 := lit_rows h12_ok (by simp [push_size]) (by rw [push_get, if_pos rfl])
  have lt := hG.tn.lt
  have lp := hG.tn.l.m.lp
  have lc := hG.tn.l.m.lc
  have hp1 : PSt 20 0 1 (Mem.new (16 + 4 + 1 + 0) []) 0 0 (16 + 4 + 1 + 0) := hG.pst (LV.zero (by simp [Mem.new]) (by omega) (by omega) fun i hi => by omega) (by rw [mv_new]; omega)
  refine log_Commit.s hG1 hp1 (by omega) hR h12_ok (by simp [h12]) ?_ ?_
  · intro _ b hb
    simp at hb; subst hb; omega
  intro H2 hG2 fr2 _
  have e1 : comN (16 + 4) 0 1 h12 (Mem.new (16 + 4 + 1 + 0) []) 0 = a12 := rfl
  rw [e1] at hG2 ⊢
  rw [f1]
  have hk2 : Keeps H H2 := fr2.keeps hk1 (by omega) (by omega) (by omega)
  refine log_Get.s hG2 (by unfold isI; omega) ?_
  rw [f2, zeroV]
  have hl1 : isLine [1, 0, 0, 0, 0, 0, 0, 0] := isLine_lit (by unfold isU; omega)
  have hl2 : isLine [2, 0, 0, 0, 0, 0, 0, 0] := isLine_lit (by unfold isU; omega)
  refine new_line hl1 ?_
  have hG3 := hG2.push ⟨lineV [1, 0, 0, 0, 0, 0, 0, 0], .rw, 0⟩
  refine log_Get.s hG3 (by unfold isI; omega) ?_
  rw [f3]
  refine new_line hl2 ?_
  simp only [beq_self_eq_true, if_true]
  have hG4 := hG3.push ⟨lineV [2, 0, 0, 0, 0, 0, 0, 0], .rw, 0⟩
  have hk4 : Keeps H ((H2.push ⟨lineV [1, 0, 0, 0, 0, 0, 0, 0], .rw, 0⟩).push ⟨lineV [2, 0, 0, 0, 0, 0, 0, 0], .rw, 0⟩) := (hk2.push _).push _
  rw [ldA_some (by rw [row_push (by simp [push_size])]; exact line_new hl1), lineV_lit, eq_line hl1 hl1]
  simp only [beq_self_eq_true, if_true]
  rw [ldA_some (line_new hl2), lineV_lit, eq_line hl2 hl2]
  simp only [beq_self_eq_true, if_true]
  generalize (H2.push ⟨lineV [1, 0, 0, 0, 0, 0, 0, 0], .rw, 0⟩).push ⟨lineV [2, 0, 0, 0, 0, 0, 0, 0], .rw, 0⟩ = H4 at *
  refine log_Pending.s hG4 ?_
  rw [decide_eq_false (fun hh => hh.2 f5), if_pos (by simp)]
  refine ⟨rfl, ?_⟩
  rw [newC_eq]
  have hf19 : (Value.int .i64 19 :: lineV (List.replicate 8 0)) = [((19 : Int), List.replicate 8 (0 : Int))].flatMap putV := rfl
  rw [hf19]
  have ok19 : ∀ q ∈ [((19 : Int), List.replicate 8 (0 : Int))], putOK q := by
    intro q hq
    simp at hq; subst hq
    exact ⟨by unfold isI; simp, zero_line⟩
  refine log_May.s (l := [((19 : Int), List.replicate 8 (0 : Int))]) (lit_rows ok19 (by simp [push_size]) (by rw [push_get, if_pos rfl])) ok19 (by simp) ?_
  refine ⟨At.of_keeps (hk4.push _), ?_⟩
  decide

theorem darningref4_MayHomes.s {n : Int} {s : Sl} {l : List (Int × List Int)} {k : Bool → AH → Prop} (hr : Abs.Rows H s 9 putV l) (hok : ∀ q ∈ l, putOK q) (hlen : l.length ≤ 1000000) (h : k (decide (MayL n l)) H) : darningref4_MayHomes n s H k := by
  refine gcB (decide (MayL n l)) (darningref4_MayHomes.link ?_) h
  unfold darningref4_MayHomes.b darningref4_MayHomes.j4
  simp only [bcase_eq, decide_eq_true_eq, hr.1]
  have no : ¬ MayL n l → false = decide (MayL n l) := fun hh => (decide_eq_false hh).symm
  have kr := Keeps.refl H
  by_cases c1 : n < 16
  · rw [if_pos c1, bcase_true]; exact ⟨kr, no fun hm => by have := hm.1; omega⟩
  rw [if_neg c1]
  by_cases c2 : (l.length : Int) < 1
  · rw [if_pos c2, bcase_true]; exact ⟨kr, no fun hm => by have := hm.2.1; omega⟩
  rw [if_neg c2]
  by_cases c3 : (l.length : Int) > 14
  · rw [if_pos c3]; exact ⟨kr, no fun hm => by have := hm.2.2.1; omega⟩
  rw [if_neg c3]
  refine loopT_inv (t := ((false, (0 : Int)) : Bool × Int)) (I := fun (t : Bool × Int) H' => ∃ i : Nat, t.2 = (i : Int) ∧ i ≤ l.length ∧ Keeps H H' ∧ okZ n (lnAt l) i) (m := fun (t : Bool × Int) _ => Int.toNat ((l.length : Int) - t.2)) ?_ ⟨0, rfl, by omega, kr, fun i hi => by omega⟩
  intro t H1 hI it hit
  obtain ⟨t1, t2⟩ := t
  obtain ⟨i, e1, hi, hk, hz⟩ := hI
  simp only at e1
  subst e1
  unfold darningref4_MayHomes.l3
  simp only [bcase_eq, decide_eq_true_eq, hr.1]
  by_cases hlt : (i : Int) < (l.length : Int)
  · rw [if_pos hlt]
    have hi' : i < l.length := by omega
    obtain ⟨b, o, ha, hb, hrow⟩ := (hr.keep hk).at hi'
    refine ⟨by omega, ?_⟩
    rw [ha, onPtr_mk, Int.toNat_natCast, ldA_some hrow]
    have hcl := hok _ (List.getElem_mem hi')
    have hln : lnAt l i = l[i].1 := by unfold lnAt; rw [List.getD_eq_getElem?_getD, List.getElem?_eq_getElem hi']; rfl
    generalize l[i] = q at *
    refine new_put hcl rfl ?_
    intro hQ
    have hk2 : Keeps H (H1.push ⟨putV q, .rw, 0⟩) := hk.push _
    have s2 : H1.size < (H1.push ⟨putV q, .rw, 0⟩).size := by simp [push_size]
    generalize H1.push ⟨putV q, .rw, 0⟩ = H2 at *
    have j2 : ∀ v : Bool, (v = true ↔ ¬ (16 ≤ q.1 ∧ q.1 < n)) → darningref4_MayHomes.j2 s (fun r H' => Keeps H H' ∧ r = decide (MayL n l)) (t1, (i : Int)) it H1.size H2 v := by
      intro v hv
      unfold darningref4_MayHomes.j2
      rw [bcase_eq]
      by_cases hv' : v = true
      · rw [if_pos hv']
        refine ⟨hk2, no fun hm => hv.1 hv' ?_⟩
        have := hm.2.2.2 i hi'
        rw [hln] at this
        exact ⟨this.1, this.2.1⟩
      · rw [if_neg hv']
        have hgood : 16 ≤ q.1 ∧ q.1 < n := Decidable.not_not.1 fun hh => hv' (hv.2 hh)
        rw [hr.1]
        refine ⟨by omega, ?_⟩
        refine loopT_inv (I := fun (t : Bool × Int) H' => ∃ j : Nat, t.2 = (j : Int) ∧ j ≤ i ∧ Keeps H H' ∧ PutAt H' H1.size q ∧ H1.size < H'.size ∧ ∀ a, a < j → lnAt l a ≠ q.1) (m := fun (t : Bool × Int) _ => Int.toNat ((i : Int) - t.2)) ?_ ⟨0, rfl, by omega, hk2, hQ, s2, fun a ha => by omega⟩
        intro t H3 hI it2 hit2
        obtain ⟨u1, u2⟩ := t
        obtain ⟨j, e1, hj, hk3, hQ3, s3, hne⟩ := hI
        simp only at e1
        subst e1
        unfold darningref4_MayHomes.l1
        simp only [bcase_eq, decide_eq_true_eq, Int.toNat_natCast]
        by_cases hlt2 : (j : Int) < (i : Int)
        · rw [if_pos hlt2]
          have hj' : j < l.length := by omega
          obtain ⟨b2, o2, ha2, hb2, hrow2⟩ := (hr.keep hk3).at hj'
          refine ⟨by omega, ?_⟩
          rw [ha2, onPtr_mk, ldA_some hrow2]
          have hcl2 := hok _ (List.getElem_mem hj')
          have hln2 : lnAt l j = l[j].1 := by unfold lnAt; rw [List.getD_eq_getElem?_getD, List.getElem?_eq_getElem hj']; rfl
          generalize l[j] = q2 at *
          refine new_put hcl2 rfl ?_
          intro hQ4
          have hQ5 := hQ3.keep (H' := H3.push ⟨putV q2, .rw, 0⟩) (push_get_ne (by omega))
          rw [hQ5.c0, elI_some, hQ4.c0, elI_some]
          by_cases heq : q.1 = q2.1
          · rw [if_pos (by simpa using heq)]
            refine ⟨hk3.push _, no fun hm => ?_⟩
            have := (hm.2.2.2 i hi').2.2 j (by omega)
            rw [hln, hln2] at this
            exact this heq.symm
          · rw [if_neg (by simpa using heq), wrap_i64 (n := (j : Int) + 1) (by omega) (by omega)]
            refine hit2 _ _ ⟨j + 1, by simp, by omega, hk3.push _, hQ5, by simp [push_size]; omega, fun a ha => ?_⟩ (by simp only; omega)
            by_cases haj : a = j
            · subst haj; rw [hln2]; exact fun e => heq e.symm
            · exact hne a (by omega)
        · rw [if_neg hlt2, wrap_i64 (n := (i : Int) + 1) (by omega) (by omega)]
          have : j = i := by omega
          subst this
          refine hit _ _ ⟨j + 1, by simp, by omega, hk3, fun a ha => ?_⟩ (by simp only; omega)
          by_cases haj : a = j
          · subst haj; rw [hln]; exact ⟨hgood.1, hgood.2, hne⟩
          · exact hz a (by omega)
    rw [hQ.c0, elI_some]
    by_cases c4 : q.1 < 16
    · rw [if_pos c4]
      exact j2 true ⟨fun _ hh => by omega, fun _ => rfl⟩
    · rw [if_neg c4, elI_some]
      refine j2 _ ?_
      rw [decide_eq_true_eq]
      exact ⟨fun hh hg => by omega, fun hh => by omega⟩
  · rw [if_neg hlt]
    have : i = l.length := by omega
    subst this
    exact ⟨hk, (decide_eq_true ⟨by omega, by omega, by omega, hz⟩).symm⟩
end
end Go.Proofs.Ytgechnnadjonaab
