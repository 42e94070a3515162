import Derived.Test.YtgddfhnochcolaaE13
set_option linter.all false
set_option linter.all false
namespace Go.Proofs.Ytgddfhnochcolaa
open Go Go.Abs

section
variable {H : AH}
theorem aAlloc_fst (ws : List Int) (n off : Int) : (aAlloc ws n off).1 = decide (off ∈ fitO ws n) := by
  rcases aAlloc_cases ws n off with ⟨h, hA⟩ | ⟨h, i, _, _, hA⟩
  · rw [hA, decide_eq_false h]
  · rw [hA, decide_eq_true h]
theorem alloc_at {words : Int} {e : List Ex} {ws : List Int} (hR : MR words e ws) {n off : Int} (h : off ∈ fitO ws n) : ∃ e1 e2 at' tk, (at' + 1) * 8 = off ∧ 0 ≤ at' ∧ needN n ≤ tk ∧ 2 ≤ tk ∧ tk ≤ 512 ∧ 1 ≤ n ∧ n ≤ 448 ∧ MR words (e1 ++ (at', tk, List.replicate ((tk.toNat - 1) * 8) 0) :: e2) (aAlloc ws n off).2 := by
  rcases aAlloc_cases ws n off with ⟨h0, _⟩ | ⟨_, i, hi, hio, hA⟩
  · exact absurd h h0
  obtain ⟨h1, h2, h3, h4⟩ := fitI_mem hi
  have hgi := bkAt_get h1
  rw [hR.blk'] at hgi h2 h3 hio hA
  have hok : Ok ws := ⟨e, by rw [hR.len]; exact hR⟩
  have hb := hR.may.mem (List.mem_of_getElem? hgi)
  have hrg := hR.range
  obtain ⟨e1, e2, hE, _, _, hMR⟩ := hR.alloc hgi h2 ⟨h4, h3⟩
  obtain ⟨t1, t2, t3, _⟩ := takesN_range' (sz := (bkAt (blkX words e) i).2.1) (need := needN n) ⟨h4, h3⟩
  have hn : 1 ≤ n ∧ n ≤ 448 := by
    unfold needN at h4
    split at h4
    · assumption
    · omega
  refine ⟨e1, e2, (bkAt (blkX words e) i).1, takesN (bkAt (blkX words e) i).2.1 (needN n), ?_, hb.1, t3, t1, by omega, hn.1, hn.2, ?_⟩
  · rw [← hio]; unfold offN; rw [if_pos (by omega)]
  · rw [hA]; exact hMR
theorem fitO_isI {ws : List Int} {n v : Int} (h : v ∈ fitO ws n) : isI v := by
  unfold fitO at h
  rw [List.mem_map] at h
  obtain ⟨i, _, rfl⟩ := h
  have := offN_range (bkAt (blkL ws) i).1
  unfold isI; omega

theorem iV_cell {x0 : Sl} {l : List Int} {i : Nat} {k : Int → Prop} (hr : Abs.Rows H x0 1 iV l) (hi : i < l.length) (h : k l[i]) : onPtr x0.a fun a => elI .i64 (AH.cell? H (Addr.add a (i * 1))) k := by
  obtain ⟨b, o, ha, hb, hcells⟩ := rows_cells hr (by omega)
  have hc := (hcells i _ (List.getElem?_eq_getElem hi)).2 0 _ rfl
  rw [addr_add, addr_add] at hc
  rw [ha, onPtr_mk, addr_add, show AH.cell? H ⟨b, o + i * 1, none⟩ = _ from hc, elI_some]
  exact h

theorem darninglaw20_ModelFits.t {x0 x2 x3 x4 : Int} {x1 : Sl} {l : List StR} (h0 : (Lit.int .i64 x0).wf = true) (hr : Abs.Rows H x1 4 stepV l) (hok : ∀ d ∈ l, stepOK H d) (_ : l.length ≤ maxLen)
    (h2 : (Lit.int .i64 x2).wf = true) (h3 : (Lit.int .i64 x3).wf = true) (h4 : (Lit.int .i64 x4).wf = true) : darninglaw20_ModelFits x0 x1 x2 x3 x4 H (fun r _ => r = true) := by
  have aw : ∀ H', darninglaw20_awake H' fun b _ => b = true := fun H' => darninglaw20_awake.s fun _ => rfl
  have hx2 : isI x2 := wf_i64 h2
  have hx4 : isI x4 := wf_i64 h4
  refine darninglaw20_ModelFits.link ?_
  unfold darninglaw20_ModelFits.b
  rw [hr.1]
  by_cases hbig : ((l.length : Nat) : Int) > 60
  · rw [decide_eq_true hbig, bcase_true]; exact aw _
  rw [decide_eq_false hbig, bcase_false]
  refine model_New.s (fun hm => ?_) ?_
  · rw [Option.isNone_none, bcase_true]
    refine darningref4_NewModel.s (fun _ => ?_) (fun hh => absurd hh hm)
    rw [Option.isNone_none, bcase_true]
    exact aw H
  intro hm F p H30 hk30 hu30 hM30
  rw [Option.isNone_some, bcase_false]
  have hge30 : ∀ b, F b → H.size ≤ b := fun b hb => by rcases hu30.2 b hb with h | h; exact h.elim; exact h.1
  refine loopT_inv (t := (0 : Int)) (I := fun (t : Int) H' => ∃ (i : Nat) (G : Nat → Prop) (ws : List Int) (root : Int), t = (i : Int) ∧ i ≤ l.length ∧ Keeps H H' ∧ (∀ b, G b → H.size ≤ b) ∧ MW G H' p ws root) (m := fun (t : Int) _ => Int.toNat ((l.length : Int) - t)) ?_ ⟨0, F, firstN x0, 0, rfl, by omega, hk30, hge30, hM30⟩
  rintro t H1 ⟨i, G, ws, root, rfl, hi, hk, hG, hM⟩ it hit
  unfold darninglaw20_ModelFits.l9
  simp only [bcase_eq, decide_eq_true_eq, hr.1]
  by_cases hlt : (i : Int) < (l.length : Int)
  · rw [if_pos hlt]
    have hi' : i < l.length := by omega
    obtain ⟨b, ofs, ha, hb, hcells⟩ := rows_cells (hr.keep hk) (by omega)
    refine ⟨by omega, ?_⟩
    rw [ha, onPtr_mk, Int.toNat_natCast, ldA_some (hcells i _ (List.getElem?_eq_getElem hi')).1]
    have hd := hok _ (List.getElem_mem hi')
    generalize l[i] = d at *
    refine new_row (n := 4) rfl (stepV_len d) (stepV_ok d) ?_
    obtain ⟨H2, hH2⟩ : ∃ H2, H2 = H1.push ⟨stepV d, .rw, 0⟩ := ⟨_, rfl⟩
    have hS : StAt H2 H1.size d := by rw [hH2]; exact StAt.new
    have hk2 : Keeps H1 H2 := by rw [hH2]; exact (Keeps.refl H1).push _
    have hz2 : H1.size < H2.size := by rw [hH2]; simp [push_size]
    rw [← hH2]
    clear hH2
    rw [hS.c1, elI_some]
    have hM2 := hM.keeps hk2
    have hnG : ¬ G H1.size := fun h => by have := hM.lt _ h; omega
    refine model_Model_Fits.s hM2 hd.n ?_
    intro s48 H48 hk48 hO48
    have hS48 := hS.keep (hk48.2 _ hz2)
    rw [hS48.c0, elI_some]
    have hM48 := hM2.keeps hk48
    have hk148 := hk2.trans hk48
    have hz48 : H1.size < H48.size := by have := hk48.1; omega
    have j7 : ∀ G' ws' H', Up G H48 G' H' → MW G' H' p ws' root → darninglaw20_ModelFits.j7 (some ⟨p, 0, none⟩) (i : Int) it H1.size H' := by
      intro G' ws' H' hu' hM'
      have hSj : StAt H' H1.size d := hS48.keep (hu'.1.2 _ hz48 hnG)
      have nxt : ∀ G'' ws'' H'', Up G H48 G'' H'' → MW G'' H'' p ws'' root → it (IntKind.wrap .i64 ((i : Int) + 1)) H'' := by
        intro G'' ws'' H'' hu'' hM''
        rw [wrap_i64 (n := (i : Int) + 1) (by omega) (by omega)]
        have hh1 := hk.1
        have hh2 := hk148.1
        refine hit _ _ ⟨i + 1, G'', ws'', root, by simp, by omega, ⟨by have := hu''.1.1; omega, fun b hb => ?_⟩, fun b hb => ?_, hM''⟩ (by omega)
        · rw [hu''.1.2 b (by omega) (fun h => by have := hG b h; omega), hk148.2 b (by omega), hk.2 b hb]
        · rcases hu''.2 b hb with h | h
          · exact hG b h
          · omega
      unfold darninglaw20_ModelFits.j7
      rw [hSj.c0, elI_some, bcase_eq]
      by_cases k1 : d.k = 1
      · rw [if_pos (by simpa using k1), hSj.c2, elI_some]
        refine model_Model_Free.s hM' ?_
        intro G'' H'' hu'' hM''
        exact nxt _ _ _ (hu'.trans hu'') hM''
      · rw [if_neg (by simpa using k1)]
        exact nxt _ _ _ hu' hM'
    have j8 : ∀ x : Bool, (x = true → 0 < (fitO ws d.n).length) → darninglaw20_ModelFits.j8 (some ⟨p, 0, none⟩) (i : Int) it H1.size H48 s48 x := by
      intro x hx
      unfold darninglaw20_ModelFits.j8
      rw [bcase_eq]
      by_cases hx' : x = true
      · rw [if_pos hx', hS48.c1, elI_some]
        have hpos := hx hx'
        have hrr := hO48.rows (fun _ => rfl) (fun _ => rfl)
        refine ⟨by rw [hrr.1]; omega, ?_⟩
        refine iV_cell (i := 0) hrr hpos ?_
        refine model_Model_Alloc.s hM48 hd.n (fitO_isI (List.getElem_mem hpos)) ?_
        intro G' H' hu' hM'
        exact j7 _ _ _ hu' hM'
      · rw [if_neg hx']
        exact j7 _ _ _ (Up.refl _) hM48
    by_cases k0 : d.k = 0
    · rw [if_pos (by simpa using k0)]
      refine j8 _ (fun h => ?_)
      rw [decide_eq_true_eq, own_len hO48] at h
      omega
    · rw [if_neg (by simpa using k0)]
      exact j8 false (fun h => by cases h)
  rw [if_neg hlt]
  -- the last allocation
  unfold darninglaw20_ModelFits.j6
  refine model_Model_Fits.s hM hx2 ?_
  intro s74 H74 hk74 hO74
  have hM74 := hM.keeps hk74
  have hr74 := hO74.rows (fun _ => rfl) (fun _ => rfl)
  have hfl := fitO_len (ws := ws) (n := x2)
  have hbl := hM.blen.1
  have hal := aAlloc_fst ws x2
  have hIs : ∀ v ∈ fitO ws x2, isI v := fun v hv => fitO_isI hv
  have hat := fun off (h : off ∈ fitO ws x2) => (by
    obtain ⟨s, E, _, hR⟩ := hM
    exact alloc_at hR h : ∃ e1 e2 at' tk, (at' + 1) * 8 = off ∧ 0 ≤ at' ∧ needN x2 ≤ tk ∧ 2 ≤ tk ∧ tk ≤ 512 ∧ 1 ≤ x2 ∧ x2 ≤ 448 ∧ MR ws.length (e1 ++ (at', tk, List.replicate ((tk.toNat - 1) * 8) 0) :: e2) (aAlloc ws x2 off).2)
  rw [hr74.1, bcase_eq]
  by_cases hz : (fitO ws x2).length = 0
  · rw [if_pos (by simpa using hz)]
    refine model_Model_Alloc.s hM74 hx2 hx4 ?_
    intro G' H81 hu81 hM81
    have hnil : fitO ws x2 = [] := List.length_eq_zero_iff.1 hz
    rw [hal, hnil, decide_eq_false (by simp), Bool.not_false, bcase_true]
    exact aw _
  rw [if_neg (by simpa using hz)]
  generalize hfo : fitO ws x2 = fo at *
  rw [wrap_u64 (n := ((fo.length : Nat) : Int)) (by omega) (by omega)]
  obtain ⟨q, hq1, hq2, hq⟩ := umod' (x := x3) (m := (fo.length : Int)) (by omega)
  rw [hq]
  refine ⟨by omega, by omega, ?_⟩
  obtain ⟨qn, rfl⟩ := Int.eq_ofNat_of_zero_le hq1
  rw [Int.toNat_natCast]
  have hqn : qn < fo.length := by omega
  refine iV_cell (i := qn) hr74 hqn ?_
  have hmem : fo[qn] ∈ fo := List.getElem_mem hqn
  generalize fo[qn] = off at *
  refine loopT_inv (t := ((false, (0 : Int)) : Bool × Int)) (I := fun (t : Bool × Int) H' => H' = H74 ∧ ∃ j : Nat, t.2 = (j : Int) ∧ j ≤ fo.length ∧ t.1 = decide (x4 ∈ fo.take j)) (m := fun (t : Bool × Int) _ => Int.toNat ((fo.length : Int) - t.2)) ?_ ⟨rfl, 0, rfl, by omega, by simp⟩
  rintro ⟨t0, t2⟩ H74 ⟨rfl, j, e1, hj, hfd⟩ it2 hit2
  simp only at e1 hfd
  subst e1 hfd
  unfold darninglaw20_ModelFits.l5
  rw [hr74.1]
  by_cases hlt2 : (j : Int) < (fo.length : Int)
  · rw [decide_eq_true hlt2, bcase_true]
    refine ⟨by omega, ?_⟩
    have hj' : j < fo.length := by omega
    simp only [Int.toNat_natCast]
    refine iV_cell (i := j) hr74 hj' ?_
    have htk : fo.take (j + 1) = fo.take j ++ [fo[j]] := by rw [List.take_succ, List.getElem?_eq_getElem hj']; rfl
    have hnx : ∀ v : Bool, v = decide (x4 ∈ fo.take (j + 1)) → it2 (v, IntKind.wrap .i64 ((j : Int) + 1)) H74 := by
      intro v hv
      rw [wrap_i64 (n := (j : Int) + 1) (by omega) (by omega)]
      exact hit2 _ _ ⟨rfl, j + 1, by simp, by omega, hv⟩ (by simp only; omega)
    rw [bcase_eq]
    by_cases hin : x4 ∈ fo.take j
    · rw [if_pos (by simpa using hin)]
      refine hnx true ?_
      rw [htk, decide_eq_true (List.mem_append_left _ hin)]
    · rw [if_neg (by simpa using hin)]
      refine hnx _ ?_
      rw [htk]
      by_cases he : fo[j] = x4
      · rw [he]; simp
      · rw [show (fo[j] == x4) = false by simpa using he, decide_eq_false]
        rw [List.mem_append]
        rintro (h | h)
        · exact hin h
        · simp at h; exact he h.symm
  · rw [decide_eq_false hlt2, bcase_false]
    have hjl : j = fo.length := by omega
    subst hjl
    rw [List.take_length]
    unfold darninglaw20_ModelFits.j4
    refine model_Model_Copy.s hM74 ?_
    intro F' p110 H110 hk110 hu110 hM110
    refine model_Model_Alloc.s hM110 hx2 hx4 ?_
    intro G' H114 hu114 hM114
    rw [hal, beq_self_eq_true, Bool.not_true, bcase_false]
    have hdj : Dj F' G := fun b hb hg => by
      rcases hu110.2 b hb with h | h
      · exact h
      · have := hM74.lt b hg; omega
    refine model_Model_Alloc.s ((hM74.keeps hk110).up hu114 hdj) hx2 (hIs _ hmem) ?_
    intro G'' H121 hu121 hM121
    rw [hal, decide_eq_true hmem, Bool.not_true]
    unfold darninglaw20_ModelFits.j3
    rw [bcase_false]
    obtain ⟨e1, e2, at', tk, q1, q2, q3, q4, q5, q6, q7, hMR⟩ := hat off hmem
    refine model_Model_Read.s hM121 (hIs _ hmem) hx2 ?_
    intro s128 H128 hk128 hO128
    have hnd : needN x2 = 1 + (x2 + 7) / 8 := by unfold needN; rw [if_pos (by omega)]
    have hxm : (at', tk, List.replicate ((tk.toNat - 1) * 8) (0 : Int)) ∈ (e1 ++ (at', tk, List.replicate ((tk.toNat - 1) * 8) (0 : Int)) :: e2) := by simp
    rw [hMR.rd ⟨by omega, by omega, _, hxm, by simp only; omega, by simp only; omega⟩] at hO128 ⊢
    simp only at hO128
    have hby := bytesOf_ext hMR hxm
    simp only at hby
    have hzz : bytesOf (aAlloc ws x2 off).2 off.toNat x2.toNat = List.replicate x2.toNat 0 := by
      have h9 := bytesOf_part (ws := (aAlloc ws x2 off).2) (o := (at'.toNat + 1) * 8) (m := (tk.toNat - 1) * 8) (a := 0) (n := x2.toNat) (by omega)
      rw [hby, List.drop_zero, List.take_replicate, Nat.add_zero] at h9
      rw [show off.toNat = (at'.toNat + 1) * 8 by omega, ← h9]
      congr 1; omega
    rw [hzz] at hO128
    have hr128 := hO128.rows (fun _ => rfl) (fun _ => rfl)
    have hn128 : s128.n = x2.toNat := by rw [hr128.1, List.length_replicate]
    refine loopT_inv (t := ((false, (0 : Int)) : Bool × Int)) (I := fun (t : Bool × Int) H' => H' = H128 ∧ ∃ j : Nat, t.2 = (j : Int) ∧ j ≤ x2.toNat) (m := fun (t : Bool × Int) _ => Int.toNat (x2 - t.2)) ?_ ⟨rfl, 0, rfl, by omega⟩
    rintro ⟨t0, t2⟩ H128 ⟨rfl, j3, e3, hj3⟩ it3 hit3
    simp only at e3
    subst e3
    unfold darninglaw20_ModelFits.l2
    rw [hn128]
    by_cases hlt3 : (j3 : Int) < ((x2.toNat : Nat) : Int)
    · rw [decide_eq_true hlt3, bcase_true]
      refine ⟨by omega, ?_⟩
      simp only [Int.toNat_natCast]
      have hj3' : j3 < (List.replicate x2.toNat (0 : Int)).length := by rw [List.length_replicate]; omega
      obtain ⟨b5, o5, ha5, hb5, hcells5⟩ := rows_cells hr128 (by rw [List.length_replicate]; omega)
      have hc5 := (hcells5 j3 _ (List.getElem?_eq_getElem hj3')).2 0 _ rfl
      rw [addr_add, addr_add] at hc5
      rw [ha5, onPtr_mk, addr_add, show AH.cell? H128 ⟨b5, o5 + j3 * 1, none⟩ = _ from hc5, elI_some, List.getElem_replicate, bcase_eq, if_neg (by simp), wrap_i64 (n := (j3 : Int) + 1) (by omega) (by omega)]
      exact hit3 _ _ ⟨rfl, j3 + 1, by simp, by omega⟩ (by simp only; omega)
    · rw [decide_eq_false hlt3, bcase_false]
      unfold darninglaw20_ModelFits.j1
      rw [bcase_eq, if_pos (by simp), bcase_eq, if_pos (by rw [hn128]; simp; omega)]
      exact aw _
end
end Go.Proofs.Ytgddfhnochcolaa
