import Derived.Test.YtgddfhnochcolaaE5
set_option linter.all false
set_option linter.all false
namespace Go.Proofs.Ytgddfhnochcolaa
open Go Go.Abs

/-! ### pure: Alloc -/
def fitI (ws : List Int) (n : Int) : List Nat := fitsL (blkL ws) (needN n)
def aAlloc (ws : List Int) (n off : Int) : Bool × List Int :=
  match (fitI ws n).find? (fun i => offN (bkAt (blkL ws) i).1 == off) with
  | some i => (true, applyE ws (carveE (bkAt (blkL ws) i) (needN n)))
  | none => (false, ws)
theorem aAlloc_cases (ws : List Int) (n off : Int) : (off ∉ fitO ws n ∧ aAlloc ws n off = (false, ws)) ∨
    (off ∈ fitO ws n ∧ ∃ i, i ∈ fitI ws n ∧ offN (bkAt (blkL ws) i).1 = off ∧ aAlloc ws n off = (true, applyE ws (carveE (bkAt (blkL ws) i) (needN n)))) := by
  unfold aAlloc
  cases hf : (fitI ws n).find? (fun i => offN (bkAt (blkL ws) i).1 == off) with
  | none =>
    refine .inl ⟨fun hm => ?_, rfl⟩
    unfold fitO at hm
    rw [List.mem_map] at hm
    obtain ⟨i, hi, he⟩ := hm
    have := List.find?_eq_none.1 hf i hi
    exact this (by simpa using he)
  | some i =>
    have h1 := List.mem_of_find?_eq_some hf
    have h2 := List.find?_some hf
    have h2 : offN (bkAt (blkL ws) i).1 = off := by simpa using h2
    refine .inr ⟨?_, i, h1, h2, rfl⟩
    unfold fitO
    rw [List.mem_map]
    exact ⟨i, h1, h2⟩
theorem fitI_mem {ws : List Int} {n : Int} {i : Nat} (h : i ∈ fitI ws n) : i < (blkL ws).length ∧ (bkAt (blkL ws) i).2.2 = false ∧ needN n ≤ (bkAt (blkL ws) i).2.1 ∧ 2 ≤ needN n := by
  unfold fitI fitsL at h
  split at h
  · cases h
  · have := fitsTo_mem h
    exact ⟨this.1, this.2.1, this.2.2, by omega⟩
theorem needN_le (n : Int) : 0 ≤ needN n ∧ needN n ≤ 57 := by unfold needN; split <;> omega

theorem atN_at {words : Int} : ∀ {l : List Bk} {pt : Int} {pu : Bool} {i j : Nat}, chainB words pt pu l → i < l.length → atN (bkAt l i).1 l j = ((j + i : Nat) : Int) := by
  intro l
  induction l with
  | nil => intro pt pu i j _ h; simp at h
  | cons b r ih =>
    intro pt pu i j h hi
    have hm := chainB.mem h
    have hb := hm b (by simp)
    obtain ⟨h1, h2, h3, h4, h5⟩ := h
    unfold mayS at h2
    cases i with
    | zero =>
      show atN b.1 (b :: r) j = _
      unfold atN
      rw [if_pos (by omega)]; rfl
    | succ i =>
      show atN (bkAt r i).1 (b :: r) j = _
      have hi' : i < r.length := by simpa using hi
      have hm2 := chainB.mem h5 _ (List.mem_of_getElem? (bkAt_get hi'))
      unfold atN
      rw [if_neg (by omega), ih h5 hi']
      congr 1; omega

theorem zeros_bU (n : Nat) : zerosOf n [Value.int .u8 0] = (List.replicate n (0 : Int)).flatMap bU := by
  unfold zerosOf
  rw [List.flatMap_def, List.map_replicate]; rfl

section
variable {F : Nat → Prop} {H : AH} {p : Nat} {ws : List Int} {root : Int}

theorem chain_First.s0 {n : Int} {k : Sl → AH → Prop} (hm : ¬ mayW n) (h : k ⟨none, 0, 0⟩ H) : chain_First n H k := by
  refine chain_First.link ?_
  unfold chain_First.b
  refine chain_mayWords.s ?_
  rw [decide_eq_false hm, Bool.not_false, bcase_true]
  exact h
theorem model_New.s {n : Int} {k : Option Addr → AH → Prop} (h0 : ¬ mayW n → k none H) (h1 : mayW n → ∀ F' p' H', Keeps H H' → Up (fun _ => False) H F' H' → MW F' H' p' (firstN n) 0 → k (some ⟨p', 0, none⟩) H') : model_New n H k := by
  refine model_New.link ?_
  unfold model_New.b
  by_cases hm : mayW n
  rotate_left 1
  · refine chain_First.s0 hm ?_
    show bcase (Option.isNone none) _ _
    rw [Option.isNone_none, bcase_true]
    exact h0 hm
  refine chain_First.s ?_
  intro s4 H4 hk4 hO4
  have hne : firstN n ≠ [] := by unfold firstN; rw [if_pos hm]; simp
  rcases hO4 with ⟨_, h5⟩ | ⟨b, rfl, h5, h6, h7⟩
  · exact absurd h5 hne
  rw [bcase_eq, if_neg (by simp), newC_eq]
  have hw := hm
  unfold mayW at hw
  have hl : ((firstN n).length : Int) = n := by unfold firstN; rw [if_pos hm]; simp; omega
  have hk := hk4.push ⟨[.int .i64 n, .slice none 0 0, .int .i64 0], .rw, 0⟩
  refine h1 hm (fun b => b = H4.size) H4.size _ hk ⟨Keeps.kp hk, fun b hb => .inr ⟨by rw [hb]; exact hk4.1, by rw [hb]; simp [push_size]⟩⟩ ?_
  refine ⟨⟨none, 0, 0⟩, [], ⟨by rw [push_get, if_pos rfl, hl], .inl ⟨rfl, rfl⟩, fun x hx => (by cases hx), rfl, fun a ha => (by cases ha), fun x hx => (by cases hx), fun b hb => (by rw [hb]; simp [push_size]), fun a ha => (by cases ha), fun x hx => (by cases hx), List.nodup_nil⟩, ?_⟩
  rw [hl]
  exact MR.first hm

theorem model_Model_Alloc.s {n off : Int} {k : Bool → AH → Prop} (hM : MW F H p ws root) (hn : isI n) (hoff : isI off) (h : ∀ F' H', Up F H F' H' → MW F' H' p (aAlloc ws n off).2 root → k (aAlloc ws n off).1 H') : model_Model_Alloc (some ⟨p, 0, none⟩) n off H k := by
  obtain ⟨hb1, hb2, hb3⟩ := hM.blen
  unfold isI at hoff
  refine model_Model_Alloc.link ?_
  unfold model_Model_Alloc.b
  refine model_Model_Fits.s hM hn ?_
  intro s14 H14 hk14 hO14
  have hfl := fitO_len (ws := ws) (n := n)
  refine slices_Contains_intint.s (hO14.rows (fun _ => rfl) (fun _ => rfl)) (by omega) ?_
  rcases aAlloc_cases ws n off with ⟨hno, hA⟩ | ⟨hyes, i, hi, hio, hA⟩
  · rw [decide_eq_false hno, Bool.not_false, bcase_true]
    rw [hA] at h
    exact h F H14 ⟨Keeps.kp hk14, fun b hb => .inl hb⟩ (hM.keeps hk14)
  rw [decide_eq_true hyes, Bool.not_true, bcase_false]
  rw [hA] at h
  obtain ⟨hil, hiu, hin, hn2⟩ := fitI_mem hi
  have hgi := bkAt_get hil
  have hbi := hb3 _ (List.mem_of_getElem? hgi)
  have hoi : off = ((bkAt (blkL ws) i).1 + 1) * 8 := by rw [← hio]; unfold offN; rw [if_pos (by omega)]
  refine model_Model_Blocks.s (hM.keeps hk14) ?_
  intro s19 H19 hk19 hO19
  refine ⟨by decide, ?_⟩
  have hat : IntKind.wrap .i64 ((IntKind.wrap .i64 (Int.tdiv off 8)) - 1) = (bkAt (blkL ws) i).1 := by
    rw [Int.tdiv_eq_ediv_of_nonneg (by omega), wrap_i64 (n := off / 8) (by omega) (by omega), wrap_i64 (by omega) (by omega)]
    omega
  have hM19 := hM.keeps (hk14.trans hk19)
  have hk := hk14.trans hk19
  have hR19 := hO19.rows bkV_len bkV_ok
  have hmay : MayB (blkL ws) ws.length := by
    obtain ⟨s, E, _, hR⟩ := hM
    rw [MW.blk hR]; exact hR.may
  rw [hat]
  refine chain_At.s hR19 (by omega) (fun b hb => by have := hb3 b hb; omega) (by unfold isI; omega) ?_
  rw [atN_at hmay.2 hil, Nat.zero_add]
  refine ⟨by rw [hR19.1]; omega, ?_⟩
  obtain ⟨b, o, ha, hb, hcells⟩ := rows_cells hR19 (by omega)
  have hc1 := (hcells i _ hgi).2 1 _ rfl
  rw [ha, onPtr_mk, Int.toNat_natCast, hc1, elI_some]
  refine fit_Need.s hn ?_
  have hnl := needN_le n
  refine fit_Takes.s (by omega) (by omega) ?_
  obtain ⟨t1, t2, t3, t4⟩ := takesN_range (sz := (bkAt (blkL ws) i).2.1) (need := needN n) ⟨hn2, hin⟩
  obtain ⟨s, E, hAt, hR⟩ := hM19
  have hbe : (blkX ws.length (E.map (·.1)))[i]? = some (bkAt (blkL ws) i) := by rw [← MW.blk hR]; exact hgi
  obtain ⟨e1, e2, hE, he1, he2, hMR⟩ := hR.alloc (need := needN n) hbe hiu ⟨hn2, hin⟩
  generalize hbk : bkAt (blkL ws) i = bk at *
  generalize htk : takesN bk.2.1 (needN n) = tk at *
  -- the new extent
  refine new_row (n := 3) rfl rfl rfl ?_
  have hm1 : ((tk.toNat - 1) * 8 : Nat) = (((tk - 1) * 8).toNat) := by omega
  have hc : AH.cell? (H19.push ⟨[.int .i64 bk.1, .int .i64 tk, .slice none 0 0], .rw, 0⟩) (Addr.add ⟨H19.size, 0, none⟩ 1) = some (.int .i64 tk) := by simp [addr_add, AH.cell?, push_get]
  rw [hc, elI_some, wrap_i64 (n := tk - 1) (by omega) (by omega), wrap_i64 (n := (tk - 1) * 8) (by omega) (by omega)]
  refine ⟨by simp only [lim]; omega, ?_⟩
  rw [newC_eq, ← hm1, zeros_bU]
  obtain ⟨m, hm⟩ : ∃ m, m = (tk.toNat - 1) * 8 := ⟨_, rfl⟩
  rw [← hm] at hMR ⊢
  obtain ⟨H2, hH2⟩ : ∃ H2, H2 = H19.push ⟨[.int .i64 bk.1, .int .i64 tk, .slice none 0 0], .rw, 0⟩ := ⟨_, rfl⟩
  have hz2 : H2.size = H19.size + 1 := by rw [hH2]; rfl
  have hg2 : H2.get H19.size = ⟨[.int .i64 bk.1, .int .i64 tk, .slice none 0 0], .rw, 0⟩ := by rw [hH2, push_get, if_pos rfl]
  have hk2 : Keeps H19 H2 := by rw [hH2]; exact (Keeps.refl H19).push _
  rw [← hH2]
  clear hH2 hc
  obtain ⟨H3, hH3⟩ : ∃ H3, H3 = H2.push ⟨(List.replicate m (0 : Int)).flatMap bU, .rw, 1⟩ := ⟨_, rfl⟩
  have hz3 : H3.size = H19.size + 2 := by rw [hH3, push_size, hz2]
  have hg3 : H3.get H19.size = ⟨[.int .i64 bk.1, .int .i64 tk, .slice none 0 0], .rw, 0⟩ := by rw [hH3, push_get_ne (by omega), hg2]
  have hg3' : H3.get H2.size = ⟨(List.replicate m (0 : Int)).flatMap bU, .rw, 1⟩ := by rw [hH3, push_get, if_pos rfl]
  have hk3 : Keeps H19 H3 := by rw [hH3]; exact hk2.push _
  rw [← hH3]
  clear hH3
  rw [hz2] at hg3' ⊢
  rw [addr_add]
  refine ⟨⟨rfl, by simp [hg3], by simp [hg3]⟩, ?_⟩
  have hX : ExAt (H3.put ⟨H19.size, 0 + 2, none⟩ [.slice (some ⟨H19.size + 1, 0, none⟩) m 1]) H19.size ((bk.1, tk, List.replicate m 0), H19.size + 1) := ⟨0, by simp [AH.put, upd_get, hg3, setMany, exV]⟩
  have hg4 : (H3.put ⟨H19.size, 0 + 2, none⟩ [.slice (some ⟨H19.size + 1, 0, none⟩) m 1]).get (H19.size + 1) = ⟨(List.replicate m (0 : Int)).flatMap bU, .rw, 1⟩ := by simp [AH.put, upd_get, hg3']
  have hk4 : Keeps H19 (H3.put ⟨H19.size, 0 + 2, none⟩ [.slice (some ⟨H19.size + 1, 0, none⟩) m 1]) := hk3.put (Nat.le_refl _) _
  have hz4 : (H3.put ⟨H19.size, 0 + 2, none⟩ [.slice (some ⟨H19.size + 1, 0, none⟩) m 1]).size = H19.size + 2 := hz3
  generalize H3.put ⟨H19.size, 0 + 2, none⟩ [.slice (some ⟨H19.size + 1, 0, none⟩) m 1] = H4 at *
  clear hg3 hg3' hk3 hz3 hg2 hk2 hz2
  have hA4 := hAt.keeps hk4
  have hr4 := hA4.rows
  obtain ⟨hel, hex⟩ := MdAt.elen (s := s) hR
  -- the place
  have place : ∀ j, j ≤ E.length → (∀ x ∈ E.take j, x.1.1 < bk.1) → (∀ x, E[j]? = some x → ¬ x.1.1 < bk.1) → model_Model_Alloc.j1 (some ⟨p, 0, none⟩) k H19.size (j : Int) H4 := by
    intro j hj hlow hhigh
    have hjl : j = e1.length := by
      have hlenE : E.length = e1.length + e2.length := by have := congrArg List.length hE; simpa using this
      rcases Nat.lt_trichotomy j e1.length with hlt | heq | hgt
      · exfalso
        have hjE : j < E.length := by omega
        refine hhigh _ (List.getElem?_eq_getElem hjE) ?_
        have : E[j].1 ∈ e1 := by
          have h9 : (E.map (·.1))[j]? = some E[j].1 := by rw [List.getElem?_map, List.getElem?_eq_getElem hjE]; rfl
          rw [hE, List.getElem?_append_left hlt] at h9
          exact List.mem_of_getElem? h9
        exact he1 _ this
      · exact heq
      · exfalso
        have hjE : e1.length < E.length := by omega
        have h9 : (E.map (·.1))[e1.length]? = some E[e1.length].1 := by rw [List.getElem?_map, List.getElem?_eq_getElem hjE]; rfl
        rw [hE, List.getElem?_append_right (Nat.le_refl _)] at h9
        have := he2 _ (List.mem_of_getElem? h9)
        have h8 := hlow E[e1.length] (by
          rw [List.mem_iff_getElem?]
          exact ⟨e1.length, by rw [List.getElem?_take_of_lt hgt, List.getElem?_eq_getElem hjE]⟩)
        omega
    unfold model_Model_Alloc.j1
    rw [onPtr_mk, hA4.c1, elL_some, ldA_some hX.row]
    refine ⟨rfl, ?_⟩
    rw [newC_eq]
    have hk5 := hk4.push ⟨exV ((bk.1, tk, List.replicate m 0), H19.size + 1), .rw, 3⟩
    have hA5 := hAt.keeps hk5
    have hO5 := hA5.own
    have hsb : ∀ a, s.a = some a → a.block < H19.size := fun a ha => hAt.lt _ (hAt.fs a ha)
    have hm5 : setMany [Value.int .i64 0, .int .i64 0, .slice none 0 0] 0 (exV ((bk.1, tk, List.replicate m 0), H19.size + 1)) = exV ((bk.1, tk, List.replicate m 0), H19.size + 1) := rfl
    rw [hm5]
    refine slices_Insert_extent.s (B := 0) (x := ((bk.1, tk, List.replicate m 0), H19.size + 1)) exV_len exV_ok hO5 hj (by omega) (by simp [push_size]) (by omega) (by rw [push_get, if_pos rfl]) (fun a ha => by have := hsb a ha; omega) ?_
    intro s' H6 hO6 hz6 hfr
    have hz5 : (H4.push ⟨exV ((bk.1, tk, List.replicate m 0), H19.size + 1), .rw, 3⟩).size = H19.size + 3 := by rw [push_size, hz4]
    rw [hz5] at hz6 hfr hO6
    rw [onPtr_mk]
    have hge := hk.1
    have hmem : ∀ y ∈ E.take j ++ ((bk.1, tk, List.replicate m 0), H19.size + 1) :: E.drop j, y = ((bk.1, tk, List.replicate m 0), H19.size + 1) ∨ y ∈ E := by
      intro y hy
      rw [List.mem_append, List.mem_cons] at hy
      rcases hy with hy | hy | hy
      · exact .inr (List.mem_of_mem_take hy)
      · exact .inl hy
      · exact .inr (List.mem_of_mem_drop hy)
    have hold : ∀ b, F b → (∀ a, s.a = some a → b ≠ a.block) → H6.get b = H19.get b := fun b hb hne => by
      have := hAt.lt b hb
      rw [hfr b (by omega) hne, push_get_ne (by omega), hk4.2 b this]
    obtain ⟨p1, p2, p3⟩ := MdAt.put_ext (G := fun b => F b ∨ (H.size ≤ b ∧ b < H6.size)) (root := root) (words := (ws.length : Int)) (p := p) (s := s) (H1 := H6) (E' := E.take j ++ ((bk.1, tk, List.replicate m 0), H19.size + 1) :: E.drop j) (s' := s') (by rw [hold p hAt.fp hAt.pne]; exact hAt.obj) (own_base hO6 (by omega))
      (fun y hy => by
        rcases hmem y hy with rfl | hy
        · rw [hfr _ (by simp only; omega) (fun a ha he => by have := hsb a ha; simp only at he; omega), push_get_ne (by simp only; omega)]
          exact hg4
        · rw [hold y.2 (hAt.fx y hy) (fun a ha he => (hAt.nx y hy).2 a ha he.symm)]; exact hAt.bys y hy)
      (.inl hAt.fp) (fun a ha => by
        rcases hO6 with ⟨h0, _⟩ | ⟨b, h0, h5, h6, _⟩
        · rw [h0] at ha; cases ha
        · rw [h0] at ha
          injection ha with ha
          subst ha
          exact .inr ⟨by simp only; omega, h6⟩)
      (fun y hy => by
        rcases hmem y hy with rfl | hy
        · exact .inr ⟨by simp only; omega, by simp only; omega⟩
        · exact .inl (hAt.fx y hy))
      (fun b hb => by
        rcases hb with hb | hb
        · have := hAt.lt b hb; omega
        · exact hb.2)
      (by
        have hp : ((E.take j ++ ((bk.1, tk, List.replicate m 0), H19.size + 1) :: E.drop j).map (·.2)).Perm ((((bk.1, tk, List.replicate m 0), H19.size + 1) :: (E.take j ++ E.drop j)).map (·.2)) := List.Perm.map _ List.perm_middle
        rw [hp.nodup_iff, List.take_append_drop, List.map_cons, List.nodup_cons]
        refine ⟨fun hm => ?_, hAt.nd⟩
        rw [List.mem_map] at hm
        obtain ⟨y, hy, he⟩ := hm
        have := hAt.lt _ (hAt.fx y hy)
        omega)
    refine ⟨p1, ?_⟩
    refine h (fun b => F b ∨ (H.size ≤ b ∧ b < H6.size)) _ ⟨⟨show H.size ≤ H6.size by omega, fun b hb hn => ?_⟩, fun b hb => hb⟩ ⟨s', E.take j ++ ((bk.1, tk, List.replicate m 0), H19.size + 1) :: E.drop j, ?_, ?_⟩
    · rw [p3 b (fun he => hn (he ▸ hAt.fp)), hfr b (by omega) (fun a ha he => hn (he ▸ hAt.fs a ha)), push_get_ne (by omega), hk4.2 b (by omega), hk.2 b hb]
    · rw [applyE_length]; exact p2
    · rw [applyE_length, List.map_append, List.map_cons, List.map_take, List.map_drop, hE, hjl, List.take_left, List.drop_left]
      exact hMR
  refine loopT_inv (t := (0 : Int)) (I := fun (t : Int) H' => H' = H4 ∧ ∃ j : Nat, t = (j : Int) ∧ j ≤ E.length ∧ ∀ x ∈ E.take j, x.1.1 < bk.1) (m := fun (t : Int) _ => Int.toNat ((E.length : Int) - t)) ?_ ⟨rfl, 0, rfl, by omega, fun x hx => (by simp at hx)⟩
  rintro t _ ⟨rfl, j, rfl, hj, hlow⟩ it hit
  unfold model_Model_Alloc.l3
  rw [onPtr_mk, hA4.c1, elL_some]
  simp only [bcase_eq, decide_eq_true_eq]
  rw [hr4.1]
  by_cases hlt : (j : Int) < (E.length : Int)
  · rw [if_pos hlt]
    have hj' : j < E.length := by omega
    rw [onPtr_mk, hA4.c1, elL_some]
    refine ⟨by rw [hr4.1]; omega, ?_⟩
    obtain ⟨b2, o2, ha2, hb2', hcells2⟩ := rows_cells hr4 (by omega)
    have hc2 := (hcells2 j E[j] (List.getElem?_eq_getElem hj')).2 0 _ rfl
    rw [ha2, onPtr_mk, Int.toNat_natCast, hc2, elI_some, hat]
    unfold model_Model_Alloc.j2
    rw [bcase_eq]
    by_cases hl2 : E[j].1.1 < bk.1
    · rw [if_pos (by simpa using hl2), wrap_i64 (n := (j : Int) + 1) (by omega) (by omega)]
      refine hit _ _ ⟨rfl, j + 1, by simp, by omega, fun x hx => ?_⟩ (by omega)
      rw [List.take_succ, List.getElem?_eq_getElem hj', List.mem_append] at hx
      rcases hx with hx | hx
      · exact hlow x hx
      · simp at hx; subst hx; exact hl2
    · rw [if_neg (by simpa using hl2)]
      refine place j hj hlow (fun x hx => ?_)
      rw [List.getElem?_eq_getElem hj'] at hx
      injection hx with hx
      subst hx
      exact hl2
  · rw [if_neg hlt]
    unfold model_Model_Alloc.j2
    rw [bcase_false]
    refine place j hj hlow (fun x hx => ?_)
    rw [List.getElem?_eq_none (by omega)] at hx
    cases hx
end
end Go.Proofs.Ytgddfhnochcolaa
