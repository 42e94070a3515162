import Derived.Test.YtmbipadfcbndgaaAbsS
set_option linter.all false
namespace Go.Abs
section
variable {P : Program} {T : Nat → TyE}

theorem getD_set_eq {listed : Array Bool} {i j : Nat} (hi : i < listed.size) : (listed.setIfInBounds i true).getD j true = if j = i then true else listed.getD j true := by
  by_cases h : j = i
  · subst h; simp [hi]
  · rw [if_neg h, getD_set_ne true (Ne.symm h)]

theorem slotAt_list {L : List Oper} (hn : (L.filterMap (·.dst)).Nodup) {listed : Array Bool} {i : Nat} {o : Oper} (ho : L[i]? = some o) (hi : i < listed.size) (V : Nat → Value) (fr0 : Fr) (s : Nat) :
    slotAt L (fun j => (listed.setIfInBounds i true).getD j true) V fr0 s = if o.dst = some s then V i else slotAt L (fun j => listed.getD j true) V fr0 s := by
  by_cases hd : o.dst = some s
  · rw [if_pos hd]
    unfold slotAt
    rw [writer_of hn ho hd]
    simp only [getD_set_eq hi, if_true]
  · rw [if_neg hd]
    unfold slotAt
    cases hw : writer L s with
    | none => rfl
    | some j =>
      have hji : j ≠ i := by
        intro e
        subst e
        obtain ⟨p, hp, hps⟩ := writer_some hw
        rw [ho] at hp
        injection hp with hp
        subst hp
        exact hd hps
      simp only [getD_set_eq hi, hji, if_false]

theorem put_slots {L : List Oper} (hn : (L.filterMap (·.dst)).Nodup) {listed : Array Bool} {i : Nat} {o : Oper} (ho : L[i]? = some o) (hi : i < listed.size) {n : Nat} (hdst : dstOK n o.dst = true)
    {V : Nat → Value} {fr0 : Fr} {φ : Emb} {a : Act} (hsz : a.tmps.size = n) (hs : ∀ s, VRel φ (slotAt L (fun j => listed.getD j true) V fr0 s) (a.tmps.getD s undef)) {v' : Value} (hv : VRel φ (V i) v') :
    ∀ s, VRel φ (slotAt L (fun j => (listed.setIfInBounds i true).getD j true) V fr0 s) ((a.put o.dst v').tmps.getD s undef) := by
  intro s
  rw [slotAt_list hn ho hi]
  cases hd : o.dst with
  | none => simp only [reduceCtorEq, if_false, Act.put]; exact hs s
  | some d =>
    have hlt : d < a.tmps.size := by rw [hsz]; exact dstOK_lt hdst d hd
    by_cases h : d = s
    · subst h
      simp only [if_true, Act.put]
      have : (a.tmps.setIfInBounds d v').getD d undef = v' := by simp [hlt]
      rw [this]
      exact hv
    · rw [if_neg (by intro e; injection e with e; exact h e)]
      simp only [Act.put]
      have : (a.tmps.setIfInBounds d v').getD s undef = a.tmps.getD s undef := by
        simp [Array.getD_eq_getD_getElem?, Array.getElem?_setIfInBounds_ne h]
      rw [this]
      exact hs s

/-- An operation that the abstract run has done is carried out. -/
theorem DInv.carry {pan : Nat → Bool} {n : Nat} {ops : Array Oper} {K : Fr → AH → Prop} {ord : List Nat} (F : OrdFacts T ops.toList ord) {fr0 : Fr} {W : World} {φ0 : Emb} {H0 : AH}
    {listed : Array Bool} {a : Act} {w : World} {done rest : List Nat} {V : Nat → Value} {bid : Nat → Option Nat} {recs : List (Nat × (AH → Prop))} {fr : Fr} {H : AH} {φ : Emb} {i : Nat}
    (D : DInv P T pan n ops K ord fr0 W φ0 H0 listed a w done rest V bid recs fr H φ) {o : Oper} (ho : ops.toList[i]? = some o) (hi : i ∈ done) (hdst : dstOK n o.dst = true)
    (hdeps : ∀ d ∈ depsOf o, listed.getD d true = true) (hni : listed.getD i true = false) {φ' : Emb} {w' : World} {v' : Value} (hle : φ.le φ') (hnew : ∀ x, φ x = none → φ' x = none ∨ bid i = some x) (R' : Rel W φ' H w') (hv : VRel φ' (V i) v') :
    DInv P T pan n ops K ord fr0 W φ0 H0 (listed.setIfInBounds i true) (a.put o.dst v') w' done rest V bid recs fr H φ' := by
  have hisz : i < ops.size := by have := (List.getElem?_eq_some_iff.1 ho).1; simpa using this
  have hil : i < listed.size := by rw [D.lsize]; exact hisz
  refine { split := D.split, run := D.run, frame := D.frame, rel := R', hist := ?_, size := ?_, defers := ?_, slots := ?_, lsize := by simp [D.lsize], sub := ?_, closed := ?_, bidlt := D.bidlt, bidge := D.bidge, bidinj := D.bidinj, pend := ?_ }
  · obtain ⟨h1, h2, h3, h4⟩ := D.hist
    refine ⟨Emb.le_trans h1 hle, h2, fun b hb hn => ?_, h4⟩
    rcases hnew b (h3 b hb hn) with h | h
    · exact h
    · have := D.bidge i b h; omega
  · cases hd : o.dst <;> simp [Act.put, D.size]
  · cases hd : o.dst <;> simp [Act.put, D.defers]
  · exact put_slots F.nodup ho hil hdst D.size (fun s => (D.slots s).mono hle) hv
  · intro j hj hl
    rw [getD_set_eq hil] at hl
    split at hl
    · rename_i e; rw [e]; exact hi
    · exact D.sub j hj hl
  · intro j p hp hl d hd
    rw [getD_set_eq hil] at hl ⊢
    split
    · rfl
    · split at hl
      · rename_i e
        subst e
        rw [ho] at hp
        injection hp with hp
        subst hp
        exact hdeps d hd
      · exact D.closed j p hp hl d hd
  · intro j hj hl
    rw [getD_set_eq hil] at hl
    split at hl
    · cases hl
    · rename_i hne
      obtain ⟨p, fri, hp1, hp2, hp3, hp4⟩ := D.pend j hj hl
      refine ⟨p, fri, hp1, hp2, hp3, hp4.mono (fun rec hm _ hr => ⟨hm, hr⟩) (fun b hb hn => ⟨rfl, ?_⟩)⟩
      rcases hnew b hn with h | h
      · exact h
      · exact absurd (D.bidinj j i b hb h) hne

theorem checks_spec {M : List Nat} {e : Nat} {H : AH} {C : Prop} : ∀ (recs : List (Nat × (AH → Prop))), checks M e H C recs → C ∧ ∀ i rec, (i, rec) ∈ recs → bef M e i = false → rec H := by
  intro recs
  induction recs with
  | nil => intro h; exact ⟨h, fun i rec hm => by simp at hm⟩
  | cons r recs ih =>
    intro h
    obtain ⟨j, rec'⟩ := r
    simp only [checks] at h
    split at h
    · rename_i hb
      obtain ⟨h1, h2⟩ := ih h
      refine ⟨h1, fun i rec hm hn => ?_⟩
      rcases List.mem_cons.1 hm with h | h
      · injection h with e1 e2; subst e1; rw [hb] at hn; cases hn
      · exact h2 i rec h hn
    · obtain ⟨h0, h⟩ := h
      obtain ⟨h1, h2⟩ := ih h
      refine ⟨h1, fun i rec hm hn => ?_⟩
      rcases List.mem_cons.1 hm with h | h
      · injection h with e1 e2; subst e1 e2; exact h0
      · exact h2 i rec h hn

/-- The next call or store is carried out. -/
theorem DInv.carryHeavy {pan : Nat → Bool} {n : Nat} {ops : Array Oper} {K : Fr → AH → Prop} {ord : List Nat} (F : OrdFacts T ops.toList ord) {fr0 : Fr} {W : World} {φ0 : Emb} {H0 : AH}
    {listed : Array Bool} {a : Act} {w : World} {done rest : List Nat} {V : Nat → Value} {bid : Nat → Option Nat} {recs : List (Nat × (AH → Prop))} {fr : Fr} {H : AH} {φ : Emb} {i : Nat}
    (D : DInv P T pan n ops K ord fr0 W φ0 H0 listed a w done (i :: rest) V bid recs fr H φ) {o : Oper} (ho : ops.toList[i]? = some o) (hdst : dstOK n o.dst = true)
    (hdeps : ∀ d ∈ depsOf o, listed.getD d true = true) (hni : listed.getD i true = false) {φ' : Emb} {w' : World} {v v' : Value} {H' : AH} (hh : Hist φ H φ' H') (R' : Rel W φ' H' w') (hv : VRel φ' v v')
    (hrun : wpD P T pan n ops (masks ops.toList []) K rest recs (frput fr o.dst v) H') (hrec : ∀ j rec, (j, rec) ∈ recs → bef (masks ops.toList []) i j = false → rec H → rec H') :
    DInv P T pan n ops K ord fr0 W φ0 H0 (listed.setIfInBounds i true) (a.put o.dst v') w' (done ++ [i]) rest (fun x => if x = i then v else V x) bid recs (frput fr o.dst v) H' φ' := by
  have hisz : i < ops.size := by have := (List.getElem?_eq_some_iff.1 ho).1; simpa using this
  have hil : i < listed.size := by rw [D.lsize]; exact hisz
  obtain ⟨_, _, _, hnd, _⟩ := F.pos done i rest D.split
  have hV : ∀ x, x ∈ done → (if x = i then v else V x) = V x := by
    intro x hx
    have : x ≠ i := fun e => hnd (e ▸ hx)
    rw [if_neg this]
  refine { split := by rw [D.split]; simp, run := hrun, frame := slotAt_put F.nodup ho hnd D.frame, rel := R', hist := D.hist.trans hh, size := ?_, defers := ?_, slots := ?_, lsize := by simp [D.lsize], sub := ?_, closed := ?_,
           bidlt := fun j b h => Nat.lt_of_lt_of_le (D.bidlt j b h) hh.2.1, bidge := D.bidge, bidinj := D.bidinj, pend := ?_ }
  · cases hd : o.dst <;> simp [Act.put, D.size]
  · cases hd : o.dst <;> simp [Act.put, D.defers]
  · refine put_slots F.nodup ho hil hdst D.size (fun s => ?_) (by simp only [if_true]; exact hv)
    have e : slotAt ops.toList (fun j => listed.getD j true) (fun x => if x = i then v else V x) fr0 s = slotAt ops.toList (fun j => listed.getD j true) V fr0 s := by
      refine slotAt_congr (fun j hj => ?_) s
      have : j ≠ i := fun e => by subst e; rw [hni] at hj; cases hj
      rw [if_neg this]
    rw [e]
    exact (D.slots s).mono hh.1
  · intro j hj hl
    rw [getD_set_eq hil] at hl
    split at hl
    · rename_i e; rw [e]; simp
    · exact List.mem_append_left _ (D.sub j hj hl)
  · intro j p hp hl d hd
    rw [getD_set_eq hil] at hl ⊢
    split
    · rfl
    · split at hl
      · rename_i e
        subst e
        rw [ho] at hp
        injection hp with hp
        subst hp
        exact hdeps d hd
      · exact D.closed j p hp hl d hd
  · intro j hj hl
    rw [getD_set_eq hil] at hl
    split at hl
    · cases hl
    · rename_i hne
      have hjd : j ∈ done := by
        rcases List.mem_append.1 hj with h | h
        · exact h
        · exact absurd (by simpa using h) hne
      obtain ⟨p, fri, hp1, hp2, hp3, hp4⟩ := D.pend j hjd hl
      have hjlt : j < ops.toList.length := (List.getElem?_eq_some_iff.1 hp1).1
      refine ⟨p, fri, hp1, hp2, fun s hs => ?_, ?_⟩
      · rw [hp3 s hs]
        exact slotAt_congr (fun k hk => (hV k (F.bef_done D.split hjlt hjd hk)).symm) s
      · simp only [hV j hjd]
        refine hp4.mono (fun rec hm _ hr => ⟨hm, hrec j rec hm ?_ hr⟩) (fun b hb hn => ⟨hh.2.2.2 b (D.bidlt j b hb) hn, hh.2.2.1 b (D.bidlt j b hb) hn⟩)
        cases hb : bef (masks ops.toList []) i j with
        | false => rfl
        | true =>
          exfalso
          obtain ⟨d, hd, h⟩ := masks_spec ops.toList [] i j o ho (by simpa using hb)
          have hE := hdeps d hd
          have : listed.getD j true = true := by
            rcases h with rfl | h
            · exact hE
            · exact bef_closed (E := fun x => listed.getD x true = true) F.small (fun i o ho h => D.closed i o ho h) d j (by have := F.small i o ho d hd; simp at hjlt ⊢; omega) hE h
          rw [hl] at this; cases this

end
end Go.Abs
