import Derived.Test.YtmbipadfcbndgaaAbsR
set_option linter.all false
namespace Go.Abs
section
variable {P : Program} {T : Nat → TyE}

theorem Pend.mono {L : List Oper} {o : Oper} {fr : Fr} {i : Nat} {v : Value} {H H' : AH} {φ φ' : Emb} {recs recs' : List (Nat × (AH → Prop))} {bid : Option Nat}
    (h : Pend P T L o fr i v H φ recs bid) (hrec : ∀ rec, (i, rec) ∈ recs → Stays rec → rec H → (i, rec) ∈ recs' ∧ rec H')
    (hal : ∀ b, bid = some b → φ b = none → H'.get b = H.get b ∧ φ' b = none) : Pend P T L o fr i v H' φ' recs' bid := by
  cases h with
  | skip hg hv => exact .skip hg hv
  | pure hg h => exact .pure hg h
  | load hg rec hm hr h hs => obtain ⟨h1, h2⟩ := hrec rec hm hs hr; exact .load hg rec h1 h2 h hs
  | alloc hg b hb h hn => obtain ⟨h1, h2⟩ := hal b hb hn; exact .alloc hg b hb (by rw [h1]; exact h) h2

theorem DInv.advance (hT : Agrees P T) {pan : Nat → Bool} {n : Nat} {ops : Array Oper} {K : Fr → AH → Prop} {ord : List Nat} (F : OrdFacts T ops.toList ord) {fr0 : Fr} {W : World} {φ0 : Emb} {H0 : AH}
    {listed : Array Bool} {a : Act} {w : World} {done rest : List Nat} {V : Nat → Value} {bid : Nat → Option Nat} {recs : List (Nat × (AH → Prop))} {fr : Fr} {H : AH} {φ : Emb} {i : Nat}
    (D : DInv P T pan n ops K ord fr0 W φ0 H0 listed a w done (i :: rest) V bid recs fr H φ) {o : Oper} (ho : ops.toList[i]? = some o) (hh : isHeavy T o.op = false) :
    ∃ V' bid' recs' fr' H', DInv P T pan n ops K ord fr0 W φ0 H0 listed a w (done ++ [i]) rest V' bid' recs' fr' H' φ := by
  have hsplit : ord = (done ++ [i]) ++ rest := by rw [D.split]; simp
  obtain ⟨_, _, _, hni, _⟩ := F.pos done i rest D.split
  have hisz : i < ops.size := by have := (List.getElem?_eq_some_iff.1 ho).1; simpa using this
  have hil : listed.getD i true = false := by
    cases h : listed.getD i true with
    | false => rfl
    | true => exact absurd (D.sub i hisz h) hni
  have hrun := D.run
  simp only [wpD, ho] at hrun
  split at hrun
  case isFalse => exact hrun.elim
  rename_i hdst
  have hslot := F.slot_next D.split ho V fr0
  have hlook : ∀ (V' : Nat → Value), (∀ x, x ∈ done → V' x = V x) → ∀ s ∈ looks ops.toList o, fr s = slotAt ops.toList (fun j => bef (masks ops.toList []) i j) V' fr0 s := by
    intro V' hV s hs
    rw [D.frame s, hslot s hs]
    exact slotAt_congr (fun j hj => (hV j (F.bef_next D.split hj)).symm) s
  -- the new state, once its value and heap are known
  have build : ∀ (v : Value) (H' : AH) (recs' : List (Nat × (AH → Prop))) (bid' : Nat → Option Nat), wpD P T pan n ops (masks ops.toList []) K rest recs' (frput fr o.dst v) H' →
      Rel W φ H' w → Hist φ H φ H' → (∀ j b, bid' j = some b → b < H'.size ∧ H0.size ≤ b) → (∀ j k b, bid' j = some b → bid' k = some b → j = k) → (∀ j, j ∈ done → bid' j = bid j) →
      (∀ j rec, (j, rec) ∈ recs → Stays rec → rec H → (j, rec) ∈ recs' ∧ rec H') → Pend P T ops.toList o fr i v H' φ recs' (bid' i) →
      DInv P T pan n ops K ord fr0 W φ0 H0 listed a w (done ++ [i]) rest (fun x => if x = i then v else V x) bid' recs' (frput fr o.dst v) H' φ := by
    intro v H' recs' bid' hw R' hh1 hb1 hb2 hb3 hrec hp
    have hV : ∀ x, x ∈ done → (if x = i then v else V x) = V x := by
      intro x hx
      have : x ≠ i := fun e => hni (e ▸ hx)
      rw [if_neg this]
    refine { split := hsplit, run := hw, frame := slotAt_put F.nodup ho hni D.frame, rel := R', hist := D.hist.trans hh1, size := D.size, defers := D.defers, slots := ?_, lsize := D.lsize,
             sub := ?_, closed := D.closed, bidlt := fun j b h => (hb1 j b h).1, bidge := fun j b h => (hb1 j b h).2, bidinj := hb2, pend := ?_ }
    · intro s
      have e : slotAt ops.toList (fun j => listed.getD j true) (fun x => if x = i then v else V x) fr0 s = slotAt ops.toList (fun j => listed.getD j true) V fr0 s := by
        refine slotAt_congr (fun j hj => ?_) s
        have : j ≠ i := fun e => by subst e; rw [hil] at hj; cases hj
        rw [if_neg this]
      rw [e]
      exact D.slots s
    · intro j hj hl
      exact List.mem_append_left _ (D.sub j hj hl)
    · intro j hj hl
      rcases List.mem_append.1 hj with hjd | hji
      · obtain ⟨p, fri, hp1, hp2, hp3, hp4⟩ := D.pend j hjd hl
        have hjlt : j < ops.toList.length := (List.getElem?_eq_some_iff.1 hp1).1
        refine ⟨p, fri, hp1, hp2, fun s hs => ?_, ?_⟩
        · rw [hp3 s hs]
          exact slotAt_congr (fun k hk => (hV k (F.bef_done D.split hjlt hjd hk)).symm) s
        · simp only [hV j hjd]
          rw [hb3 j hjd]
          exact hp4.mono (fun rec hm hs hr => hrec j rec hm hs hr) (fun b hb hn => ⟨hh1.2.2.2 b (D.bidlt j b hb) hn, hn⟩)
      · obtain rfl : j = i := by simpa using hji
        refine ⟨o, fr, ho, hdst, hlook _ (fun x hx => hV x hx), ?_⟩
        simp only [if_true]
        exact hp
  rcases guardC_sel hrun with ⟨hg, hy⟩ | ⟨hg, hy⟩
  · split at hy
    · obtain ⟨v, rec, hk, hr, hok, hst⟩ := load_sound hT hy
      exact ⟨_, _, _, _, _, build v H ((i, rec) :: recs) bid hk D.rel (Hist.refl _ _) (fun j b h => ⟨D.bidlt j b h, D.bidge j b h⟩) D.bidinj (fun _ _ => rfl) (fun j r hm _ hrr => ⟨List.mem_cons_of_mem _ hm, hrr⟩)
        (.load hg rec (by simp) hr hok hst)⟩
    · split at hy
      · obtain ⟨v, ob, hk, hok⟩ := alloc_sound hT hy
        refine ⟨_, _, _, _, _, build v (H.push ob) recs (fun j => if j = i then some H.size else if j ∈ done then bid j else none) hk (D.rel.push ob) ?_ ?_ ?_ ?_ ?_ ?_⟩
        · refine ⟨Emb.le_refl φ, by simp [AH.push], fun _ _ h => h, fun b hb _ => ?_⟩
          have : b ≠ H.size := by omega
          simp [AH.push, this]
        · intro j b hb
          simp only [AH.push]
          split at hb
          · injection hb with hb; have := D.hist.2.1; omega
          · split at hb
            · have h1 := D.bidlt j b hb; have h2 := D.bidge j b hb; omega
            · cases hb
        · intro j k b hj hk'
          split at hj
          · injection hj with hj
            subst hj
            split at hk'
            · rename_i h1 h2; rw [h1, h2]
            · split at hk'
              · have := D.bidlt k _ hk'; omega
              · cases hk'
          · split at hj
            · split at hk'
              · injection hk' with hk'
                subst hk'
                have := D.bidlt j _ hj; omega
              · split at hk'
                · exact D.bidinj j k b hj hk'
                · cases hk'
            · cases hj
        · intro j hj
          have : j ≠ i := fun e => hni (e ▸ hj)
          simp [this, hj]
        · intro j r hm hs hr
          exact ⟨hm, hs H ob D.rel.out hr⟩
        · refine .alloc hg H.size (by simp) ?_ D.rel.fresh
          have : (H.push ob).get H.size = ob := by simp [AH.push]
          rw [this]
          exact hok
      · split at hy
        · rename_i h3; rw [hh] at h3; cases h3
        · obtain ⟨v, hk, hok⟩ := pure_sound hT hy
          exact ⟨_, _, _, _, _, build v H recs bid hk D.rel (Hist.refl _ _) (fun j b h => ⟨D.bidlt j b h, D.bidge j b h⟩) D.bidinj (fun _ _ => rfl) (fun j r hm _ hrr => ⟨hm, hrr⟩) (.pure hg hok)⟩
  · exact ⟨_, _, _, _, _, build skipV H recs bid hy D.rel (Hist.refl _ _) (fun j b h => ⟨D.bidlt j b h, D.bidge j b h⟩) D.bidinj (fun _ _ => rfl) (fun j r hm _ hrr => ⟨hm, hrr⟩) (.skip hg rfl)⟩

/-- The abstract run goes on to the next call or store. -/
theorem DInv.norm (hT : Agrees P T) {pan : Nat → Bool} {n : Nat} {ops : Array Oper} {K : Fr → AH → Prop} {ord : List Nat} (F : OrdFacts T ops.toList ord) {fr0 : Fr} {W : World} {φ0 : Emb} {H0 : AH}
    {listed : Array Bool} {a : Act} {w : World} {φ : Emb} : ∀ (rest done : List Nat) (V : Nat → Value) (bid : Nat → Option Nat) (recs : List (Nat × (AH → Prop))) (fr : Fr) (H : AH),
    DInv P T pan n ops K ord fr0 W φ0 H0 listed a w done rest V bid recs fr H φ →
    ∃ done' rest' V' bid' recs' fr' H', DInv P T pan n ops K ord fr0 W φ0 H0 listed a w done' rest' V' bid' recs' fr' H' φ ∧
      (rest' = [] ∨ ∃ e tl o, rest' = e :: tl ∧ ops.toList[e]? = some o ∧ isHeavy T o.op = true) := by
  intro rest
  induction rest with
  | nil => intro done V bid recs fr H D; exact ⟨_, _, _, _, _, _, _, D, .inl rfl⟩
  | cons i rest ih =>
    intro done V bid recs fr H D
    obtain ⟨o, ho, _, _, _⟩ := F.pos done i rest D.split
    cases hh : isHeavy T o.op with
    | true => exact ⟨_, _, _, _, _, _, _, D, .inr ⟨i, rest, o, rfl, ho, hh⟩⟩
    | false =>
      obtain ⟨V', bid', recs', fr', H', D'⟩ := D.advance hT F ho hh
      exact ih _ _ _ _ _ _ D'

end
end Go.Abs
