import Derived.Test.YtmbipadfcbndgaaAbsT
set_option linter.all false
namespace Go.Abs
section
variable {P : Program} {T : Nat → TyE}

def unlisted (listed : Array Bool) : Nat → Nat
  | 0 => 0
  | n + 1 => unlisted listed n + (if listed.getD n true = true then 0 else 1)

theorem unlisted_zero {listed : Array Bool} : ∀ n, unlisted listed n = 0 → ∀ i, i < n → listed.getD i true = true := by
  intro n
  induction n with
  | zero => intro _ i hi; omega
  | succ n ih =>
    intro h i hi
    simp only [unlisted] at h
    rcases Nat.lt_or_ge i n with hl | hl
    · exact ih (by omega) i hl
    · obtain rfl : i = n := by omega
      split at h
      · assumption
      · omega

theorem unlisted_set {listed : Array Bool} {i : Nat} (hi : i < listed.size) (hn : listed.getD i true = false) : ∀ n, i < n → unlisted (listed.setIfInBounds i true) n + 1 = unlisted listed n := by
  have same : ∀ n, n ≤ i → unlisted (listed.setIfInBounds i true) n = unlisted listed n := by
    intro n
    induction n with
    | zero => intro _; rfl
    | succ n ih =>
      intro h
      have e : (listed.setIfInBounds i true).getD n true = listed.getD n true := by rw [getD_set_eq hi, if_neg (by omega)]
      simp only [unlisted]
      rw [ih (by omega), e]
  intro n
  induction n with
  | zero => intro h; omega
  | succ n ih =>
    intro h
    simp only [unlisted]
    by_cases hin : i = n
    · subst hin
      have e : (listed.setIfInBounds i true).getD i true = true := by rw [getD_set_eq hi, if_pos rfl]
      rw [same i (Nat.le_refl _), e, hn]
      simp
    · have e : (listed.setIfInBounds i true).getD n true = listed.getD n true := by rw [getD_set_eq hi, if_neg (fun e => hin e.symm)]
      rw [← ih (by omega), e]
      omega

theorem mem_depsOf {o : Oper} {d : Nat} : d ∈ depsOf o ↔ ∃ e ∈ o.after, Region.binds .any e = true ∧ e.on = d := by
  unfold depsOf
  simp only [List.mem_map, List.mem_filter, Array.mem_toList_iff]
  constructor
  · rintro ⟨e, ⟨h1, h2⟩, h3⟩; exact ⟨e, h1, h2, h3⟩
  · rintro ⟨e, h1, h2, h3⟩; exact ⟨e, ⟨h1, h2⟩, h3⟩

theorem DInv.any (hT : Agrees P T) {pan : Nat → Bool} {n : Nat} {ops : Array Oper} {K : Fr → AH → Prop} {ord : List Nat} (F : OrdFacts T ops.toList ord) {fr0 : Fr} {W : World} {φ0 : Emb} {H0 : AH} {Q : Exit → Act → World → Prop}
    (hout : True) (hK : ∀ φ' fr' H' a' w', Hist φ0 H0 φ' H' → ARel φ' n fr' a' → (∀ s, s ∉ ops.toList.filterMap (·.dst) → fr' s = fr0 s) → Rel W φ' H' w' → K fr' H' → Q .normal a' w') :
    ∀ (fuel : Nat) (listed : Array Bool) (a : Act) (w : World), unlisted listed ops.size ≤ fuel →
      (∃ done rest V bid recs fr H φ, DInv P T pan n ops K ord fr0 W φ0 H0 listed a w done rest V bid recs fr H φ) → wpAny P .any ops Q fuel listed a w := by
  have finish : ∀ (listed : Array Bool) (a : Act) (w : World), (∀ i, i < ops.size → listed.getD i true = true) →
      (∃ done rest V bid recs fr H φ, DInv P T pan n ops K ord fr0 W φ0 H0 listed a w done rest V bid recs fr H φ) → Q .normal a w := by
    intro listed a w hall ⟨done, rest, V, bid, recs, fr, H, φ, D⟩
    have hrest : rest = [] := by
      cases rest with
      | nil => rfl
      | cons e tl =>
        exfalso
        obtain ⟨o, ho, _, hn, _⟩ := F.pos done e tl D.split
        have hlt : e < ops.size := by have := (List.getElem?_eq_some_iff.1 ho).1; simpa using this
        exact hn (D.sub e hlt (hall e hlt))
    subst hrest
    have hrun := D.run
    simp only [wpD] at hrun
    refine hK φ fr H a w D.hist ⟨D.defers, D.size, fun s => ?_⟩ (fun s hs => ?_) D.rel hrun
    case refine_2 =>
      rw [D.frame s]
      unfold slotAt
      cases hw : writer ops.toList s with
      | none => rfl
      | some j =>
        obtain ⟨p, hp, hps⟩ := writer_some hw
        exact absurd (List.mem_filterMap.2 ⟨p, List.mem_of_getElem? hp, hps⟩) hs
    rw [D.frame s]
    have : slotAt ops.toList (fun j => done.contains j) V fr0 s = slotAt ops.toList (fun j => listed.getD j true) V fr0 s := by
      unfold slotAt
      cases hw : writer ops.toList s with
      | none => rfl
      | some j =>
        obtain ⟨p, hp, _⟩ := writer_some hw
        have hlt : j < ops.size := by have := (List.getElem?_eq_some_iff.1 hp).1; simpa using this
        have h1 := hall j hlt
        have h2 : done.contains j = true := by simpa using D.sub j hlt h1
        simp only [h1, h2]
    rw [this]
    exact D.slots s
  have ready_all : ∀ (listed : Array Bool), listed.size = ops.size → Region.ready .any ops listed = [] → ∀ i, i < ops.size → listed.getD i true = true := by
    intro listed hls hr i
    induction i using Nat.strongRecOn with
    | _ i ih =>
      intro hi
      cases hl : listed.getD i true with
      | true => rfl
      | false =>
        exfalso
        have ho : ops[i]? = some ops[i] := Array.getElem?_eq_getElem hi
        have : i ∈ Region.ready .any ops listed := by
          rw [mem_ready]
          refine ⟨hl, ops[i], ho, fun e he hb => ?_⟩
          have hlt := F.small i ops[i] (by simp [hi]) e.on (mem_depsOf.2 ⟨e, he, hb, rfl⟩)
          have := ih e.on hlt (by omega)
          have hlt' : e.on < listed.size := by omega
          simpa [hlt'] using this
        rw [hr] at this
        cases this
  intro fuel
  induction fuel with
  | zero =>
    intro listed a w hf hD
    obtain ⟨done, rest, V, bid, recs, fr, H, φ, D⟩ := hD
    have hall := unlisted_zero (listed := listed) ops.size (by omega)
    refine ⟨?_, finish listed a w hall ⟨_, _, _, _, _, _, _, _, D⟩⟩
    cases hr : Region.ready .any ops listed with
    | nil => rfl
    | cons i l =>
      exfalso
      have : i ∈ Region.ready .any ops listed := by rw [hr]; simp
      obtain ⟨h1, o, ho, _⟩ := mem_ready.1 this
      have := hall i (Array.getElem?_eq_some_iff.1 ho).1
      rw [h1] at this; cases this
  | succ fuel ih =>
    intro listed a w hf hD
    obtain ⟨done, rest, V, bid, recs, fr, H, φ, D⟩ := hD
    refine ⟨fun hr => finish listed a w (ready_all listed D.lsize hr) ⟨_, _, _, _, _, _, _, _, D⟩, fun i hi => ?_⟩
    obtain ⟨hni, o, ho, hafter⟩ := mem_ready.1 hi
    have hisz : i < ops.size := (Array.getElem?_eq_some_iff.1 ho).1
    have hil : i < listed.size := by rw [D.lsize]; exact hisz
    have ho' : ops.toList[i]? = some o := by simpa using ho
    have hdeps : ∀ d ∈ depsOf o, listed.getD d true = true := by
      intro d hd
      obtain ⟨e, he, hb, rfl⟩ := mem_depsOf.1 hd
      have := hafter e he hb
      have hlt := F.small i o ho' e.on hd
      have hlt' : e.on < listed.size := by omega
      simpa [hlt'] using this
    have hfuel : unlisted (listed.setIfInBounds i true) ops.size ≤ fuel := by
      have := unlisted_set hil hni ops.size hisz; omega
    obtain ⟨done, rest, V, bid, recs, fr, H, D, hnorm⟩ := D.norm hT F
    have hready := F.slot_ready (E := fun j => listed.getD j true) (fun i o ho h => D.closed i o ho h) ho' hdeps hni V fr0
    unfold wpOp
    simp only [ho]
    by_cases hid : i ∈ done
    · obtain ⟨p, fri, hp1, hdst, hfri, hp⟩ := D.pend i hid hni
      rw [ho'] at hp1
      injection hp1 with hp1
      subst hp1
      have hlook : ∀ s ∈ looks ops.toList o, VRel φ (fri s) (a.tmps.getD s undef) := by
        intro s hs
        rw [hfri s hs, ← hready s hs]
        exact D.slots s
      cases hp with
      | skip hg hv =>
        rw [if_neg (by rw [gsel_wanted hg hlook]; simp)]
        exact ih _ _ _ hfuel ⟨_, _, _, _, _, _, _, _, D.carry F ho' hid hdst hdeps hni (Emb.le_refl φ) (fun x h => .inl h) D.rel (by rw [hv]; exact .skip)⟩
      | pure hg hok =>
        rw [if_pos (gsel_wanted hg hlook)]
        obtain ⟨v', hrun, hv⟩ := hok φ a.eval (looks_ev hlook)
        refine .inl ?_
        unfold Oper.wp
        rw [hrun w]
        exact ih _ _ _ hfuel ⟨_, _, _, _, _, _, _, _, D.carry F ho' hid hdst hdeps hni (Emb.le_refl φ) (fun x h => .inl h) D.rel hv⟩
      | load hg rec hm hr hok hs =>
        rw [if_pos (gsel_wanted hg hlook)]
        obtain ⟨v', hrun, hv⟩ := hok φ a.eval W w H (looks_ev hlook) D.rel hr
        refine .inl ?_
        unfold Oper.wp
        rw [hrun]
        exact ih _ _ _ hfuel ⟨_, _, _, _, _, _, _, _, D.carry F ho' hid hdst hdeps hni (Emb.le_refl φ) (fun x h => .inl h) D.rel hv⟩
      | alloc hg b hb hok hn =>
        rw [if_pos (gsel_wanted hg hlook)]
        obtain ⟨v', w', B, hrun, hv, R'⟩ := hok φ a.eval W w H (looks_ev hlook) D.rel rfl (D.bidlt i b hb) hn
        refine .inl ?_
        unfold Oper.wp
        rw [hrun]
        refine ih _ _ _ hfuel ⟨_, _, _, _, _, _, _, _, D.carry F ho' hid hdst hdeps hni (Emb.le_add hn) (fun x h => ?_) R' hv⟩
        by_cases hx : x = b
        · subst hx; exact .inr hb
        · exact .inl (by simp [Emb.add, hx, h])
    · -- it is the next call or store
      have hiord : i ∈ ord := F.all i (by simpa using hisz)
      rcases hnorm with rfl | ⟨e, tl, oe, rfl, hoe, hheavy⟩
      · rw [D.split] at hiord
        simp at hiord
        exact absurd hiord hid
      · have hie : i = e := by
          rw [D.split] at hiord
          rcases List.mem_append.1 hiord with h | h
          · exact absurd h hid
          · rcases List.mem_cons.1 h with h | h
            · exact h
            · exfalso
              obtain ⟨t1, t2, ht⟩ := List.append_of_mem h
              obtain ⟨o2, ho2, _, _, hlast⟩ := F.pos (done ++ e :: t1) i t2 (by rw [D.split, ht]; simp)
              obtain ⟨e', he', hmem⟩ := lastH_some T ops.toList t1 e
              have hl : lastH T ops.toList (done ++ e :: t1) none = some e' := by
                rw [lastH_append]
                simp only [lastH, hoe, hheavy, if_true]
                exact he'
              have hbef := hlast e' hl
              obtain ⟨d, hd, hdd⟩ := masks_spec ops.toList [] i e' o ho' (by simpa using hbef)
              have hE := hdeps d hd
              have hlst : listed.getD e' true = true := by
                rcases hdd with rfl | hdd
                · exact hE
                · exact bef_closed (E := fun x => listed.getD x true = true) F.small (fun i o ho h => D.closed i o ho h) d e' (by have := F.small i o ho' d hd; simp; omega) hE hdd
              have hlt' : e' < ops.size := by
                have hm : e' ∈ done ++ e :: tl := by
                  refine List.mem_append_right _ ?_
                  rcases hmem with rfl | hmem
                  · simp
                  · exact List.mem_cons_of_mem _ (by rw [ht]; exact List.mem_append_left _ hmem)
                rw [← D.split] at hm
                obtain ⟨l1, l2, hl12⟩ := List.append_of_mem hm
                obtain ⟨o3, ho3, _⟩ := F.pos l1 e' l2 hl12
                have := (List.getElem?_eq_some_iff.1 ho3).1; simpa using this
              have hdone := D.sub e' hlt' hlst
              rcases hmem with rfl | hmem
              · exact (F.pos done e' tl D.split).choose_spec.2.2.1 hdone
              · obtain ⟨u1, u2, hu⟩ := List.append_of_mem hmem
                have := (F.pos (done ++ e :: u1) e' (u2 ++ i :: t2) (by rw [D.split, ht, hu]; simp)).choose_spec.2.2.1
                exact this (List.mem_append_left _ hdone)
        subst hie
        rw [ho'] at hoe
        injection hoe with hoe
        subst hoe
        have hlook : ∀ s ∈ looks ops.toList o, VRel φ (fr s) (a.tmps.getD s undef) := by
          intro s hs
          rw [D.frame s, F.slot_next D.split ho' V fr0 s hs, ← hready s hs]
          exact D.slots s
        have hrun := D.run
        simp only [wpD, ho'] at hrun
        split at hrun
        case isFalse => exact hrun.elim
        rename_i hdst
        rcases guardC_sel hrun with ⟨hg, hy⟩ | ⟨hg, hy⟩
        · rw [if_pos (gsel_wanted hg hlook)]
          have hnl : isLoad T o.op = false := by
            cases h : isLoad T o.op with
            | false => rfl
            | true => simp [isHeavy, h] at hheavy
          have hna : isAlloc o.op = false := by
            cases h : isAlloc o.op with
            | false => rfl
            | true => simp [isHeavy, h] at hheavy
          simp only [hnl, hna, hheavy, if_true, Bool.false_eq_true, if_false] at hy
          refine .inl (opStep_sound hT hy (looks_ev hlook) D.rel (fun φ' H' v v' w' hh hv R' hk => ?_) (fun φ' H' v v' w' _ _ _ h => h.elim) hout)
          obtain ⟨h1, h2⟩ := checks_spec recs hk
          exact ih _ _ _ hfuel ⟨_, _, _, _, _, _, _, _, D.carryHeavy F ho' hdst hdeps hni hh R' hv h1 (fun j rec hm hb _ => h2 j rec hm hb)⟩
        · rw [if_neg (by rw [gsel_wanted hg hlook]; simp)]
          exact ih _ _ _ hfuel ⟨_, _, _, _, _, _, _, _, D.carryHeavy F ho' hdst hdeps hni (Hist.refl φ H) D.rel .skip hy (fun j rec _ _ hr => hr)⟩

/-- A REGION THAT DRAWS ITS ORDER: one abstract run, every order. -/
theorem wpD_sound (hT : Agrees P T) (hm : P.follows .mixedOrders = true) {pan : Nat → Bool} {n : Nat} {ops : Array Oper} {K : Fr → AH → Prop} {ord : List Nat} (hord : ordOK T ops.toList (masks ops.toList []) ord = true)
    {fr : Fr} {H : AH} (h : wpD P T pan n ops (masks ops.toList []) K ord [] fr H) {W w : World} {φ : Emb} {a : Act} (A : ARel φ n fr a) (R : Rel W φ H w) {Q : Exit → Act → World → Prop} (hout : True)
    (hK : ∀ φ' fr' H' a' w', Hist φ H φ' H' → ARel φ' n fr' a' → (∀ s, s ∉ ops.toList.filterMap (·.dst) → fr' s = fr s) → Rel W φ' H' w' → K fr' H' → Q .normal a' w') (id : Nat) : (Code.region id ops true).wp P Q a w := by
  have F := ordOK_facts hord
  refine wp_region_any hm ?_
  have hrep : ∀ j, (Array.replicate ops.size false).getD j true = true → ops.size ≤ j := by
    intro j hj
    rcases Nat.lt_or_ge j ops.size with h | h
    · simp [h] at hj
    · exact h
  have slots : ∀ s, slotAt ops.toList (fun j => (Array.replicate ops.size false).getD j true) (fun _ => undef) fr s = fr s := by
    intro s
    unfold slotAt
    cases hw : writer ops.toList s with
    | none => rfl
    | some j =>
      obtain ⟨p, hp, _⟩ := writer_some hw
      have hlt : j < ops.size := by have := (List.getElem?_eq_some_iff.1 hp).1; simpa using this
      simp only
      rw [if_neg (fun h => by have := hrep j h; omega)]
  refine DInv.any hT (pan := pan) (fr0 := fr) F hout hK ops.size _ a _ ?_ ⟨[], ord, fun _ => undef, fun _ => none, [], fr, H, φ, ?_⟩
  · have : ∀ m, unlisted (Array.replicate ops.size false) m ≤ m := by
      intro m
      induction m with
      | zero => simp [unlisted]
      | succ m ih => simp only [unlisted]; split <;> omega
    exact this _
  · refine { split := rfl, run := h, frame := fun s => ?_, rel := R.drew, hist := Hist.refl φ H, size := A.size, defers := A.defers, slots := fun s => ?_, lsize := by simp, sub := ?_, closed := ?_, bidlt := ?_, bidge := ?_, bidinj := ?_, pend := ?_ }
    · unfold slotAt
      cases hw : writer ops.toList s <;> simp
    · rw [slots s]; exact A.tmp s
    · intro i hi hl; have := hrep i hl; omega
    · intro i o ho hl
      have := hrep i hl
      have := (List.getElem?_eq_some_iff.1 ho).1
      simp at this; omega
    · intro i b h; cases h
    · intro i b h; cases h
    · intro i j b h; cases h
    · intro i hi; cases hi

end
end Go.Abs
