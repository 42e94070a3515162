import Derived.Test.YtmbipadfcbndgaaAbsQ
set_option linter.all false
namespace Go.Abs
section
variable {P : Program} {T : Nat → TyE}

structure OrdFacts (T : Nat → TyE) (L : List Oper) (ord : List Nat) : Prop where
  all : ∀ i, i < L.length → i ∈ ord
  pos : ∀ l1 i l2, ord = l1 ++ i :: l2 → ∃ o, L[i]? = some o ∧ (∀ d ∈ depsOf o, d ∈ l1 ∧ d < i) ∧ i ∉ l1 ∧ ∀ e, lastH T L l1 none = some e → bef (masks L []) i e = true
  nodup : (L.filterMap (·.dst)).Nodup
  look : ∀ i o s j, L[i]? = some o → s ∈ looks L o → writer L s = some j → bef (masks L []) i j = true ∨ bef (masks L []) j i = true

theorem ordOK_facts {L : List Oper} {ord : List Nat} (h : ordOK T L (masks L []) ord = true) : OrdFacts T L ord := by
  unfold ordOK at h
  simp only [Bool.and_eq_true, List.all_eq_true, List.mem_range] at h
  obtain ⟨⟨⟨h1, h2⟩, h3⟩, h4⟩ := h
  refine ⟨fun i hi => by simpa using h1 i hi, fun l1 i l2 he => ?_, noTwo_nodup _ h3, fun i o s j ho hs hw => ?_⟩
  · rw [he] at h2
    obtain ⟨o, ho, hd, hi, hl⟩ := ordGo_split l1 i l2 0 none h2
    refine ⟨o, ho, fun d hdd => ⟨?_, (hd d hdd).2⟩, hi.2, hl⟩
    rcases (hd d hdd).1 with h | h
    · simp at h
    · exact h
  · have hi : i < L.length := (List.getElem?_eq_some_iff.1 ho).1
    have := h4 i hi
    rw [ho] at this
    simp only [List.all_eq_true] at this
    have := this s hs
    rw [hw] at this
    simpa using this

theorem OrdFacts.small {L : List Oper} {ord : List Nat} (F : OrdFacts T L ord) : ∀ (i : Nat) (o : Oper), L[i]? = some o → ∀ d ∈ depsOf o, d < i := by
  intro i o ho d hd
  have hi : i < L.length := (List.getElem?_eq_some_iff.1 ho).1
  obtain ⟨l1, l2, he⟩ := List.append_of_mem (F.all i hi)
  obtain ⟨o', ho', h, _⟩ := F.pos l1 i l2 he
  rw [ho] at ho'
  injection ho' with ho'
  subst ho'
  exact (h d hd).2

/-- What was done first is closed. -/
theorem OrdFacts.done_closed {L : List Oper} {ord : List Nat} (F : OrdFacts T L ord) {done rest : List Nat} (hs : ord = done ++ rest) :
    ∀ (i : Nat) (o : Oper), L[i]? = some o → i ∈ done → ∀ d ∈ depsOf o, d ∈ done := by
  intro i o ho hi d hd
  obtain ⟨l1, l2, he⟩ := List.append_of_mem hi
  obtain ⟨o', ho', h, _⟩ := F.pos l1 i (l2 ++ rest) (by rw [hs, he]; simp)
  rw [ho] at ho'
  injection ho' with ho'
  subst ho'
  rw [he]
  exact List.mem_append_left _ (h d hd).1

theorem OrdFacts.bef_done {L : List Oper} {ord : List Nat} (F : OrdFacts T L ord) {done rest : List Nat} (hs : ord = done ++ rest) {i j : Nat} (hi : i < L.length) (hm : i ∈ done)
    (hb : bef (masks L []) i j = true) : j ∈ done :=
  bef_closed (E := fun x => x ∈ done) F.small (F.done_closed hs) i j hi hm hb

/-- Ahead of the next one: what comes ahead of it has been done. -/
theorem OrdFacts.bef_next {L : List Oper} {ord : List Nat} (F : OrdFacts T L ord) {done rest : List Nat} {i : Nat} (hs : ord = done ++ i :: rest) {j : Nat} (hb : bef (masks L []) i j = true) : j ∈ done := by
  obtain ⟨o, ho, hd, _, _⟩ := F.pos done i rest hs
  obtain ⟨d, hdd, h⟩ := masks_spec L [] i j o ho (by simpa using hb)
  have hdm := (hd d hdd).1
  rcases h with rfl | h
  · exact hdm
  · have hlt : d < L.length := by have := (hd d hdd).2; have := (List.getElem?_eq_some_iff.1 ho).1; omega
    exact F.bef_done hs hlt hdm h

theorem OrdFacts.slot_next {L : List Oper} {ord : List Nat} (F : OrdFacts T L ord) {done rest : List Nat} {i : Nat} (hs : ord = done ++ i :: rest) {o : Oper} (ho : L[i]? = some o) (V : Nat → Value) (fr0 : Fr) :
    ∀ s ∈ looks L o, slotAt L (fun j => done.contains j) V fr0 s = slotAt L (fun j => bef (masks L []) i j) V fr0 s := by
  intro s hm
  unfold slotAt
  cases hw : writer L s with
  | none => rfl
  | some j =>
    simp only
    obtain ⟨_, _, _, hni, _⟩ := F.pos done i rest hs
    have : done.contains j = bef (masks L []) i j := by
      cases hb : bef (masks L []) i j with
      | true => simpa using F.bef_next hs hb
      | false =>
        cases hc : done.contains j with
        | false => rfl
        | true =>
          exfalso
          have hj : j ∈ done := by simpa using hc
          rcases F.look i o s j ho hm hw with h | h
          · rw [h] at hb; cases hb
          · obtain ⟨p, hp, _⟩ := writer_some hw
            exact hni (F.bef_done hs (List.getElem?_eq_some_iff.1 hp).1 hj h)
    simp only [this]

theorem OrdFacts.slot_ready {L : List Oper} {ord : List Nat} (F : OrdFacts T L ord) {E : Nat → Bool} (hc : ∀ (i : Nat) (o : Oper), L[i]? = some o → E i = true → ∀ d ∈ depsOf o, E d = true) {i : Nat} {o : Oper} (ho : L[i]? = some o)
    (hr : ∀ d ∈ depsOf o, E d = true) (hn : E i = false) (V : Nat → Value) (fr0 : Fr) :
    ∀ s ∈ looks L o, slotAt L E V fr0 s = slotAt L (fun j => bef (masks L []) i j) V fr0 s := by
  intro s hm
  unfold slotAt
  cases hw : writer L s with
  | none => rfl
  | some j =>
    simp only
    have hlt : i < L.length := (List.getElem?_eq_some_iff.1 ho).1
    have : E j = bef (masks L []) i j := by
      cases hb : bef (masks L []) i j with
      | true =>
        obtain ⟨d, hd, h⟩ := masks_spec L [] i j o ho (by simpa using hb)
        have hE := hr d hd
        rcases h with rfl | h
        · exact hE
        · exact bef_closed (E := fun x => E x = true) F.small hc d j (by have := F.small i o ho d hd; omega) hE h
      | false =>
        cases hE : E j with
        | false => rfl
        | true =>
          exfalso
          rcases F.look i o s j ho hm hw with h | h
          · rw [h] at hb; cases hb
          · obtain ⟨p, hp, _⟩ := writer_some hw
            have := bef_closed (E := fun x => E x = true) F.small hc j i (List.getElem?_eq_some_iff.1 hp).1 hE h
            rw [hn] at this; cases this
    rw [this]

theorem slotAt_congr {L : List Oper} {E : Nat → Bool} {V V' : Nat → Value} {fr0 : Fr} (h : ∀ j, E j = true → V j = V' j) (s : Nat) : slotAt L E V fr0 s = slotAt L E V' fr0 s := by
  unfold slotAt
  split
  · split
    · rw [h _ ‹_›]
    · rfl
  · rfl

/-- The frame behind one more operation. -/
theorem slotAt_put {L : List Oper} (hn : (L.filterMap (·.dst)).Nodup) {done : List Nat} {i : Nat} {o : Oper} (ho : L[i]? = some o) (hi : i ∉ done) {V : Nat → Value} {fr0 fr : Fr} {v : Value}
    (hf : ∀ s, fr s = slotAt L (fun j => done.contains j) V fr0 s) :
    ∀ s, frput fr o.dst v s = slotAt L (fun j => (done ++ [i]).contains j) (fun x => if x = i then v else V x) fr0 s := by
  intro s
  have key : ∀ (_ : o.dst ≠ some s), slotAt L (fun j => (done ++ [i]).contains j) (fun x => if x = i then v else V x) fr0 s = fr s := by
    intro hne
    rw [hf]
    unfold slotAt
    cases hw : writer L s with
    | none => rfl
    | some j =>
      have hji : j ≠ i := by
        intro e
        subst e
        obtain ⟨p, hp, hps⟩ := writer_some hw
        rw [ho] at hp
        injection hp with hp
        subst hp
        exact hne hps
      simp [hji]
  cases hd : o.dst with
  | none => rw [key (by simp [hd])]; rfl
  | some d =>
    by_cases hs : s = d
    · subst hs
      rw [frput_same]
      unfold slotAt
      rw [writer_of hn ho hd]
      simp
    · rw [frput_ne _ _ hs]
      exact (key (by rw [hd]; intro e; injection e with e; exact hs e.symm)).symm

end
end Go.Abs
