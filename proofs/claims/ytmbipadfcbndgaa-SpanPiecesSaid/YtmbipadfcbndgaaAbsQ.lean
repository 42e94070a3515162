import Derived.Test.YtmbipadfcbndgaaAbsP
set_option linter.all false
namespace Go.Abs

def lastH (T : Nat → TyE) (L : List Oper) : List Nat → Option Nat → Option Nat
  | [], last => last
  | i :: rest, last => lastH T L rest (match L[i]? with | some o => if isHeavy T o.op = true then some i else last | none => last)

theorem lastH_some (T : Nat → TyE) (L : List Oper) : ∀ (l : List Nat) (e : Nat), ∃ e', lastH T L l (some e) = some e' ∧ (e' = e ∨ e' ∈ l) := by
  intro l
  induction l with
  | nil => intro e; exact ⟨e, rfl, .inl rfl⟩
  | cons i l ih =>
    intro e
    simp only [lastH]
    split
    · split
      · obtain ⟨e', h1, h2⟩ := ih i
        refine ⟨e', h1, .inr ?_⟩
        rcases h2 with rfl | h2
        · simp
        · simp [h2]
      · obtain ⟨e', h1, h2⟩ := ih e
        exact ⟨e', h1, h2.imp id (fun h => by simp [h])⟩
    · obtain ⟨e', h1, h2⟩ := ih e
      exact ⟨e', h1, h2.imp id (fun h => by simp [h])⟩

theorem lastH_append (T : Nat → TyE) (L : List Oper) : ∀ (l1 l2 : List Nat) (last : Option Nat), lastH T L (l1 ++ l2) last = lastH T L l2 (lastH T L l1 last) := by
  intro l1
  induction l1 with
  | nil => intro l2 last; rfl
  | cons i l1 ih => intro l2 last; simp only [List.cons_append, lastH, ih]

theorem ordGo_split {T : Nat → TyE} {L : List Oper} {M : List Nat} : ∀ (l1 : List Nat) (i : Nat) (l2 : List Nat) (seen : Nat) (last : Option Nat), ordGo T L M (l1 ++ i :: l2) seen last = true →
    ∃ o, L[i]? = some o ∧ (∀ d ∈ depsOf o, (seen.testBit d = true ∨ d ∈ l1) ∧ d < i) ∧ (seen.testBit i = false ∧ i ∉ l1) ∧ ∀ e, lastH T L l1 last = some e → bef M i e = true := by
  intro l1
  induction l1 with
  | nil =>
    intro i l2 seen last h
    simp only [List.nil_append, ordGo] at h
    split at h
    · cases h
    · rename_i o ho
      simp only [Bool.and_eq_true, List.all_eq_true, Bool.not_eq_true'] at h
      obtain ⟨⟨⟨h1, h2⟩, h3⟩, _⟩ := h
      refine ⟨o, ho, fun d hd => ⟨.inl (h1 d hd).1, Nat.le_of_ble_eq_true (h1 d hd).2⟩, ⟨h2, by simp⟩, fun e he => ?_⟩
      simp only [lastH] at he
      rw [he] at h3
      exact h3
  | cons j l1 ih =>
    intro i l2 seen last h
    simp only [List.cons_append, ordGo] at h
    split at h
    · cases h
    · rename_i p hp
      simp only [Bool.and_eq_true, List.all_eq_true, Bool.not_eq_true'] at h
      obtain ⟨_, h4⟩ := h
      obtain ⟨o, ho, h1, h2, h3⟩ := ih i l2 _ _ h4
      have bit : ∀ x, (seen ||| 2 ^ j).testBit x = true ↔ seen.testBit x = true ∨ x = j := by
        intro x
        rw [Nat.testBit_or, Bool.or_eq_true, Nat.testBit_two_pow, decide_eq_true_eq]
        exact ⟨fun h => h.imp id Eq.symm, fun h => h.imp id Eq.symm⟩
      refine ⟨o, ho, fun d hd => ⟨?_, (h1 d hd).2⟩, ⟨?_, ?_⟩, fun e he => h3 e ?_⟩
      · rcases (h1 d hd).1 with h | h
        · rcases (bit d).1 h with h | h
          · exact .inl h
          · exact .inr (by simp [h])
        · exact .inr (by simp [h])
      · cases hs : seen.testBit i with
        | false => rfl
        | true => have := (bit i).2 (.inl hs); rw [h2.1] at this; cases this
      · intro hm
        rcases List.mem_cons.1 hm with h | h
        · have := (bit i).2 (.inr h); rw [h2.1] at this; cases this
        · exact h2.2 h
      · simp only [lastH, hp] at he
        exact he

section
variable {P : Program} {T : Nat → TyE}

def gsel (L : List Oper) (o : Oper) (fr : Fr) : Option Bool :=
  match o.guard with
  | none => some true
  | some (j, want) =>
    match (L[j]?).bind (·.dst) with
    | none => none
    | some d => match fr d with
      | .bool g => some (g == want)
      | .tuple xs => match xs.toList with
        | [] => none
        | _ :: _ => some false
      | _ => none

theorem guardC_sel {ops : Array Oper} {o : Oper} {fr : Fr} {yes no : Fr → Prop} (h : guardC ops o fr yes no) :
    (gsel ops.toList o fr = some true ∧ yes fr) ∨ (gsel ops.toList o fr = some false ∧ no fr) := by
  unfold guardC at h
  split at h
  · rename_i hg
    exact .inl ⟨by simp [gsel, hg], h⟩
  · rename_i j want hg
    split at h
    · exact h.elim
    · rename_i d hd
      split at h
      · rename_i g hfr
        have hgs : gsel ops.toList o fr = some (g == want) := by
          unfold gsel
          rw [hg]
          simp only [hd, hfr]
        rw [hgs]
        cases g <;> cases want <;> simp only [bcase] at h <;> rw [frput_bool hfr] at h <;> first
          | exact .inl ⟨rfl, h⟩
          | exact .inr ⟨rfl, h⟩
      · rename_i xs hfr
        split at h
        · exact h.elim
        · rename_i y ys hxs
          have hgs : gsel ops.toList o fr = some false := by
            unfold gsel
            rw [hg]
            simp only [hd, hfr, hxs]
          rw [hgs]
          exact .inr ⟨rfl, h⟩
      · exact h.elim

theorem gsel_wanted {ops : Array Oper} {o : Oper} {fr : Fr} {b : Bool} (h : gsel ops.toList o fr = some b) {φ : Emb} {a : Act}
    (hs : ∀ s ∈ looks ops.toList o, VRel φ (fr s) (a.tmps.getD s undef)) : Region.wanted o (yielded ops a.tmps) = b := by
  unfold gsel at h
  split at h
  · rename_i hg
    injection h with h
    simp [Region.wanted, hg, h]
  · rename_i j want hg
    split at h
    · cases h
    · rename_i d hd
      split at h
      · rename_i g hfr
        injection h with h
        have hd' : (ops[j]?).bind (·.dst) = some d := by simpa using hd
        have hmem : d ∈ looks ops.toList o := by simp [looks, hg, hd']
        have hslot := hs d hmem
        rw [hfr] at hslot
        have hy : yielded ops a.tmps j = some g := by
          unfold yielded
          rw [hd']
          simp only [Option.bind_some]
          cases ht : a.tmps[d]? with
          | none =>
            have : a.tmps.getD d undef = undef := by simp [Array.getD_eq_getD_getElem?, ht]
            rw [this] at hslot
            cases hslot
          | some v =>
            have : a.tmps.getD d undef = v := by simp [Array.getD_eq_getD_getElem?, ht]
            rw [this] at hslot
            cases hslot
            rfl
        simp [Region.wanted, hg, ← h, hy]
      · rename_i xs hfr
        split at h
        · cases h
        · rename_i y ys hxs
          injection h with h
          have hd' : (ops[j]?).bind (·.dst) = some d := by simpa using hd
          have hmem : d ∈ looks ops.toList o := by simp [looks, hg, hd']
          have hslot := hs d hmem
          rw [hfr] at hslot
          have hy := yielded_tup hd' hslot (by rw [hxs]; simp)
          simp [Region.wanted, hg, ← h, hy]
      · cases h

theorem looks_ev {L : List Oper} {o : Oper} {fr : Fr} {φ : Emb} {a : Act} (hs : ∀ s ∈ looks L o, VRel φ (fr s) (a.tmps.getD s undef)) :
    ∀ x ∈ o.op.operands, VRel φ (ev fr x) (a.eval x) := by
  intro x hx
  cases x with
  | tmp t =>
    refine hs t ?_
    unfold looks
    refine List.mem_append_left _ (List.mem_filterMap.2 ⟨.tmp t, by simpa using hx, rfl⟩)
  | const v =>
    simp only [Abs.ev, Act.eval]
    split
    · exact VRel.constOK ‹_›
    · exact .undef v
  | global g => exact .undef _
  | func f => exact .fn _ _ _ _ _ rfl (by simp) rfl (by simp)

theorem ev_congr {L : List Oper} {o : Oper} {fr fr' : Fr} (hs : ∀ s ∈ looks L o, fr s = fr' s) : ∀ x ∈ o.op.operands, ev fr x = ev fr' x := by
  intro x hx
  cases x with
  | tmp t =>
    refine hs t ?_
    unfold looks
    exact List.mem_append_left _ (List.mem_filterMap.2 ⟨.tmp t, by simpa using hx, rfl⟩)
  | _ => rfl

/-- What is known of an operation that the abstract run has done, and the machine has not. -/
inductive Pend (P : Program) (T : Nat → TyE) (L : List Oper) (o : Oper) (fr : Fr) (i : Nat) (v : Value) (H : AH) (φ : Emb) (recs : List (Nat × (AH → Prop))) (bid : Option Nat) : Prop where
  | skip (hg : gsel L o fr = some false) (hv : v = skipV)
  | pure (hg : gsel L o fr = some true) (h : PureOK P (ev fr) o v)
  | load (hg : gsel L o fr = some true) (rec : AH → Prop) (hm : (i, rec) ∈ recs) (hr : rec H) (h : LoadOK P (ev fr) o v rec) (hs : Stays rec)
  | alloc (hg : gsel L o fr = some true) (b : Nat) (hb : bid = some b) (h : AllocOK P (ev fr) o b v (H.get b)) (hn : φ b = none)

structure DInv (P : Program) (T : Nat → TyE) (pan : Nat → Bool) (n : Nat) (ops : Array Oper) (K : Fr → AH → Prop) (ord : List Nat) (fr0 : Fr) (W : World) (φ0 : Emb) (H0 : AH)
    (listed : Array Bool) (a : Act) (w : World) (done rest : List Nat) (V : Nat → Value) (bid : Nat → Option Nat) (recs : List (Nat × (AH → Prop))) (fr : Fr) (H : AH) (φ : Emb) : Prop where
  split : ord = done ++ rest
  run : wpD P T pan n ops (masks ops.toList []) K rest recs fr H
  frame : ∀ s, fr s = slotAt ops.toList (fun j => done.contains j) V fr0 s
  rel : Rel W φ H w
  hist : Hist φ0 H0 φ H
  size : a.tmps.size = n
  defers : a.defers = []
  slots : ∀ s, VRel φ (slotAt ops.toList (fun j => listed.getD j true) V fr0 s) (a.tmps.getD s undef)
  lsize : listed.size = ops.size
  sub : ∀ i, i < ops.size → listed.getD i true = true → i ∈ done
  closed : ∀ i o, ops.toList[i]? = some o → listed.getD i true = true → ∀ d ∈ depsOf o, listed.getD d true = true
  bidlt : ∀ i b, bid i = some b → b < H.size
  bidge : ∀ i b, bid i = some b → H0.size ≤ b
  bidinj : ∀ i j b, bid i = some b → bid j = some b → i = j
  pend : ∀ i ∈ done, listed.getD i true = false → ∃ o fri, ops.toList[i]? = some o ∧ dstOK n o.dst = true ∧
    (∀ s ∈ looks ops.toList o, fri s = slotAt ops.toList (fun j => bef (masks ops.toList []) i j) V fr0 s) ∧ Pend P T ops.toList o fri i (V i) H φ recs (bid i)

end
end Go.Abs
