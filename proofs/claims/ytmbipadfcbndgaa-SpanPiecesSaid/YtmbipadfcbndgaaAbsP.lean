import Derived.Test.YtmbipadfcbndgaaAbsO
set_option linter.all false
namespace Go.Abs

/-! ## A region that draws its order -/

def depsOf (o : Oper) : List Nat := (o.after.toList.filter fun e => Region.binds .any e).map (·.on)

def maskStep (acc : List Nat) (o : Oper) : Nat := (depsOf o).foldl (fun s j => s ||| 2 ^ j ||| acc.getD j 0) 0

def masks : List Oper → List Nat → List Nat
  | [], acc => acc
  | o :: rest, acc => masks rest (acc ++ [maskStep acc o])

/-- j comes ahead of i, whatever is drawn. -/
def bef (M : List Nat) (i j : Nat) : Bool := (M.getD i 0).testBit j

def looks (L : List Oper) (o : Oper) : List Nat :=
  (o.op.operands.toList.filterMap fun | .tmp t => some t | _ => none) ++
  (match o.guard with
   | some (g, _) => ((L[g]?).bind (·.dst)).toList
   | none => [])

def writer (L : List Oper) (s : Nat) : Option Nat := L.findIdx? fun o => o.dst == some s

def isHeavy (T : Nat → TyE) (op : Op) : Bool := !isLoad T op && !isAlloc op && (isEff op || isCtl op)

def ordGo (T : Nat → TyE) (L : List Oper) (M : List Nat) : List Nat → Nat → Option Nat → Bool
  | [], _, _ => true
  | i :: rest, seen, last =>
    match L[i]? with
    | none => false
    | some o =>
      (depsOf o).all (fun j => seen.testBit j && Nat.blt j i) && !seen.testBit i &&
      (match last with
       | none => true
       | some e => bef M i e) &&
      ordGo T L M rest (seen ||| 2 ^ i) (if isHeavy T o.op = true then some i else last)

def noTwo : List Nat → Bool
  | [] => true
  | x :: xs => !xs.contains x && noTwo xs

def ordOK (T : Nat → TyE) (L : List Oper) (M : List Nat) (ord : List Nat) : Bool :=
  (List.range L.length).all (fun i => ord.contains i) && ordGo T L M ord 0 none && noTwo (L.filterMap (·.dst)) &&
  (List.range L.length).all fun i => match L[i]? with
    | none => true
    | some o => (looks L o).all fun s => match writer L s with
      | none => true
      | some j => bef M i j || bef M j i

def checks (M : List Nat) (e : Nat) (H : AH) (C : Prop) : List (Nat × (AH → Prop)) → Prop
  | [] => C
  | (i, rec) :: r => if bef M e i = true then checks M e H C r else rec H ∧ checks M e H C r

def wpD (P : Program) (T : Nat → TyE) (pan : Nat → Bool) (n : Nat) (ops : Array Oper) (M : List Nat) (K : Fr → AH → Prop) : List Nat → List (Nat × (AH → Prop)) → Fr → AH → Prop
  | [], _, fr, H => K fr H
  | i :: rest, recs, fr, H =>
    match ops.toList[i]? with
    | none => False
    | some o =>
      if dstOK n o.dst = true then
        guardC ops o fr
          (fun fr =>
            if isLoad T o.op = true then loadOp T (ev fr) o.op H fun v rec => wpD P T pan n ops M K rest ((i, rec) :: recs) (frput fr o.dst v) H
            else if isAlloc o.op = true then allocOp T (ev fr) o.op H.size fun v ob => wpD P T pan n ops M K rest recs (frput fr o.dst v) (H.push ob)
            else if isHeavy T o.op = true then opStep P T pan (ev fr) o H (fun v H' => checks M i H' (wpD P T pan n ops M K rest recs (frput fr o.dst v) H') recs) (fun _ _ => False)
            else pureOp T (ev fr) o.op fun v => wpD P T pan n ops M K rest recs (frput fr o.dst v) H)
          (fun fr => wpD P T pan n ops M K rest recs (frput fr o.dst skipV) H)
      else False

/-! ### soundness -/

def slotAt (L : List Oper) (E : Nat → Bool) (V : Nat → Value) (fr0 : Fr) : Fr := fun s =>
  match writer L s with
  | some j => if E j = true then V j else fr0 s
  | none => fr0 s

theorem testBit_fold (acc : List Nat) (j : Nat) : ∀ (ds : List Nat) (s : Nat), (ds.foldl (fun s j => s ||| 2 ^ j ||| acc.getD j 0) s).testBit j = true →
    s.testBit j = true ∨ ∃ d ∈ ds, d = j ∨ (acc.getD d 0).testBit j = true := by
  intro ds
  induction ds with
  | nil => intro s h; exact .inl h
  | cons d ds ih =>
    intro s h
    simp only [List.foldl_cons] at h
    rcases ih _ h with h | ⟨d', hd', h⟩
    · rw [Nat.testBit_or, Nat.testBit_or, Bool.or_eq_true, Bool.or_eq_true] at h
      rcases h with (h | h) | h
      · exact .inl h
      · rw [Nat.testBit_two_pow] at h
        exact .inr ⟨d, by simp, .inl (of_decide_eq_true h)⟩
      · exact .inr ⟨d, by simp, .inr h⟩
    · exact .inr ⟨d', by simp [hd'], h⟩

theorem masks_prefix : ∀ (L : List Oper) (acc : List Nat), ∃ t, masks L acc = acc ++ t ∧ t.length = L.length := by
  intro L
  induction L with
  | nil => intro acc; exact ⟨[], by simp [masks]⟩
  | cons o L ih =>
    intro acc
    obtain ⟨t, ht, hl⟩ := ih (acc ++ [maskStep acc o])
    exact ⟨maskStep acc o :: t, by simp [masks, ht], by simp [hl]⟩

theorem masks_spec : ∀ (L : List Oper) (acc : List Nat) (i j : Nat) (o : Oper), L[i]? = some o → bef (masks L acc) (acc.length + i) j = true →
    ∃ d ∈ depsOf o, d = j ∨ bef (masks L acc) d j = true := by
  intro L
  induction L with
  | nil => intro acc i j o h; simp at h
  | cons p L ih =>
    intro acc i j o h hb
    cases i with
    | zero =>
      simp at h
      subst h
      obtain ⟨t, ht, _⟩ := masks_prefix L (acc ++ [maskStep acc p])
      have hm : masks (p :: L) acc = acc ++ [maskStep acc p] ++ t := by simp only [masks]; exact ht
      rw [hm] at hb ⊢
      unfold bef at hb ⊢
      have hg : (acc ++ [maskStep acc p] ++ t).getD (acc.length + 0) 0 = maskStep acc p := by
        simp [List.getD_eq_getElem?_getD]
      rw [hg] at hb
      rcases testBit_fold acc j _ 0 hb with h0 | ⟨d, hd, h0⟩
      · simp at h0
      · refine ⟨d, hd, h0.imp id fun h1 => ?_⟩
        have hlt : d < acc.length := by
          rcases Nat.lt_or_ge d acc.length with hh | hh
          · exact hh
          · simp [List.getD_eq_getElem?_getD, List.getElem?_eq_none hh] at h1
        have : (acc ++ [maskStep acc p] ++ t).getD d 0 = acc.getD d 0 := by
          simp [List.getD_eq_getElem?_getD, List.append_assoc, List.getElem?_append_left hlt]
        rw [this]
        exact h1
    | succ i =>
      simp at h
      simp only [masks] at hb ⊢
      refine ih (acc ++ [maskStep acc p]) i j o h ?_
      rw [show (acc ++ [maskStep acc p]).length + i = acc.length + (i + 1) by simp; omega]
      exact hb

/-- What is closed under what comes directly ahead is closed under what comes ahead. -/
theorem bef_closed {L : List Oper} {E : Nat → Prop} (hsmall : ∀ (i : Nat) (o : Oper), L[i]? = some o → ∀ d ∈ depsOf o, d < i) (hc : ∀ (i : Nat) (o : Oper), L[i]? = some o → E i → ∀ d ∈ depsOf o, E d) :
    ∀ (i j : Nat), i < L.length → E i → bef (masks L []) i j = true → E j := by
  intro i
  induction i using Nat.strongRecOn with
  | _ i ih =>
    intro j hi hE hb
    have ho := List.getElem?_eq_getElem hi
    obtain ⟨d, hd, h⟩ := masks_spec L [] i j _ ho (by simpa using hb)
    have hlt := hsmall i _ ho d hd
    have hEd := hc i _ ho hE d hd
    rcases h with rfl | h
    · exact hEd
    · exact ih d hlt j (by omega) hEd h

theorem writer_some {L : List Oper} {s j : Nat} (h : writer L s = some j) : ∃ o, L[j]? = some o ∧ o.dst = some s := by
  unfold writer at h
  obtain ⟨hlt, hp, _⟩ := List.findIdx?_eq_some_iff_getElem.1 h
  exact ⟨L[j], List.getElem?_eq_getElem hlt, by simpa using hp⟩

theorem noTwo_nodup : ∀ (l : List Nat), noTwo l = true → l.Nodup := by
  intro l
  induction l with
  | nil => intro _; exact List.nodup_nil
  | cons x xs ih =>
    intro h
    simp only [noTwo, Bool.and_eq_true, Bool.not_eq_true', List.contains_eq_mem, decide_eq_false_iff_not] at h
    exact List.nodup_cons.2 ⟨h.1, ih h.2⟩

theorem dst_unique : ∀ (L : List Oper), (L.filterMap (·.dst)).Nodup → ∀ (i j : Nat) (o p : Oper) (s : Nat), L[i]? = some o → L[j]? = some p → o.dst = some s → p.dst = some s → i = j := by
  intro L
  induction L with
  | nil => intro _ i j o p s h; simp at h
  | cons q L ih =>
    intro hn i j o p s hi hj ho hp
    have hmem : ∀ (k : Nat) (r : Oper), L[k]? = some r → r.dst = some s → s ∈ L.filterMap (·.dst) := fun k r hk hr =>
      List.mem_filterMap.2 ⟨r, List.mem_of_getElem? hk, hr⟩
    have hn' : (L.filterMap (·.dst)).Nodup := by
      cases hq : q.dst with
      | none => simpa [List.filterMap_cons, hq] using hn
      | some d => simp only [List.filterMap_cons, hq] at hn; exact (List.nodup_cons.1 hn).2
    cases i with
    | zero =>
      simp at hi; subst hi
      cases j with
      | zero => rfl
      | succ j =>
        simp at hj
        simp only [List.filterMap_cons, ho] at hn
        exact absurd (hmem j p hj hp) (List.nodup_cons.1 hn).1
    | succ i =>
      simp at hi
      cases j with
      | zero =>
        simp at hj; subst hj
        simp only [List.filterMap_cons, hp] at hn
        exact absurd (hmem i o hi ho) (List.nodup_cons.1 hn).1
      | succ j =>
        simp at hj
        rw [ih hn' i j o p s hi hj ho hp]

theorem writer_of {L : List Oper} (hn : (L.filterMap (·.dst)).Nodup) {j s : Nat} {o : Oper} (h : L[j]? = some o) (hs : o.dst = some s) : writer L s = some j := by
  cases hw : writer L s with
  | none =>
    unfold writer at hw
    rw [List.findIdx?_eq_none_iff] at hw
    have := hw o (List.mem_of_getElem? h)
    simp [hs] at this
  | some k =>
    obtain ⟨p, hp, hps⟩ := writer_some hw
    rw [dst_unique L hn k j p o s hp h hps hs]

end Go.Abs
