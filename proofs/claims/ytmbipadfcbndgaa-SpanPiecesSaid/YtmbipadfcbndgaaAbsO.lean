import Derived.Test.YtmbipadfcbndgaaAbsN
set_option linter.all false
namespace Go.Abs

/-! ## Calls -/

inductive LEnd where
  | ret (v : Value)
  | pan (v : Value)

def EndRel (φ : Emb) : LEnd → Ending → Prop
  | .ret v, .returned v' => VRel φ v v'
  | .pan v, .panicked chain => ∃ v', chain = [{ v := v', recovered := false }] ∧ VRel φ v v'
  | _, _ => False

def enterable (P : Program) (f : FuncId) : Bool :=
  match P.funcs[f]? with
  | some fn => !(fn.name == "runtime.NumGoroutine") && fn.body.isSome
  | none => false

/-- THE CONTRACT OF A CALL: in whatever memory that is like H. -/
def LCalls (P : Program) (f : FuncId) (args : List Value) (H : AH) (Q : LEnd → AH → Prop) : Prop :=
  enterable P f = true ∧
  ∀ (W w : World) (φ : Emb) (args' : Array Value), LRel φ args args'.toList → Rel W φ H w →
    Calls P f args' w fun e w' => ∃ le φ' H', Hist φ H φ' H' ∧ EndRel φ' le e ∧ Rel W φ' H' w' ∧ Q le H'

theorem LCalls.mono {P : Program} {f : FuncId} {args : List Value} {H : AH} {Q Q' : LEnd → AH → Prop} (h : LCalls P f args H Q) (hq : ∀ e H, Q e H → Q' e H) : LCalls P f args H Q' :=
  ⟨h.1, fun W w φ args' hl R => (h.2 W w φ args' hl R).mono fun _ _ ⟨le, φ', H', h1, h2, h3, h4⟩ => ⟨le, φ', H', h1, h2, h3, hq _ _ h4⟩⟩

def elA (v : Value) (k : List Value → Prop) : Prop := ∃ cs : List Value, v = .agg cs.toArray ∧ k cs

def valC (T : Nat → TyE) (t : TypeId) (v : Value) (k : Value → Prop) : Prop :=
  match (T t).k with
  | .agg => elA v fun cs => k (.agg cs.toArray)
  | κ => elim κ (some v) k

def ret2 (v : Value) (k : Value → Value → Prop) : Prop := ∃ a b, v = .tuple #[a, b] ∧ k a b
def ret3 (v : Value) (k : Value → Value → Value → Prop) : Prop := ∃ a b c, v = .tuple #[a, b, c] ∧ k a b c

def retC (T : Nat → TyE) (t : TypeId) (v : Value) (k : Value → Prop) : Prop :=
  match (T t).sub with
  | .tup [] => k undef
  | .tup [t1, t2] => ret2 v fun a b => valC T t1 a fun a' => valC T t2 b fun b' => k (.tuple #[a', b'])
  | .tup [t1, t2, t3] => ret3 v fun a b c => valC T t1 a fun a' => valC T t2 b fun b' => valC T t3 c fun c' => k (.tuple #[a', b', c'])
  | .tup _ => False
  | _ => valC T t v k

/-- What becomes of a call's ending. -/
def endC (T : Nat → TyE) (may : Bool) (t : TypeId) (e : LEnd) (k pk : Value → Prop) : Prop :=
  match e with
  | .ret v => retC T t v k
  | .pan v => if may = true then pk v else False

def isCtl (op : Op) : Bool :=
  match op with
  | .call c => match c.callee with
    | .value _ => true
    | _ => false
  | .panic _ => true
  | _ => false

def ctlOp (P : Program) (T : Nat → TyE) (pan : Nat → Bool) (ρ : Operand → Value) (op : Op) (t : TypeId) (H : AH) (k : Value → AH → Prop) (pk : Value → AH → Prop) : Prop :=
  match op with
  | .call c =>
    match c.callee with
    | .value f =>
      match ρ f with
      | .func (.func g) first captured =>
        LCalls P g (first.toList ++ c.args.toList.map ρ ++ captured.toList) H fun e H' => endC T (pan g) t e (fun v => k v H') (fun v => pk v H')
      | _ => False
    | _ => False
  | .panic x =>
    match ρ x with
    | .iface t v => pk (.iface t v) H
    | _ => False
  | _ => False

def isEff (op : Op) : Bool :=
  match op with
  | .store _ _ _ => true
  | .call c => match c.callee with
    | .builtin .append => true
    | .builtin .copy => true
    | _ => false
  | _ => false

/-- One operation. -/
def opStep (P : Program) (T : Nat → TyE) (pan : Nat → Bool) (ρ : Operand → Value) (o : Oper) (H : AH) (k pk : Value → AH → Prop) : Prop :=
  if isLoad T o.op = true then loadOp T ρ o.op H fun v _ => k v H
  else if isAlloc o.op = true then allocOp T ρ o.op H.size fun v ob => k v (H.push ob)
  else if isEff o.op = true then effOp T ρ o.op H k
  else if isCtl o.op = true then ctlOp P T pan ρ o.op o.type H k pk
  else pureOp T ρ o.op fun v => k v H

def dstOK (n : Nat) : Option Nat → Bool
  | none => true
  | some d => Nat.blt d n

def guardC (ops : Array Oper) (o : Oper) (fr : Fr) (yes no : Fr → Prop) : Prop :=
  match o.guard with
  | none => yes fr
  | some (j, want) =>
    match (ops.toList[j]?).bind (·.dst) with
    | none => False
    | some d =>
      match fr d with
      | .bool g =>
        bcase g (bcase want (yes (frput fr (some d) (.bool true))) (no (frput fr (some d) (.bool true))))
          (bcase want (no (frput fr (some d) (.bool false))) (yes (frput fr (some d) (.bool false))))
      | .tuple xs => match xs.toList with
        | [] => False
        | _ :: _ => no fr
      | _ => False

def wpS (P : Program) (T : Nat → TyE) (pan : Nat → Bool) (n : Nat) (ops : Array Oper) (K : Fr → AH → Prop) (PK : Value → AH → Prop) : List Oper → Fr → AH → Prop
  | [], fr, H => K fr H
  | o :: rest, fr, H =>
    if dstOK n o.dst = true then
      guardC ops o fr
        (fun fr => opStep P T pan (ev fr) o H (fun v H' => wpS P T pan n ops K PK rest (frput fr o.dst v) H') PK)
        (fun fr => wpS P T pan n ops K PK rest (frput fr o.dst skipV) H)
    else False

section
variable {P : Program} {T : Nat → TyE}

theorem valC_val {t : TypeId} {v : Value} {k : Value → Prop} (h : valC T t v k) : k v := by
  unfold valC at h
  split at h
  · obtain ⟨cs, rfl, hk⟩ := h; exact hk
  · obtain ⟨x, hx, hk⟩ := elim_some h
    injection hx with hx
    subst hx
    exact hk

theorem retC_val {t : TypeId} {v : Value} {k : Value → Prop} (h : retC T t v k) : k v ∨ k undef := by
  unfold retC at h
  split at h
  · exact .inr h
  · obtain ⟨a, b, rfl, h⟩ := h
    have h1 := valC_val h
    have h2 := valC_val h1
    exact .inl h2
  · obtain ⟨a, b, c, rfl, h⟩ := h
    have h1 := valC_val h
    have h2 := valC_val h1
    have h3 := valC_val h2
    exact .inl h3
  · exact h.elim
  · exact .inl (valC_val h)

theorem retC_rel {φ : Emb} {t : TypeId} {v v' : Value} {k : Value → Prop} (h : retC T t v k) (hv : VRel φ v v') : ∃ x, k x ∧ VRel φ x v' := by
  rcases retC_val h with h | h
  · exact ⟨v, h, hv⟩
  · exact ⟨undef, h, .undef _⟩

theorem func_inv {φ : Emb} {f : Fn} {as cs : Array Value} {v' : Value} (h : VRel φ (.func f as cs) v') :
    ∃ bs ds, v' = .func f bs ds ∧ LRel φ as.toList bs.toList ∧ LRel φ cs.toList ds.toList := by
  cases h with
  | fn _ _ bs _ ds h1 h2 h3 h4 => exact ⟨bs, ds, rfl, LRel.of_arr h1 h2, LRel.of_arr h3 h4⟩

theorem run_callFunc {g : FuncId} (h : enterable P g = true) (args : Array Value) (w : World) : (callFunc g args).run P w = .ok (.enter g args) w := by
  unfold enterable at h
  cases hf : P.funcs[g]? with
  | none => rw [hf] at h; cases h
  | some fn =>
    rw [hf] at h
    simp only [Bool.and_eq_true, Bool.not_eq_true'] at h
    obtain ⟨h1, h2⟩ := h
    have h1' : ¬ fn.name = "runtime.NumGoroutine" := by simpa using h1
    have h2' : ¬ fn.body = none := by intro hb; rw [hb] at h2; cases h2
    simp [callFunc, hf, h1', h2']

/-- ONE OPERATION, CARRIED OUT: what the machine comes to. -/
theorem opStep_sound (hT : Agrees P T) {pan : Nat → Bool} {fr : Fr} {o : Oper} {H : AH} {k pk : Value → AH → Prop} (h : opStep P T pan (ev fr) o H k pk)
    {W w : World} {φ : Emb} {a : Act} (hr : ∀ x ∈ o.op.operands, VRel φ (ev fr x) (a.eval x)) (R : Rel W φ H w) {next : Act → World → Prop} {Q : Exit → Act → World → Prop}
    (hk : ∀ φ' H' v v' w', Hist φ H φ' H' → VRel φ' v v' → Rel W φ' H' w' → k v H' → next (a.put o.dst v') w')
    (hpk : ∀ φ' H' v v' w', Hist φ H φ' H' → VRel φ' v v' → Rel W φ' H' w' → pk v H' → Q (.panic [{ v := v', recovered := false }]) a w')
    (hout : True) : o.wp P a w next Q := by
  unfold opStep at h
  unfold Oper.wp
  split at h
  · obtain ⟨v, rec, hkv, hrec, hok, _⟩ := load_sound hT h
    obtain ⟨v', hrun, hv⟩ := hok φ a.eval W w H hr R hrec
    rw [hrun]
    exact hk φ H v v' w (Hist.refl _ _) hv R hkv
  · split at h
    · obtain ⟨v, ob, hkv, hok⟩ := alloc_sound hT h
      obtain ⟨v', w', B, hrun, hv, R'⟩ := hok φ a.eval W w (H.push ob) hr (R.push ob) (by simp [AH.push]) (by simp [AH.push]) R.fresh
      rw [hrun]
      refine hk _ _ v v' w' ⟨Emb.le_add R.fresh, by simp [AH.push], fun b hb hn => ?_, fun b hb _ => ?_⟩ hv R' hkv
      · have : b ≠ H.size := by omega
        simp [Emb.add, this, hn]
      · have : b ≠ H.size := by omega
        simp [AH.push, this]
    · split at h
      · obtain ⟨r, w', v, v', φ', H', hrun, hres, hh, hv, R', hkv⟩ := eff_sound hT h hr R
        rw [hrun]
        rcases hres with rfl | ⟨rfl, rfl⟩
        · exact hk φ' H' v v' w' hh hv R' hkv
        · exact hk φ' H' v undef w' hh hv R' hkv
      · split at h
        · obtain ⟨dst, op, type, pos, after, guard⟩ := o
          simp only at h hr hk ⊢
          cases op with
          | call c =>
            obtain ⟨callee, args, argTypes⟩ := c
            simp only [ctlOp] at h
            cases callee with
            | value f =>
              simp only at h
              split at h
              · rename_i g first captured hf
                obtain ⟨hent, hcall⟩ := h
                have hfr := hr f (by simp [Op.operands, Call.operands])
                rw [hf] at hfr
                obtain ⟨bs, ds, hfe, hb, hd⟩ := func_inv hfr
                have hargs : LRel φ (first.toList ++ args.toList.map (ev fr) ++ captured.toList) (bs ++ args.map a.eval ++ ds).toList := by
                  simp only [Array.toList_append, Array.toList_map]
                  exact (hb.append (LRel.map args.toList (fun x hx => hr x (by simp [Op.operands, Call.operands]; exact .inr (by simpa using hx))))).append hd
                have hrun : (execOp a.eval { dst, op := .call { callee := .value f, args, argTypes }, type, pos, after, guard }).run P w = .ok (.enter g (bs ++ args.map a.eval ++ ds)) w := by
                  simp [execOp, resolve, hfe, Deferred.ofValue, invoke, run_callFunc hent]
                rw [hrun]
                simp only [Oper.upon]
                refine (hcall W w φ _ hargs R).mono fun e w' he => ?_
                obtain ⟨le, φ', H', hh, hend, R', hQ⟩ := he
                · cases le with
                  | ret v =>
                    cases e with
                    | returned v' =>
                      simp only [endC] at hQ
                      obtain ⟨x, hkx, hx⟩ := retC_rel hQ hend
                      exact hk φ' H' x v' w' hh hx R' hkx
                    | panicked c => exact hend.elim
                    | outgrown => exact hend.elim
                  | pan v =>
                    cases e with
                    | returned v' => exact hend.elim
                    | panicked c =>
                      obtain ⟨v', rfl, hv⟩ := hend
                      simp only [endC] at hQ
                      split at hQ
                      · exact hpk φ' H' v v' w' hh hv R' hQ
                      · exact hQ.elim
                    | outgrown => exact hend.elim
              · exact h.elim
            | _ => exact h.elim
          | panic x =>
            simp only [ctlOp] at h
            split at h
            · rename_i t v hx
              have hxr := hr x (by simp [Op.operands])
              rw [hx] at hxr
              generalize hx' : a.eval x = x' at hxr
              cases hxr with
              | iface _ _ v' hv =>
                have hrun : (execOp a.eval { dst, op := .panic x, type, pos, after, guard }).run P w = .halt (.panic (.iface t v')) w := by
                  simp [execOp, hx', Instr.panic]
                rw [hrun]
                exact hpk φ H _ _ w (Hist.refl _ _) (.iface _ _ _ hv) R h
            · exact h.elim
          | _ => simp [ctlOp] at h
        · obtain ⟨v, hkv, hok⟩ := pure_sound hT h
          obtain ⟨v', hrun, hv⟩ := hok φ a.eval hr
          rw [hrun w]
          exact hk φ H v v' w (Hist.refl _ _) hv R hkv


theorem frput_bool {fr : Fr} {d : Nat} {b : Bool} (h : fr d = .bool b) : frput fr (some d) (.bool b) = fr := by
  funext s
  by_cases hs : s = d
  · subst hs; rw [frput_same, h]
  · rw [frput_ne _ _ hs]

theorem yielded_tup {ops : Array Oper} {a : Act} {φ : Emb} {j d : Nat} {xs : Array Value} (hd : (ops[j]?).bind (·.dst) = some d) (h : VRel φ (.tuple xs) (a.tmps.getD d undef)) (hx : xs.toList ≠ []) :
    yielded ops a.tmps j = none := by
  unfold yielded
  rw [hd]
  simp only [Option.bind_some]
  cases ht : a.tmps[d]? with
  | none => rfl
  | some v =>
    have : a.tmps.getD d undef = v := by simp [Array.getD_eq_getD_getElem?, ht]
    rw [this] at h
    cases h
    · exact absurd rfl hx
    · rfl
    · rfl

theorem guardC_sound {ops : Array Oper} {o : Oper} {fr : Fr} {yes no : Fr → Prop} (h : guardC ops o fr yes no) {φ : Emb} {n : Nat} {a : Act} (A : ARel φ n fr a) :
    (Region.wanted o (yielded ops a.tmps) = true ∧ yes fr) ∨ (Region.wanted o (yielded ops a.tmps) = false ∧ no fr) := by
  unfold guardC at h
  split at h
  · rename_i hg
    exact .inl ⟨by simp [Region.wanted, hg], h⟩
  · rename_i j want hg
    split at h
    · exact h.elim
    · rename_i d hd
      split at h
      · rename_i g hfr
        have hslot := A.tmp d
        rw [hfr] at hslot
        have hy : yielded ops a.tmps j = some g ∨ yielded ops a.tmps j = none := by
          unfold yielded
          have hd' : (ops[j]?).bind (·.dst) = some d := by simpa using hd
          rw [hd']
          simp only [Option.bind_some]
          cases ht : a.tmps[d]? with
          | none => exact .inr rfl
          | some v =>
            have : a.tmps.getD d undef = v := by simp [Array.getD_eq_getD_getElem?, ht]
            rw [this] at hslot
            cases hslot
            exact .inl rfl
        have hy' : yielded ops a.tmps j = some g := by
          rcases hy with hy | hy
          · exact hy
          · exfalso
            unfold yielded at hy
            have hd' : (ops[j]?).bind (·.dst) = some d := by simpa using hd
            rw [hd'] at hy
            simp only [Option.bind_some] at hy
            cases ht : a.tmps[d]? with
            | none =>
              have : a.tmps.getD d undef = undef := by simp [Array.getD_eq_getD_getElem?, ht]
              rw [this] at hslot
              cases hslot
            | some v =>
              have : a.tmps.getD d undef = v := by simp [Array.getD_eq_getD_getElem?, ht]
              rw [this] at hslot
              cases hslot
              rw [ht] at hy
              simp at hy
        have hw : Region.wanted o (yielded ops a.tmps) = (g == want) := by
          simp [Region.wanted, hg, hy']
        cases g <;> cases want <;> simp only [bcase] at h <;> rw [frput_bool hfr] at h
        · exact .inl ⟨hw, h⟩
        · exact .inr ⟨hw, h⟩
        · exact .inr ⟨hw, h⟩
        · exact .inl ⟨hw, h⟩
      · rename_i xs hfr
        split at h
        · exact h.elim
        · rename_i y ys hxs
          have hy : yielded ops a.tmps j = none := yielded_tup (by simpa using hd) (hfr ▸ A.tmp d) (by rw [hxs]; simp)
          exact .inr ⟨by simp [Region.wanted, hg, hy], h⟩
      · exact h.elim

theorem dstOK_lt {n : Nat} {d : Option Nat} (h : dstOK n d = true) : ∀ t, d = some t → t < n := by
  intro t ht
  subst ht
  simp only [dstOK] at h
  exact Nat.le_of_ble_eq_true h

/-- OPERATIONS ONE BY ONE. -/
theorem wpS_sound (hT : Agrees P T) {pan : Nat → Bool} {n : Nat} {ops : Array Oper} {K : Fr → AH → Prop} {PK : Value → AH → Prop} {W : World} {Q : Exit → Act → World → Prop} (hout : True) :
    ∀ (l : List Oper) (i : Nat) (fr : Fr) (H : AH) (φ : Emb) (a : Act) (w : World), ops.toList.drop i = l → ARel φ n fr a → Rel W φ H w → wpS P T pan n ops K PK l fr H →
      (∀ φ' fr' H' a' w', Hist φ H φ' H' → ARel φ' n fr' a' → (∀ s, s ∉ l.filterMap (·.dst) → fr' s = fr s) → Rel W φ' H' w' → K fr' H' → Q .normal a' w') →
      (∀ φ' H' v v' a' w', Hist φ H φ' H' → a'.defers = [] → VRel φ' v v' → Rel W φ' H' w' → PK v H' → Q (.panic [{ v := v', recovered := false }]) a' w') →
      wpOps P ops Q (List.range' i l.length) a w := by
  intro l
  induction l with
  | nil =>
    intro i fr H φ a w _ A R h hK _
    simp only [List.length_nil, List.range'_zero, wpOps]
    exact hK φ fr H a w (Hist.refl _ _) A (fun _ _ => rfl) R h
  | cons o rest ih =>
    intro i fr H φ a w hdrop A R h hK hPK
    have ho : ops[i]? = some o := by
      have := congrArg (fun l => l[0]?) hdrop
      simpa using this
    have hrest : ops.toList.drop (i + 1) = rest := by rw [← List.drop_drop, hdrop]; rfl
    simp only [List.length_cons, List.range'_succ, wpOps, ho]
    simp only [wpS] at h
    have keep : ∀ (v : Value) (fr' : Fr) (s : Nat), (∀ s, s ∉ rest.filterMap (·.dst) → fr' s = frput fr o.dst v s) → s ∉ (o :: rest).filterMap (·.dst) → fr' s = fr s := by
      intro v fr' s hk hs
      cases hd : o.dst with
      | none =>
        rw [List.filterMap_cons, hd] at hs
        rw [hk s hs, hd]; rfl
      | some d =>
        rw [List.filterMap_cons, hd] at hs
        simp only [List.mem_cons, not_or] at hs
        rw [hk s hs.2, hd, frput_ne _ _ hs.1]
    split at h
    · rename_i hdst
      have hd := dstOK_lt hdst
      rcases guardC_sound h A with ⟨hw, hy⟩ | ⟨hw, hy⟩
      · rw [if_pos hw]
        refine .inl (opStep_sound hT hy (fun x _ => A.ev x) R (fun φ' H' v v' w' hh hv R' hk => ?_) (fun φ' H' v v' w' hh hv R' hk => hPK φ' H' v v' a w' hh A.defers hv R' hk) hout)
        refine ih (i + 1) _ H' φ' _ w' hrest ((A.mono hh.1).put hd hv) R' hk (fun φ'' fr'' H'' a'' w'' hh' A' hkp => hK φ'' fr'' H'' a'' w'' (hh.trans hh') A' (fun s hs => keep v fr'' s hkp hs))
          (fun φ'' H'' v v' a'' w'' hh' => hPK φ'' H'' v v' a'' w'' (hh.trans hh'))
      · rw [if_neg (by rw [hw]; simp)]
        exact ih (i + 1) _ H φ _ w hrest (A.put hd .skip) R hy (fun φ'' fr'' H'' a'' w'' hh' A' hkp => hK φ'' fr'' H'' a'' w'' hh' A' (fun s hs => keep skipV fr'' s hkp hs)) hPK
    · exact h.elim

end
end Go.Abs
