import Derived.Test.YtmbipadfcbndgaaAbsU
set_option linter.all false
namespace Go.Abs

/-! ## Code -/

inductive LExit where
  | normal
  | exit (id : Nat)
  | ret
  | pan (v : Value)

@[reducible] def K.T : K → Type
  | .int _ => Int
  | .bool => Bool
  | .str => ByteArray
  | .ptr => Option Addr
  | .sl => Sl
  | .agg => List Value
  | .map => Option Nat
  | .any => Value
  | .bad => Unit

def K.inj : (κ : K) → κ.T → Value
  | .int j, (n : Int) => .int j n
  | .bool, (b : Bool) => .bool b
  | .str, (s : ByteArray) => .string s
  | .ptr, (p : Option Addr) => .pointer p
  | .sl, (s : Sl) => s.val
  | .agg, (l : List Value) => .agg l.toArray
  | .map, (m : Option Nat) => .map m
  | .any, (v : Value) => v
  | .bad, _ => undef

def K.out : (κ : K) → Value → (κ.T → Prop) → Prop
  | .int j, v, k => match v with
    | .int j' n => if j = j' then k n else False
    | _ => False
  | .bool, v, k => match v with
    | .bool b => k b
    | _ => False
  | .str, v, k => match v with
    | .string s => k s
    | _ => False
  | .ptr, v, k => match v with
    | .pointer p => k p
    | _ => False
  | .sl, v, k => match v with
    | .slice a n c => k (Sl.mk a n c)
    | _ => False
  | .agg, v, k => match v with
    | .agg cs => k cs.toList
    | _ => False
  | .map, v, k => match v with
    | .map m => k m
    | _ => False
  | .any, v, k => k v
  | .bad, _, k => k ()

@[reducible] def Tup : List (Nat × K) → Type
  | [] => Unit
  | [(_, κ)] => κ.T
  | (_, κ) :: x :: r => κ.T × Tup (x :: r)

def tupFr (base : Fr) : (l : List (Nat × K)) → Tup l → Fr
  | [], _ => base
  | [(s, κ)], x => frput base (some s) (κ.inj x)
  | (s, κ) :: y :: r, x => frput (tupFr base (y :: r) x.2) (some s) (κ.inj x.1)

def tupOf (fr : Fr) : (l : List (Nat × K)) → (Tup l → Prop) → Prop
  | [], k => k ()
  | [(s, κ)], k => κ.out (fr s) k
  | (s, κ) :: y :: r, k => κ.out (fr s) fun x => tupOf fr (y :: r) fun xs => k (x, xs)

def loopN {τ : Type} (step : τ → AH → (τ → AH → Prop) → Prop) : Nat → τ → AH → Prop
  | 0 => fun _ _ => False
  | n + 1 => fun t H => step t H (loopN step n)

/-- A loop: after so many rounds it is left. -/
def loopT {τ : Type} (step : τ → AH → (τ → AH → Prop) → Prop) (t : τ) (H : AH) : Prop := ∃ n, loopN step n t H

def writes : Code → List Nat
  | .region _ ops _ => ops.toList.filterMap (·.dst)
  | .seq a b => writes a ++ writes b
  | .cond _ a b => writes a ++ writes b
  | .block _ b => writes b
  | .loop b => writes b
  | _ => []

def firstReg : Code → Nat
  | .region id _ _ => id
  | .seq a _ => firstReg a
  | .block _ b => firstReg b
  | .loop b => firstReg b
  | _ => 0

def clear (ws : List Nat) (fr : Fr) : Fr := fun s => cond (ws.contains s) undef (fr s)

structure Ann where
  keep : Nat → List (Nat × K)
  ord : Nat → List Nat

def thenK (k : Fr → AH → Prop) (Q : LExit → Fr → AH → Prop) : LExit → Fr → AH → Prop := fun e fr H =>
  match e with
  | .normal => k fr H
  | .exit id => Q (.exit id) fr H
  | .ret => Q .ret fr H
  | .pan v => Q (.pan v) fr H

def blockK (id : Nat) (Q : LExit → Fr → AH → Prop) : LExit → Fr → AH → Prop := fun e fr H =>
  match e with
  | .normal => Q .normal fr H
  | .exit j => if j = id then Q .normal fr H else Q (.exit j) fr H
  | .ret => Q .ret fr H
  | .pan v => Q (.pan v) fr H

def noFr : Fr := fun _ => undef

def wpC (P : Program) (T : Nat → TyE) (pan : Nat → Bool) (n : Nat) (A : Ann) : Code → Fr → AH → (LExit → Fr → AH → Prop) → Prop
  | .skip, fr, H, Q => Q .normal fr H
  | .region id ops draw, fr, H, Q =>
    if draw = true then
      if ordOK T ops.toList (masks ops.toList []) (A.ord id) = true then wpD P T pan n ops (masks ops.toList []) (fun fr H => Q .normal fr H) (A.ord id) [] fr H else False
    else wpS P T pan n ops (fun fr H => Q .normal fr H) (fun v H => Q (.pan v) noFr H) ops.toList fr H
  | .seq a b, fr, H, Q => wpC P T pan n A a fr H (thenK (fun fr H => wpC P T pan n A b fr H Q) Q)
  | .cond c a b, fr, H, Q =>
    match ev fr c with
    | .bool t => bcase t (wpC P T pan n A a fr H Q) (wpC P T pan n A b fr H Q)
    | _ => False
  | .block id b, fr, H, Q => wpC P T pan n A b fr H (blockK id Q)
  | .loop b, fr, H, Q =>
    if (A.keep (firstReg b)).all (fun p => (writes b).contains p.1) = true then
    tupOf fr (A.keep (firstReg b)) fun t0 =>
      loopT (fun t H it => wpC P T pan n A b (tupFr (clear (writes b) fr) (A.keep (firstReg b)) t) H (thenK (fun fr' H' => tupOf fr' (A.keep (firstReg b)) fun t' => it t' H') Q)) t0 H
    else False
  | .exit id, fr, H, Q => Q (.exit id) fr H
  | .ret, fr, H, Q => Q .ret fr H
  | _, _, _, _ => False

/-! ### soundness -/

def ERel (φ : Emb) : LExit → Exit → Prop
  | .normal, .normal => True
  | .exit i, .exit j => i = j
  | .ret, .ret => True
  | .pan v, .panic c => ∃ v', c = [{ v := v', recovered := false }] ∧ VRel φ v v'
  | _, _ => False

def LExit.isPan : LExit → Bool
  | .pan _ => true
  | _ => false

/-- Whatever the abstract run comes to, the machine comes to its like. -/
def Leads (n : Nat) (W : World) (φ : Emb) (fr : Fr) (H : AH) (ws : List Nat) (Q : LExit → Fr → AH → Prop) (QQ : Exit → Act → World → Prop) : Prop :=
  ∀ le e φ' fr' H' a' w', Hist φ H φ' H' → ERel φ' le e → a'.defers = [] → (le.isPan = false → ARel φ' n fr' a' ∧ ∀ s, s ∉ ws → fr' s = fr s) → Rel W φ' H' w' → Q le fr' H' → QQ e a' w'

section
variable {P : Program} {T : Nat → TyE}

theorem tupOf_fr : ∀ (l : List (Nat × K)) (fr base : Fr) (k : Tup l → Prop), tupOf fr l k → ∃ t, k t ∧ ∀ s, (tupFr base l t s = fr s) ∨ (tupFr base l t s = base s ∧ s ∉ l.map (·.1)) ∨ tupFr base l t s = undef := by
  have one : ∀ (κ : K) (v : Value) (k : κ.T → Prop), κ.out v k → ∃ x, k x ∧ (κ.inj x = v ∨ κ.inj x = undef) := by
    intro κ v k h
    cases κ <;> simp only [K.out] at h
    case any => exact ⟨v, h, .inl rfl⟩
    case bad => exact ⟨(), h, .inr rfl⟩
    case int j =>
      cases v <;> simp only at h
      split at h
      · rename_i he; subst he; exact ⟨_, h, .inl rfl⟩
      · exact h.elim
    all_goals (cases v <;> simp only at h <;> exact ⟨_, h, .inl rfl⟩)
  intro l
  induction l with
  | nil => intro fr base k h; exact ⟨(), h, fun s => .inr (.inl ⟨rfl, by simp⟩)⟩
  | cons p r ih =>
    intro fr base k h
    obtain ⟨s0, κ⟩ := p
    cases r with
    | nil =>
      simp only [tupOf] at h
      obtain ⟨x, hk, hx⟩ := one κ _ _ h
      refine ⟨x, hk, fun s => ?_⟩
      simp only [tupFr]
      by_cases hs : s = s0
      · subst hs; rw [frput_same]
        rcases hx with hx | hx
        · exact .inl hx
        · exact .inr (.inr hx)
      · rw [frput_ne _ _ hs]; exact .inr (.inl ⟨rfl, by simp [hs]⟩)
    | cons y r =>
      simp only [tupOf] at h
      obtain ⟨x, hk, hx⟩ := one κ _ _ h
      obtain ⟨xs, hk', hxs⟩ := ih fr base _ hk
      refine ⟨(x, xs), hk', fun s => ?_⟩
      simp only [tupFr]
      by_cases hs : s = s0
      · subst hs; rw [frput_same]
        rcases hx with hx | hx
        · exact .inl hx
        · exact .inr (.inr hx)
      · rw [frput_ne _ _ hs]
        rcases hxs s with h | ⟨h1, h2⟩ | h
        · exact .inl h
        · exact .inr (.inl ⟨h1, by simp only [List.map_cons, List.mem_cons, not_or] at h2 ⊢; exact ⟨hs, h2⟩⟩)
        · exact .inr (.inr h)

theorem tupFr_notin : ∀ (l : List (Nat × K)) (base : Fr) (t : Tup l) (s : Nat), s ∉ l.map (·.1) → tupFr base l t s = base s := by
  intro l
  induction l with
  | nil => intro base t s _; rfl
  | cons p r ih =>
    intro base t s h
    obtain ⟨s0, κ⟩ := p
    simp only [List.map_cons, List.mem_cons, not_or] at h
    cases r with
    | nil => simp only [tupFr]; exact frput_ne _ _ h.1
    | cons y r => simp only [tupFr]; rw [frput_ne _ _ h.1]; exact ih base t.2 s h.2

theorem tupFr_base {l : List (Nat × K)} {base base' : Fr} {t : Tup l} {s : Nat} (h : base s = base' s) : tupFr base l t s = tupFr base' l t s := by
  induction l with
  | nil => exact h
  | cons p r ih =>
    obtain ⟨s0, κ⟩ := p
    cases r with
    | nil =>
      simp only [tupFr]
      by_cases hs : s = s0
      · subst hs; rw [frput_same, frput_same]
      · rw [frput_ne _ _ hs, frput_ne _ _ hs]; exact h
    | cons y r =>
      simp only [tupFr]
      by_cases hs : s = s0
      · subst hs; rw [frput_same, frput_same]
      · rw [frput_ne _ _ hs, frput_ne _ _ hs]; exact ih

theorem wpC_sound (hT : Agrees P T) (hm : P.follows .mixedOrders = true) {pan : Nat → Bool} {n : Nat} {A : Ann} {W : World} {QQ : Exit → Act → World → Prop} (hout : True) :
    ∀ (c : Code) (fr : Fr) (H : AH) (Q : LExit → Fr → AH → Prop) (φ : Emb) (a : Act) (w : World) (QQ : Exit → Act → World → Prop), True → wpC P T pan n A c fr H Q → ARel φ n fr a → Rel W φ H w →
      Leads n W φ fr H (writes c) Q QQ → c.wp P QQ a w := by
  intro c
  induction c with
  | skip =>
    intro fr H Q φ a w QQ hout h A R hl
    exact wp_skip (hl .normal .normal φ fr H a w (Hist.refl _ _) trivial A.defers (fun _ => ⟨A, fun _ _ => rfl⟩) R h)
  | region id ops draw =>
    intro fr H Q φ a w QQ hout h A R hl
    simp only [wpC] at h
    split at h
    · rename_i hd
      subst hd
      split at h
      · rename_i hord
        exact wpD_sound hT hm hord h A R hout (fun φ' fr' H' a' w' hh A' hkp R' hk => hl .normal .normal φ' fr' H' a' w' hh trivial A'.defers (fun _ => ⟨A', hkp⟩) R' hk) id
      · exact h.elim
    · rename_i hd
      have hd' : draw = false := by simpa using hd
      subst hd'
      refine wp_region ?_
      rw [List.range_eq_range', show ops.size = ops.toList.length by simp]
      exact wpS_sound hT hout ops.toList 0 fr H φ a w (by simp) A R h
        (fun φ' fr' H' a' w' hh A' hkp R' hk => hl .normal .normal φ' fr' H' a' w' hh trivial A'.defers (fun _ => ⟨A', hkp⟩) R' hk)
        (fun φ' H' v v' a' w' hh hdf hv R' hk => hl (.pan v) (.panic [{ v := v', recovered := false }]) φ' noFr H' a' w' hh ⟨v', rfl, hv⟩ hdf (fun h => by cases h) R' hk)
  | seq x y ihx ihy =>
    intro fr H Q φ a w QQ hout h A R hl
    simp only [wpC] at h
    refine wp_seq (ihx fr H _ φ a w _ ?_ h A R ?_)
    · exact hout
    · intro le e φ' fr' H' a' w' hh he hdf hA R' hq
      cases le with
      | normal =>
        cases e <;> simp only [ERel] at he
        obtain ⟨A', hkp⟩ := hA rfl
        refine ihy fr' H' Q φ' a' w' QQ hout hq A' R' ?_
        intro le e φ'' fr'' H'' a'' w'' hh' he' hdf' hA' R'' hq'
        exact hl le e φ'' fr'' H'' a'' w'' (hh.trans hh') he' hdf' (fun hp => ⟨(hA' hp).1, fun s hs => by
          simp only [writes, List.mem_append, not_or] at hs
          rw [(hA' hp).2 s hs.2, hkp s hs.1]⟩) R'' hq'
      | exit i =>
        cases e <;> simp only [ERel] at he
        subst he
        exact hl (.exit i) (.exit i) φ' fr' H' a' w' hh rfl hdf (fun hp => ⟨(hA hp).1, fun s hs => (hA hp).2 s (by simp only [writes, List.mem_append, not_or] at hs; exact hs.1)⟩) R' hq
      | ret =>
        cases e <;> simp only [ERel] at he
        exact hl .ret .ret φ' fr' H' a' w' hh trivial hdf (fun hp => ⟨(hA hp).1, fun s hs => (hA hp).2 s (by simp only [writes, List.mem_append, not_or] at hs; exact hs.1)⟩) R' hq
      | pan v =>
        cases e <;> simp only [ERel] at he
        exact hl (.pan v) _ φ' fr' H' a' w' hh he hdf (fun hp => by cases hp) R' hq
  | cond c x y ihx ihy =>
    intro fr H Q φ a w QQ hout h A R hl
    simp only [wpC] at h
    split at h
    · rename_i t ht
      have hc := A.ev c
      rw [ht] at hc
      generalize hc' : a.eval c = v at hc
      cases hc
      cases t
      · refine wp_cond_false hc' (ihy fr H Q φ a w QQ hout (by simpa using h) A R ?_)
        intro le e φ' fr' H' a' w' hh he hdf hA R' hq
        exact hl le e φ' fr' H' a' w' hh he hdf (fun hp => ⟨(hA hp).1, fun s hs => (hA hp).2 s (by simp only [writes, List.mem_append, not_or] at hs; exact hs.2)⟩) R' hq
      · refine wp_cond_true hc' (ihx fr H Q φ a w QQ hout (by simpa using h) A R ?_)
        intro le e φ' fr' H' a' w' hh he hdf hA R' hq
        exact hl le e φ' fr' H' a' w' hh he hdf (fun hp => ⟨(hA hp).1, fun s hs => (hA hp).2 s (by simp only [writes, List.mem_append, not_or] at hs; exact hs.1)⟩) R' hq
    · exact h.elim
  | block id b ih =>
    intro fr H Q φ a w QQ hout h A R hl
    simp only [wpC] at h
    refine wp_block (ih fr H _ φ a w _ ?_ h A R ?_)
    · exact hout
    · intro le e φ' fr' H' a' w' hh he hdf hA R' hq
      cases le with
      | normal =>
        cases e <;> simp only [ERel] at he
        exact hl .normal .normal φ' fr' H' a' w' hh trivial hdf hA R' hq
      | exit i =>
        cases e <;> simp only [ERel] at he
        subst he
        simp only [blockK] at hq
        simp only [Exit.inBlock]
        split at hq
        · rename_i hi
          rw [if_pos hi]
          exact hl .normal .normal φ' fr' H' a' w' hh trivial hdf (fun _ => hA rfl) R' hq
        · rename_i hi
          rw [if_neg hi]
          exact hl (.exit i) (.exit i) φ' fr' H' a' w' hh rfl hdf hA R' hq
      | ret =>
        cases e <;> simp only [ERel] at he
        exact hl .ret .ret φ' fr' H' a' w' hh trivial hdf hA R' hq
      | pan v =>
        cases e <;> simp only [ERel] at he
        exact hl (.pan v) _ φ' fr' H' a' w' hh he hdf hA R' hq
  | loop b ih =>
    intro fr H Q φ a w QQ hout h A0 R hl
    simp only [wpC] at h
    split at h
    case isFalse => exact h.elim
    rename_i hks
    have hks' : ∀ s, s ∉ writes b → s ∉ (A.keep (firstReg b)).map (·.1) := by
      intro s hs hm
      simp only [List.all_eq_true] at hks
      obtain ⟨p, hp, rfl⟩ := List.mem_map.1 hm
      exact hs (by simpa using hks p hp)
    have hbase : ∀ (t : Tup (A.keep (firstReg b))) (s : Nat), s ∉ writes b → tupFr (clear (writes b) fr) _ t s = fr s := by
      intro t s hs
      rw [tupFr_notin _ _ _ _ (hks' s hs)]
      have : (writes b).contains s = false := by simpa using hs
      simp [clear, hs]
    obtain ⟨t0, ⟨N, hN⟩, ht0⟩ := tupOf_fr _ fr (clear (writes b) fr) _ h
    have head : ∀ (φ' : Emb) (fr' : Fr) (a' : Act) (t : Tup (A.keep (firstReg b))), ARel φ' n fr' a' → (∀ s, s ∉ writes b → fr' s = fr s) →
        (∀ s, (tupFr (clear (writes b) fr) _ t s = fr' s) ∨ (tupFr (clear (writes b) fr) _ t s = clear (writes b) fr s ∧ s ∉ (A.keep (firstReg b)).map (·.1)) ∨ tupFr (clear (writes b) fr) _ t s = undef) →
        ARel φ' n (tupFr (clear (writes b) fr) _ t) a' := by
      intro φ' fr' a' t A' hkp ht
      refine ⟨A'.defers, A'.size, fun s => ?_⟩
      rcases ht s with h | ⟨h, _⟩ | h
      · rw [h]; exact A'.tmp s
      · rw [h]
        unfold clear
        cases hc : (writes b).contains s with
        | true => exact .undef _
        | false =>
          have hs : s ∉ writes b := by simpa using hc
          simp only [cond_false]
          rw [← hkp s hs]
          exact A'.tmp s
      · rw [h]; exact .undef _
    have key : ∀ (N : Nat) (t : Tup (A.keep (firstReg b))) (H1 : AH) (φ1 : Emb) (a1 : Act) (w1 : World), Hist φ H φ1 H1 → ARel φ1 n (tupFr (clear (writes b) fr) _ t) a1 → Rel W φ1 H1 w1 →
        loopN (fun t H it => wpC P T pan n A b (tupFr (clear (writes b) fr) (A.keep (firstReg b)) t) H (thenK (fun fr' H' => tupOf fr' (A.keep (firstReg b)) fun t' => it t' H') Q)) N t H1 →
        ∀ (fb : Frame) (k : List Item) (cs : List Frame), ∃ e a' w', QQ e a' w' ∧ Arrives P (lone (fb.at a1 (.code b :: .inLoop b :: k)) cs w1) fb k cs e a' w' := by
      intro N
      induction N with
      | zero => intro t H1 φ1 a1 w1 _ _ _ hN; exact hN.elim
      | succ N ihN =>
        intro t H1 φ1 a1 w1 hh1 A1 R1 hN fb k cs
        simp only [loopN] at hN
        have round := ih (tupFr (clear (writes b) fr) _ t) H1 _ φ1 a1 w1
          (Exit.then (fun a' w' => ∃ t' H' φ', Hist φ H φ' H' ∧ ARel φ' n (tupFr (clear (writes b) fr) _ t') a' ∧ Rel W φ' H' w' ∧
                loopN (fun t H it => wpC P T pan n A b (tupFr (clear (writes b) fr) (A.keep (firstReg b)) t) H (thenK (fun fr' H' => tupOf fr' (A.keep (firstReg b)) fun t' => it t' H') Q)) N t' H') QQ)
          (by exact hout) hN A1 R1 (by
          intro le e φ' fr' H' a' w' hh he hdf hA R' hq
          cases le with
          | normal =>
            cases e <;> simp only [ERel] at he
            obtain ⟨A', hkp⟩ := hA rfl
            simp only [thenK] at hq
            obtain ⟨t', hit, ht'⟩ := tupOf_fr _ fr' (clear (writes b) fr) _ hq
            have hkp' : ∀ s, s ∉ writes b → fr' s = fr s := fun s hs => by rw [hkp s hs, hbase t s hs]
            exact ⟨t', H', φ', hh1.trans hh, head φ' fr' a' t' A' hkp' ht', R', hit⟩
          | exit i =>
            cases e <;> simp only [ERel] at he
            subst he
            exact hl (.exit i) (.exit i) φ' fr' H' a' w' (hh1.trans hh) rfl hdf (fun hp => ⟨(hA hp).1, fun s hs => by rw [(hA hp).2 s hs, hbase t s hs]⟩) R' hq
          | ret =>
            cases e <;> simp only [ERel] at he
            exact hl .ret .ret φ' fr' H' a' w' (hh1.trans hh) trivial hdf (fun hp => ⟨(hA hp).1, fun s hs => by rw [(hA hp).2 s hs, hbase t s hs]⟩) R' hq
          | pan v =>
            cases e <;> simp only [ERel] at he
            exact hl (.pan v) _ φ' fr' H' a' w' (hh1.trans hh) he hdf (fun hp => by cases hp) R' hq)
        obtain ⟨e, a₁, w₁, hq, harr⟩ := round fb (.inLoop b :: k) cs
        cases e with
        | normal =>
          obtain ⟨t', H', φ', hh', A', R', hN'⟩ := hq
          obtain ⟨e₂, a₂, w₂, hq₂, harr₂⟩ := ihN t' H' φ' a₁ w₁ hh' A' R' hN' fb k cs
          exact ⟨e₂, a₂, w₂, hq₂, .of_steps (Steps.trans harr (.one step_inLoop)) harr₂⟩
        | exit i => exact ⟨_, a₁, w₁, hq, .pass (x := .inLoop b) rfl (fun _ _ => .inl (by simp)) harr⟩
        | goto l => exact ⟨_, a₁, w₁, hq, .pass (x := .inLoop b) rfl (fun _ _ => .inl (by simp)) harr⟩
        | ret => exact ⟨_, a₁, w₁, hq, .pass (x := .inLoop b) rfl (fun _ _ => .inl (by simp)) harr⟩
        | panic ch => exact ⟨_, a₁, w₁, hq, .pass (x := .inLoop b) rfl (fun _ _ => .inl (by simp)) harr⟩
        | outgrown => exact ⟨_, a₁, w₁, hq, .pass (x := .inLoop b) rfl (fun _ _ => .inl (by simp)) harr⟩
    intro fb k cs
    obtain ⟨e, a', w', hq, harr⟩ := key N t0 H φ a w (Hist.refl _ _) (head φ fr a t0 A0 (fun _ _ => rfl) ht0) R hN fb k cs
    exact ⟨e, a', w', hq, .of_steps (.one step_loop) harr⟩
  | exit id =>
    intro fr H Q φ a w QQ hout h A R hl
    exact wp_exit (hl (.exit id) (.exit id) φ fr H a w (Hist.refl _ _) rfl A.defers (fun _ => ⟨A, fun _ _ => rfl⟩) R h)
  | ret =>
    intro fr H Q φ a w QQ hout h A R hl
    exact wp_ret (hl .ret .ret φ fr H a w (Hist.refl _ _) trivial A.defers (fun _ => ⟨A, fun _ _ => rfl⟩) R h)
  | _ => intro fr H Q φ a w QQ hout h; simp [wpC] at h

end
end Go.Abs
