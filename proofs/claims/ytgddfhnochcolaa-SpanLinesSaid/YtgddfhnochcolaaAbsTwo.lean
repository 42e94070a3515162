import Derived.Test.YtgddfhnochcolaaAbsOne
import Derived.Carry
import Derived.ChangeSame
import Derived.OpenShut
import Derived.ProofKit
import Derived.SizedLaws
import Derived.Sort.Grow
import Derived.Sort.Row
set_option linter.all false
namespace Go.Abs
section
variable {P : Program} {T : Nat → TyE}

def unlisted (listed : Array Bool) : Nat → Nat
  | 0 => 0
  | n + 1 => unlisted listed n + (if listed.getD n true = true then 0 else 1)

theorem unlisted_zero {listed : Array Bool} : ∀ n, unlisted listed n = 0 → ∀ i, i < n → listed.getD i true = true := by
  intro n
  induction n with
  | zero => intro _ i hi; omega
  | succ n ih =>
    intro h i hi
    simp only [unlisted] at h
    rcases Nat.lt_or_ge i n with hl | hl
    · exact ih (by omega) i hl
    · obtain rfl : i = n := by omega
      split at h
      · assumption
      · omega

theorem unlisted_set {listed : Array Bool} {i : Nat} (hi : i < listed.size) (hn : listed.getD i true = false) : ∀ n, i < n → unlisted (listed.setIfInBounds i true) n + 1 = unlisted listed n := by
  have same : ∀ n, n ≤ i → unlisted (listed.setIfInBounds i true) n = unlisted listed n := by
    intro n
    induction n with
    | zero => intro _; rfl
    | succ n ih =>
      intro h
      have e : (listed.setIfInBounds i true).getD n true = listed.getD n true := by rw [getD_set_eq hi, if_neg (by omega)]
      simp only [unlisted]
      rw [ih (by omega), e]
  intro n
  induction n with
  | zero => intro h; omega
  | succ n ih =>
    intro h
    simp only [unlisted]
    by_cases hin : i = n
    · subst hin
      have e : (listed.setIfInBounds i true).getD i true = true := by rw [getD_set_eq hi, if_pos rfl]
      rw [same i (Nat.le_refl _), e, hn]
      simp
    · have e : (listed.setIfInBounds i true).getD n true = listed.getD n true := by rw [getD_set_eq hi, if_neg (fun e => hin e.symm)]
      rw [← ih (by omega), e]
      omega

theorem mem_depsOf {o : Oper} {d : Nat} : d ∈ depsOf o ↔ ∃ e ∈ o.after, Region.binds .any e = true ∧ e.on = d := by
  unfold depsOf
  simp only [List.mem_map, List.mem_filter, Array.mem_toList_iff]
  constructor
  · rintro ⟨e, ⟨h1, h2⟩, h3⟩; exact ⟨e, h1, h2, h3⟩
  · rintro ⟨e, h1, h2, h3⟩; exact ⟨e, ⟨h1, h2⟩, h3⟩

theorem DInv.any (hT : Agrees P T) {pan : Nat → Bool} {n : Nat} {ops : Array Oper} {K : Fr → AH → Prop} {ord : List Nat} (F : OrdFacts T ops.toList ord) {fr0 : Fr} {W : World} {φ0 : Emb} {H0 : AH} {Q : Exit → Act → World → Prop}
    (hout : True) (hK : ∀ φ' fr' H' a' w', Hist φ0 H0 φ' H' → ARel φ' n fr' a' → (∀ s, s ∉ ops.toList.filterMap (·.dst) → fr' s = fr0 s) → Rel W φ' H' w' → K fr' H' → Q .normal a' w') :
    ∀ (fuel : Nat) (listed : Array Bool) (a : Act) (w : World), unlisted listed ops.size ≤ fuel →
      (∃ done rest V bid recs fr H φ, DInv P T pan n ops K ord fr0 W φ0 H0 listed a w done rest V bid recs fr H φ) → wpAny P .any ops Q fuel listed a w := by
  have finish : ∀ (listed : Array Bool) (a : Act) (w : World), (∀ i, i < ops.size → listed.getD i true = true) →
      (∃ done rest V bid recs fr H φ, DInv P T pan n ops K ord fr0 W φ0 H0 listed a w done rest V bid recs fr H φ) → Q .normal a w := by
    intro listed a w hall ⟨done, rest, V, bid, recs, fr, H, φ, D⟩
    have hrest : rest = [] := by
      cases rest with
      | nil => rfl
      | cons e tl =>
        exfalso
        obtain ⟨o, ho, _, hn, _⟩ := F.pos done e tl D.split
        have hlt : e < ops.size := by have := (List.getElem?_eq_some_iff.1 ho).1; simpa using this
        exact hn (D.sub e hlt (hall e hlt))
    subst hrest
    have hrun := D.run
    simp only [wpD] at hrun
    refine hK φ fr H a w D.hist ⟨D.defers, D.size, fun s => ?_⟩ (fun s hs => ?_) D.rel hrun
    case refine_2 =>
      rw [D.frame s]
      unfold slotAt
      cases hw : writer ops.toList s with
      | none => rfl
      | some j =>
        obtain ⟨p, hp, hps⟩ := writer_some hw
        exact absurd (List.mem_filterMap.2 ⟨p, List.mem_of_getElem? hp, hps⟩) hs
    rw [D.frame s]
    have : slotAt ops.toList (fun j => done.contains j) V fr0 s = slotAt ops.toList (fun j => listed.getD j true) V fr0 s := by
      unfold slotAt
      cases hw : writer ops.toList s with
      | none => rfl
      | some j =>
        obtain ⟨p, hp, _⟩ := writer_some hw
        have hlt : j < ops.size := by have := (List.getElem?_eq_some_iff.1 hp).1; simpa using this
        have h1 := hall j hlt
        have h2 : done.contains j = true := by simpa using D.sub j hlt h1
        simp only [h1, h2]
    rw [this]
    exact D.slots s
  have ready_all : ∀ (listed : Array Bool), listed.size = ops.size → Region.ready .any ops listed = [] → ∀ i, i < ops.size → listed.getD i true = true := by
    intro listed hls hr i
    induction i using Nat.strongRecOn with
    | _ i ih =>
      intro hi
      cases hl : listed.getD i true with
      | true => rfl
      | false =>
        exfalso
        have ho : ops[i]? = some ops[i] := Array.getElem?_eq_getElem hi
        have : i ∈ Region.ready .any ops listed := by
          rw [mem_ready]
          refine ⟨hl, ops[i], ho, fun e he hb => ?_⟩
          have hlt := F.small i ops[i] (by simp [hi]) e.on (mem_depsOf.2 ⟨e, he, hb, rfl⟩)
          have := ih e.on hlt (by omega)
          have hlt' : e.on < listed.size := by omega
          simpa [hlt'] using this
        rw [hr] at this
        cases this
  intro fuel
  induction fuel with
  | zero =>
    intro listed a w hf hD
    obtain ⟨done, rest, V, bid, recs, fr, H, φ, D⟩ := hD
    have hall := unlisted_zero (listed := listed) ops.size (by omega)
    refine ⟨?_, finish listed a w hall ⟨_, _, _, _, _, _, _, _, D⟩⟩
    cases hr : Region.ready .any ops listed with
    | nil => rfl
    | cons i l =>
      exfalso
      have : i ∈ Region.ready .any ops listed := by rw [hr]; simp
      obtain ⟨h1, o, ho, _⟩ := mem_ready.1 this
      have := hall i (Array.getElem?_eq_some_iff.1 ho).1
      rw [h1] at this; cases this
  | succ fuel ih =>
    intro listed a w hf hD
    obtain ⟨done, rest, V, bid, recs, fr, H, φ, D⟩ := hD
    refine ⟨fun hr => finish listed a w (ready_all listed D.lsize hr) ⟨_, _, _, _, _, _, _, _, D⟩, fun i hi => ?_⟩
    obtain ⟨hni, o, ho, hafter⟩ := mem_ready.1 hi
    have hisz : i < ops.size := (Array.getElem?_eq_some_iff.1 ho).1
    have hil : i < listed.size := by rw [D.lsize]; exact hisz
    have ho' : ops.toList[i]? = some o := by simpa using ho
    have hdeps : ∀ d ∈ depsOf o, listed.getD d true = true := by
      intro d hd
      obtain ⟨e, he, hb, rfl⟩ := mem_depsOf.1 hd
      have := hafter e he hb
      have hlt := F.small i o ho' e.on hd
      have hlt' : e.on < listed.size := by omega
      simpa [hlt'] using this
    have hfuel : unlisted (listed.setIfInBounds i true) ops.size ≤ fuel := by
      have := unlisted_set hil hni ops.size hisz; omega
    obtain ⟨done, rest, V, bid, recs, fr, H, D, hnorm⟩ := D.norm hT F
    have hready := F.slot_ready (E := fun j => listed.getD j true) (fun i o ho h => D.closed i o ho h) ho' hdeps hni V fr0
    unfold wpOp
    simp only [ho]
    by_cases hid : i ∈ done
    · obtain ⟨p, fri, hp1, hdst, hfri, hp⟩ := D.pend i hid hni
      rw [ho'] at hp1
      injection hp1 with hp1
      subst hp1
      have hlook : ∀ s ∈ looks ops.toList o, VRel φ (fri s) (a.tmps.getD s undef) := by
        intro s hs
        rw [hfri s hs, ← hready s hs]
        exact D.slots s
      cases hp with
      | skip hg hv =>
        rw [if_neg (by rw [gsel_wanted hg hlook]; simp)]
        exact ih _ _ _ hfuel ⟨_, _, _, _, _, _, _, _, D.carry F ho' hid hdst hdeps hni (Emb.le_refl φ) (fun x h => .inl h) D.rel (by rw [hv]; exact .skip)⟩
      | pure hg hok =>
        rw [if_pos (gsel_wanted hg hlook)]
        obtain ⟨v', hrun, hv⟩ := hok φ a.eval (looks_ev hlook)
        refine .inl ?_
        unfold Oper.wp
        rw [hrun w]
        exact ih _ _ _ hfuel ⟨_, _, _, _, _, _, _, _, D.carry F ho' hid hdst hdeps hni (Emb.le_refl φ) (fun x h => .inl h) D.rel hv⟩
      | load hg rec hm hr hok hs =>
        rw [if_pos (gsel_wanted hg hlook)]
        obtain ⟨v', hrun, hv⟩ := hok φ a.eval W w H (looks_ev hlook) D.rel hr
        refine .inl ?_
        unfold Oper.wp
        rw [hrun]
        exact ih _ _ _ hfuel ⟨_, _, _, _, _, _, _, _, D.carry F ho' hid hdst hdeps hni (Emb.le_refl φ) (fun x h => .inl h) D.rel hv⟩
      | alloc hg b hb hok hn =>
        rw [if_pos (gsel_wanted hg hlook)]
        obtain ⟨v', w', B, hrun, hv, R'⟩ := hok φ a.eval W w H (looks_ev hlook) D.rel rfl (D.bidlt i b hb) hn
        refine .inl ?_
        unfold Oper.wp
        rw [hrun]
        refine ih _ _ _ hfuel ⟨_, _, _, _, _, _, _, _, D.carry F ho' hid hdst hdeps hni (Emb.le_add hn) (fun x h => ?_) R' hv⟩
        by_cases hx : x = b
        · subst hx; exact .inr hb
        · exact .inl (by simp [Emb.add, hx, h])
    · -- it is the next call or store
      have hiord : i ∈ ord := F.all i (by simpa using hisz)
      rcases hnorm with rfl | ⟨e, tl, oe, rfl, hoe, hheavy⟩
      · rw [D.split] at hiord
        simp at hiord
        exact absurd hiord hid
      · have hie : i = e := by
          rw [D.split] at hiord
          rcases List.mem_append.1 hiord with h | h
          · exact absurd h hid
          · rcases List.mem_cons.1 h with h | h
            · exact h
            · exfalso
              obtain ⟨t1, t2, ht⟩ := List.append_of_mem h
              obtain ⟨o2, ho2, _, _, hlast⟩ := F.pos (done ++ e :: t1) i t2 (by rw [D.split, ht]; simp)
              obtain ⟨e', he', hmem⟩ := lastH_some T ops.toList t1 e
              have hl : lastH T ops.toList (done ++ e :: t1) none = some e' := by
                rw [lastH_append]
                simp only [lastH, hoe, hheavy, if_true]
                exact he'
              have hbef := hlast e' hl
              obtain ⟨d, hd, hdd⟩ := masks_spec ops.toList [] i e' o ho' (by simpa using hbef)
              have hE := hdeps d hd
              have hlst : listed.getD e' true = true := by
                rcases hdd with rfl | hdd
                · exact hE
                · exact bef_closed (E := fun x => listed.getD x true = true) F.small (fun i o ho h => D.closed i o ho h) d e' (by have := F.small i o ho' d hd; simp; omega) hE hdd
              have hlt' : e' < ops.size := by
                have hm : e' ∈ done ++ e :: tl := by
                  refine List.mem_append_right _ ?_
                  rcases hmem with rfl | hmem
                  · simp
                  · exact List.mem_cons_of_mem _ (by rw [ht]; exact List.mem_append_left _ hmem)
                rw [← D.split] at hm
                obtain ⟨l1, l2, hl12⟩ := List.append_of_mem hm
                obtain ⟨o3, ho3, _⟩ := F.pos l1 e' l2 hl12
                have := (List.getElem?_eq_some_iff.1 ho3).1; simpa using this
              have hdone := D.sub e' hlt' hlst
              rcases hmem with rfl | hmem
              · exact (F.pos done e' tl D.split).choose_spec.2.2.1 hdone
              · obtain ⟨u1, u2, hu⟩ := List.append_of_mem hmem
                have := (F.pos (done ++ e :: u1) e' (u2 ++ i :: t2) (by rw [D.split, ht, hu]; simp)).choose_spec.2.2.1
                exact this (List.mem_append_left _ hdone)
        subst hie
        rw [ho'] at hoe
        injection hoe with hoe
        subst hoe
        have hlook : ∀ s ∈ looks ops.toList o, VRel φ (fr s) (a.tmps.getD s undef) := by
          intro s hs
          rw [D.frame s, F.slot_next D.split ho' V fr0 s hs, ← hready s hs]
          exact D.slots s
        have hrun := D.run
        simp only [wpD, ho'] at hrun
        split at hrun
        case isFalse => exact hrun.elim
        rename_i hdst
        rcases guardC_sel hrun with ⟨hg, hy⟩ | ⟨hg, hy⟩
        · rw [if_pos (gsel_wanted hg hlook)]
          have hnl : isLoad T o.op = false := by
            cases h : isLoad T o.op with
            | false => rfl
            | true => simp [isHeavy, h] at hheavy
          have hna : isAlloc o.op = false := by
            cases h : isAlloc o.op with
            | false => rfl
            | true => simp [isHeavy, h] at hheavy
          simp only [hnl, hna, hheavy, if_true, Bool.false_eq_true, if_false] at hy
          refine .inl (opStep_sound hT hy (looks_ev hlook) D.rel (fun φ' H' v v' w' hh hv R' hk => ?_) (fun φ' H' v v' w' _ _ _ h => h.elim) hout)
          obtain ⟨h1, h2⟩ := checks_spec recs hk
          exact ih _ _ _ hfuel ⟨_, _, _, _, _, _, _, _, D.carryHeavy F ho' hdst hdeps hni hh R' hv h1 (fun j rec hm hb _ => h2 j rec hm hb)⟩
        · rw [if_neg (by rw [gsel_wanted hg hlook]; simp)]
          exact ih _ _ _ hfuel ⟨_, _, _, _, _, _, _, _, D.carryHeavy F ho' hdst hdeps hni (Hist.refl φ H) D.rel .skip hy (fun j rec _ _ hr => hr)⟩

/-- A REGION THAT DRAWS ITS ORDER: one abstract run, every order. -/
theorem wpD_sound (hT : Agrees P T) (hm : P.follows .mixedOrders = true) {pan : Nat → Bool} {n : Nat} {ops : Array Oper} {K : Fr → AH → Prop} {ord : List Nat} (hord : ordOK T ops.toList (masks ops.toList []) ord = true)
    {fr : Fr} {H : AH} (h : wpD P T pan n ops (masks ops.toList []) K ord [] fr H) {W w : World} {φ : Emb} {a : Act} (A : ARel φ n fr a) (R : Rel W φ H w) {Q : Exit → Act → World → Prop} (hout : True)
    (hK : ∀ φ' fr' H' a' w', Hist φ H φ' H' → ARel φ' n fr' a' → (∀ s, s ∉ ops.toList.filterMap (·.dst) → fr' s = fr s) → Rel W φ' H' w' → K fr' H' → Q .normal a' w') (id : Nat) : (Code.region id ops true).wp P Q a w := by
  have F := ordOK_facts hord
  refine wp_region_any hm ?_
  have hrep : ∀ j, (Array.replicate ops.size false).getD j true = true → ops.size ≤ j := by
    intro j hj
    rcases Nat.lt_or_ge j ops.size with h | h
    · simp [h] at hj
    · exact h
  have slots : ∀ s, slotAt ops.toList (fun j => (Array.replicate ops.size false).getD j true) (fun _ => undef) fr s = fr s := by
    intro s
    unfold slotAt
    cases hw : writer ops.toList s with
    | none => rfl
    | some j =>
      obtain ⟨p, hp, _⟩ := writer_some hw
      have hlt : j < ops.size := by have := (List.getElem?_eq_some_iff.1 hp).1; simpa using this
      simp only
      rw [if_neg (fun h => by have := hrep j h; omega)]
  refine DInv.any hT (pan := pan) (fr0 := fr) F hout hK ops.size _ a _ ?_ ⟨[], ord, fun _ => undef, fun _ => none, [], fr, H, φ, ?_⟩
  · have : ∀ m, unlisted (Array.replicate ops.size false) m ≤ m := by
      intro m
      induction m with
      | zero => simp [unlisted]
      | succ m ih => simp only [unlisted]; split <;> omega
    exact this _
  · refine { split := rfl, run := h, frame := fun s => ?_, rel := R.drew, hist := Hist.refl φ H, size := A.size, defers := A.defers, slots := fun s => ?_, lsize := by simp, sub := ?_, closed := ?_, bidlt := ?_, bidge := ?_, bidinj := ?_, pend := ?_ }
    · unfold slotAt
      cases hw : writer ops.toList s <;> simp
    · rw [slots s]; exact A.tmp s
    · intro i hi hl; have := hrep i hl; omega
    · intro i o ho hl
      have := hrep i hl
      have := (List.getElem?_eq_some_iff.1 ho).1
      simp at this; omega
    · intro i b h; cases h
    · intro i b h; cases h
    · intro i j b h; cases h
    · intro i hi; cases hi

end
end Go.Abs

namespace Go.Abs

/-! ## Code -/

inductive LExit where
  | normal
  | exit (id : Nat)
  | ret
  | pan (v : Value)

@[reducible] def K.T : K → Type
  | .int _ => Int
  | .bool => Bool
  | .str => ByteArray
  | .ptr => Option Addr
  | .sl => Sl
  | .agg => List Value
  | .map => Option Nat
  | .any => Value
  | .bad => Unit

def K.inj : (κ : K) → κ.T → Value
  | .int j, (n : Int) => .int j n
  | .bool, (b : Bool) => .bool b
  | .str, (s : ByteArray) => .string s
  | .ptr, (p : Option Addr) => .pointer p
  | .sl, (s : Sl) => s.val
  | .agg, (l : List Value) => .agg l.toArray
  | .map, (m : Option Nat) => .map m
  | .any, (v : Value) => v
  | .bad, _ => undef

def K.out : (κ : K) → Value → (κ.T → Prop) → Prop
  | .int j, v, k => match v with
    | .int j' n => if j = j' then k n else False
    | _ => False
  | .bool, v, k => match v with
    | .bool b => k b
    | _ => False
  | .str, v, k => match v with
    | .string s => k s
    | _ => False
  | .ptr, v, k => match v with
    | .pointer p => k p
    | _ => False
  | .sl, v, k => match v with
    | .slice a n c => k (Sl.mk a n c)
    | _ => False
  | .agg, v, k => match v with
    | .agg cs => k cs.toList
    | _ => False
  | .map, v, k => match v with
    | .map m => k m
    | _ => False
  | .any, v, k => k v
  | .bad, _, k => k ()

@[reducible] def Tup : List (Nat × K) → Type
  | [] => Unit
  | [(_, κ)] => κ.T
  | (_, κ) :: x :: r => κ.T × Tup (x :: r)

def tupFr (base : Fr) : (l : List (Nat × K)) → Tup l → Fr
  | [], _ => base
  | [(s, κ)], x => frput base (some s) (κ.inj x)
  | (s, κ) :: y :: r, x => frput (tupFr base (y :: r) x.2) (some s) (κ.inj x.1)

def tupOf (fr : Fr) : (l : List (Nat × K)) → (Tup l → Prop) → Prop
  | [], k => k ()
  | [(s, κ)], k => κ.out (fr s) k
  | (s, κ) :: y :: r, k => κ.out (fr s) fun x => tupOf fr (y :: r) fun xs => k (x, xs)

def loopN {τ : Type} (step : τ → AH → (τ → AH → Prop) → Prop) : Nat → τ → AH → Prop
  | 0 => fun _ _ => False
  | n + 1 => fun t H => step t H (loopN step n)

/-- A loop: after so many rounds it is left. -/
def loopT {τ : Type} (step : τ → AH → (τ → AH → Prop) → Prop) (t : τ) (H : AH) : Prop := ∃ n, loopN step n t H

def writes : Code → List Nat
  | .region _ ops _ => ops.toList.filterMap (·.dst)
  | .seq a b => writes a ++ writes b
  | .cond _ a b => writes a ++ writes b
  | .block _ b => writes b
  | .loop b => writes b
  | _ => []

def firstReg : Code → Nat
  | .region id _ _ => id
  | .seq a _ => firstReg a
  | .block _ b => firstReg b
  | .loop b => firstReg b
  | _ => 0

def clear (ws : List Nat) (fr : Fr) : Fr := fun s => cond (ws.contains s) undef (fr s)

structure Ann where
  keep : Nat → List (Nat × K)
  ord : Nat → List Nat

def thenK (k : Fr → AH → Prop) (Q : LExit → Fr → AH → Prop) : LExit → Fr → AH → Prop := fun e fr H =>
  match e with
  | .normal => k fr H
  | .exit id => Q (.exit id) fr H
  | .ret => Q .ret fr H
  | .pan v => Q (.pan v) fr H

def blockK (id : Nat) (Q : LExit → Fr → AH → Prop) : LExit → Fr → AH → Prop := fun e fr H =>
  match e with
  | .normal => Q .normal fr H
  | .exit j => if j = id then Q .normal fr H else Q (.exit j) fr H
  | .ret => Q .ret fr H
  | .pan v => Q (.pan v) fr H

def noFr : Fr := fun _ => undef

def wpC (P : Program) (T : Nat → TyE) (pan : Nat → Bool) (n : Nat) (A : Ann) : Code → Fr → AH → (LExit → Fr → AH → Prop) → Prop
  | .skip, fr, H, Q => Q .normal fr H
  | .region id ops draw, fr, H, Q =>
    if draw = true then
      if ordOK T ops.toList (masks ops.toList []) (A.ord id) = true then wpD P T pan n ops (masks ops.toList []) (fun fr H => Q .normal fr H) (A.ord id) [] fr H else False
    else wpS P T pan n ops (fun fr H => Q .normal fr H) (fun v H => Q (.pan v) noFr H) ops.toList fr H
  | .seq a b, fr, H, Q => wpC P T pan n A a fr H (thenK (fun fr H => wpC P T pan n A b fr H Q) Q)
  | .cond c a b, fr, H, Q =>
    match ev fr c with
    | .bool t => bcase t (wpC P T pan n A a fr H Q) (wpC P T pan n A b fr H Q)
    | _ => False
  | .block id b, fr, H, Q => wpC P T pan n A b fr H (blockK id Q)
  | .loop b, fr, H, Q =>
    if (A.keep (firstReg b)).all (fun p => (writes b).contains p.1) = true then
    tupOf fr (A.keep (firstReg b)) fun t0 =>
      loopT (fun t H it => wpC P T pan n A b (tupFr (clear (writes b) fr) (A.keep (firstReg b)) t) H (thenK (fun fr' H' => tupOf fr' (A.keep (firstReg b)) fun t' => it t' H') Q)) t0 H
    else False
  | .exit id, fr, H, Q => Q (.exit id) fr H
  | .ret, fr, H, Q => Q .ret fr H
  | _, _, _, _ => False

/-! ### soundness -/

def ERel (φ : Emb) : LExit → Exit → Prop
  | .normal, .normal => True
  | .exit i, .exit j => i = j
  | .ret, .ret => True
  | .pan v, .panic c => ∃ v', c = [{ v := v', recovered := false }] ∧ VRel φ v v'
  | _, _ => False

def LExit.isPan : LExit → Bool
  | .pan _ => true
  | _ => false

/-- Whatever the abstract run comes to, the machine comes to its like. -/
def Leads (n : Nat) (W : World) (φ : Emb) (fr : Fr) (H : AH) (ws : List Nat) (Q : LExit → Fr → AH → Prop) (QQ : Exit → Act → World → Prop) : Prop :=
  ∀ le e φ' fr' H' a' w', Hist φ H φ' H' → ERel φ' le e → a'.defers = [] → (le.isPan = false → ARel φ' n fr' a' ∧ ∀ s, s ∉ ws → fr' s = fr s) → Rel W φ' H' w' → Q le fr' H' → QQ e a' w'

section
variable {P : Program} {T : Nat → TyE}

theorem tupOf_fr : ∀ (l : List (Nat × K)) (fr base : Fr) (k : Tup l → Prop), tupOf fr l k → ∃ t, k t ∧ ∀ s, (tupFr base l t s = fr s) ∨ (tupFr base l t s = base s ∧ s ∉ l.map (·.1)) ∨ tupFr base l t s = undef := by
  have one : ∀ (κ : K) (v : Value) (k : κ.T → Prop), κ.out v k → ∃ x, k x ∧ (κ.inj x = v ∨ κ.inj x = undef) := by
    intro κ v k h
    cases κ <;> simp only [K.out] at h
    case any => exact ⟨v, h, .inl rfl⟩
    case bad => exact ⟨(), h, .inr rfl⟩
    case int j =>
      cases v <;> simp only at h
      split at h
      · rename_i he; subst he; exact ⟨_, h, .inl rfl⟩
      · exact h.elim
    all_goals (cases v <;> simp only at h <;> exact ⟨_, h, .inl rfl⟩)
  intro l
  induction l with
  | nil => intro fr base k h; exact ⟨(), h, fun s => .inr (.inl ⟨rfl, by simp⟩)⟩
  | cons p r ih =>
    intro fr base k h
    obtain ⟨s0, κ⟩ := p
    cases r with
    | nil =>
      simp only [tupOf] at h
      obtain ⟨x, hk, hx⟩ := one κ _ _ h
      refine ⟨x, hk, fun s => ?_⟩
      simp only [tupFr]
      by_cases hs : s = s0
      · subst hs; rw [frput_same]
        rcases hx with hx | hx
        · exact .inl hx
        · exact .inr (.inr hx)
      · rw [frput_ne _ _ hs]; exact .inr (.inl ⟨rfl, by simp [hs]⟩)
    | cons y r =>
      simp only [tupOf] at h
      obtain ⟨x, hk, hx⟩ := one κ _ _ h
      obtain ⟨xs, hk', hxs⟩ := ih fr base _ hk
      refine ⟨(x, xs), hk', fun s => ?_⟩
      simp only [tupFr]
      by_cases hs : s = s0
      · subst hs; rw [frput_same]
        rcases hx with hx | hx
        · exact .inl hx
        · exact .inr (.inr hx)
      · rw [frput_ne _ _ hs]
        rcases hxs s with h | ⟨h1, h2⟩ | h
        · exact .inl h
        · exact .inr (.inl ⟨h1, by simp only [List.map_cons, List.mem_cons, not_or] at h2 ⊢; exact ⟨hs, h2⟩⟩)
        · exact .inr (.inr h)

theorem tupFr_notin : ∀ (l : List (Nat × K)) (base : Fr) (t : Tup l) (s : Nat), s ∉ l.map (·.1) → tupFr base l t s = base s := by
  intro l
  induction l with
  | nil => intro base t s _; rfl
  | cons p r ih =>
    intro base t s h
    obtain ⟨s0, κ⟩ := p
    simp only [List.map_cons, List.mem_cons, not_or] at h
    cases r with
    | nil => simp only [tupFr]; exact frput_ne _ _ h.1
    | cons y r => simp only [tupFr]; rw [frput_ne _ _ h.1]; exact ih base t.2 s h.2

theorem tupFr_base {l : List (Nat × K)} {base base' : Fr} {t : Tup l} {s : Nat} (h : base s = base' s) : tupFr base l t s = tupFr base' l t s := by
  induction l with
  | nil => exact h
  | cons p r ih =>
    obtain ⟨s0, κ⟩ := p
    cases r with
    | nil =>
      simp only [tupFr]
      by_cases hs : s = s0
      · subst hs; rw [frput_same, frput_same]
      · rw [frput_ne _ _ hs, frput_ne _ _ hs]; exact h
    | cons y r =>
      simp only [tupFr]
      by_cases hs : s = s0
      · subst hs; rw [frput_same, frput_same]
      · rw [frput_ne _ _ hs, frput_ne _ _ hs]; exact ih

theorem wpC_sound (hT : Agrees P T) (hm : P.follows .mixedOrders = true) {pan : Nat → Bool} {n : Nat} {A : Ann} {W : World} {QQ : Exit → Act → World → Prop} (hout : True) :
    ∀ (c : Code) (fr : Fr) (H : AH) (Q : LExit → Fr → AH → Prop) (φ : Emb) (a : Act) (w : World) (QQ : Exit → Act → World → Prop), True → wpC P T pan n A c fr H Q → ARel φ n fr a → Rel W φ H w →
      Leads n W φ fr H (writes c) Q QQ → c.wp P QQ a w := by
  intro c
  induction c with
  | skip =>
    intro fr H Q φ a w QQ hout h A R hl
    exact wp_skip (hl .normal .normal φ fr H a w (Hist.refl _ _) trivial A.defers (fun _ => ⟨A, fun _ _ => rfl⟩) R h)
  | region id ops draw =>
    intro fr H Q φ a w QQ hout h A R hl
    simp only [wpC] at h
    split at h
    · rename_i hd
      subst hd
      split at h
      · rename_i hord
        exact wpD_sound hT hm hord h A R hout (fun φ' fr' H' a' w' hh A' hkp R' hk => hl .normal .normal φ' fr' H' a' w' hh trivial A'.defers (fun _ => ⟨A', hkp⟩) R' hk) id
      · exact h.elim
    · rename_i hd
      have hd' : draw = false := by simpa using hd
      subst hd'
      refine wp_region ?_
      rw [List.range_eq_range', show ops.size = ops.toList.length by simp]
      exact wpS_sound hT hout ops.toList 0 fr H φ a w (by simp) A R h
        (fun φ' fr' H' a' w' hh A' hkp R' hk => hl .normal .normal φ' fr' H' a' w' hh trivial A'.defers (fun _ => ⟨A', hkp⟩) R' hk)
        (fun φ' H' v v' a' w' hh hdf hv R' hk => hl (.pan v) (.panic [{ v := v', recovered := false }]) φ' noFr H' a' w' hh ⟨v', rfl, hv⟩ hdf (fun h => by cases h) R' hk)
  | seq x y ihx ihy =>
    intro fr H Q φ a w QQ hout h A R hl
    simp only [wpC] at h
    refine wp_seq (ihx fr H _ φ a w _ ?_ h A R ?_)
    · exact hout
    · intro le e φ' fr' H' a' w' hh he hdf hA R' hq
      cases le with
      | normal =>
        cases e <;> simp only [ERel] at he
        obtain ⟨A', hkp⟩ := hA rfl
        refine ihy fr' H' Q φ' a' w' QQ hout hq A' R' ?_
        intro le e φ'' fr'' H'' a'' w'' hh' he' hdf' hA' R'' hq'
        exact hl le e φ'' fr'' H'' a'' w'' (hh.trans hh') he' hdf' (fun hp => ⟨(hA' hp).1, fun s hs => by
          simp only [writes, List.mem_append, not_or] at hs
          rw [(hA' hp).2 s hs.2, hkp s hs.1]⟩) R'' hq'
      | exit i =>
        cases e <;> simp only [ERel] at he
        subst he
        exact hl (.exit i) (.exit i) φ' fr' H' a' w' hh rfl hdf (fun hp => ⟨(hA hp).1, fun s hs => (hA hp).2 s (by simp only [writes, List.mem_append, not_or] at hs; exact hs.1)⟩) R' hq
      | ret =>
        cases e <;> simp only [ERel] at he
        exact hl .ret .ret φ' fr' H' a' w' hh trivial hdf (fun hp => ⟨(hA hp).1, fun s hs => (hA hp).2 s (by simp only [writes, List.mem_append, not_or] at hs; exact hs.1)⟩) R' hq
      | pan v =>
        cases e <;> simp only [ERel] at he
        exact hl (.pan v) _ φ' fr' H' a' w' hh he hdf (fun hp => by cases hp) R' hq
  | cond c x y ihx ihy =>
    intro fr H Q φ a w QQ hout h A R hl
    simp only [wpC] at h
    split at h
    · rename_i t ht
      have hc := A.ev c
      rw [ht] at hc
      generalize hc' : a.eval c = v at hc
      cases hc
      cases t
      · refine wp_cond_false hc' (ihy fr H Q φ a w QQ hout (by simpa using h) A R ?_)
        intro le e φ' fr' H' a' w' hh he hdf hA R' hq
        exact hl le e φ' fr' H' a' w' hh he hdf (fun hp => ⟨(hA hp).1, fun s hs => (hA hp).2 s (by simp only [writes, List.mem_append, not_or] at hs; exact hs.2)⟩) R' hq
      · refine wp_cond_true hc' (ihx fr H Q φ a w QQ hout (by simpa using h) A R ?_)
        intro le e φ' fr' H' a' w' hh he hdf hA R' hq
        exact hl le e φ' fr' H' a' w' hh he hdf (fun hp => ⟨(hA hp).1, fun s hs => (hA hp).2 s (by simp only [writes, List.mem_append, not_or] at hs; exact hs.1)⟩) R' hq
    · exact h.elim
  | block id b ih =>
    intro fr H Q φ a w QQ hout h A R hl
    simp only [wpC] at h
    refine wp_block (ih fr H _ φ a w _ ?_ h A R ?_)
    · exact hout
    · intro le e φ' fr' H' a' w' hh he hdf hA R' hq
      cases le with
      | normal =>
        cases e <;> simp only [ERel] at he
        exact hl .normal .normal φ' fr' H' a' w' hh trivial hdf hA R' hq
      | exit i =>
        cases e <;> simp only [ERel] at he
        subst he
        simp only [blockK] at hq
        simp only [Exit.inBlock]
        split at hq
        · rename_i hi
          rw [if_pos hi]
          exact hl .normal .normal φ' fr' H' a' w' hh trivial hdf (fun _ => hA rfl) R' hq
        · rename_i hi
          rw [if_neg hi]
          exact hl (.exit i) (.exit i) φ' fr' H' a' w' hh rfl hdf hA R' hq
      | ret =>
        cases e <;> simp only [ERel] at he
        exact hl .ret .ret φ' fr' H' a' w' hh trivial hdf hA R' hq
      | pan v =>
        cases e <;> simp only [ERel] at he
        exact hl (.pan v) _ φ' fr' H' a' w' hh he hdf hA R' hq
  | loop b ih =>
    intro fr H Q φ a w QQ hout h A0 R hl
    simp only [wpC] at h
    split at h
    case isFalse => exact h.elim
    rename_i hks
    have hks' : ∀ s, s ∉ writes b → s ∉ (A.keep (firstReg b)).map (·.1) := by
      intro s hs hm
      simp only [List.all_eq_true] at hks
      obtain ⟨p, hp, rfl⟩ := List.mem_map.1 hm
      exact hs (by simpa using hks p hp)
    have hbase : ∀ (t : Tup (A.keep (firstReg b))) (s : Nat), s ∉ writes b → tupFr (clear (writes b) fr) _ t s = fr s := by
      intro t s hs
      rw [tupFr_notin _ _ _ _ (hks' s hs)]
      have : (writes b).contains s = false := by simpa using hs
      simp [clear, hs]
    obtain ⟨t0, ⟨N, hN⟩, ht0⟩ := tupOf_fr _ fr (clear (writes b) fr) _ h
    have head : ∀ (φ' : Emb) (fr' : Fr) (a' : Act) (t : Tup (A.keep (firstReg b))), ARel φ' n fr' a' → (∀ s, s ∉ writes b → fr' s = fr s) →
        (∀ s, (tupFr (clear (writes b) fr) _ t s = fr' s) ∨ (tupFr (clear (writes b) fr) _ t s = clear (writes b) fr s ∧ s ∉ (A.keep (firstReg b)).map (·.1)) ∨ tupFr (clear (writes b) fr) _ t s = undef) →
        ARel φ' n (tupFr (clear (writes b) fr) _ t) a' := by
      intro φ' fr' a' t A' hkp ht
      refine ⟨A'.defers, A'.size, fun s => ?_⟩
      rcases ht s with h | ⟨h, _⟩ | h
      · rw [h]; exact A'.tmp s
      · rw [h]
        unfold clear
        cases hc : (writes b).contains s with
        | true => exact .undef _
        | false =>
          have hs : s ∉ writes b := by simpa using hc
          simp only [cond_false]
          rw [← hkp s hs]
          exact A'.tmp s
      · rw [h]; exact .undef _
    have key : ∀ (N : Nat) (t : Tup (A.keep (firstReg b))) (H1 : AH) (φ1 : Emb) (a1 : Act) (w1 : World), Hist φ H φ1 H1 → ARel φ1 n (tupFr (clear (writes b) fr) _ t) a1 → Rel W φ1 H1 w1 →
        loopN (fun t H it => wpC P T pan n A b (tupFr (clear (writes b) fr) (A.keep (firstReg b)) t) H (thenK (fun fr' H' => tupOf fr' (A.keep (firstReg b)) fun t' => it t' H') Q)) N t H1 →
        ∀ (fb : Frame) (k : List Item) (cs : List Frame), ∃ e a' w', QQ e a' w' ∧ Arrives P (lone (fb.at a1 (.code b :: .inLoop b :: k)) cs w1) fb k cs e a' w' := by
      intro N
      induction N with
      | zero => intro t H1 φ1 a1 w1 _ _ _ hN; exact hN.elim
      | succ N ihN =>
        intro t H1 φ1 a1 w1 hh1 A1 R1 hN fb k cs
        simp only [loopN] at hN
        have round := ih (tupFr (clear (writes b) fr) _ t) H1 _ φ1 a1 w1
          (Exit.then (fun a' w' => ∃ t' H' φ', Hist φ H φ' H' ∧ ARel φ' n (tupFr (clear (writes b) fr) _ t') a' ∧ Rel W φ' H' w' ∧
                loopN (fun t H it => wpC P T pan n A b (tupFr (clear (writes b) fr) (A.keep (firstReg b)) t) H (thenK (fun fr' H' => tupOf fr' (A.keep (firstReg b)) fun t' => it t' H') Q)) N t' H') QQ)
          (by exact hout) hN A1 R1 (by
          intro le e φ' fr' H' a' w' hh he hdf hA R' hq
          cases le with
          | normal =>
            cases e <;> simp only [ERel] at he
            obtain ⟨A', hkp⟩ := hA rfl
            simp only [thenK] at hq
            obtain ⟨t', hit, ht'⟩ := tupOf_fr _ fr' (clear (writes b) fr) _ hq
            have hkp' : ∀ s, s ∉ writes b → fr' s = fr s := fun s hs => by rw [hkp s hs, hbase t s hs]
            exact ⟨t', H', φ', hh1.trans hh, head φ' fr' a' t' A' hkp' ht', R', hit⟩
          | exit i =>
            cases e <;> simp only [ERel] at he
            subst he
            exact hl (.exit i) (.exit i) φ' fr' H' a' w' (hh1.trans hh) rfl hdf (fun hp => ⟨(hA hp).1, fun s hs => by rw [(hA hp).2 s hs, hbase t s hs]⟩) R' hq
          | ret =>
            cases e <;> simp only [ERel] at he
            exact hl .ret .ret φ' fr' H' a' w' (hh1.trans hh) trivial hdf (fun hp => ⟨(hA hp).1, fun s hs => by rw [(hA hp).2 s hs, hbase t s hs]⟩) R' hq
          | pan v =>
            cases e <;> simp only [ERel] at he
            exact hl (.pan v) _ φ' fr' H' a' w' (hh1.trans hh) he hdf (fun hp => by cases hp) R' hq)
        obtain ⟨e, a₁, w₁, hq, harr⟩ := round fb (.inLoop b :: k) cs
        cases e with
        | normal =>
          obtain ⟨t', H', φ', hh', A', R', hN'⟩ := hq
          obtain ⟨e₂, a₂, w₂, hq₂, harr₂⟩ := ihN t' H' φ' a₁ w₁ hh' A' R' hN' fb k cs
          exact ⟨e₂, a₂, w₂, hq₂, .of_steps (Steps.trans harr (.one step_inLoop)) harr₂⟩
        | exit i => exact ⟨_, a₁, w₁, hq, .pass (x := .inLoop b) rfl (fun _ _ => .inl (by simp)) harr⟩
        | goto l => exact ⟨_, a₁, w₁, hq, .pass (x := .inLoop b) rfl (fun _ _ => .inl (by simp)) harr⟩
        | ret => exact ⟨_, a₁, w₁, hq, .pass (x := .inLoop b) rfl (fun _ _ => .inl (by simp)) harr⟩
        | panic ch => exact ⟨_, a₁, w₁, hq, .pass (x := .inLoop b) rfl (fun _ _ => .inl (by simp)) harr⟩
        | outgrown => exact ⟨_, a₁, w₁, hq, .pass (x := .inLoop b) rfl (fun _ _ => .inl (by simp)) harr⟩
    intro fb k cs
    obtain ⟨e, a', w', hq, harr⟩ := key N t0 H φ a w (Hist.refl _ _) (head φ fr a t0 A0 (fun _ _ => rfl) ht0) R hN fb k cs
    exact ⟨e, a', w', hq, .of_steps (.one step_loop) harr⟩
  | exit id =>
    intro fr H Q φ a w QQ hout h A R hl
    exact wp_exit (hl (.exit id) (.exit id) φ fr H a w (Hist.refl _ _) rfl A.defers (fun _ => ⟨A, fun _ _ => rfl⟩) R h)
  | ret =>
    intro fr H Q φ a w QQ hout h A R hl
    exact wp_ret (hl .ret .ret φ fr H a w (Hist.refl _ _) trivial A.defers (fun _ => ⟨A, fun _ _ => rfl⟩) R h)
  | _ => intro fr H Q φ a w QQ hout h; simp [wpC] at h

end
end Go.Abs

namespace Go.Abs

/-! ## Functions -/

def argFr (args : List Value) : Fr := fun s => args.getD s undef

def resVals (T : Nat → TyE) (fr : Fr) (H : AH) : List ResultVar → (List Value → Prop) → Prop
  | [], k => k []
  | .tmp t :: r, k => resVals T fr H r fun vs => k (fr t :: vs)
  | .cell a t :: r, k =>
    match fr a with
    | .pointer p => onPtr p fun ad =>
      match (T t).k with
      | .agg => ldA H ad (T t).size fun cs => resVals T fr H r fun vs => k (.agg cs.toArray :: vs)
      | .bad => False
      | κ => elim κ (H.cell? ad) fun v => resVals T fr H r fun vs => k (v :: vs)
    | _ => False

def oneOf : List Value → Value
  | [v] => v
  | vs => .tuple vs.toArray

def bodyK (T : Nat → TyE) (res : List ResultVar) (Q : LEnd → AH → Prop) : LExit → Fr → AH → Prop := fun e fr H =>
  match e with
  | .normal => resVals T fr H res fun vs => Q (.ret (oneOf vs)) H
  | .ret => resVals T fr H res fun vs => Q (.ret (oneOf vs)) H
  | .pan v => Q (.pan v) H
  | .exit _ => False

def resOne (tmps : Array Value) : ResultVar → Sem Value
  | .tmp t => pure (tmps.getD t undef)
  | .cell a t => do loadVar t (← asAddr (tmps.getD a undef))

theorem results_eq (fn : Func) (tmps : Array Value) : results fn tmps = (do
    let vs ← fn.results.mapM (resOne tmps)
    pure (if h : vs.size = 1 then vs[0] else .tuple vs)) := by
  unfold results
  congr 1

section
variable {P : Program} {T : Nat → TyE}

theorem resVals_sound (hT : Agrees P T) {fr : Fr} {H : AH} {W w : World} {φ : Emb} {n : Nat} {a : Act} (A : ARel φ n fr a) (R : Rel W φ H w) :
    ∀ (l : List ResultVar) (k : List Value → Prop), resVals T fr H l k → ∃ vs vs', k vs ∧ LRel φ vs vs' ∧
      ((l.mapM (resOne a.tmps)).run P w) = .ok vs' w := by
  intro l
  induction l with
  | nil => intro k h; exact ⟨[], [], h, ⟨rfl, fun i x y hx => by simp at hx⟩, by simp⟩
  | cons r l ih =>
    intro k h
    have cons : ∀ (v v' : Value), VRel φ v v' → resVals T fr H l (fun vs => k (v :: vs)) →
        ((resOne a.tmps r).run P w) = .ok v' w →
        ∃ vs vs', k vs ∧ LRel φ vs vs' ∧ (((r :: l).mapM (resOne a.tmps)).run P w) = .ok vs' w := by
      intro v v' hv hk hrun
      obtain ⟨vs, vs', h1, h2, h3⟩ := ih _ hk
      refine ⟨v :: vs, v' :: vs', h1, ⟨by simp [h2.1], fun i x y hx hy => ?_⟩, ?_⟩
      · cases i with
        | zero => simp at hx hy; subst hx hy; exact hv
        | succ i => exact h2.2 i x y (by simpa using hx) (by simpa using hy)
      · rw [List.mapM_cons]
        simp only [Sem.run_bind, hrun, Result.andThen_ok, h3, Sem.run_pure]
    cases r with
    | tmp t =>
      simp only [resVals] at h
      exact cons (fr t) _ (A.tmp t) h rfl
    | cell x t =>
      simp only [resVals] at h
      split at h
      · rename_i p hp
        obtain ⟨ad, rfl, h⟩ := onPtr_some h
        have hx := A.tmp x
        rw [hp] at hx
        obtain ⟨b, B, o, rfl, hb, he⟩ := vrel_ptr hx
        split at h
        · rename_i hk
          obtain ⟨cs, hrow, h⟩ := h
          obtain ⟨cs', h1, _, h3⟩ := run_loadCells_rel (P := P) R hb hrow
          refine cons _ (.agg cs'.toArray) h1.agg h ?_
          simp only [resOne]
          rw [he]
          simp [asAddr, loadVar, hT.isAgg hk, run_sizeOf hT (t := t) (by simp [hk]), h3]
        · exact h.elim
        · rename_i hna hnb
          change elim (T t).k (H.cell? ⟨b, o, none⟩) (fun v => resVals T fr H l fun vs => k (v :: vs)) at h
          obtain ⟨v, hv, h⟩ := elim_some h
          obtain ⟨v', h1, h2⟩ := R.load hb hv
          refine cons v v' h2 h ?_
          simp only [resOne]
          rw [he]
          simp [asAddr, loadVar, hT.notAgg hnb hna, h1]
      · exact h.elim

theorem lcalls_of (hT : Agrees P T) (hm : P.follows .mixedOrders = true) {pan : Nat → Bool} {f : FuncId} {fn : Func} (hf : P.funcs[f]? = some fn) (hent : enterable P f = true)
    (A : Ann) {args : List Value} {H : AH} {Q : LEnd → AH → Prop} (hlen : args.length ≤ fn.ntmps)
    (h : wpC P T pan fn.ntmps A (fn.body.getD .skip) (argFr args) H (bodyK T fn.results.toList Q)) : LCalls P f args H Q := by
  obtain ⟨c, hb⟩ : ∃ c, fn.body = some c := by
    unfold enterable at hent
    rw [hf] at hent
    simp only [Bool.and_eq_true] at hent
    exact Option.isSome_iff_exists.1 hent.2
  rw [hb, Option.getD_some] at h
  refine ⟨hent, fun W w φ args' hl R => ?_⟩
  have hsz : args'.size = args.length := by have := hl.1; simp at this; omega
  refine calls_of_wp hf hb ?_
  have A0 : ARel φ fn.ntmps (argFr args) { tmps := args' ++ Array.replicate (fn.ntmps - args'.size) undef, defers := [] } := by
    refine ⟨rfl, by simp; omega, fun s => ?_⟩
    unfold argFr
    by_cases hs : s < args.length
    · have h1 : args.getD s undef = args[s] := by simp [List.getD_eq_getElem?_getD, List.getElem?_eq_getElem hs]
      have h2 : (args' ++ Array.replicate (fn.ntmps - args'.size) undef).getD s undef = args'[s]'(by omega) := by
        simp [Array.getD_eq_getD_getElem?, Array.getElem?_append, show s < args'.size by omega]
      rw [h1]
      simp only
      rw [h2]
      exact hl.2 s _ _ (List.getElem?_eq_getElem hs) (by simp [show s < args'.size by omega])
    · have h1 : args.getD s undef = undef := by simp [List.getD_eq_getElem?_getD, List.getElem?_eq_none (Nat.le_of_not_lt hs)]
      rw [h1]
      exact .undef _
  refine wpC_sound (W := W) (QQ := fun _ _ _ => True) hT hm trivial c (argFr args) H _ φ _ w _ trivial h A0 R ?_
  intro le e φ' fr' H' a' w' hh he hdf hA R' hq
  have ret : resVals T fr' H' fn.results.toList (fun vs => Q (.ret (oneOf vs)) H') → ARel φ' fn.ntmps fr' a' →
      a'.defers = [] ∧ ∃ v, (results fn a'.tmps).run P w' = .ok v w' ∧ (∃ le φ' H', Hist φ H φ' H' ∧ EndRel φ' le (.returned v) ∧ Rel W φ' H' w' ∧ Q le H') := by
    intro hr A'
    obtain ⟨vs, vs', hk, hlv, hrun⟩ := resVals_sound hT A' R' _ _ hr
    refine ⟨hdf, oneOf vs', ?_, ⟨.ret (oneOf vs), φ', H', hh, ?_, R', hk⟩⟩
    · rw [results_eq, Array.mapM_eq_mapM_toList]
      simp only [Sem.run_bind, Sem.run_map, hrun, Result.andThen_ok, Sem.run_pure]
      congr 1
      cases vs' with
      | nil => rfl
      | cons x xs => cases xs with
        | nil => rfl
        | cons y ys => simp [oneOf]
    · have hl' := hlv.1
      unfold oneOf
      cases vs with
      | nil =>
        have : vs' = [] := List.length_eq_zero_iff.1 (by simpa using hl'.symm)
        subst this
        exact .undef _
      | cons x xs =>
        cases vs' with
        | nil => simp at hl'
        | cons x' xs' =>
          cases xs with
          | nil =>
            have : xs' = [] := List.length_eq_zero_iff.1 (by simpa using hl'.symm)
            subst this
            exact hlv.2 0 x x' rfl rfl
          | cons y ys =>
            cases xs' with
            | nil => simp at hl'
            | cons y' ys' => exact .tup _ _ (hlv.to_arr rfl rfl).1 (hlv.to_arr rfl rfl).2
  cases le with
  | normal =>
    cases e <;> simp only [ERel] at he
    exact ret hq (hA rfl).1
  | ret =>
    cases e <;> simp only [ERel] at he
    exact ret hq (hA rfl).1
  | exit i => exact hq.elim
  | pan v =>
    cases e <;> simp only [ERel] at he
    obtain ⟨v', rfl, hv⟩ := he
    exact ⟨hdf, ⟨.pan v, φ', H', hh, ⟨v', rfl, hv⟩, R', hq⟩⟩

end

/-! ### words of the printed forms -/

def newC (H : AH) (o : AObj) (k : Nat → AH → Prop) : Prop := k H.size (H.push o)

def onRet (e : LEnd) (k : Value → Prop) (pk : Value → Prop) : Prop :=
  match e with
  | .ret v => k v
  | .pan v => pk v

def K.el : (κ : K) → Value → (κ.T → Prop) → Prop
  | .int j, v, k => elI j (some v) k
  | .bool, v, k => elB (some v) k
  | .str, v, k => elS (some v) k
  | .ptr, v, k => elP (some v) k
  | .sl, v, k => elL (some v) k
  | .agg, v, k => elA v k
  | .map, v, k => elM (some v) k
  | .any, v, k => elV (some v) k
  | .bad, _, _ => False

def noPan : Value → Prop := fun _ => False

def in1 (κ : K) (e : LEnd) (pk : Value → Prop) (k : κ.T → Prop) : Prop := onRet e (fun v => κ.el v k) pk
def in2 (κ μ : K) (e : LEnd) (pk : Value → Prop) (k : κ.T → μ.T → Prop) : Prop := onRet e (fun v => ret2 v fun a b => κ.el a fun x => μ.el b fun y => k x y) pk
def in3 (κ μ ν : K) (e : LEnd) (pk : Value → Prop) (k : κ.T → μ.T → ν.T → Prop) : Prop :=
  onRet e (fun v => ret3 v fun a b c => κ.el a fun x => μ.el b fun y => ν.el c fun z => k x y z) pk
def in0 (e : LEnd) (pk : Value → Prop) (k : Prop) : Prop := onRet e (fun _ => k) pk

def out1 (κ : K) (e : LEnd) (pk : Value → Prop) (k : κ.T → Prop) : Prop :=
  match e with
  | .ret v => κ.out v k
  | .pan v => pk v
def out2 (κ μ : K) (e : LEnd) (pk : Value → Prop) (k : κ.T → μ.T → Prop) : Prop :=
  match e with
  | .ret v => match v with
    | .tuple vs => match vs.toList with
      | [a, b] => κ.out a fun x => μ.out b fun y => k x y
      | _ => False
    | _ => False
  | .pan v => pk v
def out3 (κ μ ν : K) (e : LEnd) (pk : Value → Prop) (k : κ.T → μ.T → ν.T → Prop) : Prop :=
  match e with
  | .ret v => match v with
    | .tuple vs => match vs.toList with
      | [a, b, c] => κ.out a fun x => μ.out b fun y => ν.out c fun z => k x y z
      | _ => False
    | _ => False
  | .pan v => pk v
def out0 (e : LEnd) (pk : Value → Prop) (k : Prop) : Prop :=
  match e with
  | .ret _ => k
  | .pan v => pk v

theorem K.out_el {κ : K} (hκ : κ ≠ .bad) {v : Value} {k : κ.T → Prop} (h : κ.out v k) : κ.el v k := by
  cases κ <;> simp only [K.out] at h
  case int j =>
    cases v <;> simp only at h
    split at h
    · rename_i he; subst he; exact ⟨_, rfl, h⟩
    · exact h.elim
  case any => exact ⟨_, rfl, h⟩
  case bad => exact absurd rfl hκ
  case bool => cases v <;> simp only at h; exact ⟨_, rfl, h⟩
  case str => cases v <;> simp only at h; exact ⟨_, rfl, h⟩
  case ptr => cases v <;> simp only at h; exact ⟨_, rfl, h⟩
  case sl => cases v <;> simp only at h; exact ⟨_, rfl, h⟩
  case agg => cases v <;> simp only at h; exact ⟨_, rfl, h⟩
  case map => cases v <;> simp only at h; exact ⟨_, rfl, h⟩

theorem K.el_mono {κ : K} {v : Value} {k k' : κ.T → Prop} (hk : ∀ x, k x → k' x) (h : κ.el v k) : κ.el v k' := by
  cases κ <;> simp only [K.el, elI, elB, elS, elP, elL, elA, elM, elV] at h ⊢
  all_goals (obtain ⟨x, h1, h2⟩ := h; exact ⟨x, h1, hk _ h2⟩)

theorem out1_in {κ : K} (h1 : κ ≠ .bad) {e : LEnd} {pk : Value → Prop} {k : κ.T → Prop} (h : out1 κ e pk k) : in1 κ e pk k := by
  cases e
  · exact K.out_el h1 h
  · exact h

theorem out0_in {e : LEnd} {pk : Value → Prop} {k : Prop} (h : out0 e pk k) : in0 e pk k := by
  cases e <;> exact h

theorem out2_in {κ μ : K} (h1 : κ ≠ .bad) (h2 : μ ≠ .bad) {e : LEnd} {pk : Value → Prop} {k : κ.T → μ.T → Prop} (h : out2 κ μ e pk k) : in2 κ μ e pk k := by
  cases e
  · rename_i v
    simp only [out2] at h
    split at h
    · rename_i vs
      split at h
      · rename_i a b hvs
        refine ⟨a, b, ?_, K.el_mono (fun x hx => K.out_el h2 hx) (K.out_el h1 h)⟩
        have : vs = #[a, b] := by apply Array.ext'; simpa using hvs
        rw [this]
      · exact h.elim
    · exact h.elim
  · exact h

theorem out3_in {κ μ ν : K} (h1 : κ ≠ .bad) (h2 : μ ≠ .bad) (h3 : ν ≠ .bad) {e : LEnd} {pk : Value → Prop} {k : κ.T → μ.T → ν.T → Prop} (h : out3 κ μ ν e pk k) : in3 κ μ ν e pk k := by
  cases e
  · rename_i v
    simp only [out3] at h
    split at h
    · rename_i vs
      split at h
      · rename_i a b c hvs
        refine ⟨a, b, c, ?_, K.el_mono (fun x hx => K.el_mono (fun y hy => K.out_el h3 hy) (K.out_el h2 hx)) (K.out_el h1 h)⟩
        have : vs = #[a, b, c] := by apply Array.ext'; simpa using hvs
        rw [this]
      · exact h.elim
    · exact h.elim
  · exact h

def badT : TyE := { k := .bad, sub := .none, size := 0, bytes := 0, zero := [], eqs := false }

def tyLook (l : List (Nat × TyE)) (t : Nat) : TyE :=
  match l with
  | [] => badT
  | (a, e) :: r => cond (Nat.beq a t) e (tyLook r t)

def K.isBad : K → Bool
  | .bad => true
  | _ => false

theorem agrees_of {P : Program} {l : List (Nat × TyE)} (h : l.map (fun p => cond p.2.k.isBad (some p.2) (tyOf P p.1)) = l.map (fun p => some p.2)) : Agrees P (tyLook l) := by
  intro t
  induction l with
  | nil => intro h; exact absurd rfl h
  | cons p l ih =>
    obtain ⟨a, e⟩ := p
    simp only [List.map_cons, List.cons.injEq] at h
    intro ht
    simp only [tyLook] at ht ⊢
    cases hb : Nat.beq a t with
    | true =>
      have : a = t := Nat.eq_of_beq_eq_true hb
      subst this
      have h1 := h.1
      rw [hb] at ht
      simp only [cond_true] at ht
      have hk : e.k.isBad = false := by cases hk : e.k <;> simp_all [K.isBad]
      rw [hk] at h1
      exact h1
    | false =>
      rw [hb] at ht
      exact ih h.2 ht

end Go.Abs

/-
  Garbage: what a call made and does not hand out may be forgotten.
-/
namespace Go.Abs
open Go.RowKit

def flatC : Value → Bool
  | .int _ _ => true
  | .bool _ => true
  | .string _ => true
  | .pointer none => true
  | .slice none 0 0 => true
  | .map none => true
  | .nilFunc => true
  | .nilIface => true
  | _ => false

def flatV : Value → Bool
  | .agg vs => vs.toList.all flatC
  | v => flatC v

theorem flatC_rel {φ φ' : Emb} {v v' : Value} (h : flatC v = true) (r : VRel φ' v v') : VRel φ v v' := by
  cases r <;> first | (simp [flatC] at h; done) | (constructor; done)

theorem flatV_rel {φ φ' : Emb} {v v' : Value} (h : flatV v = true) (r : VRel φ' v v') : VRel φ v v' := by
  cases v with
  | agg vs =>
    cases r with
    | agg as bs h1 h2 =>
      refine .agg _ bs h1 fun i hi => flatC_rel ?_ (h2 i hi)
      simp only [flatV, List.all_eq_true] at h
      refine h _ ?_
      simp [Array.getD_eq_getD_getElem?, hi]
  | _ => exact flatC_rel h r

/-- A value that had its like ahead of a call: its like behind the call is its like in the old way, too. -/
theorem VRel.back {φ φ' : Emb} (hle : φ.le φ') : ∀ {v v0 : Value}, VRel φ v v0 → ∀ {v' : Value}, VRel φ' v v' → VRel φ v v' := by
  intro v v0 r
  induction r with
  | undef v => intro v' _; exact .undef v'
  | skip =>
    intro v' r'
    cases r' with
    | skip => exact .skip
    | tup _ bs h1 h2 =>
      refine .tup _ bs h1 fun i hi => ?_
      have : i = 0 := by simp at hi; omega
      subst this
      exact .undef _
  | bool b => intro v' r'; cases r'; exact .bool b
  | int k n => intro v' r'; cases r'; exact .int k n
  | str s => intro v' r'; cases r'; exact .str s
  | ptr0 => intro v' r'; cases r'; exact .ptr0
  | ptr o hb =>
    intro v' r'
    cases r' with
    | ptr _ hb' =>
      have := hle _ _ hb
      rw [hb'] at this
      cases this
      exact .ptr o hb
  | sl0 => intro v' r'; cases r'; exact .sl0
  | sl o n k k' hb hn hk =>
    intro v' r'
    cases r' with
    | sl _ _ _ k'' hb' hn' hk' =>
      have := hle _ _ hb
      rw [hb'] at this
      cases this
      exact .sl o n k k'' hb hn' hk'
    | sle a a' k'' => exact .sle _ _ _
  | sle a a' k' =>
    intro v' r'
    cases r' with
    | sl o _ _ k'' hb' hn' hk' => exact .sle _ _ _
    | sle _ a' k'' => exact .sle _ _ _
  | map0 => intro v' r'; cases r'; exact .map0
  | fn f as bs cs ds h1 h2 h3 h4 ih2 ih4 =>
    intro v' r'
    cases r' with
    | fn _ _ bs' _ ds' h1' h2' h3' h4' => exact .fn f as bs' cs ds' h1' (fun i hi => ih2 i hi (h2' i hi)) h3' (fun i hi => ih4 i hi (h4' i hi))
  | nilFunc => intro v' r'; cases r'; exact .nilFunc
  | nilIface => intro v' r'; cases r'; exact .nilIface
  | iface t v v0 _ ih =>
    intro v' r'
    cases r' with
    | iface _ _ v' hv => exact .iface t v v' (ih hv)
  | agg as bs h1 h2 ih =>
    intro v' r'
    cases r' with
    | agg _ bs' h1' h2' => exact .agg as bs' h1' fun i hi => ih i hi (h2' i hi)
  | tup as bs h1 h2 ih =>
    intro v' r'
    cases r' with
    | undef => exact .undef _
    | skip => exact .skip
    | tup _ bs' h1' h2' => exact .tup as bs' h1' fun i hi => ih i hi (h2' i hi)

/-- All that was there is as it was. -/
def Keeps (H H' : AH) : Prop := H.size ≤ H'.size ∧ ∀ b, b < H.size → H'.get b = H.get b

theorem Keeps.refl (H : AH) : Keeps H H := ⟨Nat.le_refl _, fun _ _ => rfl⟩
theorem Keeps.trans {H H' H'' : AH} (h : Keeps H H') (h' : Keeps H' H'') : Keeps H H'' :=
  ⟨Nat.le_trans h.1 h'.1, fun b hb => by rw [h'.2 b (by have := h.1; omega), h.2 b hb]⟩
theorem Keeps.push {H H' : AH} (h : Keeps H H') (o : AObj) : Keeps H (H'.push o) :=
  ⟨by have := h.1; simp [AH.push]; omega, fun b hb => by have := h.1; simp only [AH.push]; rw [if_neg (by omega)]; exact h.2 b hb⟩
theorem Keeps.upd {H H' : AH} (h : Keeps H H') {b : Nat} (hb : H.size ≤ b) (o : AObj) : Keeps H (H'.upd b o) :=
  ⟨h.1, fun x hx => by simp only [AH.upd]; rw [if_neg (by omega)]; exact h.2 x hx⟩

theorem Rel.gc {W w w' : World} {φ φ' : Emb} {H H' : AH} (R : Rel W φ H w) (R' : Rel W φ' H' w') (hh : Hist φ H φ' H') (hk : Keeps H H') : Rel W φ H w' := by
  refine ⟨R'.below, R'.size, R'.tape, R'.os, R'.output, fun b B hb => R'.froz b B (hh.1 b B hb), ?_, ?_, ?_, ?_, R.out⟩
  · intro b B hb
    exact ⟨(R.dom b B hb).1, (R'.dom b B (hh.1 b B hb)).2⟩
  · intro b B hb hm i v hv
    have hlt := (R.dom b B hb).1
    obtain ⟨v0, _, h0⟩ := R.cell b B hb hm i v hv
    obtain ⟨v', hc, hr⟩ := R'.cell b B (hh.1 b B hb) (by rw [hk.2 b hlt]; exact hm) i v (by rw [hk.2 b hlt]; exact hv)
    exact ⟨v', hc, h0.back hh.1 hr⟩
  · intro b B hb hm
    have hlt := (R.dom b B hb).1
    have := R'.room b B (hh.1 b B hb) (by rw [hk.2 b hlt]; exact hm)
    rw [hk.2 b hlt] at this
    exact this
  · intro b B hb hm b' B' hb' hc
    have hlt := (R.dom b B hb).1
    have hlt' := (R.dom b' B' hb').1
    have := R'.own b B (hh.1 b B hb) (by rw [hk.2 b hlt]; exact hm) b' B' (hh.1 b' B' hb') hc
    rw [hk.2 b' hlt'] at this
    exact this

def LEnd.flat : LEnd → Bool
  | .ret v => flatV v
  | .pan v => flatV v

def LEnd.flat2 : LEnd → Bool
  | .ret (.tuple vs) => vs.toList.all flatV
  | .ret v => flatV v
  | .pan v => flatV v

theorem flat2_rel {φ φ' : Emb} {le : LEnd} {e : Ending} (h : le.flat2 = true) (r : EndRel φ' le e) : EndRel φ le e := by
  cases le with
  | ret v =>
    cases e <;> simp only [EndRel] at r ⊢
    cases v with
    | tuple vs =>
      simp only [LEnd.flat2, List.all_eq_true] at h
      cases r with
      | undef => exact .undef _
      | skip => exact .skip
      | tup _ bs h1 h2 => exact .tup _ bs h1 fun i hi => flatV_rel (h _ (by simp [Array.getD_eq_getD_getElem?, hi])) (h2 i hi)
    | _ => exact flatV_rel h r
  | pan v =>
    cases e <;> simp only [EndRel] at r ⊢
    obtain ⟨v', rfl, hv⟩ := r
    exact ⟨v', rfl, flatV_rel h hv⟩

/-- A CALL THAT LEAVES ALL AS IT WAS, AND HANDS OUT NOTHING NEW: what it made is forgotten. -/
theorem LCalls.gc {P : Program} {f : FuncId} {args : List Value} {H : AH} {Q : LEnd → Prop} (h : LCalls P f args H fun e H' => Keeps H H' ∧ Q e) (hf : ∀ e, Q e → e.flat2 = true) :
    LCalls P f args H fun e H' => H' = H ∧ Q e :=
  ⟨h.1, fun W w φ args' hl R => (h.2 W w φ args' hl R).mono fun _ _ ⟨le, φ', H', hh, he, R', hk, hq⟩ =>
    ⟨le, φ, H, Hist.refl _ _, flat2_rel (hf le hq) he, R.gc R' hh hk, rfl, hq⟩⟩

def K.flat : K → Bool
  | .int _ => true
  | .bool => true
  | .str => true
  | _ => false

theorem K.flat_inj {κ : K} (h : κ.flat = true) (x : κ.T) : flatV (κ.inj x) = true := by
  cases κ <;> simp [K.flat] at h <;> rfl

theorem K.el_inj {κ : K} (h : κ.flat = true) {v : Value} {k : κ.T → Prop} : κ.el v k ↔ ∃ x, v = κ.inj x ∧ k x := by
  cases κ <;> simp [K.flat] at h <;> simp [K.el, elI, elB, elS, K.inj]

theorem gc1 {P : Program} {f : FuncId} {args : List Value} {H : AH} {κ : K} {v : κ.T} {k : κ.T → AH → Prop} (hκ : κ.flat = true)
    (h : LCalls P f args H fun e H' => in1 κ e noPan fun r => Keeps H H' ∧ r = v) (hk : k v H) : LCalls P f args H fun e H' => in1 κ e noPan fun r => k r H' := by
  have h1 : LCalls P f args H fun e H' => Keeps H H' ∧ e = .ret (κ.inj v) := h.mono fun e H' he => by
    cases e with
    | ret x =>
      simp only [in1, onRet] at he
      obtain ⟨y, rfl, hkp, rfl⟩ := (K.el_inj hκ).1 he
      exact ⟨hkp, rfl⟩
    | pan x => exact he.elim
  refine (h1.gc (fun e he => by subst he; have := K.flat_inj hκ v; cases κ <;> first | exact this | (simp [K.flat] at hκ; done))).mono fun e H' he => ?_
  obtain ⟨rfl, rfl⟩ := he
  simp only [in1, onRet]
  exact (K.el_inj hκ).2 ⟨v, rfl, hk⟩

theorem gcI {P : Program} {f : FuncId} {args : List Value} {H : AH} {j : IntKind} (v : Int) {k : Int → AH → Prop}
    (h : LCalls P f args H fun e H' => in1 (.int j) e noPan fun (r : Int) => Keeps H H' ∧ r = v) (hk : k v H) : LCalls P f args H fun e H' => in1 (.int j) e noPan fun r => k r H' :=
  gc1 (κ := .int j) rfl h hk
theorem gcB {P : Program} {f : FuncId} {args : List Value} {H : AH} (v : Bool) {k : Bool → AH → Prop}
    (h : LCalls P f args H fun e H' => in1 .bool e noPan fun (r : Bool) => Keeps H H' ∧ r = v) (hk : k v H) : LCalls P f args H fun e H' => in1 .bool e noPan fun r => k r H' :=
  gc1 (κ := .bool) rfl h hk

end Go.Abs

/-
  The start: any world as an abstract heap; what a law's arguments look like; how a law's call ends.
-/
namespace Go.Abs
open Go.RowKit

def stE (W : World) : Emb := fun b => if b < W.heap.size then some ⟨b, 0, 0⟩ else none

open Classical in
noncomputable def absC (W : World) (v : Value) : Value :=
  match v with
  | .slice (some a) n c => if n = 0 then .slice (some a) 0 0 else if a.spot = none ∧ a.block < W.heap.size ∧ n ≤ c then .slice (some a) n 0 else undef
  | v => if VRel (stE W) v v then v else undef

theorem absC_rel (W : World) (v : Value) : VRel (stE W) (absC W v) v := by
  unfold absC
  split
  · rename_i a n c
    split
    · rename_i h; subst h; exact .sle _ _ _
    · split
      · rename_i h
        obtain ⟨b, o, s⟩ := a
        obtain ⟨h1, h2, h3⟩ := h
        simp only at h1 h2
        subst h1
        have hb : stE W b = some ⟨b, 0, 0⟩ := by simp [stE, h2]
        exact VRel.sl (B := ⟨b, 0, 0⟩) o n 0 c hb h3 (.inl rfl)
      · exact .undef _
  · split
    · assumption
    · exact .undef _

@[simp] theorem absC_int (W : World) (k : IntKind) (n : Int) : absC W (.int k n) = .int k n := by simp [absC, VRel.int]
@[simp] theorem absC_bool (W : World) (b : Bool) : absC W (.bool b) = .bool b := by simp [absC, VRel.bool]
@[simp] theorem absC_str (W : World) (s : ByteArray) : absC W (.string s) = .string s := by simp [absC, VRel.str]
@[simp] theorem absC_nil (W : World) : absC W (.slice none 0 0) = .slice none 0 0 := by simp [absC, VRel.sl0]

/-- Any world, as an abstract heap: all of it for reading alone. -/
noncomputable def stH (W : World) : AH where
  size := W.heap.size
  get b := match W.heap[b]? with
    | some (.cells c _ _) => ⟨c.toList.map (absC W), .ro, 0⟩
    | some _ => ⟨[], .ro, 0⟩
    | none => ⟨[], .dead, 0⟩

theorem stH_rel (W : World) : Rel W (stE W) (stH W) W := by
  have hdom : ∀ b B, stE W b = some B → b < W.heap.size ∧ B = ⟨b, 0, 0⟩ := by
    intro b B h
    unfold stE at h
    split at h
    · injection h with h; exact ⟨‹_›, h.symm⟩
    · cases h
  refine ⟨fun _ _ => rfl, Nat.le_refl _, rfl, rfl, rfl, fun _ _ _ _ => rfl, ?_, ?_, ?_, ?_, ?_⟩
  · intro b B h
    obtain ⟨h1, rfl⟩ := hdom b B h
    exact ⟨h1, h1⟩
  · intro b B h hm i v hv
    obtain ⟨h1, rfl⟩ := hdom b B h
    simp only [stH] at hv hm
    split at hv
    · rename_i c t fz hc
      simp only [List.getElem?_map] at hv
      cases hi : c.toList[i]? with
      | none => simp [hi] at hv
      | some x =>
        rw [hi] at hv
        simp only [Option.map_some, Option.some.injEq] at hv
        subst hv
        refine ⟨x, ?_, absC_rel W x⟩
        simp only [World.cell?, hc]
        simpa using hi
    · simp at hv
    · simp at hv
  · intro b B h hm
    simp only [stH] at hm
    split at hm <;> cases hm
  · intro b B h hm
    simp only [stH] at hm
    split at hm <;> cases hm
  · intro b hb
    have : W.heap[b]? = none := by simp; exact hb
    simp [stH, this]

theorem stH_cell {W : World} {a : Addr} {v : Value} (h : W.cell? a = some v) : (stH W).cell? a = some (absC W v) := by
  unfold World.cell? at h
  split at h
  · rename_i c t fz hc
    split at h
    · cases h
    · rename_i hs
      have hs' : a.spot.isSome = false := by simpa using hs
      simp only [AH.cell?, stH, hc, hs', Bool.false_eq_true, if_false]
      rw [if_neg (by simp)]
      simp only [List.getElem?_map, Array.getElem?_toList, h, Option.map_some]
  · cases h

/-- HOW A LAW'S CALL ENDS. -/
theorem law_calls {P : Program} {f : FuncId} {args : List Value} {args' : Array Value} {W : World} (hl : LRel (stE W) args args'.toList)
    (h : LCalls P f args (stH W) fun e _ => in1 .bool e noPan fun r => r = true) :
    Calls P f args' W fun e W' => e = .returned (.bool true) ∧ Below W.heap.size W W' ∧ ∀ a, a.block < W.heap.size → W'.frozen? a = W.frozen? a :=
  (h.2 W W (stE W) args' hl (stH_rel W)).mono fun e W' ⟨le, φ', H', _, he, R, hq⟩ => by
    cases le with
    | pan v => exact hq.elim
    | ret v =>
      simp only [in1, onRet, K.el, elB] at hq
      obtain ⟨b, hb, rfl⟩ := hq
      injection hb with hb
      subst hb
      cases e <;> simp only [EndRel] at he
      cases he
      exact ⟨rfl, ⟨R.os, R.tape, R.output, R.size, R.below⟩, fun a ha => by simp only [World.frozen?, R.below _ ha]⟩

theorem trodAll_stays {H : Type} {enc : TypeId × Value → H} {P : Program} (hl : laidOutB P = true) {W W' : World} (hb : Below W.heap.size W W') {sp : Nat → Bool} :
    ∀ {ts : List TypeId} {vs : List Value} {ds : List (DataW H)} {ps : List MemPlace}, (∀ t ∈ ts, P.readableRec t = true ∧ t < P.types.size) →
      DataW.TrodAll enc P W 0 (fun _ => true) true ts vs ds ps → (∀ x ∈ ps, x.block < W.heap.size) → (∀ x ∈ ps, sp x.block = true) → DataW.TrodAll enc P W' 0 sp true ts vs ds ps
  | [], [], [], _, _, h, _, _ => h
  | [], _ :: _, _, _, _, h, _, _ => by simp [DataW.TrodAll] at h
  | [], [], _ :: _, _, _, h, _, _ => by simp [DataW.TrodAll] at h
  | _ :: _, [], _, _, _, h, _, _ => by simp [DataW.TrodAll] at h
  | _ :: _, _ :: _, [], _, _, h, _, _ => by simp [DataW.TrodAll] at h
  | t :: ts, v :: vs, d :: ds, ps, ht, ⟨p, q, h1, h2, e⟩, hlt, hsp =>
    ⟨p, q, WideElems.Trod_stays hl (ht t (by simp)).1 (ht t (by simp)).2 h1 (fun x hx => hb.same (hlt x (by rw [e]; exact List.mem_append_left _ hx))) (fun x hx => hsp x (by rw [e]; exact List.mem_append_left _ hx)),
      trodAll_stays hl hb (fun t' h' => ht t' (by simp [h'])) h2 (fun x hx => hlt x (by rw [e]; exact List.mem_append_right _ hx)) (fun x hx => hsp x (by rw [e]; exact List.mem_append_right _ hx)), e⟩

end Go.Abs

/-
  Words for reading the printed forms.
-/
namespace Go.Abs

theorem newC_eq (H : AH) (o : AObj) (k : Nat → AH → Prop) : newC H o k = k H.size (H.push o) := rfl

theorem elI_some (j : IntKind) (n : Int) (k : Int → Prop) : elI j (some (.int j n)) k ↔ k n := by simp [elI]
theorem elB_some (b : Bool) (k : Bool → Prop) : elB (some (.bool b)) k ↔ k b := by simp [elB]
theorem elS_some (s : ByteArray) (k : ByteArray → Prop) : elS (some (.string s)) k ↔ k s := by simp [elS]
theorem elP_some (p : Option Addr) (k : Option Addr → Prop) : elP (some (.pointer p)) k ↔ k p := by simp [elP]
theorem elL_some (a : Option Addr) (n c : Nat) (k : Sl → Prop) : elL (some (.slice a n c)) k ↔ k ⟨a, n, c⟩ := by
  constructor
  · rintro ⟨⟨a', n', c'⟩, h, hk⟩
    simp only [Sl.val, Option.some.injEq, Value.slice.injEq] at h
    obtain ⟨rfl, rfl, rfl⟩ := h
    exact hk
  · intro h; exact ⟨_, rfl, h⟩
theorem elO_some {α : Type} (x : α) (k : α → Prop) : elO (some x) k ↔ k x := by simp [elO]

theorem onPtr_mk (a : Addr) (k : Addr → Prop) : onPtr (some a) k ↔ k a := Iff.rfl

theorem addr_add (b o k : Nat) : Addr.add ⟨b, o, none⟩ k = ⟨b, o + k, none⟩ := by
  unfold Addr.add
  split
  · rename_i h; subst h; rfl
  · rfl

theorem push_size (H : AH) (o : AObj) : (H.push o).size = H.size + 1 := rfl
theorem push_get (H : AH) (o : AObj) (b : Nat) : (H.push o).get b = if b = H.size then o else H.get b := rfl
theorem put_size (H : AH) (a : Addr) (vs : List Value) : (H.put a vs).size = H.size := rfl
theorem kill_size (H : AH) (b : Nat) : (H.kill b).size = H.size := rfl
theorem upd_size (H : AH) (b : Nat) (o : AObj) : (H.upd b o).size = H.size := rfl
theorem upd_get (H : AH) (b : Nat) (o : AObj) (x : Nat) : (H.upd b o).get x = if x = b then o else H.get x := rfl

theorem cell_new (H : AH) (cs : List Value) (e i : Nat) : AH.cell? (H.push ⟨cs, .rw, e⟩) ⟨H.size, i, none⟩ = cs[i]? := by
  simp [AH.cell?, push_get]
theorem cell_old {H : AH} {o : AObj} {b i : Nat} (h : b ≠ H.size) : AH.cell? (H.push o) ⟨b, i, none⟩ = AH.cell? H ⟨b, i, none⟩ := by
  simp [AH.cell?, push_get, h]
theorem row_new {H : AH} {cs : List Value} {e n : Nat} (hn : cs.length = n) (hc : cs.all cellOK = true) : AH.row? (H.push ⟨cs, .rw, e⟩) ⟨H.size, 0, none⟩ n = some cs := by
  subst hn
  simp only [AH.row?, push_get]
  simp only [Option.isSome_none, Bool.false_eq_true, if_false, if_true]
  rw [if_neg (by simp), if_pos (by simp only [List.drop_zero, List.take_length]; exact ⟨by omega, hc⟩)]
  simp
theorem row_old {H : AH} {o : AObj} {b i n : Nat} (h : b ≠ H.size) : AH.row? (H.push o) ⟨b, i, none⟩ n = AH.row? H ⟨b, i, none⟩ n := by
  simp [AH.row?, push_get, h]
theorem ldA_some {H : AH} {a : Addr} {n : Nat} {cs : List Value} {k : List Value → Prop} (h : H.row? a n = some cs) : ldA H a n k ↔ k cs := by
  simp [ldA, h]

theorem AH.ext' {H H' : AH} (h : H.size = H'.size) (hg : ∀ b, H.get b = H'.get b) : H = H' := by
  obtain ⟨s, g⟩ := H
  obtain ⟨s', g'⟩ := H'
  simp only at h hg
  obtain rfl := h
  obtain rfl : g = g' := funext hg
  rfl

theorem put_new (H : AH) (cs : List Value) (e i : Nat) (vs : List Value) : AH.put (H.push ⟨cs, .rw, e⟩) ⟨H.size, i, none⟩ vs = H.push ⟨setMany cs i vs, .rw, e⟩ := by
  refine AH.ext' rfl fun b => ?_
  simp only [AH.put, upd_get, push_get]
  split <;> simp_all
theorem put_old {H : AH} {o : AObj} {b i : Nat} {vs : List Value} (h : b ≠ H.size) : AH.put (H.push o) ⟨b, i, none⟩ vs = (AH.put H ⟨b, i, none⟩ vs).push o := by
  refine AH.ext' rfl fun x => ?_
  simp only [AH.put, upd_get, push_get, upd_size]
  by_cases hx : x = b
  · subst hx; simp [h]
  · simp [hx]
theorem canPut_new {H : AH} {cs : List Value} {e i n : Nat} : AH.canPut (H.push ⟨cs, .rw, e⟩) ⟨H.size, i, none⟩ n ↔ i + n ≤ cs.length := by
  simp [AH.canPut, push_get]
theorem canPut_old {H : AH} {o : AObj} {b i n : Nat} (h : b ≠ H.size) : AH.canPut (H.push o) ⟨b, i, none⟩ n ↔ AH.canPut H ⟨b, i, none⟩ n := by
  simp [AH.canPut, push_get, h]
theorem stC_eq (H : AH) (a : Addr) (vs : List Value) (k : AH → Prop) : stC H a vs k ↔ H.canPut a vs.length ∧ k (H.put a vs) := Iff.rfl

theorem Keeps.put {H H' : AH} (h : Keeps H H') {a : Addr} (ha : H.size ≤ a.block) (vs : List Value) : Keeps H (H'.put a vs) := h.upd ha _
theorem Keeps.kill {H H' : AH} (h : Keeps H H') {b : Nat} (hb : H.size ≤ b) : Keeps H (H'.kill b) := h.upd hb _

/-- The rule of a loop: an invariant and a measure. -/
theorem loopT_inv {τ : Type} {step : τ → AH → (τ → AH → Prop) → Prop} (I : τ → AH → Prop) (m : τ → AH → Nat)
    (hs : ∀ t H, I t H → ∀ it : τ → AH → Prop, (∀ t' H', I t' H' → m t' H' < m t H → it t' H') → step t H it) {t : τ} {H : AH} (h : I t H) : loopT step t H := by
  refine ⟨m t H + 1, ?_⟩
  have key : ∀ n t H, I t H → m t H < n → loopN step n t H := by
    intro n
    induction n with
    | zero => intro t H _ h; omega
    | succ n ih =>
      intro t H hI hm
      exact hs t H hI _ fun t' H' hI' hm' => ih t' H' hI' (by omega)
  exact key _ t H h (by omega)

theorem wrap_i64 {n : Int} (h : -9223372036854775808 ≤ n) (h' : n ≤ 9223372036854775807) : IntKind.wrap .i64 n = n := by
  simp only [IntKind.wrap, IntKind.bits, IntKind.signed]
  simp only [Bool.true_and, decide_eq_true_eq, ge_iff_le, Nat.reduceSub, Int.reducePow]
  split <;> omega

theorem wrap_u64 {n : Int} (h : 0 ≤ n) (h' : n ≤ 18446744073709551615) : IntKind.wrap .u64 n = n := by
  simp only [IntKind.wrap, IntKind.bits, IntKind.signed, Bool.false_and, Int.reducePow]
  simp only [Bool.false_eq_true, if_false]
  omega

end Go.Abs

/-
  What a law's arguments look like, off the reading.
-/
namespace Go.Abs
open Go.RowKit

theorem mapM_each {α β : Type} {f : α → Option β} : ∀ {l : List α} {r : List β}, l.mapM f = some r → ∀ x ∈ l, ∃ y, f x = some y := by
  intro l
  induction l with
  | nil => intro r _ x hx; cases hx
  | cons a l ih =>
    intro r h x hx
    rw [List.mapM_cons] at h
    cases ha : f a with
    | none => rw [ha] at h; simp at h
    | some y =>
      rw [ha] at h
      cases hl : l.mapM f with
      | none => rw [hl] at h; simp at h
      | some ys =>
        rcases List.mem_cons.1 hx with rfl | hx
        · exact ⟨y, ha⟩
        · exact ih hl x hx

/-- These cells read as a value of the type. -/
def Rd {H : Type} (enc : TypeId × Value → H) (P : Program) (W : World) (t : TypeId) (cs : List Value) : Prop :=
  ∃ fuel x, DataW.trod enc P W 0 (fun _ => true) true fuel t cs = some x

section
variable {H : Type} {enc : TypeId × Value → H} {P : Program} {W : World} {t e : TypeId} {cs : List Value}

theorem Rd.of {v : Value} {d : DataW H} {ps : List MemPlace} (h : DataW.Trod enc P W 0 (fun _ => true) true t v d ps) : Rd enc P W t v.cells.toList := by
  obtain ⟨fuel, h⟩ := h
  exact ⟨fuel, _, h⟩

theorem Rd.step (h : Rd enc P W t cs) : ∃ (r : TypeId → List Value → Option (DataW H × List MemPlace)) (x : DataW H × List MemPlace),
    (∀ t cs x, r t cs = some x → Rd enc P W t cs) ∧ DataW.trodStep enc P W 0 (fun _ => true) true r t cs = some x := by
  obtain ⟨fuel, x, h⟩ := h
  cases fuel with
  | zero => simp [DataW.trod] at h
  | succ n =>
    rw [DataW.trod_step] at h
    exact ⟨_, x, fun t cs x hx => ⟨n, x, hx⟩, h⟩

theorem Rd.int {k : IntKind} (hu : P.underlying t = some (.int k)) (h : Rd enc P W t cs) : ∃ n, cs = [.int k n] ∧ (Lit.int k n).wf = true := by
  obtain ⟨r, x, _, h⟩ := h.step
  unfold DataW.trodStep at h
  rw [hu] at h
  split at h <;> simp_all

theorem Rd.bool (hu : P.underlying t = some .bool) (h : Rd enc P W t cs) : ∃ b, cs = [.bool b] := by
  obtain ⟨r, x, _, h⟩ := h.step
  unfold DataW.trodStep at h
  rw [hu] at h
  split at h <;> simp_all

theorem Rd.str (hu : P.underlying t = some .string) (h : Rd enc P W t cs) : ∃ s, cs = [.string s] ∧ s.size ≤ maxLen := by
  obtain ⟨r, x, _, h⟩ := h.step
  unfold DataW.trodStep at h
  rw [hu] at h
  split at h <;> simp_all

theorem Rd.struct {fs : Array Field} (hu : P.underlying t = some (.struct fs)) (h : Rd enc P W t cs) :
    cs.length = P.cellsOf t ∧ ∀ f ∈ fs.toList, Rd enc P W f.type ((cs.drop f.offset).take (P.cellsOf f.type)) := by
  obtain ⟨r, x, hr, h⟩ := h.step
  simp only [DataW.trodStep, hu] at h
  split at h
  · rename_i hl
    refine ⟨hl, fun f hf => ?_⟩
    rw [Option.map_eq_some_iff] at h
    obtain ⟨xs, hm, _⟩ := h
    obtain ⟨y, hy⟩ := mapM_each hm f hf
    exact hr _ _ _ hy
  · cases h

theorem Rd.field {fs : Array Field} (hu : P.underlying t = some (.struct fs)) (h : Rd enc P W t cs) (j : Nat) {f : Field} (hf : fs[j]? = some f) :
    Rd enc P W f.type ((cs.drop f.offset).take (P.cellsOf f.type)) :=
  (h.struct hu).2 f (by rw [← Array.getElem?_toList] at hf; exact List.mem_of_getElem? hf)

theorem take_one {cs : List Value} {o : Nat} {v : Value} (h : (cs.drop o).take 1 = [v]) : cs[o]? = some v := by
  have : ((cs.drop o).take 1)[0]? = some v := by rw [h]; rfl
  rw [List.getElem?_take] at this
  simpa using this

theorem Rd.intAt {o : Nat} {k : IntKind} (hu : P.underlying t = some (.int k)) (hc : P.cellsOf t = 1) (h : Rd enc P W t ((cs.drop o).take (P.cellsOf t))) : ∃ n, cs[o]? = some (.int k n) ∧ (Lit.int k n).wf = true := by
  obtain ⟨n, h1, h2⟩ := h.int hu
  rw [hc] at h1
  exact ⟨n, take_one h1, h2⟩

theorem Rd.boolAt {o : Nat} (hu : P.underlying t = some .bool) (hc : P.cellsOf t = 1) (h : Rd enc P W t ((cs.drop o).take (P.cellsOf t))) : ∃ b, cs[o]? = some (.bool b) := by
  obtain ⟨n, h1⟩ := h.bool hu
  rw [hc] at h1
  exact ⟨n, take_one h1⟩

theorem Rd.array {n : Nat} (hu : P.underlying t = some (.array n e)) (h : Rd enc P W t cs) :
    cs.length = P.cellsOf t ∧ ∀ i, i < n → Rd enc P W e ((cs.drop (i * P.cellsOf e)).take (P.cellsOf e)) := by
  obtain ⟨r, x, hr, h⟩ := h.step
  simp only [DataW.trodStep, hu] at h
  split at h
  · rename_i hl
    refine ⟨hl, fun i hi => ?_⟩
    rw [Option.map_eq_some_iff] at h
    obtain ⟨xs, hm, _⟩ := h
    obtain ⟨y, hy⟩ := mapM_each hm i (by simpa using hi)
    exact hr _ _ _ hy
  · cases h

theorem Rd.slice (hu : P.underlying t = some (.slice e)) (h : Rd enc P W t cs) :
    cs = [.slice none 0 0] ∨ ∃ a n c, cs = [.slice (some a) n c] ∧ n ≤ c ∧ c ≤ maxLen ∧ ∀ i, i < n → ∃ row, W.cells? 0 (a.add (i * P.cellsOf e)) (P.cellsOf e) = some row ∧ Rd enc P W e row := by
  obtain ⟨r, x, hr, h⟩ := h.step
  have hs : cs = [.slice none 0 0] ∨ ∃ a n c, cs = [.slice (some a) n c] := by
    unfold DataW.trodStep at h
    rw [hu] at h
    split at h <;> simp_all
  rcases hs with rfl | ⟨a, n, c, rfl⟩
  · exact .inl rfl
  · simp only [DataW.trodStep, hu] at h
    split at h
    · rename_i hc
      rw [Option.bind_eq_some_iff] at h
      obtain ⟨xs, hm, _⟩ := h
      refine .inr ⟨a, n, c, rfl, hc.2.1, hc.2.2, fun i hi => ?_⟩
      obtain ⟨y, hy⟩ := mapM_each hm i (by simpa using hi)
      rw [Option.bind_eq_some_iff] at hy
      obtain ⟨row, h1, h2⟩ := hy
      exact ⟨row, h1, hr _ _ _ h2⟩
    · cases h

end

theorem okWide_agg {P : Program} {W : World} {t : TypeId} {v : Value} {base : Nat} {fs : Array Field} (hu : P.underlying t = some (.struct fs)) (h : Value.okWide P W .any base t v) : ∃ cs, v = .agg cs := by
  simp only [Value.okWide, hu] at h
  obtain ⟨cs, h1, _⟩ := h
  exact ⟨cs, h1⟩
theorem okWide_arr {P : Program} {W : World} {t e : TypeId} {n : Nat} {v : Value} {base : Nat} (hu : P.underlying t = some (.array n e)) (h : Value.okWide P W .any base t v) : ∃ cs, v = .agg cs := by
  simp only [Value.okWide, hu] at h
  obtain ⟨cs, h1, _⟩ := h
  exact ⟨cs, h1⟩

/-- A struct or an array by value, as the abstract machine has it. -/
theorem absAgg_rel (W : World) (cs : Array Value) : VRel (stE W) (.agg (List.toArray (cs.toList.map (absC W)))) (.agg cs) := by
  refine .agg _ _ (by simp) fun i hi => ?_
  have hi' : i < cs.size := by simpa using hi
  simp only [Array.getD_eq_getD_getElem?]
  simp only [List.getElem?_toArray, List.getElem?_map, Array.getElem?_toList, Array.getElem?_eq_getElem hi', Option.map_some, Option.getD_some]
  exact absC_rel W _

theorem LRel.nil0 {φ : Emb} : LRel φ [] [] := ⟨rfl, fun i x y h => by simp at h⟩
theorem LRel.cons0 {φ : Emb} {x y : Value} {xs ys : List Value} (h : VRel φ x y) (hs : LRel φ xs ys) : LRel φ (x :: xs) (y :: ys) := by
  refine ⟨by simp [hs.1], fun i a b ha hb => ?_⟩
  cases i with
  | zero => simp at ha hb; subst ha hb; exact h
  | succ i => simp at ha hb; exact hs.2 i a b ha hb

theorem wf_i64 {n : Int} (h : (Lit.int .i64 n).wf = true) : -9223372036854775808 ≤ n ∧ n ≤ 9223372036854775807 := by
  simp [Lit.wf, IntKind.min, IntKind.max, IntKind.signed, IntKind.bits] at h; omega
theorem wf_u64 {n : Int} (h : (Lit.int .u64 n).wf = true) : 0 ≤ n ∧ n ≤ 18446744073709551615 := by
  simp [Lit.wf, IntKind.min, IntKind.max, IntKind.signed, IntKind.bits] at h; omega
theorem wf_u8 {n : Int} (h : (Lit.int .u8 n).wf = true) : 0 ≤ n ∧ n ≤ 255 := by
  simp [Lit.wf, IntKind.min, IntKind.max, IntKind.signed, IntKind.bits] at h; omega

theorem args_stay {H : Type} {enc : TypeId × Value → H} {P : Program} (hl : laidOutB P = true) {W W' : World} (hb : Below W.heap.size W W') {sp : Nat → Bool}
    {ts : List TypeId} {vs : List Value} {ds : List (DataW H)} {ps : List MemPlace} (ht : ts.all (fun t => P.readableRec t && Nat.blt t P.types.size) = true)
    (h : DataW.TrodAll enc P W 0 (fun _ => true) true ts vs ds ps) (hlt : ∀ x ∈ ps, x.block < W.heap.size) (hsp : ∀ x ∈ ps, sp x.block = true) : DataW.TrodAll enc P W' 0 sp true ts vs ds ps := by
  refine trodAll_stays hl hb (fun t h' => ?_) h hlt hsp
  have := List.all_eq_true.1 ht t h'
  simp only [Bool.and_eq_true] at this
  exact ⟨this.1, by simpa [Nat.blt_eq] using this.2⟩

end Go.Abs

/-
  A heap with objects of the call's own, written out.
-/
namespace Go.Abs

/-- The heap H and, behind it, these objects. -/
def AH.more (H : AH) (os : List AObj) : AH where
  size := H.size + os.length
  get b := if b < H.size then H.get b else (os[b - H.size]?).getD (H.get b)

theorem push_more0 (H : AH) (o : AObj) : H.push o = H.more [o] := by
  refine AH.ext' (by simp [AH.push, AH.more]) fun b => ?_
  simp only [push_get, AH.more]
  by_cases h : b < H.size
  · rw [if_neg (by omega), if_pos h]
  · by_cases h' : b = H.size
    · subst h'; simp
    · rw [if_neg h', if_neg h]
      have : 0 < b - H.size := by omega
      obtain ⟨k, hk⟩ : ∃ k, b - H.size = k + 1 := ⟨b - H.size - 1, by omega⟩
      rw [hk]; simp

theorem push_more (H : AH) (os : List AObj) (o : AObj) : (H.more os).push o = H.more (os ++ [o]) := by
  refine AH.ext' (by simp [AH.push, AH.more]; omega) fun b => ?_
  simp only [push_get, AH.more]
  by_cases h : b < H.size
  · rw [if_neg (by omega), if_pos h, if_pos h]
  · simp only [if_neg h]
    by_cases h' : b = H.size + os.length
    · subst h'; simp
    · rw [if_neg h']
      by_cases h2 : b < H.size + os.length
      · rw [List.getElem?_append_left (by omega)]
      · rw [List.getElem?_eq_none (by omega), List.getElem?_eq_none (by simp; omega)]

theorem more_size (H : AH) (os : List AObj) : (H.more os).size = H.size + os.length := rfl
theorem more_get (H : AH) (os : List AObj) (i : Nat) : (H.more os).get (H.size + i) = (os[i]?).getD (H.get (H.size + i)) := by
  simp only [AH.more]
  rw [if_neg (by omega)]
  simp
theorem more_get0 (H : AH) (os : List AObj) : (H.more os).get H.size = (os[0]?).getD (H.get H.size) := more_get H os 0
theorem more_old (H : AH) (os : List AObj) {b : Nat} (h : b < H.size) : (H.more os).get b = H.get b := by simp [AH.more, h]

theorem more_upd (H : AH) (os : List AObj) (i : Nat) (o : AObj) (h : i < os.length) : (H.more os).upd (H.size + i) o = H.more (os.set i o) := by
  refine AH.ext' (by simp [AH.upd, AH.more]) fun b => ?_
  simp only [upd_get, AH.more]
  by_cases hb : b < H.size
  · rw [if_neg (by omega), if_pos hb, if_pos hb]
  · simp only [if_neg hb]
    by_cases h' : b = H.size + i
    · subst h'; simp [h]
    · rw [if_neg h', List.getElem?_set_ne (by omega)]

theorem more_put (H : AH) (os : List AObj) (i j : Nat) (vs : List Value) (o : AObj) (h : os[i]? = some o) :
    (H.more os).put ⟨H.size + i, j, none⟩ vs = H.more (os.set i ⟨setMany o.cells j vs, o.md, o.esz⟩) := by
  have hi : i < os.length := by
    rcases Nat.lt_or_ge i os.length with h' | h'
    · exact h'
    · rw [List.getElem?_eq_none h'] at h; cases h
  simp only [AH.put]
  rw [more_upd _ _ _ _ hi, more_get, h]
  rfl
theorem more_kill (H : AH) (os : List AObj) (i : Nat) (o : AObj) (h : os[i]? = some o) :
    (H.more os).kill (H.size + i) = H.more (os.set i ⟨o.cells, .dead, o.esz⟩) := by
  have hi : i < os.length := by
    rcases Nat.lt_or_ge i os.length with h' | h'
    · exact h'
    · rw [List.getElem?_eq_none h'] at h; cases h
  simp only [AH.kill]
  rw [more_upd _ _ _ _ hi, more_get, h]
  rfl

theorem more_cell (H : AH) (os : List AObj) (i j : Nat) (o : AObj) (h : os[i]? = some o) (hm : o.md ≠ .dead) : AH.cell? (H.more os) ⟨H.size + i, j, none⟩ = o.cells[j]? := by
  simp only [AH.cell?, more_get, h, Option.getD_some, Option.isSome_none, Bool.false_eq_true, if_false]
  rw [if_neg hm]
theorem more_row (H : AH) (os : List AObj) (i n : Nat) (o : AObj) (h : os[i]? = some o) (hm : o.md ≠ .dead) (hn : o.cells.length = n) (hc : o.cells.all cellOK = true) :
    AH.row? (H.more os) ⟨H.size + i, 0, none⟩ n = some o.cells := by
  subst hn
  simp only [AH.row?, more_get, h, Option.getD_some, Option.isSome_none, Bool.false_eq_true, if_false]
  rw [if_neg hm, if_pos (by simp only [List.drop_zero, List.take_length]; exact ⟨by omega, hc⟩)]
  simp
theorem more_canPut (H : AH) (os : List AObj) (i j n : Nat) (o : AObj) (h : os[i]? = some o) (hm : o.md = .rw) (hn : j + n ≤ o.cells.length) : AH.canPut (H.more os) ⟨H.size + i, j, none⟩ n := by
  simp only [AH.canPut, more_get, h, Option.getD_some]
  exact ⟨trivial, hm, hn⟩

theorem Keeps.more (H : AH) (os : List AObj) : Keeps H (H.more os) := ⟨by simp [more_size], fun b hb => more_old H os hb⟩

end Go.Abs

/-
  Slices among a law's arguments.
-/
namespace Go.Abs

theorem cells_first {W : World} {a : Addr} {n : Nat} {row : List Value} (hn : 0 < n) (h : W.cells? 0 a n = some row) : a.spot = none ∧ a.block < W.heap.size := by
  unfold World.cells? at h
  rw [if_pos (Nat.zero_le _)] at h
  obtain ⟨y, hy⟩ := mapM_each h 0 (by simpa using hn)
  have ha : a.add 0 = a := by simp [Addr.add]
  rw [ha] at hy
  unfold World.cell? at hy
  split at hy
  · rename_i c t fz hc
    have hb : a.block < W.heap.size := (Array.getElem?_eq_some_iff.1 hc).1
    split at hy
    · cases hy
    · rename_i hs
      exact ⟨by simpa using hs, hb⟩
  · cases hy

/-- A slice among the arguments: its like, and what is read through it. -/
theorem Rd.sliceS {H : Type} {enc : TypeId × Value → H} {P : Program} {W : World} {t e : TypeId} {v : Value} (hu : P.underlying t = some (.slice e)) (hz : 0 < P.cellsOf e) (h : Rd enc P W t [v]) :
    ∃ s : Sl, absC W v = s.val ∧ s.k = 0 ∧ s.n ≤ maxLen ∧ ∀ i, i < s.n → ∃ a row, s.a = some a ∧ a.spot = none ∧ a.block < W.heap.size ∧ W.cells? 0 (a.add (i * P.cellsOf e)) (P.cellsOf e) = some row ∧ Rd enc P W e row := by
  rcases h.slice hu with h | ⟨a, n, c, h, hn, hc, hr⟩
  · simp only [List.cons.injEq, and_true] at h
    subst h
    exact ⟨⟨none, 0, 0⟩, absC_nil W, rfl, Nat.zero_le _, fun i hi => by simp at hi⟩
  · simp only [List.cons.injEq, and_true] at h
    subst h
    by_cases h0 : n = 0
    · subst h0
      exact ⟨⟨some a, 0, 0⟩, by simp [absC], rfl, Nat.zero_le _, fun i hi => by simp at hi⟩
    · obtain ⟨row, h1, _⟩ := hr 0 (by omega)
      have ha : a.add (0 * P.cellsOf e) = a := by simp [Addr.add]
      rw [ha] at h1
      obtain ⟨hs, hb⟩ := cells_first hz h1
      refine ⟨⟨some a, n, 0⟩, ?_, rfl, Nat.le_trans hn hc, fun i hi => ?_⟩
      · simp only [absC]
        rw [if_neg h0, if_pos ⟨hs, hb, hn⟩]
      · obtain ⟨row, h1, h2⟩ := hr i hi
        exact ⟨a, row, rfl, hs, hb, h1, h2⟩

theorem Rd.sliceAt {H : Type} {enc : TypeId × Value → H} {P : Program} {W : World} {t e : TypeId} {cs : List Value} {o : Nat} (hu : P.underlying t = some (.slice e)) (hz : 0 < P.cellsOf e) (hc : P.cellsOf t = 1)
    (h : Rd enc P W t ((cs.drop o).take (P.cellsOf t))) :
    ∃ (v : Value) (s : Sl), cs[o]? = some v ∧ absC W v = s.val ∧ s.k = 0 ∧ s.n ≤ maxLen ∧ ∀ i, i < s.n → ∃ a row, s.a = some a ∧ a.spot = none ∧ a.block < W.heap.size ∧ W.cells? 0 (a.add (i * P.cellsOf e)) (P.cellsOf e) = some row ∧ Rd enc P W e row := by
  have h' := h
  rw [hc] at h'
  rcases h.slice hu with h1 | ⟨a, n, c, h1, _⟩
  all_goals
    rw [hc] at h1
    rw [h1] at h'
    obtain ⟨s, hs⟩ := Rd.sliceS hu hz h'
    exact ⟨_, s, take_one h1, hs⟩

end Go.Abs

/-
  Slices of the call's own, and their rows.
-/
namespace Go.Abs

theorem push_get_ne {H : AH} {o : AObj} {b : Nat} (h : b ≠ H.size) : (H.push o).get b = H.get b := by simp [push_get, h]
theorem kill_get_ne {H : AH} {b b' : Nat} (h : b' ≠ b) : (H.kill b).get b' = H.get b' := by simp [AH.kill, upd_get, h]

theorem flat_len {α : Type} {f : α → List Value} {z : Nat} (hf : ∀ x, (f x).length = z) (l : List α) : (l.flatMap f).length = l.length * z := by
  induction l with
  | nil => simp
  | cons a l ih => simp [ih, hf, Nat.succ_mul, Nat.add_comm]

theorem flat_row {α : Type} {f : α → List Value} {z : Nat} (hf : ∀ x, (f x).length = z) : ∀ (l : List α) (i : Nat) (x : α), l[i]? = some x → ((l.flatMap f).drop (i * z)).take z = f x := by
  intro l
  induction l with
  | nil => intro i x h; simp at h
  | cons a l ih =>
    intro i x h
    cases i with
    | zero =>
      simp only [List.getElem?_cons_zero, Option.some.injEq] at h
      subst h
      simp only [Nat.zero_mul, List.drop_zero, List.flatMap_cons]
      rw [List.take_append_of_le_length (by rw [hf]; exact Nat.le_refl _), ← hf a, List.take_length]
    | succ i =>
      simp only [List.getElem?_cons_succ] at h
      rw [← ih i x h, List.flatMap_cons, Nat.succ_mul, Nat.add_comm, ← List.drop_drop]
      congr 2
      rw [← hf a, List.drop_left]

/-- Row i of the slice, wherever it lies, is f of the list's i-th. -/
def Rows {α : Type} (H : AH) (s : Sl) (z : Nat) (f : α → List Value) (l : List α) : Prop :=
  s.n = l.length ∧ ∀ i x, l[i]? = some x → ∃ a, s.a = some a ∧ a.spot = none ∧ a.block < H.size ∧ AH.row? H ⟨a.block, a.off + i * z, none⟩ z = some (f x)

/-- A slice that the call has made, and may grow. -/
def Own {α : Type} (B : Nat) (H : AH) (s : Sl) (z : Nat) (f : α → List Value) (l : List α) : Prop :=
  (s = ⟨none, 0, 0⟩ ∧ l = []) ∨ ∃ b, s = ⟨some ⟨b, 0, none⟩, l.length, 1⟩ ∧ B ≤ b ∧ b < H.size ∧ H.get b = ⟨l.flatMap f, .rw, z⟩

theorem Own.rows {α : Type} {B : Nat} {H : AH} {s : Sl} {z : Nat} {f : α → List Value} {l : List α} (h : Own B H s z f l) (hf : ∀ x, (f x).length = z) (hc : ∀ x, (f x).all cellOK = true) : Rows H s z f l := by
  rcases h with ⟨rfl, rfl⟩ | ⟨b, rfl, _, hb, hg⟩
  · exact ⟨rfl, fun i x h => by simp at h⟩
  · refine ⟨rfl, fun i x hi => ⟨_, rfl, rfl, hb, ?_⟩⟩
    have hlt : i < l.length := (List.getElem?_eq_some_iff.1 hi).1
    have hr := flat_row hf l i x hi
    simp only [AH.row?, hg, Option.isSome_none, Bool.false_eq_true, if_false, Nat.zero_add]
    have hle : i * z + z ≤ (l.flatMap f).length := by
      rw [flat_len hf]
      calc i * z + z = (i + 1) * z := by rw [Nat.succ_mul]
        _ ≤ l.length * z := Nat.mul_le_mul_right _ hlt
    rw [if_neg (by simp), hr, if_pos ⟨hle, hc x⟩]

theorem Own.keep {α : Type} {B : Nat} {H H' : AH} {s : Sl} {z : Nat} {f : α → List Value} {l : List α} (h : Own B H s z f l) (hs : H.size ≤ H'.size) (hg : ∀ b, B ≤ b → b < H.size → H'.get b = H.get b) : Own B H' s z f l := by
  rcases h with h | ⟨b, h1, h2, h3, h4⟩
  · exact .inl h
  · exact .inr ⟨b, h1, h2, by omega, by rw [hg b h2 h3]; exact h4⟩

theorem Rows.keep {α : Type} {H H' : AH} {s : Sl} {z : Nat} {f : α → List Value} {l : List α} (h : Rows H s z f l) (hs : Keeps H H') : Rows H' s z f l := by
  refine ⟨h.1, fun i x hi => ?_⟩
  obtain ⟨a, h1, h2, h3, h4⟩ := h.2 i x hi
  refine ⟨a, h1, h2, by have := hs.1; omega, ?_⟩
  simp only [AH.row?] at h4 ⊢
  rw [hs.2 _ h3]
  exact h4

theorem Rows.at {α : Type} {H : AH} {s : Sl} {z : Nat} {f : α → List Value} {l : List α} (h : Rows H s z f l) {i : Nat} (hi : i < l.length) :
    ∃ b o, s.a = some ⟨b, o, none⟩ ∧ b < H.size ∧ AH.row? H (Addr.add ⟨b, o, none⟩ (i * z)) z = some (f (l[i])) := by
  obtain ⟨a, h1, h2, h3, h4⟩ := h.2 i l[i] (List.getElem?_eq_getElem hi)
  obtain ⟨b, o, sp⟩ := a
  simp only at h2 h3 h4
  subst h2
  exact ⟨b, o, h1, h3, by rw [addr_add]; exact h4⟩

/-- One more row is laid behind a slice of the call's own: H is the heap at the append, o the object of the row. -/
theorem append_own {α : Type} {H0 H : AH} {B : Nat} {s : Sl} {z : Nat} {f : α → List Value} {l : List α} {x : α} {k : Sl → AH → Prop} (hf : ∀ x, (f x).length = z) (hc : (f x).all cellOK = true)
    (hO : Own B H s z f l) (hB : H0.size ≤ B) (hBH : B ≤ H.size) (hK : Keeps H0 H) (hlim : l.length + 1 ≤ lim)
    (h : ∀ s' H', Own B H' s' z f (l ++ [x]) → Keeps H0 H' → H.size ≤ H'.size → (∀ b, b < H.size → (∀ a, s.a = some a → b ≠ a.block) → H'.get b = H.get b) → k s' H') :
    appendC z (H.push ⟨f x, .rw, z⟩) s ⟨some ⟨H.size, 0, none⟩, 1, 1⟩ k := by
  have hrow : AH.rowS? (H.push ⟨f x, .rw, z⟩) ⟨some ⟨H.size, 0, none⟩, 1, 1⟩ z = some (f x) := by
    simp only [AH.rowS?, Nat.one_mul]
    rw [if_neg (by simp)]
    exact row_new (hf x) hc
  have hKp := hK.push (⟨f x, .rw, z⟩ : AObj)
  have hge := hK.1
  rcases hO with ⟨rfl, rfl⟩ | ⟨b, rfl, hb1, hb2, hg⟩
  · refine ⟨le_limS (by simp [lim]) _, ?_⟩
    rw [if_neg (by simp)]
    refine ⟨_, hrow, ?_⟩
    refine h _ _ (.inr ⟨_, rfl, ?_, ?_, ?_⟩) (hKp.push _) ?_ ?_
    · simp only [push_size]; omega
    · simp [push_size]
    · simp [push_get]
    · simp [push_size]; omega
    · intro b hb _
      rw [push_get_ne (by simp only [push_size]; omega), push_get_ne (by omega)]
  · refine ⟨le_limS hlim _, ?_⟩
    rw [if_neg (by simp)]
    refine ⟨_, hrow, ⟨rfl, rfl, rfl, ?_, ?_, ?_⟩, ?_⟩
    · simp only [push_get]; rw [if_neg (by omega), hg]
    · simp only [push_get]; rw [if_neg (by omega), hg, flat_len hf]
    · simp only [push_get]; rw [if_neg (by omega), hg]
    · refine h _ _ (.inr ⟨H.size + 1, ?_, ?_, ?_, ?_⟩) ((hKp.kill (b := b) (Nat.le_trans hB hb1)).push _) ?_ ?_
      · simp [newAt, push_size]
      · omega
      · simp [push_size, kill_size]
      · simp only [push_get, kill_size, push_size, if_true]
        rw [if_neg (by omega), hg]
        simp
      · simp [push_size, kill_size]; omega
      · intro b' hb' hne
        have hne' : b' ≠ b := hne _ rfl
        rw [push_get_ne (by simp only [kill_size, push_size]; omega), kill_get_ne hne', push_get_ne (by omega)]

end Go.Abs

/-
  Lists that are appended; parts of slices.
-/
namespace Go.Abs

theorem own_len {α : Type} {B : Nat} {H : AH} {s : Sl} {z : Nat} {f : α → List Value} {l : List α} (h : Own B H s z f l) : s.n = l.length := by
  rcases h with ⟨rfl, rfl⟩ | ⟨b, rfl, _, _, _⟩ <;> rfl
theorem flat_rows {α : Type} {cells : List Value} {z : Nat} {f : α → List Value} : ∀ {l : List α} {o : Nat}, (∀ i x, l[i]? = some x → (cells.drop (o + i * z)).take z = f x ∧ (f x).length = z) → (cells.drop o).take (l.length * z) = l.flatMap f := by
  intro l
  induction l with
  | nil => intro o _; simp
  | cons a r ih =>
    intro o h
    have h0 := h 0 a rfl
    rw [Nat.zero_mul, Nat.add_zero] at h0
    have hr := ih (o := o + z) fun i x hx => by
      have := h (i + 1) x (by simpa using hx)
      rw [show o + z + i * z = o + (i + 1) * z by rw [Nat.add_mul]; omega]
      exact this
    simp only [List.length_cons, List.flatMap_cons]
    rw [Nat.add_mul, Nat.one_mul, Nat.add_comm, List.take_add, h0.1, List.drop_drop, hr]

theorem rows_flat {α : Type} {H : AH} {s : Sl} {z : Nat} {f : α → List Value} {l : List α} (hf : ∀ x, (f x).length = z) (hc : ∀ x, (f x).all cellOK = true) (h : Rows H s z f l) : AH.rowS? H s z = some (l.flatMap f) := by
  simp only [AH.rowS?]
  by_cases h0 : s.n = 0
  · rw [if_pos h0]
    have : l = [] := List.length_eq_zero_iff.1 (by rw [← h.1]; exact h0)
    subst this; rfl
  · rw [if_neg h0]
    have hpos : 0 < l.length := by rw [← h.1]; omega
    obtain ⟨b, o, ha, hb, _⟩ := h.at hpos
    have hrow : ∀ i x, l[i]? = some x → AH.row? H ⟨b, o + i * z, none⟩ z = some (f x) := by
      intro i x hx
      obtain ⟨a, e1, e2, e3, e4⟩ := h.2 i x hx
      rw [ha] at e1
      injection e1 with e1
      subst e1
      exact e4
    have hun : ∀ i x, l[i]? = some x → (H.get b).md ≠ .dead ∧ ((H.get b).cells.drop (o + i * z)).take z = f x ∧ o + i * z + z ≤ (H.get b).cells.length := by
      intro i x hx
      have := hrow i x hx
      simp only [AH.row?, Option.isSome_none, Bool.false_eq_true, if_false] at this
      split at this
      · cases this
      · rename_i hd
        split at this
        · rename_i hh
          injection this with this
          exact ⟨hd, this, hh.1⟩
        · cases this
    have hl := hun (l.length - 1) l[l.length - 1] (List.getElem?_eq_getElem (by omega))
    have hflat := flat_rows (cells := (H.get b).cells) (z := z) (f := f) (l := l) (o := o) fun i x hx => ⟨(hun i x hx).2.1, hf x⟩
    have hle : o + l.length * z ≤ (H.get b).cells.length := by
      have := hl.2.2
      obtain ⟨n, hn⟩ : ∃ n, l.length = n + 1 := ⟨l.length - 1, by omega⟩
      rw [hn] at this ⊢
      rw [Nat.add_sub_cancel] at this
      rw [Nat.add_mul]
      omega
    have hall : (l.flatMap f).all cellOK = true := by simp [List.all_flatMap, hc]
    rw [ha]
    simp only [AH.row?, Option.isSome_none, Bool.false_eq_true, if_false]
    rw [if_neg hl.1, h.1, hflat, if_pos ⟨hle, hall⟩]

theorem append_listS {α : Type} {H0 H : AH} {B : Nat} {s t : Sl} {z : Nat} {f : α → List Value} {l r : List α} {k : Sl → AH → Prop} (hf : ∀ x, (f x).length = z) (hc : ∀ x, (f x).all cellOK = true)
    (hO : Own B H s z f l) (hR : Rows H t z f r) (hB : H0.size ≤ B) (hBH : B ≤ H.size) (hK : Keeps H0 H) (hlim : l.length + r.length ≤ limS z)
    (h : ∀ s' H', Own B H' s' z f (l ++ r) → Keeps H0 H' → H.size ≤ H'.size → (∀ b, b < H.size → (∀ a, s.a = some a → b ≠ a.block) → H'.get b = H.get b) → k s' H') :
    appendC z H s t k := by
  have hrow := rows_flat hf hc hR
  have hge := hK.1
  have hs : s.n = l.length := own_len hO
  refine ⟨by rw [hs, hR.1]; exact hlim, ?_⟩
  by_cases h0 : t.n = 0
  · rw [if_pos h0]
    have : r = [] := List.length_eq_zero_iff.1 (by rw [← hR.1]; exact h0)
    subst this
    refine h _ _ (by rw [List.append_nil]; exact hO) hK (Nat.le_refl _) fun _ _ _ => rfl
  rw [if_neg h0]
  refine ⟨_, hrow, ?_⟩
  have ht := hR.1
  rcases hO with ⟨rfl, rfl⟩ | ⟨b, rfl, hb1, hb2, hg⟩
  · refine h _ _ (.inr ⟨H.size, ?_, ?_, ?_, ?_⟩) (hK.push _) (by simp [push_size]) ?_
    · simp [newAt, ht]
    · omega
    · simp [push_size]
    · simp [push_get]
    · intro b hb _; exact push_get_ne (by omega)
  · refine ⟨⟨rfl, rfl, rfl, by rw [hg], by rw [hg, flat_len hf], by rw [hg]⟩, ?_⟩
    refine h _ _ (.inr ⟨H.size, ?_, ?_, ?_, ?_⟩) ((hK.kill (b := b) (Nat.le_trans hB hb1)).push _) (by simp [push_size, kill_size]) ?_
    · simp [newAt, ht]
    · omega
    · simp [push_size, kill_size]
    · simp only [push_get, kill_size, if_true]
      rw [hg]
      simp
    · intro b' hb' hne
      have hne' : b' ≠ b := hne _ rfl
      rw [push_get_ne (by simp only [kill_size]; omega), kill_get_ne hne']

theorem append_list {α : Type} {H0 H : AH} {B : Nat} {s t : Sl} {z : Nat} {f : α → List Value} {l r : List α} {k : Sl → AH → Prop} (hf : ∀ x, (f x).length = z) (hc : ∀ x, (f x).all cellOK = true)
    (hO : Own B H s z f l) (hR : Rows H t z f r) (hB : H0.size ≤ B) (hBH : B ≤ H.size) (hK : Keeps H0 H) (hlim : l.length + r.length ≤ lim)
    (h : ∀ s' H', Own B H' s' z f (l ++ r) → Keeps H0 H' → H.size ≤ H'.size → (∀ b, b < H.size → (∀ a, s.a = some a → b ≠ a.block) → H'.get b = H.get b) → k s' H') :
    appendC z H s t k := append_listS hf hc hO hR hB hBH hK (le_limS hlim z) h
theorem rows_takeZ {α : Type} {H : AH} {s : Sl} {z : Nat} {f : α → List Value} {l : List α} {k : Nat} (h : Rows H s z f l) (hk : k ≤ l.length) : Rows H ⟨s.a, k, 0⟩ z f (l.take k) := by
  refine ⟨by simp; omega, fun i x hi => h.2 i x ?_⟩
  rw [List.getElem?_take] at hi
  split at hi
  · exact hi
  · cases hi
theorem rows_dropZ {α : Type} {H : AH} {s : Sl} {z : Nat} {f : α → List Value} {l : List α} {k : Nat} (h : Rows H s z f l) (hk : k ≤ l.length) : Rows H ⟨Option.map (fun x => Addr.add x (k * z)) s.a, s.n - k, 0⟩ z f (l.drop k) := by
  refine ⟨by simp [h.1], fun i x hi => ?_⟩
  rw [List.getElem?_drop] at hi
  obtain ⟨a, h1, h2, h3, h4⟩ := h.2 _ _ hi
  obtain ⟨b, o, sp⟩ := a
  simp only at h2 h3 h4
  subst h2
  refine ⟨⟨b, o + k * z, none⟩, by rw [h1, Option.map_some, addr_add], rfl, h3, ?_⟩
  rw [← h4]
  simp only
  congr 2
  rw [Nat.add_mul]; omega

end Go.Abs

/-
  Bytes of words, in plain numbers.
-/
namespace Go.Abs

/-- Byte j of a word. -/
def getB (v : Int) (j : Nat) : Int := (v / 2 ^ (8 * j)) % 256
/-- The word with byte j turned to c. -/
def setB (v : Int) (j : Nat) (c : Int) : Int :=
  ((((BitVec.ofInt 64 v) &&& ~~~(BitVec.ofNat 64 (255 * 2 ^ (8 * j)))) ||| (BitVec.ofNat 64 (c.toNat * 2 ^ (8 * j)))).toNat : Int)

theorem setB_range (v : Int) (j : Nat) (c : Int) : 0 ≤ setB v j c ∧ setB v j c ≤ 18446744073709551615 := by
  unfold setB
  have := (((BitVec.ofInt 64 v) &&& ~~~(BitVec.ofNat 64 (255 * 2 ^ (8 * j)))) ||| (BitVec.ofNat 64 (c.toNat * 2 ^ (8 * j)))).isLt
  omega

theorem getB_nat (n j : Nat) : getB (n : Int) j = ((n / 2 ^ (8 * j)) % 256 : Nat) := by
  unfold getB
  rw [Int.natCast_emod, Int.natCast_ediv, Int.natCast_pow]
  rfl

theorem testBit_byte (n j t : Nat) : ((n / 2 ^ (8 * j)) % 256).testBit t = (decide (t < 8) && n.testBit (8 * j + t)) := by
  have : (256 : Nat) = 2 ^ 8 := rfl
  rw [this, Nat.testBit_mod_two_pow, Nat.testBit_div_two_pow, Nat.add_comm]

theorem getB_setB_same {v c : Int} {j : Nat} (hj : j < 8) (hc : 0 ≤ c ∧ c ≤ 255) : getB (setB v j c) j = c := by
  obtain ⟨n, rfl⟩ := Int.eq_ofNat_of_zero_le hc.1
  unfold setB
  rw [getB_nat]
  congr 1
  apply Nat.eq_of_testBit_eq
  intro t
  rw [testBit_byte, BitVec.testBit_toNat]
  simp only [Int.toNat_natCast]
  have hn : n < 2 ^ 8 := by omega
  by_cases ht : t < 8
  · have h64 : 8 * j + t < 64 := by omega
    simp only [ht, decide_true, Bool.true_and, BitVec.getLsbD_or, BitVec.getLsbD_and, BitVec.getLsbD_not, BitVec.getLsbD_ofNat, h64, Nat.testBit_mul_two_pow]
    rw [show decide (8 * j + t ≥ 8 * j) = true from by simp, show 8 * j + t - 8 * j = t from by omega]
    have h255 : Nat.testBit 255 t = true := by
      have : (255 : Nat) = 2 ^ 8 - 1 := rfl
      rw [this, Nat.testBit_two_pow_sub_one]; simpa using ht
    simp [h255]
  · have : n.testBit t = false := Nat.testBit_lt_two_pow (Nat.lt_of_lt_of_le hn (Nat.pow_le_pow_right (by omega) (by omega)))
    simp [ht, this]

theorem getB_setB_other {v c : Int} {j i : Nat} (hv : 0 ≤ v ∧ v ≤ 18446744073709551615) (hj : j < 8) (hi : i < 8) (hij : i ≠ j) (hc : 0 ≤ c ∧ c ≤ 255) : getB (setB v j c) i = getB v i := by
  obtain ⟨n, rfl⟩ := Int.eq_ofNat_of_zero_le hc.1
  obtain ⟨m, rfl⟩ := Int.eq_ofNat_of_zero_le hv.1
  unfold setB
  rw [getB_nat, getB_nat]
  congr 1
  apply Nat.eq_of_testBit_eq
  intro t
  rw [testBit_byte, testBit_byte, BitVec.testBit_toNat]
  simp only [Int.toNat_natCast]
  have hn : n < 2 ^ 8 := by omega
  by_cases ht : t < 8
  · have h64 : 8 * i + t < 64 := by omega
    simp only [ht, decide_true, Bool.true_and, BitVec.getLsbD_or, BitVec.getLsbD_and, BitVec.getLsbD_not, BitVec.getLsbD_ofNat, h64, Nat.testBit_mul_two_pow, BitVec.ofInt_natCast]
    have hz : ∀ q : Nat, q < 2 ^ 8 → (decide (8 * i + t ≥ 8 * j) && q.testBit (8 * i + t - 8 * j)) = false := by
      intro q hq
      by_cases hge : 8 * i + t ≥ 8 * j
      · have : 8 ≤ 8 * i + t - 8 * j := by omega
        rw [Nat.testBit_lt_two_pow (Nat.lt_of_lt_of_le hq (Nat.pow_le_pow_right (by omega) this))]; simp
      · simp [hge]
    rw [hz 255 (by omega), hz n hn]
    simp
  · simp [ht]

/-- What the program computes for a byte of a word. -/
theorem word_get {v : Int} (hv : 0 ≤ v ∧ v ≤ 18446744073709551615) {j : Nat} (hj : j < 8) : IntKind.wrap .u8 (shrI .u64 v (8 * (j : Int))) = getB v j := by
  unfold shrI getB
  rw [show (min ((8 * (j : Int)).toNat) (IntKind.bits .u64)) = 8 * j from by simp [IntKind.bits]; omega]
  rw [Int.fdiv_eq_ediv_of_nonneg _ (Int.pow_nonneg (by omega))]
  simp only [IntKind.wrap, IntKind.bits, IntKind.signed, Bool.false_and, Int.reducePow, Bool.false_eq_true, if_false]

theorem bv_ofInt_wrap (x : Int) : BitVec.ofInt 64 (IntKind.wrap .u64 x) = BitVec.ofInt 64 x := by
  simp only [IntKind.wrap, IntKind.bits, IntKind.signed, Bool.false_and, Bool.false_eq_true, if_false]
  apply BitVec.eq_of_toInt_eq
  simp only [BitVec.toInt_ofInt]
  exact Int.emod_bmod x (2 ^ 64)

theorem wrap_nat (n : Nat) (h : n < 2 ^ 64) : IntKind.wrap .u64 (n : Int) = n := wrap_u64 (by omega) (by omega)

theorem word_set {v c : Int} (hc : 0 ≤ c ∧ c ≤ 255) {j : Nat} (hj : j < 8) :
    orI .u64 (andNotI .u64 v (shlI .u64 255 (8 * (j : Int)))) (shlI .u64 (IntKind.wrap .u64 c) (8 * (j : Int))) = setB v j c := by
  have h1 : ∀ x : Int, shlI .u64 x (8 * (j : Int)) = IntKind.wrap .u64 (x * 2 ^ (8 * j)) := by
    intro x
    unfold shlI
    rw [show (min ((8 * (j : Int)).toNat) (IntKind.bits .u64)) = 8 * j from by simp [IntKind.bits]; omega]
  have h2 : ∀ a b : Int, andNotI .u64 a b = IntKind.wrap .u64 ((BitVec.ofInt 64 a &&& ~~~(BitVec.ofInt 64 b)).toNat : Int) := fun _ _ => rfl
  have h3 : ∀ a b : Int, orI .u64 a b = IntKind.wrap .u64 ((BitVec.ofInt 64 a ||| BitVec.ofInt 64 b).toNat : Int) := fun _ _ => rfl
  rw [h3, h2, h1, h1, wrap_u64 (n := c) (by omega) (by omega), bv_ofInt_wrap, bv_ofInt_wrap, bv_ofInt_wrap, wrap_nat _ (BitVec.isLt _)]
  unfold setB
  obtain ⟨n, rfl⟩ := Int.eq_ofNat_of_zero_le hc.1
  have e1 : (255 : Int) * 2 ^ (8 * j) = ((255 * 2 ^ (8 * j) : Nat) : Int) := by rw [Int.natCast_mul, Int.natCast_pow]; rfl
  have e2 : (n : Int) * 2 ^ (8 * j) = ((n * 2 ^ (8 * j) : Nat) : Int) := by rw [Int.natCast_mul, Int.natCast_pow]; rfl
  rw [e1, e2]
  simp only [BitVec.ofInt_natCast, Int.toNat_natCast, BitVec.ofNat_toNat, BitVec.setWidth_eq]

end Go.Abs

/-
  A cell of an own slice is written.
-/
namespace Go.Abs

theorem flat_set {α : Type} {f : α → List Value} {z : Nat} (hf : ∀ x, (f x).length = z) {j : Nat} {v : Value} (hj : j < z) : ∀ (l : List α) (i : Nat) (x y : α), l[i]? = some x → f y = (f x).set j v →
    (l.flatMap f).set (i * z + j) v = (l.set i y).flatMap f := by
  intro l
  induction l with
  | nil => intro i x y h; simp at h
  | cons a l ih =>
    intro i x y h hy
    cases i with
    | zero =>
      simp only [List.getElem?_cons_zero, Option.some.injEq] at h
      subst h
      simp only [Nat.zero_mul, Nat.zero_add, List.flatMap_cons, List.set_cons_zero]
      rw [hy, List.set_append_left _ _ (by rw [hf]; exact hj)]
    | succ i =>
      simp only [List.getElem?_cons_succ] at h
      simp only [List.flatMap_cons, List.set_cons_succ]
      rw [← ih i x y h hy, List.set_append_right _ _ (by rw [hf, Nat.succ_mul]; omega)]
      congr 2
      rw [hf, Nat.succ_mul]; omega

theorem Own.cell {α : Type} {B : Nat} {H : AH} {s : Sl} {z : Nat} {f : α → List Value} {l : List α} (h : Own B H s z f l) (hf : ∀ x, (f x).length = z) {i : Nat} {x : α} (hi : l[i]? = some x) {j : Nat} (hj : j < z) :
    ∃ b, s.a = some ⟨b, 0, none⟩ ∧ B ≤ b ∧ b < H.size ∧ AH.cell? H ⟨b, i * z + j, none⟩ = (f x)[j]? := by
  rcases h with ⟨_, rfl⟩ | ⟨b, rfl, h1, h2, hg⟩
  · simp at hi
  · refine ⟨b, rfl, h1, h2, ?_⟩
    simp only [AH.cell?, hg, Option.isSome_none, Bool.false_eq_true, if_false]
    rw [if_neg (by simp)]
    have := flat_row hf l i x hi
    rw [← this, List.getElem?_take, if_pos hj, List.getElem?_drop]

theorem Own.put {α : Type} {B : Nat} {H : AH} {s : Sl} {z : Nat} {f : α → List Value} {l : List α} (h : Own B H s z f l) (hf : ∀ x, (f x).length = z) {i : Nat} {x y : α} (hi : l[i]? = some x) {j : Nat} (hj : j < z) {v : Value}
    (hy : f y = (f x).set j v) : ∃ b, s.a = some ⟨b, 0, none⟩ ∧ B ≤ b ∧ b < H.size ∧ AH.canPut H ⟨b, i * z + j, none⟩ 1 ∧ Own B (H.put ⟨b, i * z + j, none⟩ [v]) s z f (l.set i y) ∧
      ∀ b', b' ≠ b → (H.put ⟨b, i * z + j, none⟩ [v]).get b' = H.get b' := by
  rcases h with ⟨_, rfl⟩ | ⟨b, rfl, h1, h2, hg⟩
  · simp at hi
  · have hlt : i < l.length := (List.getElem?_eq_some_iff.1 hi).1
    have hle : i * z + j + 1 ≤ (l.flatMap f).length := by
      rw [flat_len hf]
      calc i * z + j + 1 ≤ i * z + z := by omega
        _ = (i + 1) * z := by rw [Nat.succ_mul]
        _ ≤ l.length * z := Nat.mul_le_mul_right _ hlt
    refine ⟨b, rfl, h1, h2, ⟨rfl, by rw [hg], by rw [hg]; exact hle⟩, .inr ⟨b, by simp, h1, h2, ?_⟩, fun b' hb' => ?_⟩
    · simp only [AH.put, upd_get, if_true, hg, setMany]
      rw [flat_set hf hj l i x y hi hy]
    · simp only [AH.put, upd_get]; rw [if_neg hb']

end Go.Abs

/-
  A call's end, laid anew: what is garbage is forgotten, what is new gets names of its own.
-/
namespace Go.Abs

/-- A value behind a call, and the value that stands for it. -/
inductive RV (ρ : Nat → Option Nat) : Value → Value → Prop where
  | flat {v : Value} (h : flatC v = true) : RV ρ v v
  | undef (v : Value) : RV ρ (.tuple #[]) v
  | ptr {b b' : Nat} (o : Nat) (h : ρ b = some b') : RV ρ (.pointer (some ⟨b, o, none⟩)) (.pointer (some ⟨b', o, none⟩))
  | sl {b b' : Nat} (o n k : Nat) (h : ρ b = some b') : RV ρ (.slice (some ⟨b, o, none⟩) n k) (.slice (some ⟨b', o, none⟩) n k)
  | agg (as bs : List Value) (h1 : as.length = bs.length) (h2 : ∀ i, i < as.length → RV ρ (as.getD i (.tuple #[])) (bs.getD i (.tuple #[]))) : RV ρ (.agg as.toArray) (.agg bs.toArray)

theorem RV.rel {ρ : Nat → Option Nat} {φ : Emb} {x y v : Value} (h : RV ρ x y) : VRel φ y v → VRel (fun b => (ρ b).bind φ) x v := by
  induction h generalizing v with
  | flat h => exact fun r => flatC_rel h r
  | undef v => exact fun _ => .undef _
  | ptr o h =>
    intro r
    cases r with
    | ptr _ hb => exact .ptr o (by simp [h, hb])
  | sl o n k h =>
    intro r
    cases r with
    | sl _ _ _ k' hb hn hk => exact .sl o n k k' (by simp [h, hb]) hn hk
    | sle a a' k' => exact .sle _ _ _
  | agg as bs h1 h2 ih =>
    intro r
    cases r with
    | agg _ cs e1 e2 =>
      refine .agg _ cs (by simpa [h1] using e1) fun i hi => ?_
      have hi' : i < as.length := by simpa using hi
      have e3 := e2 i (by simpa [← h1] using hi')
      have e4 : bs.toArray.getD i (.tuple #[]) = bs.getD i (.tuple #[]) := by simp [List.getD_eq_getElem?_getD, Array.getD_eq_getD_getElem?]
      have e5 : as.toArray.getD i (.tuple #[]) = as.getD i (.tuple #[]) := by simp [List.getD_eq_getElem?_getD, Array.getD_eq_getD_getElem?]
      rw [e4] at e3
      rw [e5]
      exact ih i hi' e3

def REnd (ρ : Nat → Option Nat) : LEnd → LEnd → Prop
  | .ret x, .ret y => RV ρ x y ∨ ∃ as bs : List Value, x = .tuple as.toArray ∧ y = .tuple bs.toArray ∧ as ≠ [] ∧ as.length = bs.length ∧ ∀ (i : Nat) (a b : Value), as[i]? = some a → bs[i]? = some b → RV ρ a b
  | .pan x, .pan y => RV ρ x y
  | _, _ => False

theorem rv_tuple {ρ : Nat → Option Nat} {φ : Emb} {as bs : List Value} {v : Value} (h0 : ∀ (i : Nat) (a b : Value), as[i]? = some a → bs[i]? = some b → RV ρ a b) (h1 : as.length = bs.length) (hne : as ≠ []) (r : VRel φ (.tuple bs.toArray) v) :
    VRel (fun b => (ρ b).bind φ) (.tuple as.toArray) v := by
  generalize hx : Value.tuple bs.toArray = x at r
  cases r with
  | undef v =>
    injection hx with hx
    have : bs = [] := by simpa using congrArg Array.toList hx
    subst this
    exact absurd (List.length_eq_zero_iff.1 h1) hne
  | skip =>
    injection hx with hx
    have hb : bs = [.tuple #[]] := by simpa using congrArg Array.toList hx
    subst hb
    match as, h1 with
    | [a], _ =>
      have h := h0 0 a _ rfl rfl
      cases h with
      | flat h => simp [flatC] at h
      | undef _ =>
        exact .skip
  | tup _ cs e1 e2 =>
    injection hx with hx
    subst hx
    refine .tup _ cs (by simpa [h1] using e1) fun i hi => ?_
    have hi' : i < as.length := by simpa using hi
    have hb : i < bs.length := by omega
    have h := h0 i as[i] bs[i] (by simp [hi']) (by simp [hb])
    have h2 := e2 i (by simpa using hb)
    have ea : as.toArray.getD i (.tuple #[]) = as[i] := by simp [Array.getD_eq_getD_getElem?, hi']
    have eb : bs.toArray.getD i (.tuple #[]) = bs[i] := by simp [Array.getD_eq_getD_getElem?, hb]
    rw [ea]
    rw [eb] at h2
    exact h.rel h2
  | _ => cases hx

theorem REnd.rel {ρ : Nat → Option Nat} {φ : Emb} {le le' : LEnd} {e : Ending} (h : REnd ρ le le') (r : EndRel φ le' e) : EndRel (fun b => (ρ b).bind φ) le e := by
  cases le with
  | ret x =>
    cases le' with
    | ret y =>
      cases e <;> simp only [EndRel] at r ⊢
      rcases h with h | ⟨as, bs, rfl, rfl, h0, h1, h2⟩
      · exact h.rel r
      · exact rv_tuple h2 h1 h0 r
    | pan y => exact h.elim
  | pan x =>
    cases le' with
    | ret y => exact h.elim
    | pan y =>
      cases e <;> simp only [EndRel] at r ⊢
      obtain ⟨v', rfl, hv⟩ := r
      exact ⟨v', rfl, RV.rel h hv⟩

/-- Objects alike. -/
def OLike (ρ : Nat → Option Nat) (o o' : AObj) : Prop :=
  o.md = o'.md ∧ o.esz = o'.esz ∧ ∀ (i : Nat) (v : Value), o.cells[i]? = some v → ∃ v', o'.cells[i]? = some v' ∧ RV ρ v v'

/-- H is the heap ahead of a call, H' the one behind it, H2 the one that stands for that. -/
structure Ren (ρ : Nat → Option Nat) (H H' H2 : AH) : Prop where
  size : H.size ≤ H2.size
  low : ∀ b, b < H.size → ρ b = some b
  src : ∀ b b', ρ b = some b' → b < H2.size
  inj : ∀ b c x, ρ b = some x → ρ c = some x → b = c
  same : ∀ b, b < H.size → H'.get b = H.get b → H2.get b = H.get b
  obj : ∀ b b', ρ b = some b' → (b < H.size ∧ H'.get b = H.get b) ∨ OLike ρ (H2.get b) (H'.get b')
  out : ∀ b, H2.size ≤ b → (H2.get b).md = .dead

theorem Rel.ren {W w w' : World} {φ φ' : Emb} {H H' H2 : AH} {ρ : Nat → Option Nat} (R : Rel W φ H w) (R' : Rel W φ' H' w') (hh : Hist φ H φ' H') (hr : Ren ρ H H' H2) :
    Rel W (fun b => (ρ b).bind φ') H2 w' ∧ Hist φ H (fun b => (ρ b).bind φ') H2 := by
  have hle : φ.le (fun b => (ρ b).bind φ') := by
    intro b B hb
    simp only [hr.low b (R.dom b B hb).1, Option.bind_some]
    exact hh.1 b B hb
  have get : ∀ {b B}, ((ρ b).bind φ') = some B → ∃ b', ρ b = some b' ∧ φ' b' = some B := by
    intro b B h
    cases hb : ρ b with
    | none => rw [hb] at h; cases h
    | some b' => rw [hb] at h; exact ⟨b', rfl, h⟩
  have old : ∀ {b B}, b < H.size → φ' b = some B → φ b = some B := by
    intro b B hb h
    cases hp : φ b with
    | none => rw [hh.2.2.1 b hb hp] at h; cases h
    | some C => rw [hh.1 b C hp] at h; exact h
  have self : ∀ {b b'}, b < H.size → ρ b = some b' → b' = b := by
    intro b b' h1 h2
    rw [hr.low b h1] at h2
    exact (Option.some.inj h2).symm
  -- modes
  have md : ∀ {b b'}, ρ b = some b' → (H2.get b).md = (H'.get b').md ∧ (H2.get b).esz = (H'.get b').esz := by
    intro b b' hb
    rcases hr.obj b b' hb with ⟨h1, h2⟩ | h
    · rw [self h1 hb, hr.same b h1 h2, h2]; exact ⟨rfl, rfl⟩
    · exact ⟨h.1, h.2.1⟩
  refine ⟨⟨R'.below, R'.size, R'.tape, R'.os, R'.output, fun b B h => by obtain ⟨b', _, h2⟩ := get h; exact R'.froz b' B h2, ?_, ?_, ?_, ?_, hr.out⟩, hle, hr.size, ?_, ?_⟩
  · intro b B h
    obtain ⟨b', h1, h2⟩ := get h
    exact ⟨hr.src b b' h1, (R'.dom b' B h2).2⟩
  · intro b B h hm i v hv
    obtain ⟨b', h1, h2⟩ := get h
    rcases hr.obj b b' h1 with ⟨h3, h4⟩ | ho
    · obtain rfl := self h3 h1
      rw [hr.same _ h3 h4] at hm hv
      have hB := old h3 h2
      obtain ⟨v0, _, hv0⟩ := R.cell _ B hB hm i v hv
      obtain ⟨v', hc, hr'⟩ := R'.cell _ B h2 (by rw [h4]; exact hm) i v (by rw [h4]; exact hv)
      exact ⟨v', hc, (hv0.back hh.1 hr').mono hle⟩
    · obtain ⟨v1, h5, h6⟩ := ho.2.2 i v hv
      obtain ⟨v', hc, hr'⟩ := R'.cell b' B h2 (by rw [← ho.1]; exact hm) i v1 h5
      exact ⟨v', hc, h6.rel hr'⟩
  · intro b B h hm
    obtain ⟨b', h1, h2⟩ := get h
    obtain ⟨e1, e2⟩ := md h1
    rw [e1] at hm
    rw [e2]
    exact R'.room b' B h2 hm
  · intro b B h hm c C h' hc
    obtain ⟨b', h1, h2⟩ := get h
    obtain ⟨c', h1', h2'⟩ := get h'
    rw [(md h1).1] at hm
    rcases R'.own b' B h2 hm c' C h2' hc with e | e
    · subst e; exact .inl (hr.inj _ _ _ h1' h1)
    · exact .inr (by rw [(md h1').1]; exact e)
  · intro b hb hn
    simp only [hr.low b hb, Option.bind_some]
    exact hh.2.2.1 b hb hn
  · intro b hb hn
    exact hr.same b hb (hh.2.2.2 b hb hn)

/-- A CALL'S END, LAID ANEW. -/
theorem LCalls.canon {P : Program} {f : FuncId} {args : List Value} {H : AH} {Q Q2 : LEnd → AH → Prop} (h : LCalls P f args H Q)
    (hc : ∀ e H', H.size ≤ H'.size → Q e H' → ∃ ρ e2 H2, Ren ρ H H' H2 ∧ REnd ρ e2 e ∧ Q2 e2 H2) : LCalls P f args H Q2 :=
  ⟨h.1, fun W w φ args' hl R => (h.2 W w φ args' hl R).mono fun _ _ ⟨le, φ', H', hh, he, R', hq⟩ => by
    obtain ⟨ρ, e2, H2, hr, hre, hq2⟩ := hc le H' hh.2.1 hq
    obtain ⟨R2, hh2⟩ := R.ren R' hh hr
    exact ⟨e2, _, H2, hh2, hre.rel he, R2, hq2⟩⟩

/-- A heap whose blocks beyond its end are dead. -/
def AH.good (H : AH) : Prop := ∀ b, H.size ≤ b → (H.get b).md = .dead

theorem LCalls.good {P : Program} {f : FuncId} {args : List Value} {H : AH} {Q : LEnd → AH → Prop} (h0 : enterable P f = true) (h : H.good → LCalls P f args H Q) : LCalls P f args H Q :=
  ⟨h0, fun W w φ args' hl R => (h R.out).2 W w φ args' hl R⟩

/-! ### ends of the usual kinds -/

def lowV (n : Nat) : Value → Bool
  | .pointer (some ⟨b, _, none⟩) => decide (b < n)
  | .slice (some ⟨b, _, none⟩) _ _ => decide (b < n)
  | v => flatC v

theorem rv_low {ρ : Nat → Option Nat} {n : Nat} (hρ : ∀ b, b < n → ρ b = some b) {v : Value} (h : lowV n v = true) : RV ρ v v := by
  unfold lowV at h
  split at h
  · rename_i b o
    exact .ptr o (hρ b (by simpa using h))
  · rename_i b o m k
    exact .sl o m k (hρ b (by simpa using h))
  · exact .flat h

theorem rv_flatV {ρ : Nat → Option Nat} {v : Value} (h : flatV v = true) : RV ρ v v := by
  cases v with
  | agg vs =>
    have := RV.agg (ρ := ρ) vs.toList vs.toList rfl (fun i hi => .flat ?_)
    · simpa using this
    · simp only [flatV, List.all_eq_true] at h
      refine h _ ?_
      rw [List.getD_eq_getElem?_getD, List.getElem?_eq_getElem hi, Option.getD_some]
      exact List.getElem_mem hi
  | _ => exact .flat h

/-- H2 has H's blocks alone, and they are there as they are in H', where each cell is of an old block. -/
structure At (H H' H2 : AH) : Prop where
  size : H2.size = H.size
  get : ∀ b, b < H.size → H'.get b = H2.get b
  out : ∀ b, H.size ≤ b → H2.get b = H.get b
  low : ∀ b, b < H.size → H2.get b = H.get b ∨ (H2.get b).cells.all (lowV H.size) = true

theorem At.of_keeps {H H' : AH} (h : Keeps H H') : At H H' H := ⟨rfl, h.2, fun _ _ => rfl, fun _ _ => .inl rfl⟩

/-- Behind a call there are, beside the old blocks, these new ones; they lay at bs. -/
theorem ren_more {ρ : Nat → Option Nat} {H H' Hu : AH} (hg : H.good) (hu : At H H' Hu) (os : List AObj) (bs : List (Option Nat)) (hl : bs.length = os.length) (hρ : ∀ b, ρ b = if b < H.size then some b else (bs[b - H.size]?).getD none)
    (hb : ∀ b, some b ∈ bs → H.size ≤ b) (hd : ∀ (i j b : Nat), bs[i]? = some (some b) → bs[j]? = some (some b) → i = j)
    (ho : ∀ (i b : Nat) (o : AObj), bs[i]? = some (some b) → os[i]? = some o → OLike ρ o (H'.get b)) : Ren ρ H H' (Hu.more os) := by
  have hs := hu.size
  have lowρ : ∀ b, b < H.size → ρ b = some b := fun b hb => by rw [hρ, if_pos hb]
  have new : ∀ {b x}, ρ b = some x → (b < H.size ∧ x = b) ∨ (H.size ≤ b ∧ bs[b - H.size]? = some (some x)) := by
    intro b x h
    rw [hρ] at h
    split at h
    · exact .inl ⟨‹_›, (Option.some.inj h).symm⟩
    · refine .inr ⟨by omega, ?_⟩
      cases hx : bs[b - H.size]? with
      | none => rw [hx] at h; cases h
      | some y => rw [hx] at h; simp at h; rw [h]
  refine ⟨by rw [more_size]; omega, lowρ, ?_, ?_, ?_, ?_, ?_⟩
  · intro b x h
    rw [more_size]
    rcases new h with ⟨h1, _⟩ | ⟨h1, h2⟩
    · omega
    · have := (List.getElem?_eq_some_iff.1 h2).1; omega
  · intro b c x h h'
    rcases new h with ⟨h1, e1⟩ | ⟨h1, h2⟩ <;> rcases new h' with ⟨h1', e1'⟩ | ⟨h1', h2'⟩
    · omega
    · have := hb x (List.mem_of_getElem? h2'); omega
    · have := hb x (List.mem_of_getElem? h2); omega
    · have := hd _ _ _ h2 h2'; omega
  · intro b hb he
    rw [more_old _ _ (by omega), ← hu.get b hb, he]
  · intro b x h
    rcases new h with ⟨h1, e1⟩ | ⟨h1, h2⟩
    · subst e1
      rw [more_old _ _ (by omega)]
      rcases hu.low _ h1 with h3 | h3
      · exact .inl ⟨h1, by rw [hu.get _ h1, h3]⟩
      · refine .inr ⟨by rw [hu.get _ h1], by rw [hu.get _ h1], fun i v hv => ⟨v, by rw [hu.get _ h1]; exact hv, ?_⟩⟩
        exact rv_low (n := H.size) lowρ (List.all_eq_true.1 h3 v (List.mem_of_getElem? hv))
    · right
      have hlt := (List.getElem?_eq_some_iff.1 h2).1
      have e : b = Hu.size + (b - H.size) := by omega
      have : (Hu.more os).get b = os[b - H.size]'(by omega) := by
        conv => lhs; rw [e]
        rw [more_get, List.getElem?_eq_getElem (by omega), Option.getD_some]
      rw [this]
      exact ho _ _ _ h2 (List.getElem?_eq_getElem (by omega))
  · intro b hb
    rw [more_size] at hb
    have e : b = Hu.size + (b - Hu.size) := by omega
    rw [e, more_get, List.getElem?_eq_none (by omega), Option.getD_none, ← e, hu.out b (by omega)]
    exact hg b (by omega)

theorem more_getI (H : AH) (os : List AObj) (b : Nat) : (H.more os).get b = if b < H.size then H.get b else (os[b - H.size]?).getD (H.get b) := rfl
theorem more_more (H : AH) (os os' : List AObj) : (H.more os).more os' = H.more (os ++ os') := by
  refine AH.ext' (by simp [more_size]; omega) fun b => ?_
  rw [more_getI, more_getI, more_getI, more_size]
  by_cases h : b < H.size
  · rw [if_pos (by omega), if_pos h, if_pos h]
  · simp only [if_neg h]
    by_cases h' : b < H.size + os.length
    · rw [if_pos h', List.getElem?_append_left (by omega)]
    · rw [if_neg h', List.getElem?_append_right (by omega), show b - (H.size + os.length) = b - H.size - os.length from by omega, List.getElem?_eq_none (by omega : os.length ≤ b - H.size)]
      rfl

theorem more_nil (H : AH) : H.more [] = H := AH.ext' (by simp [more_size]) fun b => by
  simp only [AH.more]; split
  · rfl
  · simp

theorem ren_at {H H' Hu : AH} (hg : H.good) (hu : At H H' Hu) : Ren (fun b => if b < H.size then some b else none) H H' Hu := by
  have := ren_more (ρ := fun b => if b < H.size then some b else none) hg hu [] [] rfl (fun b => by simp) (by simp) (by simp) (by simp)
  rwa [more_nil] at this

/-- The one new block, at b (or none of it). -/
def oneB (n : Nat) (b : Option Nat) : Nat → Option Nat := fun x => if x < n then some x else if x = n then b else none

theorem ren_push {H H' Hu : AH} (hg : H.good) (hu : At H H' Hu) (o : AObj) (b : Option Nat) (hb : ∀ x, b = some x → H.size ≤ x) (ho : ∀ x, b = some x → OLike (oneB H.size b) o (H'.get x)) : Ren (oneB H.size b) H H' (Hu.push o) := by
  rw [push_more0]
  refine ren_more (ρ := oneB H.size b) hg hu [o] [b] rfl (fun x => ?_) (fun x hx => hb x (by simpa [eq_comm] using hx)) ?_ ?_
  · unfold oneB
    by_cases h : x < H.size
    · simp [h]
    · by_cases h' : x = H.size
      · subst h'; simp
      · obtain ⟨k, hk⟩ : ∃ k, x - H.size = k + 1 := ⟨x - H.size - 1, by omega⟩
        simp [h, h', hk]
  · intro i j x h1 h2
    have := (List.getElem?_eq_some_iff.1 h1).1
    have := (List.getElem?_eq_some_iff.1 h2).1
    simp at *; omega
  · intro i x o' h1 h2
    have := (List.getElem?_eq_some_iff.1 h1).1
    obtain rfl : i = 0 := by simp at this; omega
    simp at h1 h2
    subst h2
    exact ho x h1

section
variable {P : Program} {f : FuncId} {args : List Value} {H H2 : AH}

theorem el_inj {κ : K} (h : κ ≠ .bad) {v : Value} {k : κ.T → Prop} : κ.el v k ↔ ∃ x, v = κ.inj x ∧ k x := by
  cases κ <;> first | exact absurd rfl h | simp [K.el, elI, elB, elS, elP, elL, elM, elV, elA, K.inj]

theorem canon0 {k : AH → Prop} (h : LCalls P f args H fun e H' => in0 e noPan (At H H' H2)) (hk : k H2) : LCalls P f args H fun e H' => in0 e noPan (k H') := by
  refine LCalls.good h.1 fun hg => h.canon fun e H' _ he => ?_
  cases e with
  | pan v => exact he.elim
  | ret v => exact ⟨_, .ret (.tuple #[]), H2, ren_at hg he, .inl (.undef _), hk⟩

theorem canon1 {κ : K} {v : κ.T} {k : κ.T → AH → Prop} (hκ : κ ≠ .bad) (hf : flatV (κ.inj v) = true) (h : LCalls P f args H fun e H' => in1 κ e noPan fun r => At H H' H2 ∧ r = v) (hk : k v H2) :
    LCalls P f args H fun e H' => in1 κ e noPan fun r => k r H' := by
  refine LCalls.good h.1 fun hg => h.canon fun e H' _ he => ?_
  cases e with
  | pan v => exact he.elim
  | ret x =>
    obtain ⟨y, rfl, ha, rfl⟩ := (el_inj hκ).1 he
    exact ⟨_, .ret _, H2, ren_at hg ha, .inl (rv_flatV hf), (el_inj hκ).2 ⟨_, rfl, hk⟩⟩

theorem canon2 {κ μ : K} {v : κ.T} {u : μ.T} {k : κ.T → μ.T → AH → Prop} (hκ : κ ≠ .bad) (hμ : μ ≠ .bad) (hf : flatV (κ.inj v) = true) (hf' : flatV (μ.inj u) = true)
    (h : LCalls P f args H fun e H' => in2 κ μ e noPan fun r s => At H H' H2 ∧ r = v ∧ s = u) (hk : k v u H2) : LCalls P f args H fun e H' => in2 κ μ e noPan fun r s => k r s H' := by
  refine LCalls.good h.1 fun hg => h.canon fun e H' _ he => ?_
  cases e with
  | pan v => exact he.elim
  | ret x =>
    obtain ⟨a, b, rfl, he1⟩ := he
    obtain ⟨y, rfl, he2⟩ := (el_inj hκ).1 he1
    obtain ⟨z, rfl, ha, rfl, rfl⟩ := (el_inj hμ).1 he2
    refine ⟨_, .ret _, H2, ren_at hg ha, .inr ⟨[κ.inj y, μ.inj z], [κ.inj y, μ.inj z], rfl, rfl, by simp, rfl, ?_⟩, ⟨_, _, rfl, (el_inj hκ).2 ⟨_, rfl, (el_inj hμ).2 ⟨_, rfl, hk⟩⟩⟩⟩
    intro i a b h1 h2
    match i with
    | 0 => simp at h1 h2; subst h1 h2; exact rv_flatV hf
    | 1 => simp at h1 h2; subst h1 h2; exact rv_flatV hf'
    | i + 2 => simp at h1

/-- A slice that lies at the block b, from its first cell on. -/
def SlAt (b n : Nat) (s : Sl) : Prop := s = ⟨some ⟨b, 0, none⟩, n, 1⟩ ∨ (n = 0 ∧ s = ⟨none, 0, 0⟩)

variable {α : Type} {z : Nat} {g : α → List Value} {l : List α}

theorem own_ren {H' : AH} {s : Sl} (hg : H.good) (hu : At H H' H2) (hO : Own H.size H' s z g l) (hc : ∀ x ∈ l, (g x).all flatC = true) :
    ∃ b s', SlAt H.size l.length s' ∧ Ren (oneB H.size b) H H' (H2.push ⟨l.flatMap g, .rw, z⟩) ∧ RV (oneB H.size b) s'.val s.val := by
  rcases hO with ⟨rfl, rfl⟩ | ⟨b, rfl, h1, h2, h3⟩
  · exact ⟨none, ⟨none, 0, 0⟩, .inr ⟨rfl, rfl⟩, ren_push hg hu _ _ (by simp) (by simp), .flat rfl⟩
  · refine ⟨some b, ⟨some ⟨H.size, 0, none⟩, l.length, 1⟩, .inl rfl, ren_push hg hu _ _ ?_ ?_, .sl _ _ _ (by simp [oneB])⟩
    · intro x hx; injection hx with hx; omega
    · intro x hx
      injection hx with hx
      subst hx
      rw [h3]
      refine ⟨rfl, rfl, fun i v hv => ⟨v, hv, .flat ?_⟩⟩
      obtain ⟨x, hx, hv⟩ := List.mem_flatMap.1 (List.mem_of_getElem? hv)
      exact List.all_eq_true.1 (hc x hx) v hv

theorem canonS {k : Sl → AH → Prop} (hc : ∀ x ∈ l, (g x).all flatC = true) (h : LCalls P f args H fun e H' => in1 .sl e noPan fun s => At H H' H2 ∧ Own H.size H' s z g l)
    (hk : ∀ s, SlAt H.size l.length s → k s (H2.push ⟨l.flatMap g, .rw, z⟩)) : LCalls P f args H fun e H' => in1 .sl e noPan fun s => k s H' := by
  refine LCalls.good h.1 fun hg => h.canon fun e H' _ he => ?_
  cases e with
  | pan v => exact he.elim
  | ret x =>
    obtain ⟨y, rfl, ha, hO⟩ := (el_inj (κ := .sl) (by simp)).1 he
    obtain ⟨b, s', h1, h2, h3⟩ := own_ren hg ha hO hc
    exact ⟨_, .ret _, _, h2, .inl h3, (el_inj (κ := .sl) (by simp)).2 ⟨s', rfl, hk s' h1⟩⟩

theorem canonS2 {μ : K} {u : μ.T} {k : Sl → μ.T → AH → Prop} (hμ : μ ≠ .bad) (hf' : flatV (μ.inj u) = true) (hc : ∀ x ∈ l, (g x).all flatC = true)
    (h : LCalls P f args H fun e H' => in2 .sl μ e noPan fun s r => At H H' H2 ∧ Own H.size H' s z g l ∧ r = u)
    (hk : ∀ s, SlAt H.size l.length s → k s u (H2.push ⟨l.flatMap g, .rw, z⟩)) : LCalls P f args H fun e H' => in2 .sl μ e noPan fun s r => k s r H' := by
  refine LCalls.good h.1 fun hg => h.canon fun e H' _ he => ?_
  cases e with
  | pan v => exact he.elim
  | ret x =>
    obtain ⟨a, b, rfl, he1⟩ := he
    obtain ⟨y, rfl, he2⟩ := (el_inj (κ := .sl) (by simp)).1 he1
    obtain ⟨z', rfl, ha, hO, rfl⟩ := (el_inj hμ).1 he2
    obtain ⟨b, s', h1, h2, h3⟩ := own_ren hg ha hO hc
    refine ⟨_, .ret (.tuple #[s'.val, μ.inj z']), _, h2, .inr ⟨[s'.val, μ.inj z'], [y.val, μ.inj z'], rfl, rfl, by simp, rfl, ?_⟩, ⟨_, _, rfl, (el_inj (κ := .sl) (by simp)).2 ⟨s', rfl, (el_inj hμ).2 ⟨_, rfl, hk s' h1⟩⟩⟩⟩
    intro i a b h1 h2
    match i with
    | 0 => simp at h1 h2; subst h1 h2; exact h3
    | 1 => simp at h1 h2; subst h1 h2; exact rv_flatV hf'
    | i + 2 => simp at h1

theorem SlAt.own {H : AH} {s : Sl} {b : Nat} {B : Nat} (h : SlAt b l.length s) (hB : B ≤ b) (hb : b < H.size) (hg : H.get b = ⟨l.flatMap g, .rw, z⟩) : Own B H s z g l := by
  rcases h with rfl | ⟨h, rfl⟩
  · exact .inr ⟨b, rfl, hB, hb, hg⟩
  · exact .inl ⟨rfl, List.length_eq_zero_iff.1 h⟩
theorem SlAt.n {b n : Nat} {s : Sl} (h : SlAt b n s) : s.n = n := by
  rcases h with rfl | ⟨h, rfl⟩
  · rfl
  · exact h.symm
end

end Go.Abs

/-
  Rows of a law's arguments; lines among them.
-/
namespace Go.Abs
open Go.RowKit

theorem absC_flat (W : World) {v : Value} (h : flatC v = true) : absC W v = v := by
  unfold flatC at h
  split at h <;> first | (simp [absC, VRel.bool, VRel.int, VRel.str, VRel.ptr0, VRel.sl0, VRel.map0, VRel.nilFunc, VRel.nilIface]; done) | cases h
theorem absC_flats (W : World) {l : List Value} (h : l.all flatC = true) : l.map (absC W) = l := by
  induction l with
  | nil => rfl
  | cons a l ih =>
    simp only [List.all_cons, Bool.and_eq_true] at h
    rw [List.map_cons, absC_flat W h.1, ih h.2]
theorem flat_ok {v : Value} (h : flatC v = true) : cellOK v = true := by
  unfold flatC at h
  split at h <;> first | rfl | cases h
theorem flats_ok {l : List Value} (h : l.all flatC = true) : l.all cellOK = true := by
  simp only [List.all_eq_true] at h ⊢
  exact fun v hv => flat_ok (h v hv)

theorem add_cell {a : Addr} (hs : a.spot = none) (n j : Nat) : (a.add n).add j = ⟨a.block, a.off + n + j, none⟩ := by
  obtain ⟨b, o, s⟩ := a
  simp only at hs
  subst hs
  rw [addr_add, addr_add]

theorem mapM_get {α β : Type} {f : α → Option β} : ∀ {l : List α} {r : List β}, l.mapM f = some r → r.length = l.length ∧ ∀ (i : Nat) (x : α), l[i]? = some x → ∃ y, r[i]? = some y ∧ f x = some y := by
  intro l
  induction l with
  | nil => intro r h; simp at h; subst h; exact ⟨rfl, fun i x h => by simp at h⟩
  | cons a l ih =>
    intro r h
    rw [List.mapM_cons] at h
    cases ha : f a with
    | none => rw [ha] at h; simp at h
    | some y =>
      rw [ha] at h
      cases hl : l.mapM f with
      | none => rw [hl] at h; simp at h
      | some ys =>
        rw [hl] at h
        simp at h
        subst h
        obtain ⟨h1, h2⟩ := ih hl
        refine ⟨by simp [h1], fun i x hx => ?_⟩
        cases i with
        | zero => simp at hx; subst hx; exact ⟨y, rfl, ha⟩
        | succ i => simp at hx; obtain ⟨z, hz, hf⟩ := h2 i x hx; exact ⟨z, by simpa using hz, hf⟩

/-- A row among the arguments, as the abstract heap has it. -/
theorem stH_row {W : World} {a : Addr} {n z : Nat} {row : List Value} (hs : a.spot = none) (h : W.cells? 0 (a.add n) z = some row) (hf : row.all flatC = true) (hz : 0 < z) :
    AH.row? (stH W) ⟨a.block, a.off + n, none⟩ z = some row := by
  unfold World.cells? at h
  rw [if_pos (Nat.zero_le _)] at h
  obtain ⟨h1, h2⟩ := mapM_get h
  have hlen : row.length = z := by simpa using h1
  have hcell : ∀ j, j < z → ∃ v, row[j]? = some v ∧ AH.cell? (stH W) ⟨a.block, a.off + n + j, none⟩ = some v := by
    intro j hj
    obtain ⟨v, hv, hc⟩ := h2 j j (by simp [hj])
    rw [add_cell hs] at hc
    refine ⟨v, hv, ?_⟩
    rw [stH_cell hc, absC_flat W (List.all_eq_true.1 hf v (List.mem_of_getElem? hv))]
  have hm : ((stH W).get a.block).md ≠ .dead := by
    intro hm
    obtain ⟨v, _, hc⟩ := hcell 0 hz
    simp [AH.cell?, hm] at hc
  have hget : ∀ j, j < z → ((stH W).get a.block).cells[a.off + n + j]? = row[j]? := by
    intro j hj
    obtain ⟨v, hv, hc⟩ := hcell j hj
    simp only [AH.cell?, Option.isSome_none, Bool.false_eq_true, if_false] at hc
    rw [if_neg hm] at hc
    rw [hc, hv]
  have hle : a.off + n + z ≤ ((stH W).get a.block).cells.length := by
    have := hget (z - 1) (by omega)
    rw [List.getElem?_eq_getElem (show z - 1 < row.length by omega)] at this
    have := (List.getElem?_eq_some_iff.1 this).1
    omega
  have htake : (((stH W).get a.block).cells.drop (a.off + n)).take z = row := by
    apply List.ext_getElem?
    intro j
    rw [List.getElem?_take]
    by_cases hj : j < z
    · rw [if_pos hj, List.getElem?_drop, hget j hj]
    · rw [if_neg hj, List.getElem?_eq_none (by omega)]
  simp only [AH.row?, Option.isSome_none, Bool.false_eq_true, if_false]
  rw [if_neg hm, htake, if_pos ⟨hle, flats_ok hf⟩]

theorem choose_list {α : Type} {p : Nat → α → Prop} : ∀ n : Nat, (∀ i, i < n → ∃ x, p i x) → ∃ l : List α, l.length = n ∧ ∀ (i : Nat) (x : α), l[i]? = some x → p i x := by
  intro n
  induction n with
  | zero => intro _; exact ⟨[], rfl, fun i x h => by simp at h⟩
  | succ n ih =>
    intro h
    obtain ⟨l, h1, h2⟩ := ih fun i hi => h i (by omega)
    obtain ⟨x, hx⟩ := h n (by omega)
    refine ⟨l ++ [x], by simp [h1], fun i y hy => ?_⟩
    by_cases hi : i < n
    · rw [List.getElem?_append_left (by omega)] at hy; exact h2 i y hy
    · rw [List.getElem?_append_right (by omega)] at hy
      have : i - l.length = 0 := by
        have := (List.getElem?_eq_some_iff.1 hy).1
        simp at this; omega
      rw [this] at hy
      simp at hy
      subst hy
      have : i = n := by omega
      subst this; exact hx

section
variable {H : Type} {enc : TypeId × Value → H} {P : Program} {W : World} {t e : TypeId} {cs : List Value}

/-- The slice's rows, read. -/
theorem rows_of {α : Type} {f : α → List Value} {ok : α → Prop} {s : Sl} {z : Nat} (hz : 0 < z) (hc : P.cellsOf e = z) (hf : ∀ x, (f x).all flatC = true) (dec : ∀ row, Rd enc P W e row → ∃ x, ok x ∧ row = f x)
    (h : s.k = 0 ∧ s.n ≤ maxLen ∧ ∀ i, i < s.n → ∃ a row, s.a = some a ∧ a.spot = none ∧ a.block < W.heap.size ∧ W.cells? 0 (a.add (i * P.cellsOf e)) (P.cellsOf e) = some row ∧ Rd enc P W e row) :
    ∃ l : List α, Rows (stH W) s z f l ∧ ∀ x ∈ l, ok x := by
  obtain ⟨l, h1, h2⟩ := choose_list (p := fun i (x : α) => ok x ∧ ∃ a, s.a = some a ∧ a.spot = none ∧ a.block < (stH W).size ∧ AH.row? (stH W) ⟨a.block, a.off + i * z, none⟩ z = some (f x)) s.n (by
    intro i hi
    obtain ⟨a, row, ha, hs, hb, hr, hrd⟩ := h.2.2 i hi
    obtain ⟨x, hx, rfl⟩ := dec row hrd
    rw [hc] at hr
    exact ⟨x, hx, a, ha, hs, hb, stH_row hs hr (hf x) hz⟩)
  exact ⟨l, ⟨h1.symm, fun i x hx => (h2 i x hx).2⟩, fun x hx => by
    obtain ⟨i, hi, hx⟩ := List.mem_iff_getElem.1 hx
    exact (h2 i x (by rw [← hx]; exact List.getElem?_eq_getElem hi)).1⟩

theorem lit_u64 {n : Int} (h : (Lit.int .u64 n).wf = true) : 0 ≤ n ∧ n ≤ 18446744073709551615 := wf_u64 h

/-- An array of eight words. -/
theorem Rd.eight {n : Nat} (hn : n = 8) (hu : P.underlying t = some (.array n e)) (he : P.underlying e = some (.int .u64)) (hce : P.cellsOf e = 1) (hct : P.cellsOf t = 8) (h : Rd enc P W t cs) :
    ∃ l : List Int, (l.length = 8 ∧ ∀ v ∈ l, 0 ≤ v ∧ v ≤ 18446744073709551615) ∧ cs = l.map fun v => Value.int .u64 v := by
  subst hn
  obtain ⟨h1, h2⟩ := h.array hu
  rw [hct] at h1
  obtain ⟨l, h3, h4⟩ := choose_list (p := fun i (x : Int) => (0 ≤ x ∧ x ≤ 18446744073709551615) ∧ cs[i]? = some (.int .u64 x)) 8 (by
    intro i hi
    obtain ⟨x, hx, hw⟩ := (h2 i hi).intAt he hce
    rw [hce, Nat.mul_one] at hx
    exact ⟨x, wf_u64 hw, hx⟩)
  refine ⟨l, ⟨h3, fun v hv => ?_⟩, ?_⟩
  · obtain ⟨i, hi, rfl⟩ := List.mem_iff_getElem.1 hv
    exact (h4 i _ (List.getElem?_eq_getElem hi)).1
  · apply List.ext_getElem?
    intro i
    by_cases hi : i < 8
    · have hl : i < l.length := by omega
      rw [(h4 i _ (List.getElem?_eq_getElem hl)).2, List.getElem?_map, List.getElem?_eq_getElem hl]; rfl
    · rw [List.getElem?_eq_none (by omega), List.getElem?_eq_none (by simp; omega)]
end
end Go.Abs

/-
  How long the slices are that come in.
-/
namespace Go.Abs
open Go.RowKit

theorem absC_len {W : World} {a : Option Addr} {n c : Nat} {s : Sl} (h : absC W (.slice a n c) = s.val) : s.n = n := by
  cases a with
  | none =>
    simp only [absC] at h
    split at h
    · simp only [Sl.val] at h; injection h with _ h2 _; exact h2.symm
    · simp [undef, Sl.val] at h
  | some a =>
    simp only [absC] at h
    split at h
    · rename_i h0
      simp only [Sl.val] at h; injection h with _ h2 _; omega
    · split at h
      · simp only [Sl.val] at h; injection h with _ h2 _; exact h2.symm
      · simp [undef, Sl.val] at h

theorem slice_fits {H : Type} {enc : TypeId × Value → H} {P : Program} {W : World} {ts : List TypeId} {ds : List (DataW H)} {j : Nat} {t e : TypeId} {a : Option Addr} {n c : Nat} {d : DataW H} {ps : List MemPlace}
    (hsz : (DataW.weightsEach P ts ds).all (· ≤ reachBytes) = true) (ht : ts[j]? = some t) (hd : ds[j]? = some d) (hu : P.underlying t = some (.slice e)) (h : DataW.Trod enc P W 0 (fun _ => true) true t (.slice a n c) d ps) :
    n * P.bytesOf e ≤ reachBytes := by
  obtain ⟨fuel, h⟩ := h
  rcases DataW.trod_slice hu h with ⟨e1, _⟩ | ⟨a', len, cap, elems, rest, _, _, e1, e2, _, _, _, e3, _⟩
  · simp only [Value.cells, List.cons.injEq, and_true] at e1
    injection e1 with _ h2 _
    subst h2
    rw [Nat.zero_mul]; exact Nat.zero_le _
  · simp only [Value.cells, List.cons.injEq, and_true] at e1
    injection e1 with _ h2 _
    injection e2 with e2 _
    subst e2
    have hs := sized_slice hsz ht hd hu
    simp only [List.length_map] at hs
    have hle : n * P.bytesOf e ≤ (elems.length + rest.length) * P.bytesOf e := Nat.mul_le_mul_right _ (by omega)
    omega
end Go.Abs

/-
  Rows that hold slices.
-/
namespace Go.Abs
open Go.RowKit

theorem stH_row' {W : World} {a : Addr} {n z : Nat} {row : List Value} (hs : a.spot = none) (h : W.cells? 0 (a.add n) z = some row) (hf : (row.map (absC W)).all cellOK = true) (hz : 0 < z) :
    AH.row? (stH W) ⟨a.block, a.off + n, none⟩ z = some (row.map (absC W)) := by
  unfold World.cells? at h
  rw [if_pos (Nat.zero_le _)] at h
  obtain ⟨h1, h2⟩ := mapM_get h
  have hlen : row.length = z := by simpa using h1
  have hcell : ∀ j, j < z → ∃ v, (row.map (absC W))[j]? = some v ∧ AH.cell? (stH W) ⟨a.block, a.off + n + j, none⟩ = some v := by
    intro j hj
    obtain ⟨v, hv, hc⟩ := h2 j j (by simp [hj])
    rw [add_cell hs] at hc
    exact ⟨absC W v, by rw [List.getElem?_map, hv]; rfl, stH_cell hc⟩
  have hm : ((stH W).get a.block).md ≠ .dead := by
    intro hm
    obtain ⟨v, _, hc⟩ := hcell 0 hz
    simp [AH.cell?, hm] at hc
  have hget : ∀ j, j < z → ((stH W).get a.block).cells[a.off + n + j]? = (row.map (absC W))[j]? := by
    intro j hj
    obtain ⟨v, hv, hc⟩ := hcell j hj
    simp only [AH.cell?, Option.isSome_none, Bool.false_eq_true, if_false] at hc
    rw [if_neg hm] at hc
    rw [hc, hv]
  have hle : a.off + n + z ≤ ((stH W).get a.block).cells.length := by
    have := hget (z - 1) (by omega)
    rw [List.getElem?_eq_getElem (show z - 1 < (row.map (absC W)).length by rw [List.length_map]; omega)] at this
    have := (List.getElem?_eq_some_iff.1 this).1
    omega
  have htake : (((stH W).get a.block).cells.drop (a.off + n)).take z = row.map (absC W) := by
    apply List.ext_getElem?
    intro j
    rw [List.getElem?_take]
    by_cases hj : j < z
    · rw [if_pos hj, List.getElem?_drop, hget j hj]
    · rw [if_neg hj, List.getElem?_eq_none (by rw [List.length_map]; omega)]
  simp only [AH.row?, Option.isSome_none, Bool.false_eq_true, if_false]
  rw [if_neg hm, htake, if_pos ⟨hle, hf⟩]

theorem rows_of' {H : Type} {enc : TypeId × Value → H} {P : Program} {W : World} {e : TypeId} {α : Type} {f : α → List Value} {ok : α → Prop} {s : Sl} {z : Nat} (hz : 0 < z) (hc : P.cellsOf e = z) (hf : ∀ x, (f x).all cellOK = true) (dec : ∀ row, Rd enc P W e row → ∃ x, ok x ∧ row.map (absC W) = f x)
    (h : s.k = 0 ∧ s.n ≤ maxLen ∧ ∀ i, i < s.n → ∃ a row, s.a = some a ∧ a.spot = none ∧ a.block < W.heap.size ∧ W.cells? 0 (a.add (i * P.cellsOf e)) (P.cellsOf e) = some row ∧ Rd enc P W e row) :
    ∃ l : List α, Rows (stH W) s z f l ∧ ∀ x ∈ l, ok x := by
  obtain ⟨l, h1, h2⟩ := choose_list (p := fun i (x : α) => ok x ∧ ∃ a, s.a = some a ∧ a.spot = none ∧ a.block < (stH W).size ∧ AH.row? (stH W) ⟨a.block, a.off + i * z, none⟩ z = some (f x)) s.n (by
    intro i hi
    obtain ⟨a, row, e1, e2, e3, e4, e5⟩ := h.2.2 i hi
    obtain ⟨x, hx, hr⟩ := dec row e5
    rw [hc] at e4
    exact ⟨x, hx, a, e1, e2, e3, by rw [← hr]; exact stH_row' e2 e4 (by rw [hr]; exact hf x) hz⟩)
  refine ⟨l, ⟨h1.symm, fun i x hi => (h2 i x hi).2⟩, fun x hx => ?_⟩
  obtain ⟨i, hi, e⟩ := List.getElem_of_mem hx
  exact (h2 i x (by rw [List.getElem?_eq_getElem hi, e])).1
end Go.Abs

/-
  A law's end, where only what came in is known not to be frozen; memory that has grown.
-/
namespace Go.Abs
open Go.ChangeShapes Go.WideShapes Go.RowKit Go.Sort

theorem post_same {H : Type} {enc : TypeId × Value → H} {P : Program} {f : Func} {s : ChangeSpec} {apart fresh handsOn again : Bool} {W W' : World} {args : Array Value} {v : Value} {ds gs : List (DataW H)} {before pa pv : List MemPlace}
    (hW : DataW.Whole enc P f.params.toList s.vars apart W args.toList ds gs before)
    (hres : ∀ (b : Nat) (sp : Nat → Bool) (hd : Bool), DataW.TrodAll enc P W' b sp hd f.resultTypes.toList (v.resultList f.resultTypes.size) (s.fn H (ds ++ gs)).results [])
    (hargs : ∀ sp : Nat → Bool, (∀ p ∈ before, sp p.block = true) → DataW.TrodAll enc P W' 0 sp true f.params.toList args.toList (s.fn H (ds ++ gs)).args pa)
    (hvars : ∀ sp : Nat → Bool, (∀ p ∈ before, sp p.block = true) → DataW.TrodVars enc P W' sp s.vars (s.fn H (ds ++ gs)).vars pv)
    (hps : before = pa ++ pv) (hk : W.keptBut W' (· ∈ before)) (hfz : ∀ a, a.block < W.heap.size → W'.frozen? a = W.frozen? a)
    (hok : ∀ (j : Nat) (t : TypeId) (r : Value), f.resultTypes[j]? = some t → (v.resultList f.resultTypes.size)[j]? = some r → Value.okWide P W' .any 0 t r) :
    s.post enc P f apart fresh handsOn again W args v W' := by
  have all : ∀ x, x ∈ before ↔ x ∈ pa ++ pv := fun x => by rw [hps]
  have lt := fun x hx => hW.lt x hx
  have keep : W.keptBut W' (fun x => x ∈ before ∧ (x ∈ ([] : List MemPlace) ∨ x ∈ pa ∨ x ∈ pv)) := World.keptBut_mono (fun x hx => ⟨hx, .inr (List.mem_append.1 ((all x).1 hx))⟩) hk
  have rd := fun sp hsp => hargs sp hsp
  have low : ∀ x ∈ before, decide (x.block < W.heap.size) = true := fun x hx => decide_eq_true (lt x hx)
  obtain ⟨_, _, _, _, _, thaw, diff⟩ := id hW
  have both := fun sp hsp => trodAll_append (rd sp hsp) (hres 0 sp true)
  refine ⟨ds, gs, before, [], pa, pv, hW, hres _ _ _, rd (fun b => decide (b < W.heap.size)) low, hvars (fun b => decide (b < W.heap.size)) low, ?_, fun _ => ⟨hok, _, _, ([] ++ pa) ++ pv, ⟨[] ++ pa, pv, both _ (fun _ _ => rfl), hvars _ (fun _ _ => rfl), rfl, fun b off hx => ?_, fun hd => ?_⟩, fun x hx _ => (all x).2 (by simpa using hx)⟩⟩
  · exact World.keptBut_mono (fun x hx => ⟨hx, .inr (by have := List.mem_append.1 ((all x).1 hx); simpa using this)⟩) hk
  · have hin := (all _).2 (by simpa using hx)
    rw [hfz ⟨b, off, none⟩ (lt _ hin)]
    exact thaw b off hin
  · have := diff hd
    rw [hps] at this
    simpa using this

/-- Memory that has grown by what nobody knows. -/
theorem Rel.grow {W w : World} {φ : Emb} {H : AH} (R : Rel W φ H w) (os : Array Obj) : Rel W φ H (grow w os) := by
  have hc : ∀ {b : Nat}, b < w.heap.size → ∀ i, (Sort.grow w os).cell? ⟨b, i, none⟩ = w.cell? ⟨b, i, none⟩ := fun h i => cell?_grow w os _ h
  have hold : ∀ b, b < w.heap.size → (Sort.grow w os).heap[b]? = w.heap[b]? := fun b hb => by
    show (w.heap ++ os)[b]? = w.heap[b]?
    exact Array.getElem?_append_left hb
  refine { below := fun b hb => ?_, size := ?_, tape := R.tape, os := R.os, output := R.output, froz := fun b B hb i => ?_, dom := fun b B hb => ?_, cell := fun b B hb hd i v hv => ?_, room := fun b B hb hm => ?_, own := R.own, out := R.out }
  · rw [hold b (Nat.lt_of_lt_of_le hb R.size)]; exact R.below b hb
  · rw [size_grow]; have := R.size; omega
  · rw [frozen?_grow w os _ (R.dom b B hb).2]; exact R.froz b B hb i
  · have := R.dom b B hb
    rw [size_grow]; exact ⟨this.1, by omega⟩
  · obtain ⟨v', h1, h2⟩ := R.cell b B hb hd i v hv
    exact ⟨v', by rw [hc (R.dom b B hb).2]; exact h1, h2⟩
  · obtain ⟨h1, h2, h3⟩ := R.room b B hb hm
    exact ⟨h1, fun i hi => by rw [hc (R.dom b B hb).2]; exact h2 i hi, h3⟩
end Go.Abs
