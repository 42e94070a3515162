import Derived.Test.YtmbipadfcbndgaaAbsW
set_option linter.all false
/-
  Garbage: what a call made and does not hand out may be forgotten.
-/
namespace Go.Abs
open Go.RowKit

def flatC : Value → Bool
  | .int _ _ => true
  | .bool _ => true
  | .string _ => true
  | .pointer none => true
  | .slice none 0 0 => true
  | .map none => true
  | .nilFunc => true
  | .nilIface => true
  | _ => false

def flatV : Value → Bool
  | .agg vs => vs.toList.all flatC
  | v => flatC v

theorem flatC_rel {φ φ' : Emb} {v v' : Value} (h : flatC v = true) (r : VRel φ' v v') : VRel φ v v' := by
  cases r <;> first | (simp [flatC] at h; done) | (constructor; done)

theorem flatV_rel {φ φ' : Emb} {v v' : Value} (h : flatV v = true) (r : VRel φ' v v') : VRel φ v v' := by
  cases v with
  | agg vs =>
    cases r with
    | agg as bs h1 h2 =>
      refine .agg _ bs h1 fun i hi => flatC_rel ?_ (h2 i hi)
      simp only [flatV, List.all_eq_true] at h
      refine h _ ?_
      simp [Array.getD_eq_getD_getElem?, hi]
  | _ => exact flatC_rel h r

/-- A value that had its like ahead of a call: its like behind the call is its like in the old way, too. -/
theorem VRel.back {φ φ' : Emb} (hle : φ.le φ') : ∀ {v v0 : Value}, VRel φ v v0 → ∀ {v' : Value}, VRel φ' v v' → VRel φ v v' := by
  intro v v0 r
  induction r with
  | undef v => intro v' _; exact .undef v'
  | skip =>
    intro v' r'
    cases r' with
    | skip => exact .skip
    | tup _ bs h1 h2 =>
      refine .tup _ bs h1 fun i hi => ?_
      have : i = 0 := by simp at hi; omega
      subst this
      exact .undef _
  | bool b => intro v' r'; cases r'; exact .bool b
  | int k n => intro v' r'; cases r'; exact .int k n
  | str s => intro v' r'; cases r'; exact .str s
  | ptr0 => intro v' r'; cases r'; exact .ptr0
  | ptr o hb =>
    intro v' r'
    cases r' with
    | ptr _ hb' =>
      have := hle _ _ hb
      rw [hb'] at this
      cases this
      exact .ptr o hb
  | sl0 => intro v' r'; cases r'; exact .sl0
  | sl o n k k' hb hn hk =>
    intro v' r'
    cases r' with
    | sl _ _ _ k'' hb' hn' hk' =>
      have := hle _ _ hb
      rw [hb'] at this
      cases this
      exact .sl o n k k'' hb hn' hk'
    | sle a a' k'' => exact .sle _ _ _
  | sle a a' k' =>
    intro v' r'
    cases r' with
    | sl o _ _ k'' hb' hn' hk' => exact .sle _ _ _
    | sle _ a' k'' => exact .sle _ _ _
  | map0 => intro v' r'; cases r'; exact .map0
  | fn f as bs cs ds h1 h2 h3 h4 ih2 ih4 =>
    intro v' r'
    cases r' with
    | fn _ _ bs' _ ds' h1' h2' h3' h4' => exact .fn f as bs' cs ds' h1' (fun i hi => ih2 i hi (h2' i hi)) h3' (fun i hi => ih4 i hi (h4' i hi))
  | nilFunc => intro v' r'; cases r'; exact .nilFunc
  | nilIface => intro v' r'; cases r'; exact .nilIface
  | iface t v v0 _ ih =>
    intro v' r'
    cases r' with
    | iface _ _ v' hv => exact .iface t v v' (ih hv)
  | agg as bs h1 h2 ih =>
    intro v' r'
    cases r' with
    | agg _ bs' h1' h2' => exact .agg as bs' h1' fun i hi => ih i hi (h2' i hi)
  | tup as bs h1 h2 ih =>
    intro v' r'
    cases r' with
    | undef => exact .undef _
    | skip => exact .skip
    | tup _ bs' h1' h2' => exact .tup as bs' h1' fun i hi => ih i hi (h2' i hi)

/-- All that was there is as it was. -/
def Keeps (H H' : AH) : Prop := H.size ≤ H'.size ∧ ∀ b, b < H.size → H'.get b = H.get b

theorem Keeps.refl (H : AH) : Keeps H H := ⟨Nat.le_refl _, fun _ _ => rfl⟩
theorem Keeps.trans {H H' H'' : AH} (h : Keeps H H') (h' : Keeps H' H'') : Keeps H H'' :=
  ⟨Nat.le_trans h.1 h'.1, fun b hb => by rw [h'.2 b (by have := h.1; omega), h.2 b hb]⟩
theorem Keeps.push {H H' : AH} (h : Keeps H H') (o : AObj) : Keeps H (H'.push o) :=
  ⟨by have := h.1; simp [AH.push]; omega, fun b hb => by have := h.1; simp only [AH.push]; rw [if_neg (by omega)]; exact h.2 b hb⟩
theorem Keeps.upd {H H' : AH} (h : Keeps H H') {b : Nat} (hb : H.size ≤ b) (o : AObj) : Keeps H (H'.upd b o) :=
  ⟨h.1, fun x hx => by simp only [AH.upd]; rw [if_neg (by omega)]; exact h.2 x hx⟩

theorem Rel.gc {W w w' : World} {φ φ' : Emb} {H H' : AH} (R : Rel W φ H w) (R' : Rel W φ' H' w') (hh : Hist φ H φ' H') (hk : Keeps H H') : Rel W φ H w' := by
  refine ⟨R'.below, R'.size, R'.tape, R'.os, R'.output, R'.froz, ?_, ?_, ?_, ?_, R.out⟩
  · intro b B hb
    exact ⟨(R.dom b B hb).1, (R'.dom b B (hh.1 b B hb)).2⟩
  · intro b B hb hm i v hv
    have hlt := (R.dom b B hb).1
    obtain ⟨v0, _, h0⟩ := R.cell b B hb hm i v hv
    obtain ⟨v', hc, hr⟩ := R'.cell b B (hh.1 b B hb) (by rw [hk.2 b hlt]; exact hm) i v (by rw [hk.2 b hlt]; exact hv)
    exact ⟨v', hc, h0.back hh.1 hr⟩
  · intro b B hb hm
    have hlt := (R.dom b B hb).1
    have := R'.room b B (hh.1 b B hb) (by rw [hk.2 b hlt]; exact hm)
    rw [hk.2 b hlt] at this
    exact this
  · intro b B hb hm b' B' hb' hc
    have hlt := (R.dom b B hb).1
    have hlt' := (R.dom b' B' hb').1
    have := R'.own b B (hh.1 b B hb) (by rw [hk.2 b hlt]; exact hm) b' B' (hh.1 b' B' hb') hc
    rw [hk.2 b' hlt'] at this
    exact this

def LEnd.flat : LEnd → Bool
  | .ret v => flatV v
  | .pan v => flatV v

def LEnd.flat2 : LEnd → Bool
  | .ret (.tuple vs) => vs.toList.all flatV
  | .ret v => flatV v
  | .pan v => flatV v

theorem flat2_rel {φ φ' : Emb} {le : LEnd} {e : Ending} (h : le.flat2 = true) (r : EndRel φ' le e) : EndRel φ le e := by
  cases le with
  | ret v =>
    cases e <;> simp only [EndRel] at r ⊢
    cases v with
    | tuple vs =>
      simp only [LEnd.flat2, List.all_eq_true] at h
      cases r with
      | undef => exact .undef _
      | skip => exact .skip
      | tup _ bs h1 h2 => exact .tup _ bs h1 fun i hi => flatV_rel (h _ (by simp [Array.getD_eq_getD_getElem?, hi])) (h2 i hi)
    | _ => exact flatV_rel h r
  | pan v =>
    cases e <;> simp only [EndRel] at r ⊢
    obtain ⟨v', rfl, hv⟩ := r
    exact ⟨v', rfl, flatV_rel h hv⟩

/-- A CALL THAT LEAVES ALL AS IT WAS, AND HANDS OUT NOTHING NEW: what it made is forgotten. -/
theorem LCalls.gc {P : Program} {f : FuncId} {args : List Value} {H : AH} {Q : LEnd → Prop} (h : LCalls P f args H fun e H' => Keeps H H' ∧ Q e) (hf : ∀ e, Q e → e.flat2 = true) :
    LCalls P f args H fun e H' => H' = H ∧ Q e :=
  ⟨h.1, fun W w φ args' hl R => (h.2 W w φ args' hl R).mono fun _ _ ⟨le, φ', H', hh, he, R', hk, hq⟩ =>
    ⟨le, φ, H, Hist.refl _ _, flat2_rel (hf le hq) he, R.gc R' hh hk, rfl, hq⟩⟩

def K.flat : K → Bool
  | .int _ => true
  | .bool => true
  | .str => true
  | _ => false

theorem K.flat_inj {κ : K} (h : κ.flat = true) (x : κ.T) : flatV (κ.inj x) = true := by
  cases κ <;> simp [K.flat] at h <;> rfl

theorem K.el_inj {κ : K} (h : κ.flat = true) {v : Value} {k : κ.T → Prop} : κ.el v k ↔ ∃ x, v = κ.inj x ∧ k x := by
  cases κ <;> simp [K.flat] at h <;> simp [K.el, elI, elB, elS, K.inj]

theorem gc1 {P : Program} {f : FuncId} {args : List Value} {H : AH} {κ : K} {v : κ.T} {k : κ.T → AH → Prop} (hκ : κ.flat = true)
    (h : LCalls P f args H fun e H' => in1 κ e noPan fun r => Keeps H H' ∧ r = v) (hk : k v H) : LCalls P f args H fun e H' => in1 κ e noPan fun r => k r H' := by
  have h1 : LCalls P f args H fun e H' => Keeps H H' ∧ e = .ret (κ.inj v) := h.mono fun e H' he => by
    cases e with
    | ret x =>
      simp only [in1, onRet] at he
      obtain ⟨y, rfl, hkp, rfl⟩ := (K.el_inj hκ).1 he
      exact ⟨hkp, rfl⟩
    | pan x => exact he.elim
  refine (h1.gc (fun e he => by subst he; have := K.flat_inj hκ v; cases κ <;> first | exact this | (simp [K.flat] at hκ; done))).mono fun e H' he => ?_
  obtain ⟨rfl, rfl⟩ := he
  simp only [in1, onRet]
  exact (K.el_inj hκ).2 ⟨v, rfl, hk⟩

theorem gcI {P : Program} {f : FuncId} {args : List Value} {H : AH} {j : IntKind} (v : Int) {k : Int → AH → Prop}
    (h : LCalls P f args H fun e H' => in1 (.int j) e noPan fun (r : Int) => Keeps H H' ∧ r = v) (hk : k v H) : LCalls P f args H fun e H' => in1 (.int j) e noPan fun r => k r H' :=
  gc1 (κ := .int j) rfl h hk
theorem gcB {P : Program} {f : FuncId} {args : List Value} {H : AH} (v : Bool) {k : Bool → AH → Prop}
    (h : LCalls P f args H fun e H' => in1 .bool e noPan fun (r : Bool) => Keeps H H' ∧ r = v) (hk : k v H) : LCalls P f args H fun e H' => in1 .bool e noPan fun r => k r H' :=
  gc1 (κ := .bool) rfl h hk

end Go.Abs
