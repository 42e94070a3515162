import Derived.Test.YtmbipadfcbndgaaAbsX
import Derived.Carry
import Derived.OpenShut
import Derived.ProofKit
set_option linter.all false
/-
  The start: any world as an abstract heap; what a law's arguments look like; how a law's call ends.
-/
namespace Go.Abs
open Go.RowKit

def stE (W : World) : Emb := fun b => if b < W.heap.size then some ⟨b, 0, 0⟩ else none

open Classical in
noncomputable def absC (W : World) (v : Value) : Value :=
  match v with
  | .slice (some a) n c => if n = 0 then .slice (some a) 0 0 else if a.spot = none ∧ a.block < W.heap.size ∧ n ≤ c then .slice (some a) n 0 else undef
  | v => if VRel (stE W) v v then v else undef

theorem absC_rel (W : World) (v : Value) : VRel (stE W) (absC W v) v := by
  unfold absC
  split
  · rename_i a n c
    split
    · rename_i h; subst h; exact .sle _ _ _
    · split
      · rename_i h
        obtain ⟨b, o, s⟩ := a
        obtain ⟨h1, h2, h3⟩ := h
        simp only at h1 h2
        subst h1
        have hb : stE W b = some ⟨b, 0, 0⟩ := by simp [stE, h2]
        exact VRel.sl (B := ⟨b, 0, 0⟩) o n 0 c hb h3 (.inl rfl)
      · exact .undef _
  · split
    · assumption
    · exact .undef _

@[simp] theorem absC_int (W : World) (k : IntKind) (n : Int) : absC W (.int k n) = .int k n := by simp [absC, VRel.int]
@[simp] theorem absC_bool (W : World) (b : Bool) : absC W (.bool b) = .bool b := by simp [absC, VRel.bool]
@[simp] theorem absC_str (W : World) (s : ByteArray) : absC W (.string s) = .string s := by simp [absC, VRel.str]
@[simp] theorem absC_nil (W : World) : absC W (.slice none 0 0) = .slice none 0 0 := by simp [absC, VRel.sl0]

/-- Any world, as an abstract heap: all of it for reading alone. -/
noncomputable def stH (W : World) : AH where
  size := W.heap.size
  get b := match W.heap[b]? with
    | some (.cells c _ _) => ⟨c.toList.map (absC W), .ro, 0⟩
    | some _ => ⟨[], .ro, 0⟩
    | none => ⟨[], .dead, 0⟩

theorem stH_rel (W : World) : Rel W (stE W) (stH W) W := by
  have hdom : ∀ b B, stE W b = some B → b < W.heap.size ∧ B = ⟨b, 0, 0⟩ := by
    intro b B h
    unfold stE at h
    split at h
    · injection h with h; exact ⟨‹_›, h.symm⟩
    · cases h
  refine ⟨fun _ _ => rfl, Nat.le_refl _, rfl, rfl, rfl, fun _ => rfl, ?_, ?_, ?_, ?_, ?_⟩
  · intro b B h
    obtain ⟨h1, rfl⟩ := hdom b B h
    exact ⟨h1, h1⟩
  · intro b B h hm i v hv
    obtain ⟨h1, rfl⟩ := hdom b B h
    simp only [stH] at hv hm
    split at hv
    · rename_i c t fz hc
      simp only [List.getElem?_map] at hv
      cases hi : c.toList[i]? with
      | none => simp [hi] at hv
      | some x =>
        rw [hi] at hv
        simp only [Option.map_some, Option.some.injEq] at hv
        subst hv
        refine ⟨x, ?_, absC_rel W x⟩
        simp only [World.cell?, hc]
        simpa using hi
    · simp at hv
    · simp at hv
  · intro b B h hm
    simp only [stH] at hm
    split at hm <;> cases hm
  · intro b B h hm
    simp only [stH] at hm
    split at hm <;> cases hm
  · intro b hb
    have : W.heap[b]? = none := by simp; exact hb
    simp [stH, this]

theorem stH_cell {W : World} {a : Addr} {v : Value} (h : W.cell? a = some v) : (stH W).cell? a = some (absC W v) := by
  unfold World.cell? at h
  split at h
  · rename_i c t fz hc
    split at h
    · cases h
    · rename_i hs
      have hs' : a.spot.isSome = false := by simpa using hs
      simp only [AH.cell?, stH, hc, hs', Bool.false_eq_true, if_false]
      rw [if_neg (by simp)]
      simp only [List.getElem?_map, Array.getElem?_toList, h, Option.map_some]
  · cases h

/-- HOW A LAW'S CALL ENDS. -/
theorem law_calls {P : Program} {f : FuncId} {args : List Value} {args' : Array Value} {W : World} (hl : LRel (stE W) args args'.toList)
    (h : LCalls P f args (stH W) fun e _ => in1 .bool e noPan fun r => r = true) :
    Calls P f args' W fun e W' => e = .returned (.bool true) ∧ Below W.heap.size W W' ∧ ∀ a, W'.frozen? a = W.frozen? a :=
  (h.2 W W (stE W) args' hl (stH_rel W)).mono fun e W' ⟨le, φ', H', _, he, R, hq⟩ => by
    cases le with
    | pan v => exact hq.elim
    | ret v =>
      simp only [in1, onRet, K.el, elB] at hq
      obtain ⟨b, hb, rfl⟩ := hq
      injection hb with hb
      subst hb
      cases e <;> simp only [EndRel] at he
      cases he
      exact ⟨rfl, ⟨R.os, R.tape, R.output, R.size, R.below⟩, R.froz⟩

theorem trodAll_stays {H : Type} {enc : TypeId × Value → H} {P : Program} (hl : laidOutB P = true) {W W' : World} (hb : Below W.heap.size W W') {sp : Nat → Bool} :
    ∀ {ts : List TypeId} {vs : List Value} {ds : List (DataW H)} {ps : List MemPlace}, (∀ t ∈ ts, P.readableRec t = true ∧ t < P.types.size) →
      DataW.TrodAll enc P W 0 (fun _ => true) true ts vs ds ps → (∀ x ∈ ps, x.block < W.heap.size) → (∀ x ∈ ps, sp x.block = true) → DataW.TrodAll enc P W' 0 sp true ts vs ds ps
  | [], [], [], _, _, h, _, _ => h
  | [], _ :: _, _, _, _, h, _, _ => by simp [DataW.TrodAll] at h
  | [], [], _ :: _, _, _, h, _, _ => by simp [DataW.TrodAll] at h
  | _ :: _, [], _, _, _, h, _, _ => by simp [DataW.TrodAll] at h
  | _ :: _, _ :: _, [], _, _, h, _, _ => by simp [DataW.TrodAll] at h
  | t :: ts, v :: vs, d :: ds, ps, ht, ⟨p, q, h1, h2, e⟩, hlt, hsp =>
    ⟨p, q, WideElems.Trod_stays hl (ht t (by simp)).1 (ht t (by simp)).2 h1 (fun x hx => hb.same (hlt x (by rw [e]; exact List.mem_append_left _ hx))) (fun x hx => hsp x (by rw [e]; exact List.mem_append_left _ hx)),
      trodAll_stays hl hb (fun t' h' => ht t' (by simp [h'])) h2 (fun x hx => hlt x (by rw [e]; exact List.mem_append_right _ hx)) (fun x hx => hsp x (by rw [e]; exact List.mem_append_right _ hx)), e⟩

end Go.Abs
