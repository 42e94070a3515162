import Derived.Test.YtmbipadfcbndgaaAbsI
set_option linter.all false
namespace Go.Abs

/-! ## Loads -/

def ldA (H : AH) (a : Addr) (n : Nat) (k : List Value → Prop) : Prop := ∃ cs : List Value, H.row? a n = some cs ∧ k cs

def AH.rowS? (H : AH) (s : Sl) (size : Nat) : Option (List Value) :=
  if s.n = 0 then some [] else
  match s.a with
  | some a => H.row? a (s.n * size)
  | none => none

def byteV (b : UInt8) : Value := .int .u8 b.toNat

def strC (H : AH) (s : Sl) (k : List UInt8 → Prop) : Prop := ∃ bs : List UInt8, H.rowS? s 1 = some (bs.map byteV) ∧ k bs

def isLoad (T : Nat → TyE) (op : Op) : Bool :=
  match op with
  | .load _ _ => true
  | .convert src dst _ => match (T src).k, (T dst).k with
    | .sl, .str => true
    | _, _ => false
  | _ => false

def loadOp (T : Nat → TyE) (ρ : Operand → Value) (op : Op) (H : AH) (k : Value → (AH → Prop) → Prop) : Prop :=
  match op with
  | .load t a =>
    match ρ a with
    | .pointer p => onPtr p fun a =>
      match (T t).k with
      | .agg => ldA H a (T t).size fun cs => k (.agg cs.toArray) fun H' => H'.row? a (T t).size = some cs
      | .bad => False
      | κ => elim κ (H.cell? a) fun v => k v fun H' => H'.cell? a = some v
    | _ => False
  | .convert src dst x =>
    match (T src).k, (T src).sub, (T dst).k, ρ x with
    | .sl, .elem e, .str, .slice a n c =>
      if (T e).k = .int .u8 then strC H ⟨a, n, c⟩ fun bs => k (.string ⟨bs.toArray⟩) fun H' => H'.rowS? ⟨a, n, c⟩ 1 = some (bs.map byteV) else False
    | _, _, _, _ => False
  | _ => False

def LoadOK (P : Program) (ρ : Operand → Value) (o : Oper) (v : Value) (rec : AH → Prop) : Prop :=
  ∀ (φ : Emb) (ρ' : Operand → Value) (W w : World) (H : AH), (∀ x ∈ o.op.operands, VRel φ (ρ x) (ρ' x)) → Rel W φ H w → rec H →
    ∃ v', (execOp ρ' o).run P w = .ok (.value v') w ∧ VRel φ v v'

section
variable {P : Program} {T : Nat → TyE}

theorem Rel.row {W w : World} {φ : Emb} {H : AH} (R : Rel W φ H w) {b o n : Nat} {B : Blk} (hb : φ b = some B) {cs : List Value} (h : H.row? ⟨b, o, none⟩ n = some cs) :
    ∃ cs' : List Value, LRel φ cs cs' ∧ (∀ j v, cs'[j]? = some v → w.cell? ((⟨B.c, o, none⟩ : Addr).add j) = some v) ∧ ∀ v ∈ cs', v.oneCell' = true := by
  obtain ⟨_, hlen, hall, hd, hc⟩ := AH.row?_cell h
  have step : ∀ j, j < cs.length → ∃ v', w.cell? ⟨B.c, o + j, none⟩ = some v' ∧ ∀ v, cs[j]? = some v → VRel φ v v' := by
    intro j hj
    obtain ⟨v', h1, h2⟩ := R.load hb (hc j _ (List.getElem?_eq_getElem hj))
    exact ⟨v', h1, fun v hv => by rw [List.getElem?_eq_getElem hj] at hv; injection hv with hv; subst hv; exact h2⟩
  refine ⟨(List.range cs.length).map fun j => ((w.cell? ⟨B.c, o + j, none⟩).getD undef), ⟨by simp, ?_⟩, ?_, ?_⟩
  · intro i x y hx hy
    have hi : i < cs.length := (List.getElem?_eq_some_iff.1 hx).1
    obtain ⟨v', h1, h2⟩ := step i hi
    simp [List.getElem?_map, List.getElem?_range hi, h1] at hy
    subst hy
    exact h2 x hx
  · intro j v hv
    have hi : j < cs.length := by
      have := (List.getElem?_eq_some_iff.1 hv).1
      simpa using this
    obtain ⟨v', h1, _⟩ := step j hi
    simp [List.getElem?_map, List.getElem?_range hi, h1] at hv
    subst hv
    rw [add_off]
    exact h1
  · intro v hv
    simp only [List.mem_map, List.mem_range] at hv
    obtain ⟨j, hj, rfl⟩ := hv
    obtain ⟨v', h1, h2⟩ := step j hj
    rw [h1]
    simp only [Option.getD_some]
    have hj' := List.getElem?_eq_getElem hj
    exact (h2 _ hj').oneCell (List.all_eq_true.1 hall _ (List.getElem_mem hj))

theorem run_loadCells_rel {W w : World} {φ : Emb} {H : AH} (R : Rel W φ H w) {b o n : Nat} {B : Blk} (hb : φ b = some B) {cs : List Value} (h : H.row? ⟨b, o, none⟩ n = some cs) :
    ∃ cs' : List Value, LRel φ cs cs' ∧ (∀ v ∈ cs', v.oneCell' = true) ∧ (loadCells ⟨B.c, o, none⟩ n).run P w = .ok cs'.toArray w := by
  obtain ⟨cs', h1, h2, h3⟩ := R.row hb h
  refine ⟨cs', h1, h3, ?_⟩
  have hn : n = cs'.length := by rw [← h1.1]; exact (AH.row?_cell h).2.1.symm
  rw [hn]
  exact run_loadCells_list w _ cs' h2

theorem bytes_of_rel {φ : Emb} : ∀ (bs : List UInt8) (cs' : List Value), LRel φ (bs.map byteV) cs' → cs' = bs.map byteV := by
  intro bs
  induction bs with
  | nil => intro cs' h; have := h.1; simpa using this.symm
  | cons b bs ih =>
    intro cs' h
    obtain _ | ⟨c, cs'⟩ := cs'
    · have := h.1; simp at this
    have h0 := h.2 0 (byteV b) c (by simp) rfl
    cases h0
    rw [ih cs' ⟨by have := h.1; simpa using this, fun i x y hx hy => h.2 (i + 1) x y (by simpa using hx) (by simpa using hy)⟩]
    rfl

theorem run_bytesLoop (w : World) (f : Value → ByteArray → Sem (ForInStep ByteArray)) (hf : ∀ b s, f (byteV b) s = pure (ForInStep.yield (s.push (UInt8.ofNat ((b.toNat : Int)).toNat)))) :
    ∀ (bs : List UInt8) (acc : ByteArray), ((forIn (m := Sem) (bs.map byteV).toArray acc f).run P w) = .ok ⟨acc.data ++ bs.toArray⟩ w := by
  intro bs
  induction bs with
  | nil => intro acc; simp
  | cons b bs ih =>
    intro acc
    have := ih (acc.push (UInt8.ofNat ((b.toNat : Int)).toNat))
    rw [← Array.forIn_toList] at this ⊢
    simp only [List.map_cons, List.forIn_cons, hf, Sem.run_bind, Sem.run_pure, Result.andThen_ok]
    rw [this]
    congr 2
    simp

/-- What was read stays when a new object is laid. -/
def Stays (rec : AH → Prop) : Prop := ∀ (H : AH) (ob : AObj), (∀ b, H.size ≤ b → (H.get b).md = .dead) → rec H → rec (H.push ob)

theorem stays_cell (a : Addr) (v : Value) : Stays fun H => H.cell? a = some v := by
  intro H ob hout h
  unfold AH.cell? at h ⊢
  split at h
  · cases h
  · rename_i hs
    rw [if_neg hs]
    split at h
    · cases h
    · rename_i hd
      have hne : a.block ≠ H.size := fun e => hd (hout _ (by omega))
      simp only [AH.push, hne, if_false, hd]
      exact h

theorem stays_row (a : Addr) (n : Nat) (cs : List Value) : Stays fun H => H.row? a n = some cs := by
  intro H ob hout h
  unfold AH.row? at h ⊢
  split at h
  · cases h
  · rename_i hs
    rw [if_neg hs]
    split at h
    · cases h
    · rename_i hd
      have hne : a.block ≠ H.size := fun e => hd (hout _ (by omega))
      simp only [AH.push, hne, if_false, hd]
      exact h

theorem stays_rowS (s : Sl) (n : Nat) (cs : List Value) : Stays fun H => H.rowS? s n = some cs := by
  intro H ob hout h
  unfold AH.rowS? at h ⊢
  split at h
  · rename_i h0; rw [if_pos h0]; exact h
  · rename_i h0
    rw [if_neg h0]
    split at h
    · exact stays_row _ _ cs H ob hout h
    · cases h

theorem load_sound (hT : Agrees P T) {ρ : Operand → Value} {o : Oper} {H : AH} {k : Value → (AH → Prop) → Prop} (h : loadOp T ρ o.op H k) :
    ∃ v rec, k v rec ∧ rec H ∧ LoadOK P ρ o v rec ∧ Stays rec := by
  obtain ⟨dst, op, type, pos, after, guard⟩ := o
  simp only at h
  unfold LoadOK
  simp only
  cases op with
  | load t a =>
    simp only [loadOp] at h
    split at h
    · rename_i p hp
      obtain ⟨a0, rfl, h⟩ := onPtr_some h
      split at h
      · rename_i hk
        obtain ⟨cs, hrow, hkv⟩ := h
        refine ⟨_, _, hkv, hrow, fun φ ρ' W w H' hr R hrec => ?_, stays_row _ _ _⟩
        have hx := hr a (by simp [Op.operands])
        rw [hp] at hx
        obtain ⟨b, B, o, rfl, hb, he⟩ := vrel_ptr hx
        obtain ⟨cs', h1, _, h3⟩ := run_loadCells_rel (P := P) R hb hrec
        exact ⟨_, by simp [execOp, Instr.loadAt, he, Instr.sureAddr, loadVar, hT.isAgg hk, run_sizeOf hT (t := t) (by simp [hk]), h3], h1.agg⟩
      · exact h.elim
      · rename_i hna hnb
        change elim (T t).k (H.cell? a0) (fun v => k v fun H' => H'.cell? a0 = some v) at h
        obtain ⟨v, hv, hkv⟩ := elim_some h
        refine ⟨_, _, hkv, hv, fun φ ρ' W w H' hr R hrec => ?_, stays_cell _ _⟩
        have hx := hr a (by simp [Op.operands])
        rw [hp] at hx
        obtain ⟨b, B, o, rfl, hb, he⟩ := vrel_ptr hx
        obtain ⟨v', h1, h2⟩ := R.load hb hrec
        exact ⟨v', by simp [execOp, Instr.loadAt, he, Instr.sureAddr, loadVar, hT.notAgg hnb hna, h1], h2⟩
    · exact h.elim
  | convert src dst x =>
    simp only [loadOp] at h
    split at h
    · rename_i e a n c hk hs hd hx
      split at h
      · rename_i he
        obtain ⟨bs, hrow, hkv⟩ := h
        refine ⟨_, _, hkv, hrow, fun φ ρ' W w H' hr R hrec => ⟨_, ?_, .str _⟩, stays_rowS _ _ _⟩
        obtain ⟨e', hu, hse⟩ := hT.sl hk
        rw [hs] at hse
        injection hse with hse
        subst hse
        have hxr := hr x (by simp [Op.operands])
        rw [hx] at hxr
        generalize hx' : ρ' x = x' at hxr
        unfold AH.rowS? at hrec
        have hud := hT.str hd
        have hue := hT.int he
        have nil_case : n = 0 → bs = [] := by
          intro hn; simp only [hn, if_true] at hrec; simpa using hrec.symm
        cases hxr with
        | sl0 =>
          obtain rfl := nil_case rfl
          simp [execOp, convert, run_underlying hu, run_underlying hud, run_underlying hue, hx', Conv.bytesToString, ByteArray.empty, ByteArray.emptyWithCapacity]; rfl
        | @sl b B o _ _ k' hb hn hkk =>
          by_cases hn0 : n = 0
          · obtain rfl := nil_case hn0
            subst hn0
            simp [execOp, convert, run_underlying hu, run_underlying hud, run_underlying hue, hx', Conv.bytesToString, loadCells, loadCellsFrom, ByteArray.empty, ByteArray.emptyWithCapacity]; rfl
          · simp only [hn0, if_false, Nat.mul_one] at hrec
            obtain ⟨cs', h1, _, h3⟩ := run_loadCells_rel (P := P) R hb hrec
            have hcs := bytes_of_rel bs cs' h1
            subst hcs
            simp only [execOp, convert, Sem.run_bind, run_underlying hu, run_underlying hud, run_underlying hue, hx', Conv.bytesToString, Result.andThen_ok, h3]
            rw [run_bytesLoop (P := P) w _ (fun b s => rfl)]
            simp [ByteArray.empty, ByteArray.emptyWithCapacity]
            rfl
        | sle a a' k' =>
          obtain rfl := nil_case rfl
          simp [execOp, convert, run_underlying hu, run_underlying hud, run_underlying hue, hx', Conv.bytesToString, loadCells, loadCellsFrom, ByteArray.empty, ByteArray.emptyWithCapacity]; rfl
      · exact h.elim
    · exact h.elim
  | _ => simp [loadOp] at h

end
end Go.Abs
