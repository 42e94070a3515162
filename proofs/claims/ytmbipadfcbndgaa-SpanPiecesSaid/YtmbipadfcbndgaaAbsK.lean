import Derived.Test.YtmbipadfcbndgaaAbsJ
set_option linter.all false
namespace Go.Abs

/-! ## Operations that lay a new object -/

def isAlloc (op : Op) : Bool :=
  match op with
  | .alloc _ => true
  | .box _ _ => true
  | .buildSlice _ _ _ => true
  | .makeSlice _ _ _ => true
  | _ => false

def newAt (b : Nat) : Option Addr := some ⟨b, 0, none⟩

def zerosOf (n : Nat) (z : List Value) : List Value := (List.replicate n z).flatten

def lim : Nat := 4294967296

def allocOp (T : Nat → TyE) (ρ : Operand → Value) (op : Op) (b : Nat) (k : Value → AObj → Prop) : Prop :=
  match op with
  | .alloc e => if (T e).k = .bad then False else k (.pointer (newAt b)) ⟨(T e).zero, .rw, 0⟩
  | .box _ x =>
    match ρ x with
    | .agg arr => k (.pointer (newAt b)) ⟨arr.toList, .rw, 0⟩
    | .tuple _ => False
    | v => k (.pointer (newAt b)) ⟨[v], .rw, 0⟩
  | .buildSlice t n parts =>
    match (T t).k, (T t).sub with
    | .sl, .elem e =>
      if (T e).k = .bad ∨ (T e).size = 0 ∨ (T e).zero.length ≠ (T e).size ∨ n * (T e).size > 2 ^ 24 then False else
      fillC (fun i => some (i * (T e).size, (T e).size)) (n * (T e).size) (zerosOf n (T e).zero) (parts.toList.map fun p => (p.1, ρ p.2)) fun cs =>
        k (.slice (newAt b) n 1) ⟨cs, .rw, (T e).size⟩
    | _, _ => False
  | .makeSlice t l c =>
    match (T t).k, (T t).sub, ρ l, ρ c with
    | .sl, .elem e, .int _ n, .int _ m =>
      if (T e).k = .bad ∨ (T e).size = 0 ∨ (T e).zero.length ≠ (T e).size ∨ (T e).bytes > 4096 then False else
      (0 ≤ n ∧ n ≤ m ∧ m ≤ lim) ∧ k (.slice (newAt b) n.toNat 1) ⟨zerosOf n.toNat (T e).zero, .rw, (T e).size⟩
    | _, _, _, _ => False
  | _ => False

def AllocOK (P : Program) (ρ : Operand → Value) (o : Oper) (b : Nat) (v : Value) (ob : AObj) : Prop :=
  ∀ (φ : Emb) (ρ' : Operand → Value) (W w : World) (H : AH), (∀ x ∈ o.op.operands, VRel φ (ρ x) (ρ' x)) → Rel W φ H w → H.get b = ob → b < H.size → φ b = none →
    ∃ v' w' B, (execOp ρ' o).run P w = .ok (.value v') w' ∧ VRel (φ.add b B) v v' ∧ Rel W (φ.add b B) H w'

section
variable {P : Program} {T : Nat → TyE}

theorem Emb.add_self (φ : Emb) (b : Nat) (B : Blk) : φ.add b B b = some B := by simp [Emb.add]

theorem zeros_list (z : Array Value) : ∀ n, ((Array.range (n * z.size)).map (fun i => z[i % z.size]!)).toList = zerosOf n z.toList := by
  intro n
  have key : ∀ n, (List.range (n * z.size)).map (fun i => z[i % z.size]!) = zerosOf n z.toList := by
    intro n
    induction n with
    | zero => simp [zerosOf]
    | succ n ih =>
      have : (n + 1) * z.size = n * z.size + z.size := by rw [Nat.add_mul]; omega
      rw [this, List.range_add, List.map_append, ih]
      unfold zerosOf
      rw [List.replicate_succ', List.flatten_append]
      congr 1
      simp only [List.flatten_cons, List.flatten_nil, List.append_nil, List.map_map]
      apply List.ext_getElem
      · simp
      · intro i h1 h2
        have hi : i < z.size := by simpa using h1
        simp [Nat.mul_add_mod_self_right, Nat.mod_eq_of_lt hi, hi]
  simp only [Array.toList_map, Array.toList_range]
  exact key n

theorem zerosOf_length (n : Nat) (z : List Value) : (zerosOf n z).length = n * z.length := by
  induction n with
  | zero => simp [zerosOf]
  | succ n ih =>
    unfold zerosOf at ih ⊢
    rw [List.replicate_succ, List.flatten_cons, List.length_append, ih, Nat.add_mul]; omega

theorem zerosOf_mem {n : Nat} {z : List Value} {x : Value} (h : x ∈ zerosOf n z) : x ∈ z := by
  unfold zerosOf at h
  simp only [List.mem_flatten, List.mem_replicate] at h
  obtain ⟨l, ⟨_, rfl⟩, hx⟩ := h
  exact hx

theorem alloc_lay {W w : World} {φ : Emb} {H : AH} (R : Rel W φ H w) {b : Nat} (hlt : b < H.size) (hb : φ b = none) {cells : List Value} {cs : Array Value} {esz : Nat} (e : TypeId)
    (hob : H.get b = ⟨cells, .rw, esz⟩) (hlen : cells.length ≤ cs.size) (hv : ∀ i v, cells[i]? = some v → VRel φ v (cs.getD i undef)) :
    Rel W (φ.add b ⟨w.heap.size, cs.size, esz⟩) H (w.alloc (.cells cs e)) := by
  have h1 : (H.get b).cells = cells := by rw [hob]
  have h2 : (H.get b).esz = esz := by rw [hob]
  have h3 : (H.get b).md = .rw := by rw [hob]
  have := R.lay (b := b) hb hlt cs e h3 (by rw [h1]; exact hlen) (fun i v hi => by
    rw [h1] at hi
    exact (hv i v hi).mono (Emb.le_add hb))
  rw [h2] at this
  exact this

theorem LRel.getD {φ : Emb} {xs : List Value} {ys : Array Value} (h : LRel φ xs ys.toList) (i : Nat) (v : Value) (hi : xs[i]? = some v) : VRel φ v (ys.getD i undef) := by
  have hlt : i < ys.size := by
    have := (List.getElem?_eq_some_iff.1 hi).1
    have h1 := h.1
    simp at h1; omega
  have : ys.getD i undef = ys[i] := by simp [hlt]
  rw [this]
  exact h.2 i v _ hi (by simp [hlt])

theorem map_range0 (f : Nat → Value) : (Array.range 0).map f = #[] := by
  apply Array.ext'; simp

theorem fillC_length {place : Nat → Option (Nat × Nat)} {n : Nat} : ∀ (parts : List (Nat × Value)) (cells : List Value) {cs : List Value}, fillC place n cells parts (· = cs) → cs.length = cells.length := by
  intro parts
  induction parts with
  | nil => intro cells cs h; exact h ▸ rfl
  | cons p parts ih =>
    intro cells cs h
    obtain ⟨i, v⟩ := p
    simp only [fillC] at h
    split at h
    · exact h.elim
    · split at h
      · split at h
        · rw [ih _ h.2, setMany_length]
        · exact h.elim
        · split at h
          · rw [ih _ h]; simp
          · exact h.elim
      · exact h.elim

theorem alloc_sound (hT : Agrees P T) {ρ : Operand → Value} {o : Oper} {b : Nat} {k : Value → AObj → Prop} (h : allocOp T ρ o.op b k) :
    ∃ v ob, k v ob ∧ AllocOK P ρ o b v ob := by
  obtain ⟨dst, op, type, pos, after, guard⟩ := o
  simp only at h
  unfold AllocOK
  simp only
  cases op with
  | alloc e =>
    simp only [allocOp] at h
    split at h
    · exact h.elim
    · rename_i he
      obtain ⟨z, hz, hrun⟩ := run_zeroValue hT he
      refine ⟨_, _, h, fun φ ρ' W w H hr R hob hlt hb => ⟨.pointer (some ⟨w.heap.size, 0, none⟩), w.alloc (.cells z.cells e), ⟨w.heap.size, z.cells.size, 0⟩, ?_, .ptr 0 (Emb.add_self _ _ _), ?_⟩⟩
      · simp [execOp, Instr.alloc, hrun, newVar, newRow]
      · exact alloc_lay R hlt hb e hob (by rw [← hz]; simp) (LRel.getD (by rw [hz]; exact LRel.refl_of (hT.zeros he)))
  | box e x =>
    simp only [allocOp] at h
    split at h
    · rename_i arr hx
      refine ⟨_, _, h, fun φ ρ' W w H hr R hob hlt hb => ?_⟩
      have hxr := hr x (by simp [Op.operands])
      rw [hx] at hxr
      generalize hx' : ρ' x = x' at hxr
      cases hxr with
      | agg _ bs h1 h2 =>
        refine ⟨.pointer (some ⟨w.heap.size, 0, none⟩), w.alloc (.cells bs e), ⟨w.heap.size, bs.size, 0⟩, ?_, .ptr 0 (Emb.add_self _ _ _), ?_⟩
        · simp [execOp, Instr.box, newVar, newRow, hx', Value.cells]
        · exact alloc_lay R hlt hb e hob (by simp [h1]) (LRel.getD (LRel.of_arr h1 h2))
    · exact h.elim
    · rename_i h1 h2
      refine ⟨_, _, h, fun φ ρ' W w H hr R hob hlt hb => ?_⟩
      have hxr := hr x (by simp [Op.operands])
      have hc : (ρ' x).cells = #[ρ' x] := by
        generalize hq : ρ x = q at hxr
        generalize ρ' x = q' at hxr
        cases hxr <;> first | rfl | (exact absurd hq (h1 _)) | (exact absurd hq (h2 _))
      refine ⟨.pointer (some ⟨w.heap.size, 0, none⟩), w.alloc (.cells #[ρ' x] e), ⟨w.heap.size, 1, 0⟩, ?_, .ptr 0 (Emb.add_self _ _ _), ?_⟩
      · simp [execOp, Instr.box, newVar, newRow, hc]
      · refine alloc_lay (cs := #[ρ' x]) R hlt hb e hob (by simp) (LRel.getD (ys := #[ρ' x]) ⟨rfl, fun i x0 y0 hx hy => ?_⟩)
        cases i with
        | zero => simp at hx hy; subst hx hy; exact hxr
        | succ i => simp at hx
  | buildSlice t n parts =>
    simp only [allocOp] at h
    split at h
    · rename_i e hk hs
      split at h
      · exact h.elim
      · rename_i hc
        simp only [not_or, Nat.not_lt, Decidable.not_not] at hc
        obtain ⟨he, hsz, hzl, hn⟩ := hc
        obtain ⟨e', hu, hse⟩ := hT.sl hk
        rw [hs] at hse
        injection hse with hse
        subst hse
        obtain ⟨z, hz, hzr⟩ := run_zeroValue hT he
        obtain ⟨cs, hkv, hfill⟩ := fillC_fac _ _ _ h
        refine ⟨_, _, hkv, fun φ ρ' W w H hr R hob hlt hb => ?_⟩
        have hzs : z.cells.size = (T e).size := by have := congrArg List.length hz; simp at this; omega
        have hz0 : ((Array.range (n * (T e).size)).map (fun i => z.cells[i % z.cells.size]!)).toList = zerosOf n (T e).zero := by
          rw [← hzs, zeros_list, hz]
        obtain ⟨cs0, cs', rfl, hf, hl⟩ := fillC_sound (φ := φ) (fun i => some (i * (T e).size, (T e).size)) (fun i => some (i * (T e).size, (T e).size)) (fun i x hx => hx) (n * (T e).size)
          (parts.toList.map fun p => (p.1, ρ p.2)) (parts.toList.map fun p => (p.1, ρ' p.2)) (zerosOf n (T e).zero)
          ((Array.range (n * (T e).size)).map (fun i => z.cells[i % z.cells.size]!)) _ (by rw [zerosOf_length, hzl])
          (by rw [hz0]; exact LRel.refl_of (fun x hx => hT.zeros he x (zerosOf_mem hx))) (by simp) (by
            intro j p p' hp hp'
            simp only [List.getElem?_map] at hp hp'
            cases hq : parts.toList[j]? with
            | none => rw [hq] at hp; simp at hp
            | some q =>
              rw [hq] at hp hp'
              simp at hp hp'
              subst hp hp'
              refine ⟨rfl, hr q.2 ?_⟩
              simp only [Op.operands, List.mem_toArray, List.mem_map]
              exact ⟨q, List.mem_of_getElem? hq, rfl⟩) hfill
        have hlen : n * (T e).size ≤ cs'.size := by
          have h1 := hl.1
          have h2 : cs0.length = n * (T e).size := by
            have := fillC_length _ _ hfill
            rw [this, zerosOf_length, hzl]
          simp at h1; omega
        refine ⟨.slice (some ⟨w.heap.size, 0, none⟩) n n, w.alloc (.cells cs' e), ⟨w.heap.size, cs'.size, (T e).size⟩, ?_, ?_, ?_⟩
        · have hmap : (parts.map fun p => (p.1, ρ' p.2)).toList = parts.toList.map fun p => (p.1, ρ' p.2) := by simp
          have hgt : ¬ n * (T e).size > 2 ^ 24 := by omega
          by_cases hn0 : n * (T e).size = 0
          · simp only [execOp, Instr.buildSlice, Sem.run_bind, run_underlying hu, Result.andThen_ok, run_sizeOf hT he, hn0, if_true, Sem.run_pure, hmap]
            simp only [hn0] at hf
            rw [map_range0] at hf
            simp only [map_range0]
            simp [hf, newRow]
          · simp only [execOp, Instr.buildSlice, Sem.run_bind, run_underlying hu, Result.andThen_ok, run_sizeOf hT he, hgt, if_false, hn0, hzr, Sem.run_pure, hmap, hf]
            simp [newRow]
        · exact .sl 0 n 1 n (Emb.add_self _ _ _) (Nat.le_refl _) (.inr (by simp; exact hlen))
        · exact alloc_lay R hlt hb e hob (by have := hl.1; simp at this; omega) (LRel.getD hl)
    · exact h.elim
  | makeSlice t l c =>
    simp only [allocOp] at h
    split at h
    · rename_i e j n j' m hk hs hln hcm
      split at h
      · exact h.elim
      · rename_i hc
        simp only [not_or, Nat.not_lt, Decidable.not_not] at hc
        obtain ⟨he, hsz, hzl, hby⟩ := hc
        obtain ⟨⟨h0, h1, h2⟩, hkv⟩ := h
        obtain ⟨e', hu, hse⟩ := hT.sl hk
        rw [hs] at hse
        injection hse with hse
        subst hse
        obtain ⟨z, hz, hzr⟩ := run_zeroValue hT he
        have hzs : z.cells.size = (T e).size := by have := congrArg List.length hz; simp at this; omega
        refine ⟨_, _, hkv, fun φ ρ' W w H hr R hob hlt hb => ?_⟩
        have hlr := hr l (by simp [Op.operands])
        have hcr := hr c (by simp [Op.operands])
        rw [hln] at hlr
        rw [hcm] at hcr
        generalize hl' : ρ' l = l' at hlr
        generalize hc' : ρ' c = c' at hcr
        cases hlr
        cases hcr
        obtain ⟨i, hi, his, hib, _⟩ := hT.size he
        unfold lim at h2
        have wn : IntKind.i64.wrap n = n := by unfold IntKind.wrap; simp [IntKind.bits, IntKind.signed]; omega
        have wm : IntKind.i64.wrap m = m := by unfold IntKind.wrap; simp [IntKind.bits, IntKind.signed]; omega
        have hlarge : ((i.bytes : Int) * m > 2 ^ 48) = False := by
          simp only [eq_iff_iff, iff_false, gt_iff_lt, Int.not_lt]
          rw [hib]
          have hb' : ((T e).bytes : Int) ≤ 4096 := by omega
          calc ((T e).bytes : Int) * m ≤ 4096 * m := Int.mul_le_mul_of_nonneg_right hb' (by omega)
            _ ≤ 2 ^ 48 := by omega
        have hz0 : ((Array.range (m.toNat * (T e).size)).map (fun i => z.cells[i % z.cells.size]!)).toList = zerosOf m.toNat (T e).zero := by
          rw [← hzs, zeros_list, hz]
        have hlen : n.toNat * (T e).size ≤ m.toNat * (T e).size := Nat.mul_le_mul_right _ (by omega)
        refine ⟨.slice (some ⟨w.heap.size, 0, none⟩) n.toNat m.toNat, w.alloc (.cells ((Array.range (m.toNat * (T e).size)).map (fun i => z.cells[i % z.cells.size]!)) e),
          ⟨w.heap.size, ((Array.range (m.toNat * (T e).size)).map (fun i => z.cells[i % z.cells.size]!)).size, (T e).size⟩, ?_, ?_, ?_⟩
        · have hnot : ¬ m < 0 := by omega
          have hnot' : ¬ n < 0 := by omega
          have hnot'' : ¬ n > m := by omega
          simp only [execOp, Instr.makeSlice, Sem.run_bind, run_underlying hu, Result.andThen_ok, hl', hc', asInt, asIntOf, Sem.run_pure, typeInfo, run_program, hi, wn, wm, hlarge, hnot, hnot', hnot'', decide_false, Bool.or_self, Bool.false_eq_true, if_false, run_askRoom]
          simp only [sizeOf, Sem.run_bind, typeInfo, run_program, Result.andThen_ok, hi, Sem.run_pure, his]
          by_cases hm0 : m.toNat * (T e).size = 0
          · simp only [hm0, map_range0]
            simp [newRow]
          · simp [hm0, hzr, newRow]
        · refine .sl 0 n.toNat 1 m.toNat (Emb.add_self _ _ _) (by omega) (.inr ?_)
          simp
        · refine alloc_lay R hlt hb e hob (by rw [zerosOf_length, hzl]; simpa using hlen) (fun i v hi => ?_)
          have hv : v ∈ (T e).zero := zerosOf_mem (List.mem_of_getElem? hi)
          have hpre : (zerosOf m.toNat (T e).zero)[i]? = some v := by
            have : zerosOf m.toNat (T e).zero = zerosOf n.toNat (T e).zero ++ zerosOf (m.toNat - n.toNat) (T e).zero := by
              unfold zerosOf
              rw [← List.flatten_append, List.replicate_append_replicate]
              congr 2; omega
            rw [this, List.getElem?_append_left (List.getElem?_eq_some_iff.1 hi).1]
            exact hi
          have hg := hpre
          rw [← hz0] at hg
          have hlt' : i < ((Array.range (m.toNat * (T e).size)).map (fun i => z.cells[i % z.cells.size]!)).size := by
            have := (List.getElem?_eq_some_iff.1 hg).1
            simpa using this
          have : ((Array.range (m.toNat * (T e).size)).map (fun i => z.cells[i % z.cells.size]!)).getD i undef = v := by
            have h5 : ((Array.range (m.toNat * (T e).size)).map (fun i => z.cells[i % z.cells.size]!))[i]? = some v := by rw [← Array.getElem?_toList]; exact hg
            simp only [Array.getD_eq_getD_getElem?, h5, Option.getD_some]
          rw [this]
          exact hT.zeros he v hv
    · exact h.elim
  | _ => simp [allocOp] at h

end
end Go.Abs
