import Derived.Test.YtmbipadfcbndgaaAbsF
set_option linter.all false
namespace Go.Abs

/-! ## The operations that do not look at memory -/

def fieldAt? (T : Nat → TyE) (s : TypeId) (f : Nat) : Option (Nat × TypeId) :=
  match (T s).k, (T s).sub with
  | .agg, .fields l => l[f]?
  | _, _ => none

def fillC (place : Nat → Option (Nat × Nat)) (n : Nat) : List Value → List (Nat × Value) → (List Value → Prop) → Prop
  | cells, [], k => k cells
  | cells, (i, v) :: rest, k =>
    match place i with
    | none => False
    | some (off, size) =>
      if off + size ≤ n then
        match v with
        | .agg arr => arr.toList.length = size ∧ fillC place n (setMany cells off arr.toList) rest k
        | .tuple _ => False
        | v => if size = 1 then fillC place n (cells.set off v) rest k else False
      else False

def fieldsOK (T : Nat → TyE) (l : List (Nat × TypeId)) : Bool := l.all fun f => decide ((T f.2).k ≠ .bad)

def buildC (T : Nat → TyE) (t : TypeId) (parts : List (Nat × Value)) (k : Value → Prop) : Prop :=
  match (T t).k, (T t).sub with
  | .agg, .fields l =>
    if fieldsOK T l = true then
      fillC (fun i => (l[i]?).map fun f => (f.1, (T f.2).size)) (T t).zero.length (T t).zero parts fun cs => k (.agg cs.toArray)
    else False
  | .agg, .arr _ e =>
    if (T e).k ≠ .bad then fillC (fun i => some (i * (T e).size, (T e).size)) (T t).zero.length (T t).zero parts fun cs => k (.agg cs.toArray) else False
  | _, _ => False

def sliceC (s : Sl) (lo hi : Option Value) (size : Nat) (k : Value → Prop) : Prop :=
  match lo, hi with
  | none, none => k s.val
  | some (.int _ l), none => (0 ≤ l ∧ l ≤ s.n) ∧ k (.slice (s.a.map (·.add (l.toNat * size))) (s.n - l.toNat) 0)
  | none, some (.int _ h) => (0 ≤ h ∧ h ≤ s.n) ∧ k (.slice s.a h.toNat 0)
  | some (.int _ l), some (.int _ h) => (0 ≤ l ∧ l ≤ h ∧ h ≤ s.n) ∧ k (.slice (s.a.map (·.add (l.toNat * size))) (h.toNat - l.toNat) 0)
  | _, _ => False

def partC (T : Nat → TyE) (t : TypeId) (cs : List Value) (off : Nat) (k : Value → Prop) : Prop :=
  match (T t).k with
  | .agg => k (.agg ((cs.drop off).take (T t).size).toArray)
  | .bad => False
  | κ => elim κ cs[off]? k

def isPlainKind : K → Bool
  | .any => false
  | .bad => false
  | _ => true

def minMax (isMax : Bool) : Value → List Value → (Value → Prop) → Prop
  | .int j a, [], k => k (.int j a)
  | .int j a, .int _ b :: rest, k => minMax isMax (.int j (if isMax = true then (if b > a then b else a) else (if b < a then b else a))) rest k
  | _, _, _ => False

def pureOp (T : Nat → TyE) (ρ : Operand → Value) (op : Op) (k : Value → Prop) : Prop :=
  match op with
  | .move x => k (ρ x)
  | .assign x => k (ρ x)
  | .pick c a b =>
    match ρ c with
    | .bool t => bcase t (k (ρ a)) (k (ρ b))
    | _ => False
  | .build t parts => buildC T t (parts.toList.map fun p => (p.1, ρ p.2)) k
  | .nilCheck x =>
    match ρ x with
    | .pointer p => onPtr p fun a => k (.pointer (some a))
    | _ => False
  | .binOp op xt x y _ => binL T op xt (ρ x) (ρ y) k
  | .unOp op _ x =>
    match op, ρ x with
    | .not, .bool b => k (.bool !b)
    | .neg, .int j n => k (.int j (j.wrap (0 - n)))
    | _, _ => False
  | .convert src dst x =>
    if (T src).k = .bad then False else
    match (T dst).k, ρ x with
    | .int j, .int _ n => k (.int j (j.wrap n))
    | .str, .string s => k (.string s)
    | _, _ => False
  | .makeInterface t x => if isPlainKind (T t).k = true then k (.iface t (ρ x)) else False
  | .makeFunc fn first captured => k (.func fn (first.map ρ) (captured.map ρ))
  | .slice t x lo hi none =>
    match (T t).k, (T t).sub, ρ x with
    | .sl, .elem e, .slice a n c => if (T e).k = .bad then False else sliceC ⟨a, n, c⟩ (lo.map ρ) (hi.map ρ) (T e).size k
    | .agg, .arr n e, .pointer p => if (T e).k = .bad then False else
      match lo, hi with
      | none, none => onPtr p fun a => k (.slice (some a) n 0)
      | _, _ => False
    | _, _, _ => False
  | .fieldAddr s x f =>
    match fieldAt? T s f, ρ x with
    | some (off, ft), .pointer p => if (T ft).k = .bad ∨ (T ft).size = 0 then False else onPtr p fun a => k (.pointer (some (a.add off)))
    | _, _ => False
  | .field s x f =>
    match fieldAt? T s f, ρ x with
    | some (off, ft), .agg cs => partC T ft cs.toList off k
    | _, _ => False
  | .indexAddr t x ix =>
    match (T t).k, (T t).sub, ρ x, ρ ix with
    | .sl, .elem e, .slice a n _, .int _ i => if (T e).k = .bad then False else (0 ≤ i ∧ i < n) ∧ onPtr a fun a => k (.pointer (some (a.add (i.toNat * (T e).size))))
    | .agg, .arr n e, .pointer p, .int _ i => if (T e).k = .bad then False else (0 ≤ i ∧ i < n) ∧ onPtr p fun a => k (.pointer (some (a.add (i.toNat * (T e).size))))
    | _, _, _, _ => False
  | .index t x ix =>
    match (T t).k, (T t).sub, ρ x, ρ ix with
    | .agg, .arr n e, .agg cs, .int _ i => (0 ≤ i ∧ i < n) ∧ partC T e cs.toList (i.toNat * (T e).size) k
    | _, _, _, _ => False
  | .extract x i =>
    match ρ x with
    | .tuple vs => if vs.size = 1 then False else match vs.toList[i]? with
      | some v => k v
      | none => False
    | _ => False
  | .call c =>
    match c.callee with
    | .builtin .len =>
      match c.argTypes.toList, c.args.toList with
      | t :: _, x :: _ =>
        match (T t).k, (T t).sub, ρ x with
        | .sl, _, .slice _ n _ => k (.int .i64 n)
        | .str, _, .string s => k (.int .i64 s.size)
        | .agg, .arr n _, _ => k (.int .i64 n)
        | _, _, _ => False
      | _, _ => False
    | .builtin .min =>
      match c.args.toList with
      | x :: rest => minMax false (ρ x) (rest.map ρ) k
      | _ => False
    | .builtin .max =>
      match c.args.toList with
      | x :: rest => minMax true (ρ x) (rest.map ρ) k
      | _ => False
    | _ => False
  | _ => False

/-- In whatever memory the operation gives a value like 'v', and does nothing else. -/
def PureOK (P : Program) (ρ : Operand → Value) (o : Oper) (v : Value) : Prop :=
  ∀ φ (ρ' : Operand → Value), (∀ x ∈ o.op.operands, VRel φ (ρ x) (ρ' x)) → ∃ v', (∀ w, (execOp ρ' o).run P w = .ok (.value v') w) ∧ VRel φ v v'

section
variable {P : Program} {T : Nat → TyE}

theorem add_off (b o n : Nat) : (⟨b, o, none⟩ : Addr).add n = ⟨b, o + n, none⟩ := by
  unfold Addr.add
  split
  · rename_i h; simp [h]
  · rfl

theorem onPtr_some {p : Option Addr} {k : Addr → Prop} (h : onPtr p k) : ∃ a, p = some a ∧ k a := by
  cases p with
  | none => exact h.elim
  | some a => exact ⟨a, rfl, h⟩

theorem vrel_ptr {φ : Emb} {a : Addr} {v' : Value} (h : VRel φ (.pointer (some a)) v') :
    ∃ b B o, a = ⟨b, o, none⟩ ∧ φ b = some B ∧ v' = .pointer (some ⟨B.c, o, none⟩) := by
  cases h with
  | ptr o h => exact ⟨_, _, _, rfl, h, rfl⟩

theorem run_sizeOf (hT : Agrees P T) {t : TypeId} (h : (T t).k ≠ .bad) (w : World) : (sizeOf t).run P w = .ok (T t).size w := by
  obtain ⟨i, hi, hs, _⟩ := hT.size h
  simp [sizeOf, typeInfo, hi, hs]

theorem run_zeroValue (hT : Agrees P T) {t : TypeId} (h : (T t).k ≠ .bad) : ∃ z : Value, z.cells.toList = (T t).zero ∧ ∀ w, (zeroValue t).run P w = .ok z w := by
  obtain ⟨i, hi, hs, _, z, hz, hc⟩ := hT.size h
  exact ⟨z, hc, fun w => by simp [zeroValue, typeInfo, hi, hz]⟩

/-- Rows of cells, one like the other. -/
def LRel (φ : Emb) (xs ys : List Value) : Prop := xs.length = ys.length ∧ ∀ (i : Nat) (x y : Value), xs[i]? = some x → ys[i]? = some y → VRel φ x y

theorem LRel.of_arr {φ : Emb} {as bs : Array Value} (h1 : as.size = bs.size) (h2 : ∀ i, i < as.size → VRel φ (as.getD i (.tuple #[])) (bs.getD i (.tuple #[]))) :
    LRel φ as.toList bs.toList := by
  refine ⟨by simpa using h1, fun i x y hx hy => ?_⟩
  simp only [Array.getElem?_toList] at hx hy
  have hi : i < as.size := by
    rcases Nat.lt_or_ge i as.size with hh | hh
    · exact hh
    · simp [Array.getElem?_eq_none hh] at hx
  have := h2 i hi
  simpa [hx, hy] using this

theorem LRel.to_arr {φ : Emb} {xs ys : List Value} (h : LRel φ xs ys) {as bs : Array Value} (ha : as.toList = xs) (hb : bs.toList = ys) :
    as.size = bs.size ∧ ∀ i, i < as.size → VRel φ (as.getD i (.tuple #[])) (bs.getD i (.tuple #[])) := by
  subst ha hb
  obtain ⟨h1, h2⟩ := h
  have hs : as.size = bs.size := by simpa using h1
  refine ⟨hs, fun i hi => ?_⟩
  have hi' : i < bs.size := hs ▸ hi
  have := h2 i as[i] bs[i] (by simp [hi]) (by simp [hi'])
  simpa [hi, hi'] using this

theorem LRel.agg {φ : Emb} {xs ys : List Value} (h : LRel φ xs ys) : VRel φ (.agg xs.toArray) (.agg ys.toArray) :=
  .agg _ _ (h.to_arr rfl rfl).1 (h.to_arr rfl rfl).2

theorem LRel.set {φ : Emb} {xs ys : List Value} (h : LRel φ xs ys) {x y : Value} (hv : VRel φ x y) (i : Nat) : LRel φ (xs.set i x) (ys.set i y) := by
  refine ⟨by simp [h.1], fun j a b ha hb => ?_⟩
  by_cases hij : i = j
  · subst hij
    rw [List.getElem?_set] at ha hb
    simp only [if_true] at ha hb
    split at ha <;> split at hb <;> simp at ha hb
    subst ha hb
    exact hv
  · rw [List.getElem?_set_ne hij] at ha hb
    exact h.2 j a b ha hb

theorem LRel.setMany {φ : Emb} : ∀ (vs ws : List Value) (xs ys : List Value) (i : Nat), LRel φ xs ys → LRel φ vs ws → LRel φ (setMany xs i vs) (setMany ys i ws)
  | [], [], _, _, _, h, _ => h
  | [], _ :: _, _, _, _, _, h => by have := h.1; simp at this
  | _ :: _, [], _, _, _, _, h => by have := h.1; simp at this
  | v :: vs, w :: ws, xs, ys, i, h, h' => by
    have hv : VRel φ v w := h'.2 0 v w rfl rfl
    exact LRel.setMany vs ws _ _ (i + 1) (h.set hv i) ⟨by have := h'.1; simpa using this, fun j a b ha hb => h'.2 (j + 1) a b ha hb⟩

theorem LRel.refl_of {φ : Emb} {xs : List Value} (h : ∀ x ∈ xs, VRel φ x x) : LRel φ xs xs := by
  refine ⟨rfl, fun i x y hx hy => ?_⟩
  rw [hx] at hy
  injection hy with hy
  subst hy
  exact h x (List.mem_of_getElem? hx)

theorem fill_step (vc : Array Value) (off : Nat) (cells : Array Value) :
    (vc.zipIdx.foldl (fun cs (x : Value × Nat) => cs.setIfInBounds (off + x.2) x.1) cells).toList = setMany cells.toList off vc.toList := by
  rw [← Array.foldl_toList]
  have hz : (vc.zipIdx).toList = vc.toList.zipIdx := by simp
  rw [hz]
  have key : ∀ (l : List Value) (n : Nat) (cells : Array Value),
      ((l.zipIdx n).foldl (fun cs (x : Value × Nat) => cs.setIfInBounds (off + x.2) x.1) cells).toList = setMany cells.toList (off + n) l := by
    intro l
    induction l with
    | nil => intro n cells; rfl
    | cons v l ih =>
      intro n cells
      simp only [List.zipIdx_cons, List.foldl_cons, setMany]
      rw [ih (n + 1)]
      simp [Nat.add_assoc]
  simpa using key vc.toList 0 cells

theorem fillC_sound (place place' : Nat → Option (Nat × Nat)) (hp : ∀ i x, place i = some x → place' i = some x) (n : Nat) {φ : Emb} :
    ∀ (parts parts' : List (Nat × Value)) (cells : List Value) (cells' : Array Value) (k : List Value → Prop), cells.length = n → LRel φ cells cells'.toList →
      parts.length = parts'.length → (∀ (j : Nat) (p p' : Nat × Value), parts[j]? = some p → parts'[j]? = some p' → p.1 = p'.1 ∧ VRel φ p.2 p'.2) → fillC place n cells parts k →
      ∃ cs cs', k cs ∧ Instr.fill place' cells' parts' = some cs' ∧ LRel φ cs cs'.toList := by
  intro parts
  induction parts with
  | nil =>
    intro parts' cells cells' k hn hr hl _ h
    have : parts' = [] := List.length_eq_zero_iff.1 (by simpa using hl.symm)
    subst this
    exact ⟨cells, cells', h, rfl, hr⟩
  | cons p parts ih =>
    intro parts' cells cells' k hn hr hl hpp h
    obtain _ | ⟨p', parts'⟩ := parts'
    · simp at hl
    obtain ⟨i, v⟩ := p
    obtain ⟨i', v'⟩ := p'
    obtain ⟨hi, hv⟩ := hpp 0 (i, v) (i', v') rfl rfl
    simp only at hi hv
    subst hi
    simp only [fillC] at h
    split at h
    · exact h.elim
    · rename_i off size hpl
      have hpl' := hp i _ hpl
      split at h
      · rename_i hle
        have hcs : cells'.size = n := by have := hr.1; simp at this; omega
        have go : ∀ (c : List Value) (v' : Value), VRel φ v v' → v'.cells.size = size → setMany cells off c = setMany cells off c → LRel φ c v'.cells.toList →
            fillC place n (setMany cells off c) parts k →
            ∃ cs cs', k cs ∧ Instr.fill place' cells' ((i, v') :: parts') = some cs' ∧ LRel φ cs cs'.toList := by
          intro c v' _ hsz _ hcr hk
          have hst := fill_step v'.cells off cells'
          obtain ⟨cs, cs', h1, h2, h3⟩ := ih parts' (setMany cells off c) (v'.cells.zipIdx.foldl (fun cs (x : Value × Nat) => cs.setIfInBounds (off + x.2) x.1) cells') k
            (by rw [setMany_length]; exact hn) (by rw [hst]; exact LRel.setMany _ _ _ _ _ hr hcr) (by simpa using hl)
            (fun j p p' hp hp' => hpp (j + 1) p p' hp hp') hk
          refine ⟨cs, cs', h1, ?_, h3⟩
          simp only [Instr.fill, hpl', hsz]
          rw [if_neg (by simp; omega)]
          exact h2
        split at h
        · rename_i arr
          obtain ⟨hlen, hk⟩ := h
          cases hv with
          | agg _ bs hs hb =>
            exact go arr.toList (.agg bs) (.agg _ _ hs hb) (by simp [Value.cells]; simp at hlen; omega) rfl (LRel.of_arr hs hb) hk
        · exact h.elim
        · rename_i h1 h2
          split at h
          · rename_i hs1
            have hc : v'.cells = #[v'] := by
              cases hv <;> first | rfl | (exact absurd rfl (h1 _)) | (exact absurd rfl (h2 _))
            refine go [v] v' hv (by rw [hc]; simp [hs1]) rfl ?_ h
            rw [hc]
            refine ⟨rfl, fun j a b ha hb => ?_⟩
            cases j with
            | zero => simp at ha hb; subst ha hb; exact hv
            | succ j => simp at ha
          · exact h.elim
      · exact h.elim
end
end Go.Abs
