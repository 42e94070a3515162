import Derived.Test.YtgechnnadjonaabAbsTwo
import Derived.Test.YtgechnnadjonaabEnc
set_option linter.all false
/-
  A memory of lines and registers, in plain Lean, and how it lies in memory.
-/
namespace Go.Proofs.Ytgechnnadjonaab
open Go Go.Abs

def inc (n : Int) : Int := IntKind.wrap .i64 (n + 1)
def u64V (n : Int) : Value := .int .u64 n
def i64V (n : Int) : Value := .int .i64 n

/-- Bit i of a mask. -/
def mbit (mask : Int) (i : Nat) : Bool := decide (mask / 2 ^ i % 2 = 1)
/-- Word i is the new one, where the mask says so. -/
def mixL (old now : List Int) (mask : Int) : List Int := (List.range 8).map fun i => if mbit mask i then now.getD i 0 else old.getD i 0

structure Cl where
  line : List Int
  wear : Int
  limit : Int

structure Mem where
  cs : List Cl
  regs : List Int
  writes : Int
  cut : Int
  mask : Int
  down : Bool

def isLine (l : List Int) : Prop := l.length = 8 ∧ ∀ v ∈ l, isU v

structure Mem.ok (M : Mem) : Prop where
  lines : ∀ c ∈ M.cs, isLine c.line
  regs : M.regs.length = 35
  regU : ∀ v ∈ M.regs, isU v
  len : M.cs.length ≤ 200
  cut : -1 ≤ M.cut ∧ M.cut ≤ 9223372036854775807

def Mem.has (M : Mem) (i : Int) : Prop := 0 ≤ i ∧ i < M.cs.length
instance (M : Mem) (i : Int) : Decidable (M.has i) := by unfold Mem.has; infer_instance

def Mem.wr (M : Mem) : Mem :=
  if M.cut = 0 then { M with writes := inc M.writes, down := true }
  else if 0 < M.cut then { M with writes := inc M.writes, cut := M.cut - 1 }
  else { M with writes := inc M.writes }
def Mem.wmask (M : Mem) : Int := if M.cut = 0 then M.mask else -1

def Mem.told (M : Mem) (worn : Bool) : Int := if M.down then 2 else if worn then 3 else 0
def Cl.worn (c : Cl) : Bool := decide (0 ≤ c.limit) && decide (c.limit ≤ c.wear)
def Mem.cl (M : Mem) (i : Nat) : Cl := M.cs.getD i ⟨[], 0, 0⟩
def Mem.setc (M : Mem) (i : Nat) (c : Cl) : Mem := { M with cs := M.cs.set i c }

def Mem.put (M : Mem) (i : Int) (l : List Int) : Mem × Int :=
  if M.has i then
    if M.down then (M, 2) else
    let c := M.cl i.toNat
    if c.worn then (M.wr, M.wr.told true)
    else (M.wr.setc i.toNat ⟨mixL c.line l M.wmask, inc c.wear, c.limit⟩, M.wr.told false)
  else (M, 1)

def Mem.get (M : Mem) (i : Int) : List Int × Int :=
  if M.has i then if M.down then (List.replicate 8 0, 2) else ((M.cl i.toNat).line, 0) else (List.replicate 8 0, 1)

def regIn (i : Int) : Prop := 0 ≤ i ∧ i < 35
instance (i : Int) : Decidable (regIn i) := by unfold regIn; infer_instance

def Mem.reg (M : Mem) (i : Int) : Int × Int :=
  if regIn i then if M.down then (0, 2) else (M.regs.getD i.toNat 0, 0) else (0, 1)

def Mem.set (M : Mem) (i v : Int) : Mem × Int :=
  if regIn i then
    if M.down then (M, 2) else
    ((if mbit M.wmask 0 then { M.wr with regs := M.regs.set i.toNat v } else M.wr), M.wr.told false)
  else (M, 1)

def Mem.setCut (M : Mem) (n mask : Int) : Mem := { M with cut := max n (-1), mask := mask }
def Mem.power (M : Mem) : Mem := { M with cut := -1, down := false }
def Mem.wearOf (M : Mem) (i : Int) : Int := if M.has i then (M.cl i.toNat).wear else 0

def Mem.new (n : Nat) (limits : List Int) : Mem :=
  { cs := (List.range n).map fun i => ⟨List.replicate 8 0, 0, limits.getD i (-1)⟩, regs := List.replicate 35 0, writes := 0, cut := -1, mask := 0, down := false }

/-! ### how it lies -/

def lineV (l : List Int) : List Value := l.map u64V
def clV (c : Cl) : List Value := lineV c.line ++ [i64V c.wear, i64V c.limit]
def memObj (c : Nat) (M : Mem) : AObj :=
  ⟨[.slice (some ⟨c, 0, none⟩) M.cs.length 1] ++ lineV M.regs ++ [i64V M.writes, i64V M.cut, i64V M.mask, .bool M.down], .rw, 0⟩
def celObj (M : Mem) : AObj := ⟨M.cs.flatMap clV, .rw, 10⟩

structure MemAt (H : AH) (p c : Nat) (M : Mem) : Prop where
  hp : H.get p = memObj c M
  hc : H.get c = celObj M
  ne : c ≠ p
  lp : p < H.size
  lc : c < H.size
  ok : M.ok

def setM (H : AH) (p c : Nat) (M : Mem) : AH := (H.upd c (celObj M)).upd p (memObj c M)

section
variable {H : AH} {p c : Nat} {M M' : Mem}

theorem setM_size : (setM H p c M).size = H.size := rfl
theorem setM_get (b : Nat) : (setM H p c M).get b = if b = p then memObj c M else if b = c then celObj M else H.get b := rfl
theorem setM_other {b : Nat} (h : b ≠ p) (h' : b ≠ c) : (setM H p c M).get b = H.get b := by rw [setM_get, if_neg h, if_neg h']

theorem MemAt.set (h : MemAt H p c M) (hok : M'.ok) : MemAt (setM H p c M') p c M' :=
  ⟨by rw [setM_get, if_pos rfl], by rw [setM_get, if_neg h.ne, if_pos rfl], h.ne, h.lp, h.lc, hok⟩

theorem MemAt.same (h : MemAt H p c M) : setM H p c M = H := by
  refine AH.ext' rfl fun b => ?_
  rw [setM_get]
  split
  · rename_i e; rw [e, h.hp]
  · split
    · rename_i e; rw [e, h.hc]
    · rfl

theorem setM_setM : setM (setM H p c M) p c M' = setM H p c M' := by
  refine AH.ext' rfl fun b => ?_
  simp only [setM_get]
  split
  · rfl
  · split <;> rfl

theorem MemAt.keep {H' : AH} (h : MemAt H p c M) (hs : H.size ≤ H'.size) (h1 : H'.get p = H.get p) (h2 : H'.get c = H.get c) : MemAt H' p c M :=
  ⟨by rw [h1, h.hp], by rw [h2, h.hc], h.ne, by have := h.lp; omega, by have := h.lc; omega, h.ok⟩
theorem MemAt.keeps {H' : AH} (h : MemAt H p c M) (hk : Keeps H H') : MemAt H' p c M := h.keep hk.1 (hk.2 _ h.lp) (hk.2 _ h.lc)
theorem MemAt.push (h : MemAt H p c M) (o : AObj) : MemAt (H.push o) p c M := h.keeps ((Keeps.refl H).push o)

theorem flat_u64 (l : List Int) : (lineV l).all flatC = true := by simp [lineV, u64V, flatC]
theorem low_flat {n : Nat} {v : Value} (h : flatC v = true) : lowV n v = true := by
  unfold lowV
  split
  · simp [flatC] at h
  · rename_i b o m k
    unfold flatC at h
    split at h <;> first | (rename_i heq; cases heq; done) | cases h
  · exact h

/-- A call that changes nothing but a memory. -/
theorem MemAt.at {H' : AH} (h : MemAt H p c M) (hk : ∀ b, b < H.size → H'.get b = (setM H p c M').get b) : At H H' (setM H p c M') := by
  refine ⟨rfl, hk, fun b hb => ?_, fun b hb => ?_⟩
  · rw [setM_other (by have := h.lp; omega) (by have := h.lc; omega)]
  · rw [setM_get]
    split
    · right
      simp only [memObj, List.all_append, Bool.and_eq_true]
      refine ⟨⟨by simp [lowV, h.lc], ?_⟩, by simp [lowV, flatC, i64V]⟩
      exact List.all_eq_true.2 fun v hv => low_flat (List.all_eq_true.1 (flat_u64 _) v hv)
    · split
      · right
        refine List.all_eq_true.2 fun v hv => low_flat ?_
        simp only [celObj, List.mem_flatMap, clV] at hv
        obtain ⟨x, _, hv⟩ := hv
        rcases List.mem_append.1 hv with hv | hv
        · exact List.all_eq_true.1 (flat_u64 _) v hv
        · simp at hv; rcases hv with rfl | rfl <;> rfl
      · exact .inl rfl

/-! ### its cells -/

theorem memObj_md : (memObj c M).md = .rw := rfl
theorem MemAt.cell (h : MemAt H p c M) (i : Nat) : AH.cell? H ⟨p, i, none⟩ = (memObj c M).cells[i]? := by
  simp only [AH.cell?, h.hp, Option.isSome_none, Bool.false_eq_true, if_false]
  rw [if_neg (by simp [memObj_md])]

theorem MemAt.c0 (h : MemAt H p c M) : AH.cell? H (Addr.add ⟨p, 0, none⟩ 0) = some (.slice (some ⟨c, 0, none⟩) M.cs.length 1) := by
  rw [addr_add, h.cell]
  exact rfl
theorem MemAt.cr (h : MemAt H p c M) {i : Nat} (hi : i < 35) : AH.cell? H ⟨p, 1 + i, none⟩ = some (.int .u64 (M.regs.getD i 0)) := by
  rw [h.cell]
  have hl : i < M.regs.length := by rw [h.ok.regs]; exact hi
  simp only [memObj, lineV, List.singleton_append]
  rw [Nat.add_comm, List.cons_append, List.getElem?_cons_succ, List.getElem?_append_left (by simpa using hl), List.getElem?_map, List.getElem?_eq_getElem hl, Option.map_some, List.getD_eq_getElem?_getD, List.getElem?_eq_getElem hl]
  rfl
theorem mem_tail (hr : M.regs.length = 35) (i : Nat) : (memObj c M).cells[36 + i]? = [i64V M.writes, i64V M.cut, i64V M.mask, .bool M.down][i]? := by
  simp only [memObj, lineV]
  rw [List.getElem?_append_right (by simp [hr] <;> omega)]
  congr 1
  simp [hr]
theorem MemAt.c36 (h : MemAt H p c M) : AH.cell? H (Addr.add ⟨p, 0, none⟩ 36) = some (.int .i64 M.writes) := by
  rw [addr_add, h.cell]; exact mem_tail h.ok.regs 0
theorem MemAt.c37 (h : MemAt H p c M) : AH.cell? H (Addr.add ⟨p, 0, none⟩ 37) = some (.int .i64 M.cut) := by
  rw [addr_add, h.cell]; exact mem_tail h.ok.regs 1
theorem MemAt.c38 (h : MemAt H p c M) : AH.cell? H (Addr.add ⟨p, 0, none⟩ 38) = some (.int .i64 M.mask) := by
  rw [addr_add, h.cell]; exact mem_tail h.ok.regs 2
theorem MemAt.c39 (h : MemAt H p c M) : AH.cell? H (Addr.add ⟨p, 0, none⟩ 39) = some (.bool M.down) := by
  rw [addr_add, h.cell]; exact mem_tail h.ok.regs 3

theorem mem_len (hr : M.regs.length = 35) : (memObj c M).cells.length = 40 := by simp [memObj, lineV, hr]
theorem MemAt.can (h : MemAt H p c M) {i : Nat} (hi : i < 40) : AH.canPut H (Addr.add ⟨p, 0, none⟩ i) 1 := by
  rw [addr_add]
  exact ⟨rfl, congrArg AObj.md h.hp, by rw [h.hp, mem_len h.ok.regs] <;> simp <;> omega⟩

theorem mem_setTail (hr : M.regs.length = 35) (i : Nat) (v : Value) (hi : i < 4) :
    (memObj c M).cells.set (36 + i) v = [.slice (some ⟨c, 0, none⟩) M.cs.length 1] ++ lineV M.regs ++ [i64V M.writes, i64V M.cut, i64V M.mask, .bool M.down].set i v := by
  simp only [memObj]
  rw [List.set_append_right _ _ (by simp [lineV, hr] <;> omega)]
  congr 2
  simp [lineV, hr]

/-- What a store into the struct makes of the heap. -/
theorem MemAt.upd (h : MemAt H p c M) {i : Nat} {v : Value} (hM : (memObj c M).cells.set i v = (memObj c M').cells) (hcs : celObj M' = celObj M) :
    AH.put H (Addr.add ⟨p, 0, none⟩ i) [v] = setM H p c M' := by
  rw [addr_add]
  refine AH.ext' rfl fun b => ?_
  simp only [AH.put, upd_get, setM_get, setMany, Nat.zero_add]
  split
  · rw [h.hp, hM]; rfl
  · split
    · rename_i e; rw [e, h.hc, hcs]
    · rfl
theorem MemAt.p36 (h : MemAt H p c M) (v : Int) : AH.put H (Addr.add ⟨p, 0, none⟩ 36) [.int .i64 v] = setM H p c { M with writes := v } :=
  h.upd (by rw [mem_setTail (i := 0) h.ok.regs _ (by omega)]; rfl) rfl
theorem MemAt.p37 (h : MemAt H p c M) (v : Int) : AH.put H (Addr.add ⟨p, 0, none⟩ 37) [.int .i64 v] = setM H p c { M with cut := v } :=
  h.upd (by rw [mem_setTail (i := 1) h.ok.regs _ (by omega)]; rfl) rfl
theorem MemAt.p38 (h : MemAt H p c M) (v : Int) : AH.put H (Addr.add ⟨p, 0, none⟩ 38) [.int .i64 v] = setM H p c { M with mask := v } :=
  h.upd (by rw [mem_setTail (i := 2) h.ok.regs _ (by omega)]; rfl) rfl
theorem MemAt.p39 (h : MemAt H p c M) (v : Bool) : AH.put H (Addr.add ⟨p, 0, none⟩ 39) [.bool v] = setM H p c { M with down := v } :=
  h.upd (by rw [mem_setTail (i := 3) h.ok.regs _ (by omega)]; rfl) rfl
theorem MemAt.pr (h : MemAt H p c M) {i : Nat} (hi : i < 35) (v : Int) : AH.put H (Addr.add ⟨p, 0, none⟩ (1 + i)) [.int .u64 v] = setM H p c { M with regs := M.regs.set i v } := by
  refine h.upd ?_ rfl
  have hl : i < M.regs.length := by rw [h.ok.regs]; exact hi
  simp only [memObj, lineV, List.singleton_append, List.cons_append]
  rw [Nat.add_comm, List.set_cons_succ, List.set_append_left _ _ (by simpa using hl), List.map_set]
  rfl
end
end Go.Proofs.Ytgechnnadjonaab
