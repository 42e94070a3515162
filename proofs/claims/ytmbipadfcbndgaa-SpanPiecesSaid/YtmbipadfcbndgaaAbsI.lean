import Derived.Test.YtmbipadfcbndgaaAbsH
set_option linter.all false
namespace Go.Abs
section
variable {P : Program} {T : Nat → TyE}

theorem sliceC_sound {s : Sl} {lo hi : Option Value} {size : Nat} {k : Value → Prop} (h : sliceC s lo hi size k) :
    ∃ v, k v ∧ ∀ (φ : Emb) (s' : Value) (lo' hi' : Option Value), VRel φ s.val s' → (∀ l, lo = some l → ∃ l', lo' = some l' ∧ VRel φ l l') → (lo = none → lo' = none) →
      (∀ l, hi = some l → ∃ l', hi' = some l' ∧ VRel φ l l') → (hi = none → hi' = none) →
      ∃ a n c v' r, s' = .slice a n c ∧ VRel φ v v' ∧ (∀ w, (Instr.sliceBounds true n c lo' hi' none).run P w = .ok r w) ∧
        v' = .slice (if r.2.2 = r.1 then a else a.map (·.add (r.1 * size))) (r.2.1 - r.1) (r.2.2 - r.1) := by
  have key : ∀ (l h' : Nat), l ≤ h' → h' ≤ s.n → ∀ (φ : Emb) (a : Option Addr) (n c : Nat), VRel φ s.val (.slice a n c) →
      n = s.n ∧ h' ≤ c ∧ VRel φ (.slice (s.a.map (·.add (l * size))) (h' - l) 0) (.slice (if c = l then a else a.map (·.add (l * size))) (h' - l) (c - l)) := by
    intro l h' hlh hhn φ a n c hv
    unfold Sl.val at hv
    obtain ⟨sa, sn, sk⟩ := s
    simp only at hv hhn ⊢
    cases hv with
    | sl0 =>
      obtain rfl : h' = 0 := by omega
      obtain rfl : l = 0 := by omega
      refine ⟨rfl, Nat.le_refl _, ?_⟩
      simp
      exact .sl0
    | @sl b B o _ _ _ hb hn hk =>
      refine ⟨rfl, by omega, ?_⟩
      by_cases hcl : c = l
      · rw [if_pos hcl]
        have : h' - l = 0 := by omega
        rw [this, hcl]
        simp only [Option.map_some]
        exact .sle _ _ _
      · rw [if_neg hcl]
        simp only [Option.map_some, add_off]
        exact .sl _ _ _ _ hb (by omega) (.inl rfl)
    | sle a0 a' k' =>
      obtain rfl : h' = 0 := by omega
      obtain rfl : l = 0 := by omega
      refine ⟨rfl, by omega, ?_⟩
      simp only [Nat.sub_self, Nat.zero_mul, Option.map_some]
      split <;> exact .sle _ _ _
  have shape : ∀ (φ : Emb) (s' : Value), VRel φ s.val s' → ∃ a n c, s' = .slice a n c := by
    intro φ s' hv
    obtain ⟨sa, sn, sk⟩ := s
    unfold Sl.val at hv
    simp only at hv
    cases hv <;> exact ⟨_, _, _, rfl⟩
  have bnd : ∀ (k' : IntKind) (i : Int) (y : Nat) (code : BoundsCode) (w : World), 0 ≤ i → i ≤ y → (Instr.sliceBound (.int k' i) y code).run P w = .ok i.toNat w := by
    intro k' i y code w h0 h1
    simp [Instr.sliceBound, asIntOf, h0, h1]
  unfold sliceC at h
  split at h
  · refine ⟨_, h, fun φ s' lo' hi' hs _ hl _ hh => ?_⟩
    obtain ⟨a, n, c, rfl⟩ := shape φ s' hs
    have e1 := hl rfl
    have e2 := hh rfl
    subst e1 e2
    refine ⟨a, n, c, .slice a n c, (0, n, c), rfl, hs, fun w => by simp [Instr.sliceBounds], ?_⟩
    cases a with
    | none => simp
    | some a => simp [Addr.add]
  · rename_i l
    obtain ⟨⟨h0, h1⟩, hk⟩ := h
    refine ⟨_, hk, fun φ s' lo' hi' hs hl _ _ hh => ?_⟩
    obtain ⟨a, n, c, rfl⟩ := shape φ s' hs
    obtain ⟨l', rfl, hvl⟩ := hl _ rfl
    have e2 := hh rfl
    subst e2
    cases hvl
    obtain ⟨e, hc, hv⟩ := key l.toNat s.n (by omega) (Nat.le_refl _) φ a n c hs
    subst e
    refine ⟨a, s.n, c, _, (l.toNat, s.n, c), rfl, hv, fun w => ?_, rfl⟩
    simp [Instr.sliceBounds, bnd, h0, h1]
  · rename_i h'
    obtain ⟨⟨h0, h1⟩, hk⟩ := h
    refine ⟨_, hk, fun φ s' lo' hi' hs _ hl hh _ => ?_⟩
    obtain ⟨a, n, c, rfl⟩ := shape φ s' hs
    obtain ⟨l', rfl, hvl⟩ := hh _ rfl
    have e2 := hl rfl
    subst e2
    cases hvl
    obtain ⟨e, hc, hv⟩ := key 0 h'.toNat (by omega) (by omega) φ a n c hs
    have ha : s.a.map (·.add (0 * size)) = s.a := by cases s.a <;> simp [Addr.add]
    rw [ha] at hv
    refine ⟨a, n, c, _, (0, h'.toNat, c), rfl, hv, fun w => ?_, rfl⟩
    have : h' ≤ (c : Int) := by omega
    simp [Instr.sliceBounds, bnd, h0, this]
  · rename_i l _ h'
    obtain ⟨⟨h0, h1, h2⟩, hk⟩ := h
    refine ⟨_, hk, fun φ s' lo' hi' hs hl _ hh _ => ?_⟩
    obtain ⟨a, n, c, rfl⟩ := shape φ s' hs
    obtain ⟨l', rfl, hvl⟩ := hl _ rfl
    obtain ⟨h'', rfl, hvh⟩ := hh _ rfl
    cases hvl
    cases hvh
    obtain ⟨e, hc, hv⟩ := key l.toNat h'.toNat (by omega) (by omega) φ a n c hs
    refine ⟨a, n, c, _, (l.toNat, h'.toNat, c), rfl, hv, fun w => ?_, rfl⟩
    have e1 : h' ≤ (c : Int) := by omega
    have e2 : l ≤ ((h'.toNat : Nat) : Int) := by omega
    have e3 : 0 ≤ h' := by omega
    have b1 := fun kk => bnd kk h' c .sliceAcap w e3 e1
    have b2 := fun kk => bnd kk l h'.toNat .sliceB w h0 e2
    simp [Instr.sliceBounds, b1, b2]
  · exact h.elim

theorem LRel.map {φ : Emb} {ρ ρ' : Operand → Value} (l : List Operand) (h : ∀ x ∈ l, VRel φ (ρ x) (ρ' x)) : LRel φ (l.map ρ) (l.map ρ') := by
  refine ⟨by simp, fun i x y hx hy => ?_⟩
  simp only [List.getElem?_map] at hx hy
  cases ho : l[i]? with
  | none => rw [ho] at hx; simp at hx
  | some o =>
    rw [ho] at hx hy
    simp at hx hy
    subst hx hy
    exact h o (List.mem_of_getElem? ho)


theorem fillC_mono {place : Nat → Option (Nat × Nat)} {n : Nat} {k k' : List Value → Prop} : ∀ (parts : List (Nat × Value)) (cells : List Value) (_ : Unit), (∀ x, k x → k' x) →
    fillC place n cells parts k → fillC place n cells parts k' := by
  intro parts
  induction parts with
  | nil => intro cells _ hk h; exact hk _ h
  | cons p parts ih =>
    intro cells u hk h
    obtain ⟨i, v⟩ := p
    simp only [fillC] at h ⊢
    split at h
    · exact h.elim
    · split at h
      · rename_i hle
        rw [if_pos hle]
        split at h
        · exact ⟨h.1, ih _ u hk h.2⟩
        · exact h.elim
        · split at h
          · rename_i hs
            rw [if_pos hs]
            exact ih _ u hk h
          · exact h.elim
      · exact h.elim

/-! ### what is told does not hang on who asks -/

theorem elim_fac {κ : K} {v : Option Value} {k : Value → Prop} (h : elim κ v k) : ∃ x, k x ∧ elim κ v (· = x) := by
  cases κ <;> simp only [elim, elI, elB, elS, elP, elL, elM, elV] at h
  case int j => obtain ⟨n, h, hk⟩ := h; exact ⟨_, hk, n, h, rfl⟩
  case bool => obtain ⟨n, h, hk⟩ := h; exact ⟨_, hk, n, h, rfl⟩
  case str => obtain ⟨n, h, hk⟩ := h; exact ⟨_, hk, n, h, rfl⟩
  case ptr => obtain ⟨n, h, hk⟩ := h; exact ⟨_, hk, n, h, rfl⟩
  case sl => obtain ⟨n, h, hk⟩ := h; exact ⟨_, hk, n, h, rfl⟩
  case map => obtain ⟨n, h, hk⟩ := h; exact ⟨_, hk, n, h, rfl⟩
  case any => obtain ⟨n, h, hk⟩ := h; exact ⟨_, hk, n, h, rfl⟩

theorem partC_fac {t : TypeId} {cs : List Value} {off : Nat} {k : Value → Prop} (h : partC T t cs off k) : ∃ x, k x ∧ partC T t cs off (· = x) := by
  unfold partC at h ⊢
  split at h
  · exact ⟨_, h, rfl⟩
  · exact h.elim
  · exact elim_fac h

theorem fillC_fac {place : Nat → Option (Nat × Nat)} {n : Nat} : ∀ (parts : List (Nat × Value)) (cells : List Value) (k : List Value → Prop), fillC place n cells parts k →
    ∃ cs, k cs ∧ fillC place n cells parts (· = cs) := by
  intro parts
  induction parts with
  | nil => intro cells k h; exact ⟨cells, h, rfl⟩
  | cons p parts ih =>
    intro cells k h
    obtain ⟨i, v⟩ := p
    simp only [fillC] at h ⊢
    split at h
    · exact h.elim
    · split at h
      · rename_i hle
        simp only [if_pos hle]
        split at h
        · obtain ⟨h1, h2⟩ := h
          obtain ⟨cs, hk, hc⟩ := ih _ _ h2
          exact ⟨cs, hk, h1, hc⟩
        · exact h.elim
        · split at h
          · rename_i hs
            simp only [if_pos hs]
            exact ih _ _ h
          · exact h.elim
      · exact h.elim

theorem buildC_fac {t : TypeId} {parts : List (Nat × Value)} {k : Value → Prop} (h : buildC T t parts k) : ∃ x, k x ∧ buildC T t parts (· = x) := by
  unfold buildC at h ⊢
  split at h
  · split at h
    · rename_i hok
      obtain ⟨cs, hk, hc⟩ := fillC_fac _ _ _ h
      refine ⟨_, hk, ?_⟩
      rw [if_pos hok]
      exact fillC_mono _ _ () (fun x hx => by rw [hx]) hc
    · exact h.elim
  · split at h
    · rename_i hok
      obtain ⟨cs, hk, hc⟩ := fillC_fac _ _ _ h
      refine ⟨_, hk, ?_⟩
      rw [if_pos hok]
      exact fillC_mono _ _ () (fun x hx => by rw [hx]) hc
    · exact h.elim
  · exact h.elim

theorem pure_sound (hT : Agrees P T) {ρ : Operand → Value} {o : Oper} {k : Value → Prop} (h : pureOp T ρ o.op k) : ∃ v, k v ∧ PureOK P ρ o v := by
  obtain ⟨dst, op, type, pos, after, guard⟩ := o
  simp only at h
  unfold PureOK
  simp only
  cases op with
  | move x => exact ⟨_, h, fun φ ρ' hr => ⟨_, fun w => rfl, hr x (by simp [Op.operands])⟩⟩
  | assign x => exact ⟨_, h, fun φ ρ' hr => ⟨_, fun w => rfl, hr x (by simp [Op.operands])⟩⟩
  | pick c a b =>
    simp only [pureOp] at h
    split at h
    · rename_i t ht
      cases t
      · refine ⟨_, by simpa using h, fun φ ρ' hr => ⟨ρ' b, fun w => ?_, hr b (by simp [Op.operands])⟩⟩
        have hc := hr c (by simp [Op.operands])
        rw [ht] at hc
        generalize hx : ρ' c = x at hc
        cases hc
        simp [execOp, hx, asBool]
      · refine ⟨_, by simpa using h, fun φ ρ' hr => ⟨ρ' a, fun w => ?_, hr a (by simp [Op.operands])⟩⟩
        have hc := hr c (by simp [Op.operands])
        rw [ht] at hc
        generalize hx : ρ' c = x at hc
        cases hc
        simp [execOp, hx, asBool]
    · exact h.elim
  | build t parts =>
    simp only [pureOp] at h
    obtain ⟨v, hk, hb⟩ := buildC_fac h
    refine ⟨v, hk, fun φ ρ' hr => ?_⟩
    obtain ⟨v0, v', rfl, h2, h1⟩ := build_sound (φ := φ) hT hb (parts' := parts.toList.map fun p => (p.1, ρ' p.2)) (by simp) (by
      intro j p p' hp hp'
      simp only [List.getElem?_map] at hp hp'
      cases hq : parts.toList[j]? with
      | none => rw [hq] at hp; simp at hp
      | some q =>
        rw [hq] at hp hp'
        simp at hp hp'
        subst hp hp'
        refine ⟨rfl, hr q.2 ?_⟩
        simp only [Op.operands, List.mem_toArray, List.mem_map]
        exact ⟨q, List.mem_of_getElem? hq, rfl⟩)
    have e : (parts.toList.map fun p => (p.1, ρ' p.2)).toArray = parts.map fun p => (p.1, ρ' p.2) := by
      apply Array.ext'; simp
    rw [e] at h1
    exact ⟨v', fun w => by simp [execOp, h1 w], h2⟩
  | nilCheck x =>
    simp only [pureOp] at h
    split at h
    · rename_i p hp
      obtain ⟨a, rfl, hk⟩ := onPtr_some h
      refine ⟨_, hk, fun φ ρ' hr => ?_⟩
      have hx := hr x (by simp [Op.operands])
      rw [hp] at hx
      obtain ⟨b, B, o, rfl, hb, he⟩ := vrel_ptr hx
      exact ⟨_, fun w => by simp [execOp, he], .ptr o hb⟩
    · exact h.elim
  | binOp op xt x y yt =>
    simp only [pureOp] at h
    obtain ⟨v, hk, hv, hr0⟩ := binL_sound hT h
    refine ⟨v, hk, fun φ ρ' hr => ⟨v, fun w => ?_, hv φ⟩⟩
    have := hr0 φ _ _ x y (hr x (by simp [Op.operands])) (hr y (by simp [Op.operands])) w
    simp only [execOp, Sem.run_bind, Sem.run_pure] at this ⊢
    rw [this]
    rfl
  | unOp op t x =>
    simp only [pureOp] at h
    split at h
    · rename_i b hb
      refine ⟨_, h, fun φ ρ' hr => ⟨_, fun w => ?_, .bool _⟩⟩
      have hx := hr x (by simp [Op.operands])
      rw [hb] at hx
      generalize hx' : ρ' x = x' at hx
      cases hx
      simp [execOp, hx', Op.unary]
    · rename_i j n hn
      refine ⟨_, h, fun φ ρ' hr => ⟨_, fun w => ?_, .int _ _⟩⟩
      have hx := hr x (by simp [Op.operands])
      rw [hn] at hx
      generalize hx' : ρ' x = x' at hx
      cases hx
      simp [execOp, hx', Op.unary, Op.intArith]
    · exact h.elim
  | convert src dst x =>
    simp only [pureOp] at h
    split at h
    · exact h.elim
    · rename_i hsrc
      obtain ⟨_, ds, _, hds, _⟩ := hT.get hsrc
      split at h
      · rename_i j j' n hj hn
        refine ⟨_, h, fun φ ρ' hr => ⟨_, fun w => ?_, .int _ _⟩⟩
        have hx := hr x (by simp [Op.operands])
        rw [hn] at hx
        generalize hx' : ρ' x = x' at hx
        cases hx
        simp [execOp, hx', convert, run_underlying hds, run_underlying (hT.int hj), Conv.intToInt]
      · rename_i s hj hs
        refine ⟨_, h, fun φ ρ' hr => ⟨_, fun w => ?_, .str _⟩⟩
        have hx := hr x (by simp [Op.operands])
        rw [hs] at hx
        generalize hx' : ρ' x = x' at hx
        cases hx
        simp [execOp, hx', convert, run_underlying hds, run_underlying (hT.str hj)]
      · exact h.elim
  | makeInterface t x =>
    simp only [pureOp] at h
    split at h
    · rename_i ht
      refine ⟨_, h, fun φ ρ' hr => ⟨_, fun w => ?_, .iface _ _ _ (hr x (by simp [Op.operands]))⟩⟩
      have hnb : (T t).k ≠ .bad := by intro hb; rw [hb] at ht; cases ht
      obtain ⟨_, d, _, hd, hk, _⟩ := hT.get hnb
      cases d <;> simp [K.of] at hk <;> simp [execOp, Instr.makeInterface, run_underlying hd]
      rw [← hk.1] at ht
      cases ht
    · exact h.elim
  | makeFunc fn first captured =>
    simp only [pureOp] at h
    refine ⟨_, h, fun φ ρ' hr => ⟨.func fn (first.map ρ') (captured.map ρ'), fun w => rfl, ?_⟩⟩
    have h1 := LRel.map (φ := φ) (ρ := ρ) (ρ' := ρ') first.toList (fun x hx => hr x (by simp [Op.operands]; exact .inl (by simpa using hx)))
    have h2 := LRel.map (φ := φ) (ρ := ρ) (ρ' := ρ') captured.toList (fun x hx => hr x (by simp [Op.operands]; exact .inr (by simpa using hx)))
    have a1 := h1.to_arr (as := first.map ρ) (bs := first.map ρ') (by simp) (by simp)
    have a2 := h2.to_arr (as := captured.map ρ) (bs := captured.map ρ') (by simp) (by simp)
    exact .fn _ _ _ _ _ a1.1 a1.2 a2.1 a2.2
  | slice t x lo hi mx =>
    simp only [pureOp] at h
    cases mx with
    | some m => simp at h
    | none =>
      simp only at h
      split at h
      · rename_i e a n c hk hs hx
        split at h
        · exact h.elim
        · rename_i he
          obtain ⟨v, hkv, hv⟩ := sliceC_sound (P := P) h
          refine ⟨v, hkv, fun φ ρ' hr => ?_⟩
          obtain ⟨e', hu, hse⟩ := hT.sl hk
          rw [hs] at hse
          injection hse with hse
          subst hse
          have hxr := hr x (by simp [Op.operands])
          rw [hx] at hxr
          obtain ⟨a', n', c', v', r, hx', hvv, hrun, hv'⟩ := hv φ (ρ' x) (lo.map ρ') (hi.map ρ') hxr
            (by intro l hl; cases lo with
                | none => cases hl
                | some l0 => simp at hl; subst hl; exact ⟨_, rfl, hr l0 (by simp [Op.operands])⟩)
            (by intro hl; cases lo with
                | none => rfl
                | some l0 => cases hl)
            (by intro l hl; cases hi with
                | none => cases hl
                | some l0 => simp at hl; subst hl; exact ⟨_, rfl, hr l0 (by simp [Op.operands])⟩)
            (by intro hl; cases hi with
                | none => rfl
                | some l0 => cases hl)
          refine ⟨v', fun w => ?_, hvv⟩
          rw [hv']
          obtain ⟨r1, r2, r3⟩ := r
          simp [execOp, Instr.sliceAt, Instr.slice, run_underlying hu, hx', hrun w, run_sizeOf hT he]
      · rename_i n e p hk hs hx
        split at h
        · exact h.elim
        · rename_i he
          split at h
          · obtain ⟨a, rfl, hkv⟩ := onPtr_some h
            refine ⟨_, hkv, fun φ ρ' hr => ?_⟩
            rcases hT.agg hk with ⟨n', e', hu, hse⟩ | ⟨fs, hu, hse⟩
            · rw [hs] at hse
              injection hse with h1 h2
              subst h1 h2
              have hxr := hr x (by simp [Op.operands])
              rw [hx] at hxr
              obtain ⟨b, B, o, rfl, hb, hxe⟩ := vrel_ptr hxr
              refine ⟨.slice (some ⟨B.c, o, none⟩) n n, fun w => ?_, .sl _ _ _ _ hb (Nat.le_refl _) (.inl rfl)⟩
              simp [execOp, Instr.sliceAt, run_underlying hu, hxe, Instr.sureAddr, Instr.sliceBounds, run_sizeOf hT he, Addr.add]
            · rw [hs] at hse; cases hse
          · exact h.elim
      · exact h.elim
  | fieldAddr s x f =>
    simp only [pureOp] at h
    split at h
    · rename_i off ft p hf hx
      split at h
      · exact h.elim
      · rename_i hsz
        obtain ⟨a, rfl, hkv⟩ := onPtr_some h
        refine ⟨_, hkv, fun φ ρ' hr => ?_⟩
        have hxr := hr x (by simp [Op.operands])
        rw [hx] at hxr
        obtain ⟨b, B, o, rfl, hb, hxe⟩ := vrel_ptr hxr
        unfold fieldAt? at hf
        split at hf
        · rename_i l hk hs
          rcases hT.agg hk with ⟨n', e', hu, hse⟩ | ⟨fs, hu, hse⟩
          · rw [hs] at hse; cases hse
          · rw [hs] at hse
            injection hse with hse
            subst hse
            simp only [List.getElem?_map, Array.getElem?_toList] at hf
            cases hfd : fs[f]? with
            | none => rw [hfd] at hf; cases hf
            | some fd =>
              rw [hfd] at hf
              simp at hf
              obtain ⟨rfl, rfl⟩ := hf
              have hz : ¬ (T fd.type).size = 0 := fun hh => hsz (.inr hh)
              have hbad : (T fd.type).k ≠ .bad := fun hh => hsz (.inl hh)
              refine ⟨.pointer (some ⟨B.c, o + fd.offset, none⟩), fun w => ?_, ?_⟩
              · simp [execOp, Instr.fieldAt, run_underlying hu, hfd, hxe, Instr.sureAddr, fieldPlace, run_sizeOf hT hbad, hz, add_off]
              · rw [add_off]; exact .ptr _ hb
        · cases hf
    · exact h.elim
  | field s x f =>
    simp only [pureOp] at h
    split at h
    · rename_i off ft cs hf hx
      obtain ⟨v, hkv, hp⟩ := partC_fac h
      refine ⟨v, hkv, fun φ ρ' hr => ?_⟩
      have hxr := hr x (by simp [Op.operands])
      rw [hx] at hxr
      generalize hx' : ρ' x = x' at hxr
      cases hxr with
      | agg _ cs' h1 h2 =>
        obtain ⟨v0, v', rfl, hv, hrun⟩ := part_sound hT hp (LRel.of_arr h1 h2)
        unfold fieldAt? at hf
        split at hf
        · rename_i l hk hs
          rcases hT.agg hk with ⟨n', e', hu, hse⟩ | ⟨fs, hu, hse⟩
          · rw [hs] at hse; cases hse
          · rw [hs] at hse
            injection hse with hse
            subst hse
            simp only [List.getElem?_map, Array.getElem?_toList] at hf
            cases hfd : fs[f]? with
            | none => rw [hfd] at hf; cases hf
            | some fd =>
              rw [hfd] at hf
              simp at hf
              obtain ⟨rfl, rfl⟩ := hf
              exact ⟨v', fun w => by simp [execOp, Instr.field, run_underlying hu, hfd, hx', asAgg, hrun w], hv⟩
        · cases hf
    · exact h.elim
  | indexAddr t x ix =>
    simp only [pureOp] at h
    split at h
    · rename_i e a n c j i hk hs hx hi
      split at h
      · exact h.elim
      · rename_i he
        obtain ⟨⟨h0, h1⟩, h⟩ := h
        obtain ⟨a, rfl, hkv⟩ := onPtr_some h
        refine ⟨_, hkv, fun φ ρ' hr => ?_⟩
        have hxr := hr x (by simp [Op.operands])
        have hir := hr ix (by simp [Op.operands])
        rw [hx] at hxr
        rw [hi] at hir
        obtain ⟨e', hu, hse⟩ := hT.sl hk
        rw [hs] at hse
        injection hse with hse
        subst hse
        generalize hx' : ρ' x = x' at hxr
        generalize hi' : ρ' ix = i' at hir
        cases hir
        cases hxr with
        | @sl b B o _ _ k' hb hn hkk =>
          refine ⟨.pointer (some ⟨B.c, o + i.toNat * (T e).size, none⟩), fun w => ?_, ?_⟩
          · simp [execOp, Instr.indexAt, hx', hi', asIntOf, run_underlying hu, h0, h1, run_sizeOf hT he, add_off]
          · rw [add_off]; exact .ptr _ hb
        | sle a a' k' => omega
    · rename_i n e p j i hk hs hx hi
      split at h
      · exact h.elim
      · rename_i he
        obtain ⟨⟨h0, h1⟩, h⟩ := h
        obtain ⟨a, rfl, hkv⟩ := onPtr_some h
        refine ⟨_, hkv, fun φ ρ' hr => ?_⟩
        have hxr := hr x (by simp [Op.operands])
        have hir := hr ix (by simp [Op.operands])
        rw [hx] at hxr
        rw [hi] at hir
        obtain ⟨b, B, o, rfl, hb, hxe⟩ := vrel_ptr hxr
        rcases hT.agg hk with ⟨n', e', hu, hse⟩ | ⟨fs, hu, hse⟩
        · rw [hs] at hse
          injection hse with h1 h2
          subst h1 h2
          generalize hi' : ρ' ix = i' at hir
          cases hir
          refine ⟨.pointer (some ⟨B.c, o + i.toNat * (T e).size, none⟩), fun w => ?_, ?_⟩
          · simp [execOp, Instr.indexAt, hxe, hi', asIntOf, run_underlying hu, h0, h1, run_sizeOf hT he, add_off, Instr.sureAddr]
          · rw [add_off]; exact .ptr _ hb
        · rw [hs] at hse; cases hse
    · exact h.elim
  | index t x ix =>
    simp only [pureOp] at h
    split at h
    · rename_i n e cs j i hk hs hx hi
      obtain ⟨⟨h0, h1⟩, h⟩ := h
      obtain ⟨v, hkv, hp⟩ := partC_fac h
      refine ⟨v, hkv, fun φ ρ' hr => ?_⟩
      have hxr := hr x (by simp [Op.operands])
      have hir := hr ix (by simp [Op.operands])
      rw [hx] at hxr
      rw [hi] at hir
      have he : (T e).k ≠ .bad := by
        intro hb; unfold partC at hp; rw [hb] at hp; exact hp.elim
      rcases hT.agg hk with ⟨n', e', hu, hse⟩ | ⟨fs, hu, hse⟩
      · rw [hs] at hse
        injection hse with h1' h2
        subst h1' h2
        generalize hi' : ρ' ix = i' at hir
        generalize hx' : ρ' x = x' at hxr
        cases hir
        cases hxr with
        | agg _ cs' h1'' h2 =>
          obtain ⟨v0, v', rfl, hv, hrun⟩ := part_sound hT hp (LRel.of_arr h1'' h2)
          exact ⟨v', fun w => by simp [execOp, Instr.index, hx', hi', asIntOf, run_underlying hu, h0, h1, run_sizeOf hT he, hrun w], hv⟩
      · rw [hs] at hse; cases hse
    · exact h.elim
  | extract x i =>
    simp only [pureOp] at h
    split at h
    · rename_i vs hx
      split at h
      · exact h.elim
      rename_i hone
      split at h
      · rename_i v hv
        refine ⟨v, h, fun φ ρ' hr => ?_⟩
        have hxr := hr x (by simp [Op.operands])
        rw [hx] at hxr
        generalize hx' : ρ' x = x' at hxr
        cases hxr with
        | undef => simp at hv
        | skip => simp at hone
        | tup _ ws h1 h2 =>
          have hl := LRel.of_arr h1 h2
          have hlt : i < ws.toList.length := by
            rw [← hl.1]; exact (List.getElem?_eq_some_iff.1 hv).1
          have hw := List.getElem?_eq_getElem hlt
          have hw' : ws[i]? = some ws.toList[i] := by rw [← Array.getElem?_toList]; exact hw
          exact ⟨ws.toList[i], fun w => by simp [execOp, Instr.extract, hx', hw'], hl.2 i v _ hv hw⟩
      · exact h.elim
    · exact h.elim
  | call c =>
    obtain ⟨callee, args, argTypes⟩ := c
    simp only [pureOp] at h
    split at h
    · split at h
      · rename_i t ts x xs hts hxs
        have ht0 : argTypes[0]? = some t := by rw [← Array.getElem?_toList, hts]; rfl
        have hx0 : args[0]? = some x := by rw [← Array.getElem?_toList, hxs]; rfl
        have hxm : x ∈ (Op.call { callee := .builtin .len, args, argTypes }).operands := by
          simp only [Op.operands, Call.operands, Array.mem_append]
          exact .inr (Array.mem_of_getElem? hx0)
        have hrunlen : ∀ (ρ' : Operand → Value) (w : World) (n : Int), (Builtin.len_ argTypes type (args.map ρ')).run P w = .ok (.int .i64 n) w →
            (execOp ρ' { dst, op := .call { callee := .builtin .len, args, argTypes }, type, pos, after, guard }).run P w = .ok (.value (.int .i64 n)) w := by
          intro ρ' w n hn
          simp [execOp, resolve, invoke, builtin, hn]
        split at h
        · rename_i a n c hk hx
          refine ⟨_, h, fun φ ρ' hr => ?_⟩
          have hxr := hr x hxm
          rw [hx] at hxr
          obtain ⟨e, hu, _⟩ := hT.sl hk
          refine ⟨_, fun w => hrunlen ρ' w n ?_, .int _ _⟩
          generalize hx' : ρ' x = x' at hxr
          cases hxr <;> simp [Builtin.len_, ht0, hx0, hx', run_underlying hu, goInt]
        · rename_i s hk hx
          refine ⟨_, h, fun φ ρ' hr => ?_⟩
          have hxr := hr x hxm
          rw [hx] at hxr
          refine ⟨_, fun w => hrunlen ρ' w _ ?_, .int _ _⟩
          generalize hx' : ρ' x = x' at hxr
          cases hxr
          simp [Builtin.len_, ht0, hx0, hx', run_underlying (hT.str hk), goInt]
        · rename_i n e hk hs
          refine ⟨_, h, fun φ ρ' hr => ?_⟩
          rcases hT.agg hk with ⟨n', e', hu, hse⟩ | ⟨fs, hu, hse⟩
          · rw [hs] at hse
            injection hse with h1 h2
            subst h1 h2
            refine ⟨_, fun w => hrunlen ρ' w _ ?_, .int _ _⟩
            simp [Builtin.len_, ht0, hx0, run_underlying hu, goInt]
          · rw [hs] at hse; cases hse
        · exact h.elim
      · exact h.elim
    · split at h
      · rename_i x xs hxs
        obtain ⟨v, hkv, hv, hrun⟩ := minMax_sound (P := P) _ _ _ h
        refine ⟨v, hkv, fun φ ρ' hr => ⟨v, fun w => ?_, hv φ⟩⟩
        have hmem : ∀ y ∈ x :: xs, VRel φ (ρ y) (ρ' y) := fun y hy => hr y (by
          simp only [Op.operands, Call.operands, Array.mem_append]
          exact .inr (Array.mem_toList_iff.1 (hxs ▸ hy)))
        have := hrun φ (ρ' x) (xs.map ρ') (hmem x (by simp)) (by simp) (fun i a b ha hb => (LRel.map xs (fun y hy => hmem y (by simp [hy]))).2 i a b ha hb) w
        simp [execOp, resolve, invoke, builtin, Builtin.min_, hxs] at this ⊢
        rw [this]
        rfl
      · exact h.elim
    · split at h
      · rename_i x xs hxs
        obtain ⟨v, hkv, hv, hrun⟩ := minMax_sound (P := P) _ _ _ h
        refine ⟨v, hkv, fun φ ρ' hr => ⟨v, fun w => ?_, hv φ⟩⟩
        have hmem : ∀ y ∈ x :: xs, VRel φ (ρ y) (ρ' y) := fun y hy => hr y (by
          simp only [Op.operands, Call.operands, Array.mem_append]
          exact .inr (Array.mem_toList_iff.1 (hxs ▸ hy)))
        have := hrun φ (ρ' x) (xs.map ρ') (hmem x (by simp)) (by simp) (fun i a b ha hb => (LRel.map xs (fun y hy => hmem y (by simp [hy]))).2 i a b ha hb) w
        simp [execOp, resolve, invoke, builtin, Builtin.max_, hxs] at this ⊢
        rw [this]
        rfl
      · exact h.elim
    · exact h.elim
  | _ => simp [pureOp] at h

end
end Go.Abs
