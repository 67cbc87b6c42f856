/- Regions in any order: which pairs must be asked; rows that grow there. -/
import Derived.Test.YtlinbbjobjnipaaA19
set_option linter.unusedVariables false
set_option linter.unusedSimpArgs false
set_option linter.unusedSectionVars false
namespace Go.Proofs.Ytlinbbjobjnipaa.AI
open Go

/-- The operations of a region, by its number. -/
def regOps (k : Nat) : Code → Option (List Oper)
  | .region i ops _ => if i = k then some ops.toList else none
  | .seq a b => match regOps k a with
    | some l => some l
    | none => regOps k b
  | .cond _ a b => match regOps k a with
    | some l => some l
    | none => regOps k b
  | .block _ b => regOps k b
  | .loop b => regOps k b
  | _ => none

def regOf (f : Func) (k : Nat) : List Oper :=
  match f.body with
  | some c => (regOps k c).getD []
  | none => []

/-- May an operation change the heap? -/
def mayChg : Op → Bool
  | .alloc .. | .box .. | .store .. | .buildSlice .. | .makeSlice .. | .convert .. => true
  | .call { callee := .builtin .len, .. } | .call { callee := .builtin .cap, .. } | .call { callee := .builtin .min, .. } | .call { callee := .builtin .max, .. } => false
  | .call .. => true
  | _ => false

def heapy (o : Oper) : Bool := looksIn o.op || mayChg o.op

/-- The pairs that are not ordered and may meet in the heap. -/
def needs (ops : List Oper) : List (Nat × Nat) :=
  (List.range ops.length).flatMap fun k => (List.range k).filterMap fun i =>
    match ops[i]?, ops[k]? with
    | some a, some b => if (befF ops k).testBit i then none else if (mayChg a.op || mayChg b.op) && heapy a && heapy b then some (i, k) else none
    | _, _ => none

def classOk : List Oper → List Foot → Bool
  | [], [] => true
  | o :: ops, f :: fs => (mayChg o.op || isNo f.chg) && (looksIn o.op || f.reads.isEmpty) && classOk ops fs
  | _, _ => false

theorem classOk_get : ∀ {ops : List Oper} {fs : List Foot}, classOk ops fs = true → ∀ (i : Nat) (f : Foot), fs[i]? = some f → ∃ o, ops[i]? = some o ∧ (mayChg o.op || isNo f.chg) = true ∧ (looksIn o.op || f.reads.isEmpty) = true
  | [], [], h, i, f, hf => by simp at hf
  | [], _ :: _, h, i, f, hf => by simp [classOk] at h
  | _ :: _, [], h, i, f, hf => by simp [classOk] at h
  | o :: ops, f0 :: fs, h, 0, f, hf => by
    simp only [List.getElem?_cons_zero, Option.some.injEq] at hf; subst hf
    simp only [classOk, Bool.and_eq_true] at h
    exact ⟨o, rfl, h.1.1, h.1.2⟩
  | o :: ops, f0 :: fs, h, i + 1, f, hf => by
    simp only [classOk, Bool.and_eq_true] at h
    obtain ⟨o', h1, h2⟩ := classOk_get h.2 i f (by simpa using hf)
    exact ⟨o', by simpa using h1, h2⟩

theorem heapsOk_of {bef : Nat → Nat} : ∀ {n : Nat} {l : List Foot}, (∀ i k a b, i < k → l[i]? = some a → l[k]? = some b → (bef (n + k)).testBit (n + i) = true ∨ heapPart a b = true) → heapsOk bef n l = true
  | n, [], h => rfl
  | n, c :: r, h => by
    rw [heapsOk, heapsOk_of (n := n + 1) (l := r) (fun i k a b hik ha hb => by
      have := h (i + 1) (k + 1) a b (by omega) (by simpa using ha) (by simpa using hb)
      rwa [show n + (k + 1) = n + 1 + k by omega, show n + (i + 1) = n + 1 + i by omega] at this), Bool.and_true, Bool.or_eq_true]
    right
    have key : ∀ (k : Nat) (l : List Foot), (∀ j b, l[j]? = some b → (bef (k + j)).testBit n = true ∨ heapPart c b = true) → hLater bef n c k l = true := by
      intro k l
      induction l generalizing k with
      | nil => intro _; rfl
      | cons b l ih =>
        intro hl
        rw [hLater, ih (k + 1) (fun j b hb => by
          have := hl (j + 1) b (by simpa using hb)
          rwa [show k + (j + 1) = k + 1 + j by omega] at this), Bool.and_true]
        rcases hl 0 b rfl with h1 | h1
        · rw [Nat.add_zero] at h1; simp [h1]
        · simp [h1]
    refine key (n + 1) r (fun j b hb => ?_)
    have := h 0 (j + 1) c b (by omega) rfl (by simpa using hb)
    rwa [Nat.add_zero, show n + (j + 1) = n + 1 + j by omega] at this

theorem dyn_of {ops : List Oper} {fs : List Foot} (hc : classOk ops fs = true) (h : ∀ p ∈ needs ops, ∀ a b, fs[p.1]? = some a → fs[p.2]? = some b → heapPart a b = true) : dynOk ops fs = true := by
  unfold dynOk
  rw [Bool.or_eq_true]
  right
  refine heapsOk_of (fun i k a b hik ha hb => ?_)
  rw [Nat.zero_add, Nat.zero_add]
  obtain ⟨oa, a1, a2, a3⟩ := classOk_get hc i a ha
  obtain ⟨ob, b1, b2, b3⟩ := classOk_get hc k b hb
  cases hbit : (befF ops k).testBit i with
  | true => exact .inl rfl
  | false =>
    right
    by_cases hn : ((mayChg oa.op || mayChg ob.op) && heapy oa && heapy ob) = true
    · refine h (i, k) ?_ a b ha hb
      unfold needs
      refine List.mem_flatMap.2 ⟨k, List.mem_range.2 (List.getElem?_eq_some_iff.1 b1).1, List.mem_filterMap.2 ⟨i, List.mem_range.2 hik, ?_⟩⟩
      simp only [a1, b1, hbit, Bool.false_eq_true, if_false, hn, if_true]
    · have quiet : ∀ {o : Oper} {f : Foot}, heapy o = false → (mayChg o.op || isNo f.chg) = true → (looksIn o.op || f.reads.isEmpty) = true → heapful f = false := by
        intro o f h1 h2 h3
        simp only [heapy, Bool.or_eq_false_iff] at h1
        rw [h1.2, Bool.false_or] at h2
        rw [h1.1, Bool.false_or] at h3
        cases hf : f.chg <;> rw [hf] at h2 <;> simp [isNo] at h2
        simp [heapful, hf, Chg.ids, Chg.isAll, h3]
      simp only [Bool.and_eq_true, Bool.or_eq_true, not_and, Bool.not_eq_true] at hn
      cases ha' : heapy oa with
      | false => exact heapPart_left (quiet ha' a2 a3)
      | true =>
        cases hb' : heapy ob with
        | false => exact heapPart_right (quiet hb' b2 b3)
        | true =>
          have hm : ¬ (mayChg oa.op = true ∨ mayChg ob.op = true) := fun hm => by
            have := hn ⟨hm, ha'⟩
            rw [hb'] at this; simp at this
          simp only [not_or, Bool.not_eq_true] at hm
          rw [hm.1, Bool.false_or] at a2
          rw [hm.2, Bool.false_or] at b2
          exact heapPart_no a2 b2

section
variable {P : Program} {pure : Nat → Bool} {F : CallF} {G : CallG} {lim n : Nat} {ops rest : List Oper} {g : Gm} {hp : Hp} {nb : Nat} {W : List Foot → Gm → Hp → Nat → Prop}

/-- What an append does to the heap: nothing, a change of its own row, a new block. -/
def AppChg (nb : Nat) (v : AV) (c : Chg) : Prop := c = .no ∨ (∃ b, c = .one nb b) ∨ ∃ id b, c = .one id b ∧ ownOf v = some id ∧ id < nb

theorem rd_append {d : Nat} {ty t e xt e' : TypeId} {pos : String} {aft : Array Edge} {x y : Operand} {v s : AV} {l r : List PV} (h : ST P t e) (hxt : P.underlying xt = some (.slice e')) (hx : evalF g x = v) (hy : evalF g y = s)
    (gr : Grow hp nb v l) (hs : srcA hp 1 s = some (r.length, r.map .pv)) (hl : l.length + r.length ≤ 1000000) (hd : d < n)
    (h2 : ∀ v' hp' nb' c, Grow hp' nb' v' (l ++ r) → After hp nb v hp' nb' → AppChg nb v c → (∀ id, ownOf v' = some id → ownOf v = some id ∨ nb ≤ id) → RD P pure F G n ops rest (upd g d v') hp' nb' fun fs =>
      W (footF ops (some d) (.call { callee := .builtin .append, args := #[x, y], argTypes := #[t, xt] }) g c { dst := some d, op := .call { callee := .builtin .append, args := #[x, y], argTypes := #[t, xt] }, type := ty, pos := pos, after := aft, guard := none } :: fs)) :
    RD P pure F G n ops ({ dst := some d, op := .call { callee := .builtin .append, args := #[x, y], argTypes := #[t, xt] }, type := ty, pos := pos, after := aft, guard := none } :: rest) g hp nb W := by
  have hxs : (#[x, y] : Array Operand).toList.map (evalF g) = [v, s] := by simp [hx, hy]
  have hpr : ∀ {E : Eff}, builtinA P hp nb .append #[t, xt] [v, s] = some E → primA P (evalF g) hp nb (.call { callee := .builtin .append, args := #[x, y], argTypes := #[t, xt] }) = some E := by
    intro E hE
    simp only [primA]
    rw [hxs, hE]
  rcases grow_app h gr hxt hs hl with ⟨e1, rfl⟩ | ⟨v', b, e1, eo, e2, cs, e3⟩ | ⟨v', id, b, e1, e2, e3, eo, e4, e5, ver, cs, e6⟩
  · exact rd_val rfl (hpr e1) hd (h2 v hp nb .no (by simpa using gr) ⟨Nat.le_refl _, fun _ _ _ => rfl, fun h => h⟩ (.inl rfl) (fun id h => .inl h))
  · subst e3
    refine rd_new rfl (hpr e1) hd (h2 v' _ _ _ e2 ⟨Nat.le_succ _, fun id hid _ => by simp [setHp, show id ≠ nb by omega], fun ht => tidy_new ht (fun c hc => ?_)⟩ (.inr (.inl ⟨_, rfl⟩)) (fun id hid => ?_))
    · obtain ⟨q, _, rfl⟩ := List.mem_map.1 hc; exact okC_pv _ _
    · rw [eo] at hid; cases hid; exact .inr (Nat.le_refl _)
  · subst e6
    refine rd_upd rfl (hpr e1) e2 (fun e he => by cases he; exact hd) (h2 v' _ _ _ e5 ⟨Nat.le_refl _, fun j hj hne => ?_, fun ht => tidy_pvs ht⟩ (.inr (.inr ⟨_, _, rfl, e3, e4⟩)) (fun j hj => ?_))
    · have : j ≠ id := by intro e; subst e; exact hne e3
      simp [setHp, this]
    · rw [eo] at hj; cases hj; exact .inl e3

/-- An operation behind a guard that is wanted. -/
theorem rd_gval {j e : Nat} {want b : Bool} {d : Nat} {op : Op} {ty : TypeId} {pos : String} {aft : Array Edge} {v : AV} (he : (ops[j]?).bind (·.dst) = some e) (hg : g e = .pv (.bool b)) (hb : (b == want) = true)
    (hc : calleeA (evalF g) op = none) (hv : primA P (evalF g) hp nb op = some (.val v)) (hd : d < n)
    (h2 : RD P pure F G n ops rest (upd g d v) hp nb fun fs => W (footF ops (some d) op g .no { dst := some d, op := op, type := ty, pos := pos, after := aft, guard := some (j, want) } :: fs)) :
    RD P pure F G n ops ({ dst := some d, op := op, type := ty, pos := pos, after := aft, guard := some (j, want) } :: rest) g hp nb W := by
  intro T h r
  have hw : wantA ops T { dst := some d, op := op, type := ty, pos := pos, after := aft, guard := some (j, want) } = some true := by
    rw [rel_want r]
    unfold wantF
    simp only [he, hg, hb]
  have hst : stepOp P pure F G ops { dst := some d, op := op, type := ty, pos := pos, after := aft, guard := some (j, want) } (T, h) = some (v, .no) := by
    unfold stepOp
    rw [hw]
    simp only
    unfold runOp
    rw [rel_eval r]
    simp only [hc]
    rw [r.hp, r.nb, hv]
    rfl
  obtain ⟨fs, T', h', g', hp1, nb1, e1, e2, e3⟩ := h2 _ _ (rel_put r hd v r.hp r.nb)
  refine ⟨_, T', h', g', hp1, nb1, ?_, e2, e3⟩
  rw [traceD_cons, hst]
  show Option.map _ (traceD P pure F G ops rest (T.set d v, h)) = _
  rw [e1]
  show some (footOf _ _ _ _ :: fs, _) = _
  congr 3
  unfold footOf footF opReads
  rw [hw, rel_eval r]
  rfl

/-- An operation behind a guard that is not wanted. -/
theorem rd_gskip {j e : Nat} {want b : Bool} {d : Nat} {op : Op} {ty : TypeId} {pos : String} {aft : Array Edge} (he : (ops[j]?).bind (·.dst) = some e) (hg : g e = .pv (.bool b)) (hb : (b == want) = false) (hd : d < n)
    (h2 : RD P pure F G n ops rest (upd g d undefA) hp nb fun fs => W ({ dst := some d, tmps := opTmps ops { dst := some d, op := op, type := ty, pos := pos, after := aft, guard := some (j, want) }, reads := [], chg := .no } :: fs)) :
    RD P pure F G n ops ({ dst := some d, op := op, type := ty, pos := pos, after := aft, guard := some (j, want) } :: rest) g hp nb W := by
  intro T h r
  have hw : wantA ops T { dst := some d, op := op, type := ty, pos := pos, after := aft, guard := some (j, want) } = some false := by
    rw [rel_want r]
    unfold wantF
    simp only [he, hg, hb]
  have hst : stepOp P pure F G ops { dst := some d, op := op, type := ty, pos := pos, after := aft, guard := some (j, want) } (T, h) = some (undefA, .no) := by
    unfold stepOp
    rw [hw]
  obtain ⟨fs, T', h', g', hp1, nb1, e1, e2, e3⟩ := h2 _ _ (rel_put r hd undefA r.hp r.nb)
  refine ⟨_, T', h', g', hp1, nb1, ?_, e2, e3⟩
  rw [traceD_cons, hst]
  show Option.map _ (traceD P pure F G ops rest (T.set d undefA, h)) = _
  rw [e1]
  show some (footOf _ _ _ _ :: fs, _) = _
  congr 3
  unfold footOf opReads
  rw [hw]
  rfl

theorem sh_ok {n len : Nat} {c c' : AV} (h : shA n len c = some c') : okC (n + len) c' := by
  cases c with
  | pv p => simp only [shA, Option.some.injEq] at h; subst h; exact okC_pv _ _
  | ptr id ver off =>
    simp only [shA] at h
    split at h
    · simp only [Option.some.injEq] at h; subst h; exact okC_ptr (by omega)
    · simp at h
  | slice id ver off l mc esz xc =>
    simp only [shA] at h
    split at h
    · simp only [Option.some.injEq] at h; subst h; exact okC_slice (by omega)
    · simp at h
  | _ => simp [shA] at h

theorem mapM_ok {n len : Nat} : ∀ {cs cs' : List AV}, cs.mapM (shA n len) = some cs' → ∀ c ∈ cs', okC (n + len) c
  | [], cs', h => by simp at h; subst h; simp
  | a :: l, cs', h => by
    simp only [List.mapM_cons, Option.bind_eq_bind, Option.bind_eq_some_iff, Option.pure_def, Option.some.injEq] at h
    obtain ⟨b, hb, r, hr, rfl⟩ := h
    intro c hc
    rcases List.mem_cons.1 hc with rfl | hc
    · exact sh_ok hb
    · exact mapM_ok hr c hc

theorem sh_pvs (n len : Nat) : ∀ l : List PV, (l.map AV.pv).mapM (shA n len) = some (l.map AV.pv)
  | [] => rfl
  | a :: l => by
    rw [List.map_cons, List.mapM_cons, sh_pvs n len l]
    rfl

/-- Tidy blocks told elsewhere: all that is needed of them. -/
theorem add_all {h' : List Blk} (ht : Tidy (hf h') h'.length) (hp : Hp) (nb : Nat) : ∃ bs, h'.mapM (shB nb h'.length) = some bs ∧ bs.length = h'.length ∧
    (∀ id, id < nb → addHp hp nb bs id = hp id) ∧ (Tidy hp nb → Tidy (addHp hp nb bs) (nb + bs.length)) ∧
    (∀ v l, Row (hf h') h'.length v l → ∃ v', shA nb h'.length v = some v' ∧ Row (addHp hp nb bs) (nb + bs.length) v' l ∧ (∀ id, ownOf v' = some id → nb ≤ id) ∧ (ownOf v = none → v' = v)) ∧
    (∀ v l, Grow (hf h') h'.length v l → ∃ v', shA nb h'.length v = some v' ∧ Grow (addHp hp nb bs) (nb + bs.length) v' l ∧ (∀ id, ownOf v' = some id → nb ≤ id)) := by
  obtain ⟨bs, h1, h2, h3, h4⟩ := tidy_add ht hp nb
  refine ⟨bs, h1, h2, h3, fun h0 => ?_, fun v l r => ?_, fun v l r => ?_⟩
  · intro id hid
    rcases Nat.lt_or_ge id nb with h | h
    · obtain ⟨ver, cs, e1, e2⟩ := h0 id h
      exact ⟨ver, cs, by rw [h3 id h]; exact e1, fun c hc => okC_mono (by omega) (e2 c hc)⟩
    · obtain ⟨ver, cs, e1, e2⟩ := ht (id - nb) (by omega)
      obtain ⟨cs', e3, e4⟩ := h4 (id - nb) ver cs (by omega) e1
      rw [Nat.sub_add_cancel h] at e4
      exact ⟨ver, cs', e4, fun c hc => by rw [h2]; exact mapM_ok e3 c hc⟩
  · cases r with
    | nil => exact ⟨_, rfl, .nil, fun id h => by simp [ownOf] at h, fun _ => rfl⟩
    | zcap => exact ⟨_, rfl, .zcap, fun id h => by simp [ownOf] at h, fun _ => rfl⟩
    | ros n l h => exact ⟨_, rfl, .ros n l h, fun id h => by simp [ownOf] at h, fun _ => rfl⟩
    | own id ver off n mc xc cs l hn hi hc ho hm hl =>
      obtain ⟨cs', e1, e2⟩ := h4 id ver cs hi hc
      have hlen : cs'.length = cs.length := by
        have key : ∀ {a b : List AV}, a.mapM (shA nb h'.length) = some b → b.length = a.length := by
          intro a
          induction a with
          | nil => intro b h; simp at h; subst h; rfl
          | cons x a ih =>
            intro b h
            simp only [List.mapM_cons, Option.bind_eq_bind, Option.bind_eq_some_iff, Option.pure_def, Option.some.injEq] at h
            obtain ⟨y, _, r, hr, rfl⟩ := h
            simp [ih hr]
        exact key e1
      have hsub : (cs'.drop off).take n = l.map AV.pv := by
        have key : ∀ {a b : List AV} (k : Nat), a.mapM (shA nb h'.length) = some b → (a.drop k).mapM (shA nb h'.length) = some (b.drop k) := by
          intro a
          induction a with
          | nil => intro b k h; simp at h; subst h; simp
          | cons x a ih =>
            intro b k h
            cases k with
            | zero => simpa using h
            | succ k =>
              simp only [List.mapM_cons, Option.bind_eq_bind, Option.bind_eq_some_iff, Option.pure_def, Option.some.injEq] at h
              obtain ⟨y, _, r, hr, rfl⟩ := h
              simpa using ih k hr
        have key2 : ∀ {a b : List AV} (k : Nat), a.mapM (shA nb h'.length) = some b → (a.take k).mapM (shA nb h'.length) = some (b.take k) := by
          intro a
          induction a with
          | nil => intro b k h; simp at h; subst h; simp
          | cons x a ih =>
            intro b k h
            cases k with
            | zero => simp
            | succ k =>
              simp only [List.mapM_cons, Option.bind_eq_bind, Option.bind_eq_some_iff, Option.pure_def, Option.some.injEq] at h
              obtain ⟨y, hy, r, hr, rfl⟩ := h
              simp only [List.take_succ_cons, List.mapM_cons, hy, ih k hr]
              rfl
        have := key2 n (key off e1)
        rw [hl, sh_pvs] at this
        exact (Option.some.inj this).symm
      exact ⟨.slice (id + nb) ver off n mc 1 xc, by simp [shA, hi], .own _ _ _ _ _ _ cs' _ hn (by omega) e2 (by omega) hm hsub, fun j hj => by simp only [ownOf, Option.some.injEq] at hj; omega, fun h => by simp [ownOf] at h⟩
  · cases r with
    | nil => exact ⟨_, rfl, .nil, fun id h => by simp [ownOf] at h⟩
    | own id ver n xc l hn hi hc =>
      obtain ⟨cs', e1, e2⟩ := h4 id ver _ hi hc
      rw [sh_pvs] at e1
      cases e1
      exact ⟨.slice (id + nb) ver 0 n n 1 xc, by simp [shA, hi], .own _ _ _ _ _ hn (by omega) e2, fun j hj => by simp only [ownOf, Option.some.injEq] at hj; omega⟩

mutual
theorem eqPV_refl : ∀ p : PV, eqPV p p = true
  | .bool a => by simp [eqPV]
  | .int k a => by simp [eqPV]
  | .str a => by simp [eqPV]
  | .nilPtr => rfl
  | .nilSlice => rfl
  | .nilMap => rfl
  | .nilFunc => rfl
  | .nilIface => rfl
  | .zcap => rfl
  | .ros a n c => by simp only [eqPV, decide_true, Bool.true_and]; exact eqPVs_refl c
  | .rop c o => by simp only [eqPV, decide_true, Bool.true_and]; exact eqPVs_refl c
  | .fn a => by simp [eqPV]
  | .sym a => by simp [eqPV]
theorem eqPVs_refl : ∀ p : List PV, eqPVs p p = true
  | [] => rfl
  | x :: xs => by simp only [eqPVs, eqPV_refl x, eqPVs_refl xs, Bool.and_self]
end

theorem sameCell_refl {nb : Nat} {c : AV} (h : okC nb c) : sameCell c c = true := by
  have := h 0 nb (Nat.le_refl _)
  cases c with
  | pv p => exact eqPV_refl p
  | ptr a b c => simp [sameCell]
  | slice a b c d e f g => simp [sameCell]
  | _ => simp [shA] at this

theorem eqBlk_refl {nb ver : Nat} : ∀ {cs : List AV}, (∀ c ∈ cs, okC nb c) → eqBlk (.cells ver cs) (.cells ver cs) = true := by
  intro cs h
  have key : ∀ {cs : List AV}, (∀ c ∈ cs, okC nb c) → eqCells' cs cs = true := by
    intro cs
    induction cs with
    | nil => intro _; rfl
    | cons a cs ih =>
      intro h
      simp only [eqCells', sameCell_refl (h a List.mem_cons_self), ih (fun c hc => h c (List.mem_cons_of_mem _ hc)), Bool.and_self]
  simp only [eqBlk, decide_true, Bool.true_and]
  exact key h

/-- A load of what a call leaves as it is. -/
theorem heapPart_load_all {a b : Foot} {h h' : List Blk} (ha : a.chg = .no) (hb : b.chg = .all h h') (hr : ∀ id ∈ a.reads, eqBlk (hf h id) (hf h' id) = true) : heapPart a b = true := by
  unfold heapPart
  rw [ha, hb]
  simp only [Chg.isAll, Bool.false_eq_true, if_false, if_true, Chg.ids, List.isEmpty_nil, Bool.true_and]
  unfold disjointL
  rw [List.all_eq_true]
  intro id hid
  simp only [List.mem_filter, Bool.not_eq_true'] at hid
  cases hc : a.reads.contains id with
  | false => rfl
  | true =>
    have := hr id (by simpa using hc)
    rw [this] at hid
    simp at hid
end

end Go.Proofs.Ytlinbbjobjnipaa.AI
