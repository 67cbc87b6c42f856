/- Rules for calls by a value, for calls that answer a bool, and for regions in any order with guards. -/
import Derived.Test.YtlinbbjobjnipaaP10
set_option linter.unusedVariables false
set_option linter.unusedSimpArgs false
set_option linter.unusedSectionVars false
namespace Go.Proofs.Ytlinbbjobjnipaa
open Go AI

section
variable {P : Program} {pure : Nat → Bool} {F : CallF} {G : CallG} {lim n : Nat} {ops rest : List Oper} {g : Gm} {hp : Hp} {nb : Nat} {Q : Gm → Hp → Nat → Prop} {W : List Foot → Gm → Hp → Nat → Prop}

theorem ro_callV {d f : Nat} {c : Call} {ty : TypeId} {pos : String} {aft : Array Edge} {xs : List AV} {Qc : AV → Hp → Nat → Prop} (hcal : calleeA (evalF g) (.call c) = some (f, xs)) (hp0 : pure f = false) (hpl : xs.all plainV = false) (hv : CA F f xs hp nb Qc) (hd : d < n)
    (h2 : ∀ v hp' nb', Qc v hp' nb' → RO P pure F G n ops rest (upd g d v) hp' nb' Q) : RO P pure F G n ops ({ dst := some d, op := .call c, type := ty, pos := pos, after := aft, guard := none } :: rest) g hp nb Q := by
  intro T h r
  obtain ⟨v, h', e1, e2⟩ := hv h r.hp r.nb
  refine ro_one (v := v) (c := .all h h') (hp' := AI.hf h') (nb' := h'.length) rfl r ?_ rfl rfl (fun e he => by cases he; exact hd) (h2 v _ _ e2)
  unfold runOp
  rw [rel_eval r]
  simp only [hcal]
  rw [if_neg (by simp [hp0]), if_neg (by simp [hpl]), e1]
  rfl

theorem ro_addV {d f : Nat} {c : Call} {ty : TypeId} {pos : String} {aft : Array Edge} {xs : List AV} {Qc : AV → Hp → Nat → Prop} (hcal : calleeA (evalF g) (.call c) = some (f, xs)) (hp0 : pure f = false) (hpl : xs.all plainV = true)
    (hv : CA F f xs (AI.hf []) 0 Qc) (hd : d < n)
    (h2 : ∀ v0 h', Qc v0 (AI.hf h') h'.length → ∃ v bs, shR nb h'.length v0 = some v ∧ h'.mapM (shB nb h'.length) = some bs ∧ RO P pure F G n ops rest (upd g d v) (addHp hp nb bs) (nb + bs.length) Q) :
    RO P pure F G n ops ({ dst := some d, op := .call c, type := ty, pos := pos, after := aft, guard := none } :: rest) g hp nb Q := by
  intro T h r
  obtain ⟨v0, h', e1, e2⟩ := hv [] rfl rfl
  obtain ⟨v, bs, e3, e4, e5⟩ := h2 v0 h' e2
  refine ro_one (v := v) (c := .add nb bs) (hp' := addHp hp nb bs) (nb' := nb + bs.length) rfl r ?_ ?_ ?_ (fun e he => by cases he; exact hd) e5
  · unfold runOp
    rw [rel_eval r]
    simp only [hcal]
    rw [if_neg (by simp [hp0]), if_pos hpl, e1]
    simp only [Option.bind_some, addOf, r.nb, e3, e4, Option.map_some]
  · show AI.hf (addL h nb bs) = _
    rw [addL_hf0, r.hp]
  · show (addL h nb bs).length = _
    rw [← r.nb, addL_length]

/-- A call that answers a bool and leaves what was. -/
def BoolOk (r : Bool) (hp : Hp) (nb : Nat) (v : AV) (hp' : Hp) (nb' : Nat) : Prop := v = .pv (.bool r) ∧ After hp nb (.pv .nilSlice) hp' nb'

theorem ro_bool {d f : Nat} {c : Call} {ty : TypeId} {pos : String} {aft : Array Edge} {xs : List AV} {r : Bool} (hcal : calleeA (evalF g) (.call c) = some (f, xs)) (hp0 : pure f = false)
    (hc : xs.all plainV = false → CA F f xs hp nb (BoolOk r hp nb)) (hc0 : xs.all plainV = true → CA F f xs (AI.hf []) 0 (BoolOk r (AI.hf []) 0)) (hd : d < n)
    (h2 : ∀ hp' nb', After hp nb (.pv .nilSlice) hp' nb' → RO P pure F G n ops rest (upd g d (.pv (.bool r))) hp' nb' Q) : RO P pure F G n ops ({ dst := some d, op := .call c, type := ty, pos := pos, after := aft, guard := none } :: rest) g hp nb Q := by
  cases hpl : xs.all plainV with
  | false => exact ro_callV hcal hp0 hpl (hc hpl) hd (fun v hp' nb' ⟨hv, ha⟩ => by subst hv; exact h2 _ _ ha)
  | true =>
    refine ro_addV hcal hp0 hpl (hc0 hpl) hd ?_
    rintro v0 h' ⟨rfl, ha⟩
    obtain ⟨bs, e1, e2, e3, e4, e5, e6⟩ := add_all (ha.2.2 tidy_nil) hp nb
    exact ⟨_, bs, rfl, e1, h2 _ _ ⟨by omega, fun id hid _ => e3 id hid, e4⟩⟩

/-- A value behind a guard. -/
def selV (b want : Bool) (v : AV) : AV := if b == want then v else undefA

theorem selV_hit {b want : Bool} (h : (b == want) = true) {v : AV} : selV b want v = v := by unfold selV; rw [if_pos h]

/-- An operation behind a guard of which the wish is not known. -/
theorem ro_gsel {j e : Nat} {want b : Bool} {d : Nat} {op : Op} {ty : TypeId} {pos : String} {aft : Array Edge} {v : AV} (he : (ops[j]?).bind (·.dst) = some e) (hg : g e = .pv (.bool b))
    (hc : calleeA (evalF g) op = none) (hv : (b == want) = true → primA P (evalF g) hp nb op = some (.val v)) (hd : d < n)
    (h2 : RO P pure F G n ops rest (upd g d (selV b want v)) hp nb Q) : RO P pure F G n ops ({ dst := some d, op := op, type := ty, pos := pos, after := aft, guard := some (j, want) } :: rest) g hp nb Q := by
  cases hb : (b == want) with
  | true =>
    rw [selV_hit hb] at h2
    exact ro_guard he hg hb (ro_val hc (hv hb) hd h2)
  | false =>
    have : selV b want v = undefA := by unfold selV; rw [hb]; rfl
    rw [this] at h2
    exact ro_skip he hg hb (fun e he => by cases he; exact hd) h2

theorem ro_por {d : Nat} {c y : Operand} {ty : TypeId} {pos : String} {aft : Array Edge} {b z : Bool} (hc : evalF g c = .pv (.bool b)) (hy : evalF g y = selV b false (.pv (.bool z))) (hd : d < n)
    (h2 : RO P pure F G n ops rest (upd g d (.pv (.bool (b || z)))) hp nb Q) : RO P pure F G n ops ({ dst := some d, op := .pick c (.const (.bool true)) y, type := ty, pos := pos, after := aft, guard := none } :: rest) g hp nb Q := by
  refine ro_pick hc (vx := .pv (.bool true)) rfl hy hd ?_
  cases b <;> exact h2

theorem ro_pand {d : Nat} {c y : Operand} {ty : TypeId} {pos : String} {aft : Array Edge} {b z : Bool} (hc : evalF g c = .pv (.bool b)) (hy : evalF g y = selV b true (.pv (.bool z))) (hd : d < n)
    (h2 : RO P pure F G n ops rest (upd g d (.pv (.bool (b && z)))) hp nb Q) : RO P pure F G n ops ({ dst := some d, op := .pick c y (.const (.bool false)), type := ty, pos := pos, after := aft, guard := none } :: rest) g hp nb Q := by
  refine ro_pick hc hy (vy := .pv (.bool false)) rfl hd ?_
  cases b <;> exact h2

/-! Regions that may come in another order. -/

theorem rd_w {o : Oper} (hw : wantF ops g o = some true) {v : AV} {c : Chg} {hp' : Hp} {nb' : Nat} {T : List AV} {h : List Blk} (r : Rel n g hp nb T h)
    (h3 : runOp P pure F G T h o.op = some (v, c)) (h4 : AI.hf (c.st h) = hp') (h5 : (c.st h).length = nb')
    (hd : ∀ d, o.dst = some d → d < n) (h2 : RD P pure F G n ops rest (putF g o.dst v) hp' nb' fun fs => W (footF ops o.dst o.op g c o :: fs)) :
    ∃ fs T' h' g' hp' nb', traceD P pure F G ops (o :: rest) (T, h) = some (fs, (T', h')) ∧ Rel n g' hp' nb' T' h' ∧ W fs g' hp' nb' := by
  have hst : stepOp P pure F G ops o (T, h) = some (v, c) := by
    unfold stepOp
    rw [rel_want r, hw]
    exact h3
  have hr : Rel n (putF g o.dst v) hp' nb' (putA T o.dst v) (c.st h) := by
    unfold putF putA
    cases hdd : o.dst with
    | none => exact ⟨r.len, r.get, h4, h5⟩
    | some d => exact rel_put r (hd d hdd) v h4 h5
  obtain ⟨fs, T', h', g', hp1, nb1, e1, e2, e3⟩ := h2 _ _ hr
  refine ⟨_, T', h', g', hp1, nb1, ?_, e2, e3⟩
  rw [traceD_cons, hst]
  show Option.map _ (traceD P pure F G ops rest (putA T o.dst v, c.st h)) = _
  rw [e1]
  show some (footOf _ _ _ _ :: fs, _) = _
  congr 3
  unfold footOf footF opReads
  rw [rel_want r, rel_eval r, hw]
  rfl

theorem want_of {j e : Nat} {want b : Bool} {dst : Option Nat} {op : Op} {ty : TypeId} {pos : String} {aft : Array Edge} (he : (ops[j]?).bind (·.dst) = some e) (hg : g e = .pv (.bool b)) (hb : (b == want) = true) :
    wantF ops g { dst := dst, op := op, type := ty, pos := pos, after := aft, guard := some (j, want) } = some true := by
  unfold wantF
  simp only [he, hg, hb]

variable {gd : Option (Nat × Bool)}

theorem rdw_val {d : Nat} {op : Op} {ty : TypeId} {pos : String} {aft : Array Edge} {v : AV} (hw : wantF ops g { dst := some d, op := op, type := ty, pos := pos, after := aft, guard := gd } = some true)
    (hc : calleeA (evalF g) op = none) (hv : primA P (evalF g) hp nb op = some (.val v)) (hd : d < n)
    (h2 : RD P pure F G n ops rest (upd g d v) hp nb fun fs => W (footF ops (some d) op g .no { dst := some d, op := op, type := ty, pos := pos, after := aft, guard := gd } :: fs)) :
    RD P pure F G n ops ({ dst := some d, op := op, type := ty, pos := pos, after := aft, guard := gd } :: rest) g hp nb W := by
  intro T h r
  refine rd_w hw r (v := v) (c := .no) ?_ r.hp r.nb (fun e he => by cases he; exact hd) h2
  unfold runOp
  rw [rel_eval r]
  simp only [hc]
  rw [r.hp, r.nb, hv]
  rfl

theorem rdw_move {d : Nat} {x : Operand} {ty : TypeId} {pos : String} {aft : Array Edge} {v : AV} (hw : wantF ops g { dst := some d, op := .move x, type := ty, pos := pos, after := aft, guard := gd } = some true) (hv : evalF g x = v) (hd : d < n)
    (h2 : RD P pure F G n ops rest (upd g d v) hp nb fun fs => W (footF ops (some d) (.move x) g .no { dst := some d, op := .move x, type := ty, pos := pos, after := aft, guard := gd } :: fs)) :
    RD P pure F G n ops ({ dst := some d, op := .move x, type := ty, pos := pos, after := aft, guard := gd } :: rest) g hp nb W :=
  rdw_val hw rfl (by simp only [primA]; rw [hv]) hd h2

theorem rdw_assign {d : Nat} {x : Operand} {ty : TypeId} {pos : String} {aft : Array Edge} {v : AV} (hw : wantF ops g { dst := some d, op := .assign x, type := ty, pos := pos, after := aft, guard := gd } = some true) (hv : evalF g x = v) (hd : d < n)
    (h2 : RD P pure F G n ops rest (upd g d v) hp nb fun fs => W (footF ops (some d) (.assign x) g .no { dst := some d, op := .assign x, type := ty, pos := pos, after := aft, guard := gd } :: fs)) :
    RD P pure F G n ops ({ dst := some d, op := .assign x, type := ty, pos := pos, after := aft, guard := gd } :: rest) g hp nb W :=
  rdw_val hw rfl (by simp only [primA]; rw [hv]) hd h2

theorem rdw_nilCheck {d : Nat} {x : Operand} {ty : TypeId} {pos : String} {aft : Array Edge} {id ver off : Nat} (hw : wantF ops g { dst := some d, op := .nilCheck x, type := ty, pos := pos, after := aft, guard := gd } = some true) (hv : evalF g x = .ptr id ver off) (hd : d < n)
    (h2 : RD P pure F G n ops rest (upd g d (.ptr id ver off)) hp nb fun fs => W (footF ops (some d) (.nilCheck x) g .no { dst := some d, op := .nilCheck x, type := ty, pos := pos, after := aft, guard := gd } :: fs)) :
    RD P pure F G n ops ({ dst := some d, op := .nilCheck x, type := ty, pos := pos, after := aft, guard := gd } :: rest) g hp nb W :=
  rdw_val hw rfl (by simp only [primA]; rw [hv]) hd h2

theorem rdw_fieldAddr {d f : Nat} {s : TypeId} {x : Operand} {ty : TypeId} {pos : String} {aft : Array Edge} {a v : AV} (hw : wantF ops g { dst := some d, op := .fieldAddr s x f, type := ty, pos := pos, after := aft, guard := gd } = some true) (hx : evalF g x = a) (hv : fieldAddrA P s a f = some v) (hd : d < n)
    (h2 : RD P pure F G n ops rest (upd g d v) hp nb fun fs => W (footF ops (some d) (.fieldAddr s x f) g .no { dst := some d, op := .fieldAddr s x f, type := ty, pos := pos, after := aft, guard := gd } :: fs)) :
    RD P pure F G n ops ({ dst := some d, op := .fieldAddr s x f, type := ty, pos := pos, after := aft, guard := gd } :: rest) g hp nb W :=
  rdw_val hw rfl (by simp only [primA]; rw [hx, hv]; rfl) hd h2

theorem rdw_load {d : Nat} {t : TypeId} {x : Operand} {ty : TypeId} {pos : String} {aft : Array Edge} {a v : AV} (hw : wantF ops g { dst := some d, op := .load t x, type := ty, pos := pos, after := aft, guard := gd } = some true) (hx : evalF g x = a) (hv : loadA P hp t a = some v) (hd : d < n)
    (h2 : RD P pure F G n ops rest (upd g d v) hp nb fun fs => W (footF ops (some d) (.load t x) g .no { dst := some d, op := .load t x, type := ty, pos := pos, after := aft, guard := gd } :: fs)) :
    RD P pure F G n ops ({ dst := some d, op := .load t x, type := ty, pos := pos, after := aft, guard := gd } :: rest) g hp nb W :=
  rdw_val hw rfl (by simp only [primA]; rw [hx, hv]; rfl) hd h2

theorem rdw_bin {d : Nat} {op : BinOp} {t t2 : TypeId} {x y : Operand} {ty : TypeId} {pos : String} {aft : Array Edge} {a b v : AV} (hw : wantF ops g { dst := some d, op := .binOp op t x y t2, type := ty, pos := pos, after := aft, guard := gd } = some true) (hx : evalF g x = a) (hy : evalF g y = b) (hv : binOpA P op t a b = some v) (hd : d < n)
    (h2 : RD P pure F G n ops rest (upd g d v) hp nb fun fs => W (footF ops (some d) (.binOp op t x y t2) g .no { dst := some d, op := .binOp op t x y t2, type := ty, pos := pos, after := aft, guard := gd } :: fs)) :
    RD P pure F G n ops ({ dst := some d, op := .binOp op t x y t2, type := ty, pos := pos, after := aft, guard := gd } :: rest) g hp nb W :=
  rdw_val hw rfl (by simp only [primA]; rw [hx, hy, hv]; rfl) hd h2

theorem rdw_un {d : Nat} {op : UnOp} {t : TypeId} {x : Operand} {ty : TypeId} {pos : String} {aft : Array Edge} {a v : AV} (hw : wantF ops g { dst := some d, op := .unOp op t x, type := ty, pos := pos, after := aft, guard := gd } = some true) (hx : evalF g x = a) (hv : unOpA op a = some v) (hd : d < n)
    (h2 : RD P pure F G n ops rest (upd g d v) hp nb fun fs => W (footF ops (some d) (.unOp op t x) g .no { dst := some d, op := .unOp op t x, type := ty, pos := pos, after := aft, guard := gd } :: fs)) :
    RD P pure F G n ops ({ dst := some d, op := .unOp op t x, type := ty, pos := pos, after := aft, guard := gd } :: rest) g hp nb W :=
  rdw_val hw rfl (by simp only [primA]; rw [hx, hv]; rfl) hd h2

theorem rdw_conv {d : Nat} {s t : TypeId} {x : Operand} {ty : TypeId} {pos : String} {aft : Array Edge} {a v : AV} (hw : wantF ops g { dst := some d, op := .convert s t x, type := ty, pos := pos, after := aft, guard := gd } = some true) (hx : evalF g x = a) (hv : convertA P hp nb s t a = some (.val v)) (hd : d < n)
    (h2 : RD P pure F G n ops rest (upd g d v) hp nb fun fs => W (footF ops (some d) (.convert s t x) g .no { dst := some d, op := .convert s t x, type := ty, pos := pos, after := aft, guard := gd } :: fs)) :
    RD P pure F G n ops ({ dst := some d, op := .convert s t x, type := ty, pos := pos, after := aft, guard := gd } :: rest) g hp nb W :=
  rdw_val hw rfl (by simp only [primA]; rw [hx, hv]) hd h2

theorem rdw_indexAddr {d : Nat} {t : TypeId} {x ix : Operand} {ty : TypeId} {pos : String} {aft : Array Edge} {a i v : AV} (hw : wantF ops g { dst := some d, op := .indexAddr t x ix, type := ty, pos := pos, after := aft, guard := gd } = some true) (hx : evalF g x = a) (hi : evalF g ix = i) (hv : indexAddrA P t a i = some v) (hd : d < n)
    (h2 : RD P pure F G n ops rest (upd g d v) hp nb fun fs => W (footF ops (some d) (.indexAddr t x ix) g .no { dst := some d, op := .indexAddr t x ix, type := ty, pos := pos, after := aft, guard := gd } :: fs)) :
    RD P pure F G n ops ({ dst := some d, op := .indexAddr t x ix, type := ty, pos := pos, after := aft, guard := gd } :: rest) g hp nb W :=
  rdw_val hw rfl (by simp only [primA]; rw [hx, hi, hv]; rfl) hd h2

theorem rdw_slice {d : Nat} {t : TypeId} {x : Operand} {lo hi mx : Option Operand} {ty : TypeId} {pos : String} {aft : Array Edge} {a v : AV} {l1 l2 l3 : Option AV} (hw : wantF ops g { dst := some d, op := .slice t x lo hi mx, type := ty, pos := pos, after := aft, guard := gd } = some true) (hx : evalF g x = a)
    (e1 : lo.map (evalF g) = l1) (e2 : hi.map (evalF g) = l2) (e3 : mx.map (evalF g) = l3) (hv : sliceOpA P t a l1 l2 l3 = some v) (hd : d < n)
    (h2 : RD P pure F G n ops rest (upd g d v) hp nb fun fs => W (footF ops (some d) (.slice t x lo hi mx) g .no { dst := some d, op := .slice t x lo hi mx, type := ty, pos := pos, after := aft, guard := gd } :: fs)) :
    RD P pure F G n ops ({ dst := some d, op := .slice t x lo hi mx, type := ty, pos := pos, after := aft, guard := gd } :: rest) g hp nb W :=
  rdw_val hw rfl (by simp only [primA]; rw [hx, e1, e2, e3, hv]; rfl) hd h2

theorem rdw_pick {d : Nat} {c x y : Operand} {ty : TypeId} {pos : String} {aft : Array Edge} {b : Bool} {vx vy : AV} (hw : wantF ops g { dst := some d, op := .pick c x y, type := ty, pos := pos, after := aft, guard := gd } = some true) (hc : evalF g c = .pv (.bool b)) (hx : evalF g x = vx) (hy : evalF g y = vy) (hd : d < n)
    (h2 : RD P pure F G n ops rest (upd g d (if b then vx else vy)) hp nb fun fs => W (footF ops (some d) (.pick c x y) g .no { dst := some d, op := .pick c x y, type := ty, pos := pos, after := aft, guard := gd } :: fs)) :
    RD P pure F G n ops ({ dst := some d, op := .pick c x y, type := ty, pos := pos, after := aft, guard := gd } :: rest) g hp nb W := by
  refine rdw_val hw rfl ?_ hd h2
  simp only [primA]
  rw [hc]
  cases b
  · simp only [hy]; rfl
  · simp only [hx]; rfl

theorem rdw_builtin {d : Nat} {b : Builtin} {args : Array Operand} {ts : Array TypeId} {ty : TypeId} {pos : String} {aft : Array Edge} {xs : List AV} {v : AV} (hw : wantF ops g { dst := some d, op := .call { callee := .builtin b, args := args, argTypes := ts }, type := ty, pos := pos, after := aft, guard := gd } = some true) (hx : args.toList.map (evalF g) = xs) (hv : builtinA P hp nb b ts xs = some (.val v)) (hd : d < n)
    (h2 : RD P pure F G n ops rest (upd g d v) hp nb fun fs => W (footF ops (some d) (.call { callee := .builtin b, args := args, argTypes := ts }) g .no { dst := some d, op := .call { callee := .builtin b, args := args, argTypes := ts }, type := ty, pos := pos, after := aft, guard := gd } :: fs)) :
    RD P pure F G n ops ({ dst := some d, op := .call { callee := .builtin b, args := args, argTypes := ts }, type := ty, pos := pos, after := aft, guard := gd } :: rest) g hp nb W :=
  rdw_val hw rfl (by simp only [primA]; rw [hx, hv]) hd h2

theorem rdw_pure {d f : Nat} {args : Array Operand} {ats : Array TypeId} {ty : TypeId} {pos : String} {aft : Array Edge} {xs : List AV} {v : AV} (hw : wantF ops g { dst := some d, op := .call { callee := .value (.func f), args := args, argTypes := ats }, type := ty, pos := pos, after := aft, guard := gd } = some true) (hx : args.toList.map (evalF g) = xs) (hp0 : pure f = true) (hv : G hp f xs = some v) (hd : d < n)
    (h2 : RD P pure F G n ops rest (upd g d v) hp nb fun fs => W (footF ops (some d) (.call { callee := .value (.func f), args := args, argTypes := ats }) g .no { dst := some d, op := .call { callee := .value (.func f), args := args, argTypes := ats }, type := ty, pos := pos, after := aft, guard := gd } :: fs)) :
    RD P pure F G n ops ({ dst := some d, op := .call { callee := .value (.func f), args := args, argTypes := ats }, type := ty, pos := pos, after := aft, guard := gd } :: rest) g hp nb W := by
  intro T h r
  refine rd_w hw r (v := v) (c := .no) ?_ r.hp r.nb (fun e he => by cases he; exact hd) h2
  unfold runOp
  rw [rel_eval r]
  have hcal : calleeA (evalF g) (.call { callee := .value (.func f), args := args, argTypes := ats }) = some (f, xs) := by
    rw [← hx]; rfl
  simp only [hcal]
  rw [if_pos hp0, r.hp, hv]
  rfl

theorem rdw_store {t : TypeId} {x y : Operand} {ty : TypeId} {pos : String} {aft : Array Edge} {a v : AV} {id : Nat} {b : Blk} (hw : wantF ops g { dst := none, op := .store t x y, type := ty, pos := pos, after := aft, guard := gd } = some true) (hx : evalF g x = a) (hy : evalF g y = v) (hv : storeA P hp t a v = some (.upd undefA id b)) (hl : (hp id).live = true)
    (h2 : RD P pure F G n ops rest g (setHp hp id b) nb fun fs => W (footF ops none (.store t x y) g (.one id b) { dst := none, op := .store t x y, type := ty, pos := pos, after := aft, guard := gd } :: fs)) :
    RD P pure F G n ops ({ dst := none, op := .store t x y, type := ty, pos := pos, after := aft, guard := gd } :: rest) g hp nb W := by
  intro T h r
  refine rd_w hw r (v := undefA) (c := .one id b) ?_ ?_ ?_ (fun e he => by cases he) h2
  · unfold runOp
    rw [rel_eval r]
    simp only [calleeA]
    rw [r.hp, r.nb]
    simp only [primA]
    rw [hx, hy, hv]
    rfl
  · show AI.hf (setL h id b) = _
    rw [setL_hf0, r.hp]
  · show (setL h id b).length = _
    have : id < h.length := hf_lt (by rw [r.hp]; exact hl)
    rw [setL_length, ← r.nb]; omega

theorem ids_all {old new : List Blk} {id : Nat} (h : id ∈ (Chg.all old new).ids) : eqBlk (AI.hf old id) (AI.hf new id) = false := by
  simp only [Chg.ids, List.mem_filter, Bool.not_eq_true'] at h
  exact h.2

/-- What a call that leaves what was does to the heap: nothing below. -/
theorem rdw_bool {d f : Nat} {c : Call} {ty : TypeId} {pos : String} {aft : Array Edge} {xs : List AV} {r : Bool} (hw : wantF ops g { dst := some d, op := .call c, type := ty, pos := pos, after := aft, guard := gd } = some true) (hcal : calleeA (evalF g) (.call c) = some (f, xs)) (hp0 : pure f = false) (htd : Tidy hp nb)
    (hc : xs.all plainV = false → CA F f xs hp nb (BoolOk r hp nb)) (hc0 : xs.all plainV = true → CA F f xs (AI.hf []) 0 (BoolOk r (AI.hf []) 0)) (hd : d < n)
    (h2 : ∀ ch hp' nb', After hp nb (.pv .nilSlice) hp' nb' → (∀ id, id < nb → id ∉ ch.ids) → RD P pure F G n ops rest (upd g d (.pv (.bool r))) hp' nb' fun fs => W (footF ops (some d) (.call c) g ch { dst := some d, op := .call c, type := ty, pos := pos, after := aft, guard := gd } :: fs)) :
    RD P pure F G n ops ({ dst := some d, op := .call c, type := ty, pos := pos, after := aft, guard := gd } :: rest) g hp nb W := by
  intro T h rl
  cases hpl : xs.all plainV with
  | false =>
    obtain ⟨v, h', e1, rfl, e2⟩ := hc hpl h rl.hp rl.nb
    refine rd_w hw rl (v := .pv (.bool r)) (c := .all h h') ?_ rfl rfl (fun e he => by cases he; exact hd) (h2 _ _ _ e2 (fun id hid hm => ?_))
    · unfold runOp
      rw [rel_eval rl]
      simp only [hcal]
      rw [if_neg (by simp [hp0]), if_neg (by simp [hpl]), e1]
      rfl
    · have hm := ids_all hm
      rw [rl.hp, e2.2.1 id hid (by simp [ownOf])] at hm
      obtain ⟨ver, cs, k1, k2⟩ := htd id hid
      rw [k1, eqBlk_refl k2] at hm
      simp at hm
  | true =>
    obtain ⟨v, h', e1, rfl, e2⟩ := hc0 hpl [] rfl rfl
    obtain ⟨bs, f1, f2, f3, f4, f5, f6⟩ := add_all (e2.2.2 tidy_nil) hp nb
    refine rd_w hw rl (v := .pv (.bool r)) (c := .add nb bs) ?_ ?_ ?_ (fun e he => by cases he; exact hd) (h2 _ (addHp hp nb bs) (nb + bs.length) ⟨by omega, fun id hid _ => f3 id hid, f4⟩ (fun id hid hm => ?_))
    · unfold runOp
      rw [rel_eval rl]
      simp only [hcal]
      rw [if_neg (by simp [hp0]), if_pos hpl, e1]
      simp only [Option.bind_some, addOf, rl.nb, f1]
      rfl
    · show AI.hf (addL h nb bs) = _
      rw [addL_hf0, rl.hp]
    · show (addL h nb bs).length = _
      rw [← rl.nb, addL_length]
    · simp only [Chg.ids, List.mem_range'_1] at hm
      omega

theorem heapPart_quiet {a b : Foot} {m : Nat} (ha : ∀ id, id < m → id ∉ a.chg.ids) (hb : b.chg = .no) (hr : ∀ id ∈ b.reads, id < m) : heapPart a b = true := by
  have hd : disjointL a.chg.ids b.reads = true := by
    unfold disjointL
    rw [List.all_eq_true]
    intro id hid
    cases hc : b.reads.contains id with
    | false => rfl
    | true => exact absurd hid (ha id (hr id (by simpa using hc)))
  unfold heapPart
  rw [hb]
  have e1 : (Chg.no).ids = [] := rfl
  have e2 : (Chg.no).isAll = false := rfl
  have e3 : ∀ l : List Nat, disjointL l [] = true := disjoint_nil
  have e4 : ∀ l : List Nat, disjointL [] l = true := fun _ => rfl
  rw [e1, e2, hd, e3, e4]
  split <;> rfl

theorem heapPart_quiet' {a b : Foot} {m : Nat} (hb : ∀ id, id < m → id ∉ b.chg.ids) (ha : a.chg = .no) (hr : ∀ id ∈ a.reads, id < m) : heapPart a b = true := by
  have hd : disjointL b.chg.ids a.reads = true := by
    unfold disjointL
    rw [List.all_eq_true]
    intro id hid
    cases hc : a.reads.contains id with
    | false => rfl
    | true => exact absurd hid (hb id (hr id (by simpa using hc)))
  unfold heapPart
  rw [ha]
  have e1 : (Chg.no).ids = [] := rfl
  have e2 : (Chg.no).isAll = false := rfl
  have e4 : ∀ l : List Nat, disjointL [] l = true := fun _ => rfl
  rw [e1, e2, hd, e4, e4]
  split
  · rename_i h; simp at h
  · split <;> rfl
end

theorem bytes_nat : ∀ {b : List Int}, (∀ x ∈ b, 0 ≤ x ∧ x ≤ 255) → ((u8s b).map AV.pv).mapM byteOfA = some (b.map Int.toNat)
  | [], _ => rfl
  | x :: b, h => by
    have := h x List.mem_cons_self
    have e : byteOfA (.pv (.int .u8 x)) = some x.toNat := by
      unfold byteOfA
      simp only [Option.some.injEq]
      omega
    have ih := bytes_nat (b := b) (fun y hy => h y (List.mem_cons_of_mem _ hy))
    simp only [u8s, List.map_cons, List.mapM_cons] at ih ⊢
    rw [e, ih]
    rfl

/-- Bytes as a string. -/
theorem conv_str {hp hp' : Hp} {nb nb' : Nat} {v : AV} {b : List Int} (hr : Row hp nb v (u8s b)) (hb : ∀ x ∈ b, 0 ≤ x ∧ x ≤ 255) (he : ∀ id, ownOf v = some id → hp' id = hp id) : convertA Try.prog hp' nb' 27 9 v = some (.val (.pv (.str (b.map Int.toNat)))) := by
  have hr' : Row hp' nb v (u8s b) := hr.keep (Nat.le_refl _) (fun id _ ho => he id ho)
  unfold convertA
  rw [row_src hr']
  have key : ∀ {l : List PV}, Row hp nb v l → convertB Try.prog nb' 27 9 v (some (l.length, l.map .pv)) = ((l.map AV.pv).mapM byteOfA).map fun s => .val (.pv (.str s)) := by
    intro l hl
    unfold convertB
    rw [show Try.prog.underlying 27 = some (.slice 5) from by kernel_rfl, show Try.prog.underlying 9 = some .string from by kernel_rfl]
    cases hl <;> simp only [show Try.prog.underlying 5 = some (.int .u8) from by kernel_rfl] <;> rfl
  rw [key hr, bytes_nat hb]
  rfl

theorem toNat_inj : ∀ {a b : List Int}, (∀ x ∈ a, 0 ≤ x) → (∀ x ∈ b, 0 ≤ x) → (a.map Int.toNat == b.map Int.toNat) = (a == b)
  | [], [], _, _ => rfl
  | [], _ :: _, _, _ => rfl
  | _ :: _, [], _, _ => rfl
  | x :: a, y :: b, ha, hb => by
    have h1 := ha x List.mem_cons_self
    have h2 := hb y List.mem_cons_self
    have ih := toNat_inj (a := a) (b := b) (fun z hz => ha z (List.mem_cons_of_mem _ hz)) (fun z hz => hb z (List.mem_cons_of_mem _ hz))
    simp only [List.map_cons, List.cons_beq_cons, ih]
    congr 1
    rw [Bool.eq_iff_iff]
    simp only [beq_iff_eq]
    omega

end Go.Proofs.Ytlinbbjobjnipaa
