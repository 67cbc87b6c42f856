/- A third way to tell what the plain interpreter gives: rules for each kind of code, temporaries as a function, for values that are not known. -/
import Derived.Test.YtabpcmmkmbchnaaA16
import Derived.Test.YtabpcmmkmbchnaaA17
set_option linter.unusedVariables false
set_option linter.unusedSimpArgs false
set_option linter.unusedSectionVars false
namespace Go.Proofs.Ytabpcmmkmbchnaa.AI
open Go

abbrev Gm := Nat → AV

def upd (g : Gm) (i : Nat) (v : AV) : Gm := fun j => if j = i then v else g j

theorem upd_same (g : Gm) (i : Nat) (v : AV) : upd g i v i = v := if_pos rfl
theorem upd_ne (g : Gm) {i j : Nat} (v : AV) (h : j ≠ i) : upd g i v j = g j := if_neg h

def evalF (g : Gm) : Operand → AV
  | .tmp t => g t
  | .const v => ofConst v
  | .func f => .pv (.fn f)
  | .global _ => .dead

structure Rel (n : Nat) (g : Gm) (hp : Hp) (nb : Nat) (T : List AV) (h : List Blk) : Prop where
  len : T.length = n
  get : ∀ i, T.getD i undefA = g i
  hp : hf h = hp
  nb : h.length = nb

theorem rel_eval {n : Nat} {g : Gm} {hp : Hp} {nb : Nat} {T : List AV} {h : List Blk} (r : Rel n g hp nb T h) : evalA T = evalF g := by
  funext o
  cases o with
  | tmp i => exact r.get i
  | _ => rfl

theorem getD_set (T : List AV) (i j : Nat) (v : AV) : (T.set i v).getD j undefA = if j = i ∧ i < T.length then v else T.getD j undefA := by
  simp only [List.getD_eq_getElem?_getD, List.getElem?_set]
  by_cases h : i = j
  · subst h
    by_cases hl : i < T.length <;> simp [hl]
  · have h' : ¬ j = i := fun e => h e.symm
    simp [h, h']

theorem rel_put {n : Nat} {g : Gm} {hp hp' : Hp} {nb nb' : Nat} {T : List AV} {h h' : List Blk} (r : Rel n g hp nb T h) {d : Nat} (hd : d < n) (v : AV) (h1 : hf h' = hp') (h2 : h'.length = nb') :
    Rel n (upd g d v) hp' nb' (T.set d v) h' := by
  refine ⟨by simp [r.len], fun i => ?_, h1, h2⟩
  rw [getD_set, r.len, r.get]
  unfold upd
  simp [hd]

def wantF (ops : List Oper) (g : Gm) (o : Oper) : Option Bool :=
  match o.guard with
  | none => some true
  | some (j, want) =>
    match (ops[j]?).bind (·.dst) with
    | none => some false
    | some d => match g d with
      | .pv (.bool b) => some (b == want)
      | .dead => none
      | .pv (.sym _) => none
      | _ => some false

theorem rel_want {n : Nat} {g : Gm} {hp : Hp} {nb : Nat} {T : List AV} {h : List Blk} (r : Rel n g hp nb T h) (ops : List Oper) (o : Oper) : wantA ops T o = wantF ops g o := by
  unfold wantA wantF
  cases hg : o.guard with
  | none => rfl
  | some p =>
    obtain ⟨j, want⟩ := p
    simp only
    cases (ops[j]?).bind (·.dst) with
    | none => rfl
    | some d =>
      simp only [← r.get d, List.getD_eq_getElem?_getD]
      cases T[d]? with
      | none => rfl
      | some v => cases v with
        | pv p => cases p <;> rfl
        | _ => rfl

theorem setL_length : ∀ (h : List Blk) (i : Nat) (b : Blk), (setL h i b).length = max h.length (i + 1)
  | [], 0, b => rfl
  | [], n + 1, b => by simp [setL, setL_length [] n b]
  | _ :: l, 0, b => by simp [setL]
  | x :: l, n + 1, b => by simp only [setL, List.length_cons, setL_length l n b]; omega

theorem setL_hf0 : ∀ (h : List Blk) (id : Nat) (b : Blk), hf (setL h id b) = setHp (hf h) id b
  | [], 0, b => by funext j; cases j <;> simp [setL, hf, setHp]
  | [], n + 1, b => by
    have ih := setL_hf0 [] n b
    funext j
    cases j with
    | zero => simp [setL, hf, setHp]
    | succ j =>
      have := congrFun ih j
      simp only [hf, setHp] at this ⊢
      simp only [setL, List.getD_cons_succ, this, Nat.add_right_cancel_iff]
      simp
  | x :: l, 0, b => by funext j; cases j <;> simp [setL, hf, setHp]
  | x :: l, n + 1, b => by
    have ih := setL_hf0 l n b
    funext j
    cases j with
    | zero => simp [setL, hf, setHp]
    | succ j =>
      have := congrFun ih j
      simp only [hf, setHp] at this ⊢
      simp only [setL, List.getD_cons_succ, this, Nat.add_right_cancel_iff]


theorem hf_lt {h : List Blk} {id : Nat} (hl : (hf h id).live = true) : id < h.length := by
  unfold hf at hl
  rcases Nat.lt_or_ge id h.length with h1 | h1
  · exact h1
  · rw [List.getD_eq_getElem?_getD, List.getElem?_eq_none h1] at hl
    simp [Blk.live] at hl

theorem look_live {hp : Hp} {id ver : Nat} {cs : List AV} (h : look hp id ver = some cs) : (hp id).live = true := by
  unfold look at h
  split at h
  · rename_i hb; rw [hb]; rfl
  · simp at h

section
variable {P : Program} {pure : Nat → Bool} {F : CallF} {G : CallG} {lim n : Nat} {ops rest : List Oper} {g : Gm} {hp : Hp} {nb : Nat} {Q : Gm → Hp → Nat → Prop}

/-- A row of operations leads to what is asked. -/
def RO (P : Program) (pure : Nat → Bool) (F : CallF) (G : CallG) (n : Nat) (ops rest : List Oper) (g : Gm) (hp : Hp) (nb : Nat) (Q : Gm → Hp → Nat → Prop) : Prop :=
  ∀ T h, Rel n g hp nb T h → ∃ T' h' g' hp' nb', runOps P pure F G ops rest (T, h) = some (T', h') ∧ Rel n g' hp' nb' T' h' ∧ Q g' hp' nb'

theorem ro_nil (hQ : Q g hp nb) : RO P pure F G n ops [] g hp nb Q := fun T h r => ⟨T, h, g, hp, nb, rfl, r, hQ⟩

def putF (g : Gm) (dst : Option Nat) (v : AV) : Gm :=
  match dst with
  | some d => upd g d v
  | none => g

/-- Any operation that is wanted. -/
theorem ro_one {o : Oper} (hw : wantF ops g o = some true) {v : AV} {c : Chg} {hp' : Hp} {nb' : Nat} {T : List AV} {h : List Blk} (r : Rel n g hp nb T h)
    (h3 : runOp P pure F G T h o.op = some (v, c)) (h4 : hf (c.st h) = hp') (h5 : (c.st h).length = nb')
    (hd : ∀ d, o.dst = some d → d < n) (h2 : RO P pure F G n ops rest (putF g o.dst v) hp' nb' Q) :
    ∃ T' h' g' hp' nb', runOps P pure F G ops (o :: rest) (T, h) = some (T', h') ∧ Rel n g' hp' nb' T' h' ∧ Q g' hp' nb' := by
  have hst : stepOp P pure F G ops o (T, h) = some (v, c) := by
    unfold stepOp
    rw [rel_want r, hw]
    exact h3
  have hr : Rel n (putF g o.dst v) hp' nb' (putA T o.dst v) (c.st h) := by
    unfold putF putA
    cases hdd : o.dst with
    | none => exact ⟨r.len, r.get, h4, h5⟩
    | some d => exact rel_put r (hd d hdd) v h4 h5
  obtain ⟨T', h', g', hp1, nb1, e1, e2, e3⟩ := h2 _ _ hr
  refine ⟨T', h', g', hp1, nb1, ?_, e2, e3⟩
  rw [runOps_cons, hst]
  exact e1

theorem ro_step {o : Oper} (hw : wantF ops g o = some true) {v : AV} {hp' : Hp} {nb' : Nat}
    (hs : ∀ T h, Rel n g hp nb T h → ∃ c, runOp P pure F G T h o.op = some (v, c) ∧ hf (c.st h) = hp' ∧ (c.st h).length = nb')
    (hd : ∀ d, o.dst = some d → d < n) (h2 : RO P pure F G n ops rest (putF g o.dst v) hp' nb' Q) : RO P pure F G n ops (o :: rest) g hp nb Q := by
  intro T h r
  obtain ⟨c, h3, h4, h5⟩ := hs T h r
  exact ro_one hw r h3 h4 h5 hd h2

theorem ro_val {d : Nat} {op : Op} {ty : TypeId} {pos : String} {aft : Array Edge} {v : AV} (hc : calleeA (evalF g) op = none) (hv : primA P (evalF g) hp nb op = some (.val v)) (hd : d < n)
    (h2 : RO P pure F G n ops rest (upd g d v) hp nb Q) : RO P pure F G n ops ({ dst := some d, op := op, type := ty, pos := pos, after := aft, guard := none } :: rest) g hp nb Q := by
  refine ro_step (v := v) (hp' := hp) (nb' := nb) rfl (fun T h r => ⟨.no, ?_, r.hp, r.nb⟩) (fun e he => by cases he; exact hd) h2
  unfold runOp
  rw [rel_eval r]
  simp only [hc]
  rw [r.hp, r.nb, hv]
  rfl

theorem ro_upd {d : Option Nat} {op : Op} {ty : TypeId} {pos : String} {aft : Array Edge} {v : AV} {id : Nat} {b : Blk} (hc : calleeA (evalF g) op = none) (hv : primA P (evalF g) hp nb op = some (.upd v id b)) (hl : (hp id).live = true) (hd : ∀ e, d = some e → e < n)
    (h2 : RO P pure F G n ops rest (putF g d v) (setHp hp id b) nb Q) : RO P pure F G n ops ({ dst := d, op := op, type := ty, pos := pos, after := aft, guard := none } :: rest) g hp nb Q := by
  refine ro_step (v := v) (hp' := setHp hp id b) (nb' := nb) rfl (fun T h r => ⟨.one id b, ?_, ?_, ?_⟩) hd h2
  · unfold runOp
    rw [rel_eval r]
    simp only [hc]
    rw [r.hp, r.nb, hv]
    rfl
  · show hf (setL h id b) = _
    rw [setL_hf0, r.hp]
  · show (setL h id b).length = _
    have : id < h.length := hf_lt (by rw [r.hp]; exact hl)
    rw [setL_length, ← r.nb]; omega

theorem ro_new {d : Nat} {op : Op} {ty : TypeId} {pos : String} {aft : Array Edge} {v : AV} {b : Blk} (hc : calleeA (evalF g) op = none) (hv : primA P (evalF g) hp nb op = some (.new v b)) (hd : d < n)
    (h2 : RO P pure F G n ops rest (upd g d v) (setHp hp nb b) (nb + 1) Q) : RO P pure F G n ops ({ dst := some d, op := op, type := ty, pos := pos, after := aft, guard := none } :: rest) g hp nb Q := by
  refine ro_step (v := v) (hp' := setHp hp nb b) (nb' := nb + 1) rfl (fun T h r => ⟨.one nb b, ?_, ?_, ?_⟩) (fun e he => by cases he; exact hd) h2
  · unfold runOp
    rw [rel_eval r]
    simp only [hc]
    rw [r.hp, r.nb, hv]
    rfl
  · show hf (setL h nb b) = _
    rw [setL_hf0, r.hp]
  · show (setL h nb b).length = _
    rw [setL_length, r.nb]; omega

theorem ro_move {d : Nat} {x : Operand} {ty : TypeId} {pos : String} {aft : Array Edge} {v : AV} (hv : evalF g x = v) (hd : d < n)
    (h2 : RO P pure F G n ops rest (upd g d v) hp nb Q) : RO P pure F G n ops ({ dst := some d, op := .move x, type := ty, pos := pos, after := aft, guard := none } :: rest) g hp nb Q :=
  ro_val rfl (by simp only [primA]; rw [hv]) hd h2

theorem ro_assign {d : Nat} {x : Operand} {ty : TypeId} {pos : String} {aft : Array Edge} {v : AV} (hv : evalF g x = v) (hd : d < n)
    (h2 : RO P pure F G n ops rest (upd g d v) hp nb Q) : RO P pure F G n ops ({ dst := some d, op := .assign x, type := ty, pos := pos, after := aft, guard := none } :: rest) g hp nb Q :=
  ro_val rfl (by simp only [primA]; rw [hv]) hd h2

theorem ro_pick {d : Nat} {c x y : Operand} {ty : TypeId} {pos : String} {aft : Array Edge} {b : Bool} {vx vy : AV} (hc : evalF g c = .pv (.bool b)) (hx : evalF g x = vx) (hy : evalF g y = vy) (hd : d < n)
    (h2 : RO P pure F G n ops rest (upd g d (if b then vx else vy)) hp nb Q) : RO P pure F G n ops ({ dst := some d, op := .pick c x y, type := ty, pos := pos, after := aft, guard := none } :: rest) g hp nb Q := by
  refine ro_val rfl ?_ hd h2
  simp only [primA]
  rw [hc]
  cases b
  · simp only [hy]; rfl
  · simp only [hx]; rfl

theorem ro_nilCheck {d : Nat} {x : Operand} {ty : TypeId} {pos : String} {aft : Array Edge} {id ver off : Nat} (hv : evalF g x = .ptr id ver off) (hd : d < n)
    (h2 : RO P pure F G n ops rest (upd g d (.ptr id ver off)) hp nb Q) : RO P pure F G n ops ({ dst := some d, op := .nilCheck x, type := ty, pos := pos, after := aft, guard := none } :: rest) g hp nb Q :=
  ro_val rfl (by simp only [primA]; rw [hv]) hd h2

theorem ro_fieldAddr {d f : Nat} {s : TypeId} {x : Operand} {ty : TypeId} {pos : String} {aft : Array Edge} {a v : AV} (hx : evalF g x = a) (hv : fieldAddrA P s a f = some v) (hd : d < n)
    (h2 : RO P pure F G n ops rest (upd g d v) hp nb Q) : RO P pure F G n ops ({ dst := some d, op := .fieldAddr s x f, type := ty, pos := pos, after := aft, guard := none } :: rest) g hp nb Q :=
  ro_val rfl (by simp only [primA]; rw [hx, hv]; rfl) hd h2

theorem ro_field {d f : Nat} {s : TypeId} {x : Operand} {ty : TypeId} {pos : String} {aft : Array Edge} {a v : AV} (hx : evalF g x = a) (hv : fieldA P s a f = some v) (hd : d < n)
    (h2 : RO P pure F G n ops rest (upd g d v) hp nb Q) : RO P pure F G n ops ({ dst := some d, op := .field s x f, type := ty, pos := pos, after := aft, guard := none } :: rest) g hp nb Q :=
  ro_val rfl (by simp only [primA]; rw [hx, hv]; rfl) hd h2

theorem ro_indexAddr {d : Nat} {t : TypeId} {x ix : Operand} {ty : TypeId} {pos : String} {aft : Array Edge} {a i v : AV} (hx : evalF g x = a) (hi : evalF g ix = i) (hv : indexAddrA P t a i = some v) (hd : d < n)
    (h2 : RO P pure F G n ops rest (upd g d v) hp nb Q) : RO P pure F G n ops ({ dst := some d, op := .indexAddr t x ix, type := ty, pos := pos, after := aft, guard := none } :: rest) g hp nb Q :=
  ro_val rfl (by simp only [primA]; rw [hx, hi, hv]; rfl) hd h2

theorem ro_load {d : Nat} {t : TypeId} {x : Operand} {ty : TypeId} {pos : String} {aft : Array Edge} {a v : AV} (hx : evalF g x = a) (hv : loadA P hp t a = some v) (hd : d < n)
    (h2 : RO P pure F G n ops rest (upd g d v) hp nb Q) : RO P pure F G n ops ({ dst := some d, op := .load t x, type := ty, pos := pos, after := aft, guard := none } :: rest) g hp nb Q :=
  ro_val rfl (by simp only [primA]; rw [hx, hv]; rfl) hd h2

theorem ro_store {t : TypeId} {x y : Operand} {ty : TypeId} {pos : String} {aft : Array Edge} {a v : AV} {id : Nat} {b : Blk} (hx : evalF g x = a) (hy : evalF g y = v) (hv : storeA P hp t a v = some (.upd undefA id b))
    (h2 : RO P pure F G n ops rest g (setHp hp id b) nb Q) : RO P pure F G n ops ({ dst := none, op := .store t x y, type := ty, pos := pos, after := aft, guard := none } :: rest) g hp nb Q := by
  have hl : (hp id).live = true := by
    have hv' := hv
    unfold storeA at hv'
    split at hv'
    · rename_i id' ver off
      simp only [Option.bind_eq_some_iff] at hv'
      obtain ⟨cs, h1, h2⟩ := hv'
      split at h2
      · simp only [Option.some.injEq, Eff.upd.injEq] at h2
        obtain ⟨_, rfl, _⟩ := h2
        exact look_live h1
      · simp at h2
    · simp at hv'
  exact ro_upd (d := none) rfl (by simp only [primA]; rw [hx, hy, hv]) hl (fun e he => by cases he) h2

theorem ro_bin {d : Nat} {op : BinOp} {t t2 : TypeId} {x y : Operand} {ty : TypeId} {pos : String} {aft : Array Edge} {a b v : AV} (hx : evalF g x = a) (hy : evalF g y = b) (hv : binOpA P op t a b = some v) (hd : d < n)
    (h2 : RO P pure F G n ops rest (upd g d v) hp nb Q) : RO P pure F G n ops ({ dst := some d, op := .binOp op t x y t2, type := ty, pos := pos, after := aft, guard := none } :: rest) g hp nb Q :=
  ro_val rfl (by simp only [primA]; rw [hx, hy, hv]; rfl) hd h2

theorem ro_un {d : Nat} {op : UnOp} {t : TypeId} {x : Operand} {ty : TypeId} {pos : String} {aft : Array Edge} {a v : AV} (hx : evalF g x = a) (hv : unOpA op a = some v) (hd : d < n)
    (h2 : RO P pure F G n ops rest (upd g d v) hp nb Q) : RO P pure F G n ops ({ dst := some d, op := .unOp op t x, type := ty, pos := pos, after := aft, guard := none } :: rest) g hp nb Q :=
  ro_val rfl (by simp only [primA]; rw [hx, hv]; rfl) hd h2

theorem ro_conv {d : Nat} {s t : TypeId} {x : Operand} {ty : TypeId} {pos : String} {aft : Array Edge} {a v : AV} (hx : evalF g x = a) (hv : convertA P hp nb s t a = some (.val v)) (hd : d < n)
    (h2 : RO P pure F G n ops rest (upd g d v) hp nb Q) : RO P pure F G n ops ({ dst := some d, op := .convert s t x, type := ty, pos := pos, after := aft, guard := none } :: rest) g hp nb Q :=
  ro_val rfl (by simp only [primA]; rw [hx, hv]) hd h2

theorem ro_slice {d : Nat} {t : TypeId} {x : Operand} {lo hi mx : Option Operand} {ty : TypeId} {pos : String} {aft : Array Edge} {a v : AV} {l1 l2 l3 : Option AV} (hx : evalF g x = a)
    (e1 : lo.map (evalF g) = l1) (e2 : hi.map (evalF g) = l2) (e3 : mx.map (evalF g) = l3) (hv : sliceOpA P t a l1 l2 l3 = some v) (hd : d < n)
    (h2 : RO P pure F G n ops rest (upd g d v) hp nb Q) : RO P pure F G n ops ({ dst := some d, op := .slice t x lo hi mx, type := ty, pos := pos, after := aft, guard := none } :: rest) g hp nb Q :=
  ro_val rfl (by simp only [primA]; rw [hx, e1, e2, e3, hv]; rfl) hd h2

theorem ro_extract {d i : Nat} {x : Operand} {ty : TypeId} {pos : String} {aft : Array Edge} {vs : List AV} {v : AV} (hx : evalF g x = .tuple vs) (hv : vs[i]? = some v) (hd : d < n)
    (h2 : RO P pure F G n ops rest (upd g d v) hp nb Q) : RO P pure F G n ops ({ dst := some d, op := .extract x i, type := ty, pos := pos, after := aft, guard := none } :: rest) g hp nb Q :=
  ro_val rfl (by simp only [primA]; rw [hx]; simp only [hv]; rfl) hd h2

theorem ro_build {d : Nat} {t : TypeId} {parts : Array (Nat × Operand)} {ty : TypeId} {pos : String} {aft : Array Edge} {ps : List (Nat × AV)} {v : AV} (hx : (parts.toList.map fun (i, x) => (i, evalF g x)) = ps) (hv : buildA P t ps = some v) (hd : d < n)
    (h2 : RO P pure F G n ops rest (upd g d v) hp nb Q) : RO P pure F G n ops ({ dst := some d, op := .build t parts, type := ty, pos := pos, after := aft, guard := none } :: rest) g hp nb Q :=
  ro_val rfl (by simp only [primA]; rw [hx, hv]; rfl) hd h2

theorem ro_alloc {d : Nat} {t : TypeId} {ty : TypeId} {pos : String} {aft : Array Edge} {z : List AV} (hz : zeroA P t = some z) (ho : okZero z = true) (hd : d < n)
    (h2 : RO P pure F G n ops rest (upd g d (.ptr nb 1 0)) (setHp hp nb (.cells 1 z)) (nb + 1) Q) : RO P pure F G n ops ({ dst := some d, op := .alloc t, type := ty, pos := pos, after := aft, guard := none } :: rest) g hp nb Q :=
  ro_new rfl (by simp only [primA]; rw [hz]; simp only [Option.bind_some, ho, if_true]; rfl) hd h2

theorem ro_box {d : Nat} {t : TypeId} {x : Operand} {ty : TypeId} {pos : String} {aft : Array Edge} {v : AV} (hx : evalF g x = v) (ho : v.cells.all AV.isCell = true) (hd : d < n)
    (h2 : RO P pure F G n ops rest (upd g d (.ptr nb 1 0)) (setHp hp nb (.cells 1 v.cells)) (nb + 1) Q) : RO P pure F G n ops ({ dst := some d, op := .box t x, type := ty, pos := pos, after := aft, guard := none } :: rest) g hp nb Q :=
  ro_new rfl (by simp only [primA]; rw [hx, ho]; rfl) hd h2

theorem ro_buildSlice {d : Nat} {t : TypeId} {len : Nat} {parts : Array (Nat × Operand)} {ty : TypeId} {pos : String} {aft : Array Edge} {ps : List (Nat × AV)} {v : AV} {b : Blk} (hx : (parts.toList.map fun (i, x) => (i, evalF g x)) = ps)
    (hv : buildSliceA P nb t len ps = some (.new v b)) (hd : d < n)
    (h2 : RO P pure F G n ops rest (upd g d v) (setHp hp nb b) (nb + 1) Q) : RO P pure F G n ops ({ dst := some d, op := .buildSlice t len parts, type := ty, pos := pos, after := aft, guard := none } :: rest) g hp nb Q :=
  ro_new rfl (by simp only [primA]; rw [hx, hv]) hd h2

theorem ro_builtin {d : Nat} {c : Call} {ty : TypeId} {pos : String} {aft : Array Edge} {b : Builtin} {as : List AV} {v : AV} (hb : c.callee = .builtin b) (hx : c.args.toList.map (evalF g) = as) (hv : builtinA P hp nb b c.argTypes as = some (.val v)) (hd : d < n)
    (h2 : RO P pure F G n ops rest (upd g d v) hp nb Q) : RO P pure F G n ops ({ dst := some d, op := .call c, type := ty, pos := pos, after := aft, guard := none } :: rest) g hp nb Q := by
  obtain ⟨callee, args, argTypes⟩ := c
  simp only at hb
  subst hb
  exact ro_val rfl (by simp only [primA]; rw [hx, hv]) hd h2

theorem ro_builtin_new {d : Nat} {c : Call} {ty : TypeId} {pos : String} {aft : Array Edge} {b : Builtin} {as : List AV} {v : AV} {bl : Blk} (hb : c.callee = .builtin b) (hx : c.args.toList.map (evalF g) = as) (hv : builtinA P hp nb b c.argTypes as = some (.new v bl)) (hd : d < n)
    (h2 : RO P pure F G n ops rest (upd g d v) (setHp hp nb bl) (nb + 1) Q) : RO P pure F G n ops ({ dst := some d, op := .call c, type := ty, pos := pos, after := aft, guard := none } :: rest) g hp nb Q := by
  obtain ⟨callee, args, argTypes⟩ := c
  simp only at hb
  subst hb
  exact ro_new rfl (by simp only [primA]; rw [hx, hv]) hd h2

theorem ro_builtin_upd {d : Nat} {c : Call} {ty : TypeId} {pos : String} {aft : Array Edge} {b : Builtin} {as : List AV} {v : AV} {id : Nat} {bl : Blk} (hb : c.callee = .builtin b) (hx : c.args.toList.map (evalF g) = as) (hv : builtinA P hp nb b c.argTypes as = some (.upd v id bl)) (hl : (hp id).live = true) (hd : d < n)
    (h2 : RO P pure F G n ops rest (upd g d v) (setHp hp id bl) nb Q) : RO P pure F G n ops ({ dst := some d, op := .call c, type := ty, pos := pos, after := aft, guard := none } :: rest) g hp nb Q := by
  obtain ⟨callee, args, argTypes⟩ := c
  simp only at hb
  subst hb
  exact ro_upd (d := some d) rfl (by simp only [primA]; rw [hx, hv]) hl (fun e he => by cases he; exact hd) h2

/-- A call of a function that is called by value. -/
theorem ro_pure {d f : Nat} {c : Call} {ty : TypeId} {pos : String} {aft : Array Edge} {as : List AV} {v : AV} (hb : c.callee = .value (.func f)) (hx : c.args.toList.map (evalF g) = as) (hp0 : pure f = true) (hv : G hp f as = some v) (hd : d < n)
    (h2 : RO P pure F G n ops rest (upd g d v) hp nb Q) : RO P pure F G n ops ({ dst := some d, op := .call c, type := ty, pos := pos, after := aft, guard := none } :: rest) g hp nb Q := by
  obtain ⟨callee, args, argTypes⟩ := c
  simp only at hb
  subst hb
  refine ro_step (v := v) (hp' := hp) (nb' := nb) rfl (fun T h r => ⟨.no, ?_, r.hp, r.nb⟩) (fun e he => by cases he; exact hd) h2
  unfold runOp
  rw [rel_eval r]
  have hcal : calleeA (evalF g) (.call { callee := .value (.func f), args := args, argTypes := argTypes }) = some (f, as) := by
    rw [← hx]; rfl
  simp only [hcal]
  rw [if_pos hp0, r.hp, hv]
  rfl

/-- What a call does. -/
def CA (F : CallF) (f : Nat) (args : List AV) (hp : Hp) (nb : Nat) (Qc : AV → Hp → Nat → Prop) : Prop :=
  ∀ h, hf h = hp → h.length = nb → ∃ v h', F f args h = some (v, h') ∧ Qc v (hf h') h'.length

theorem ro_call {d f : Nat} {c : Call} {ty : TypeId} {pos : String} {aft : Array Edge} {as : List AV} {Qc : AV → Hp → Nat → Prop} (hb : c.callee = .value (.func f)) (hx : c.args.toList.map (evalF g) = as) (hp0 : pure f = false) (hpl : as.all plainV = false) (hv : CA F f as hp nb Qc) (hd : d < n)
    (h2 : ∀ v hp' nb', Qc v hp' nb' → RO P pure F G n ops rest (upd g d v) hp' nb' Q) : RO P pure F G n ops ({ dst := some d, op := .call c, type := ty, pos := pos, after := aft, guard := none } :: rest) g hp nb Q := by
  obtain ⟨callee, args, argTypes⟩ := c
  simp only at hb
  subst hb
  intro T h r
  obtain ⟨v, h', e1, e2⟩ := hv h r.hp r.nb
  refine ro_one (v := v) (c := .all h') (hp' := hf h') (nb' := h'.length) rfl r ?_ rfl rfl (fun e he => by cases he; exact hd) (h2 v _ _ e2)
  unfold runOp
  rw [rel_eval r]
  have hcal : calleeA (evalF g) (.call { callee := .value (.func f), args := args, argTypes := argTypes }) = some (f, as) := by
    rw [← hx]; rfl
  simp only [hcal]
  rw [if_neg (by simp [hp0]), if_neg (by simp [hpl]), e1]
  rfl

/-- An operation behind a guard that is not wanted. -/
theorem ro_skip {j : Nat} {want b : Bool} {dst : Option Nat} {op : Op} {ty : TypeId} {pos : String} {aft : Array Edge} {e : Nat} (he : (ops[j]?).bind (·.dst) = some e) (hg : g e = .pv (.bool b)) (hb : (b == want) = false) (hd : ∀ d, dst = some d → d < n)
    (h2 : RO P pure F G n ops rest (putF g dst undefA) hp nb Q) : RO P pure F G n ops ({ dst := dst, op := op, type := ty, pos := pos, after := aft, guard := some (j, want) } :: rest) g hp nb Q := by
  intro T h r
  have hst : stepOp P pure F G ops { dst := dst, op := op, type := ty, pos := pos, after := aft, guard := some (j, want) } (T, h) = some (undefA, .no) := by
    unfold stepOp
    rw [rel_want r]
    unfold wantF
    simp only [he, hg, hb]
  have hr : Rel n (putF g dst undefA) hp nb (putA T dst undefA) h := by
    unfold putF putA
    cases hdd : dst with
    | none => exact ⟨r.len, r.get, r.hp, r.nb⟩
    | some d => exact rel_put r (hd d hdd) undefA r.hp r.nb
  obtain ⟨T', h', g', hp1, nb1, e1, e2, e3⟩ := h2 _ _ hr
  refine ⟨T', h', g', hp1, nb1, ?_, e2, e3⟩
  rw [runOps_cons, hst]
  exact e1

/-- An operation behind a guard that is wanted goes as one without. -/
theorem ro_guard {j : Nat} {want b : Bool} {dst : Option Nat} {op : Op} {ty : TypeId} {pos : String} {aft : Array Edge} {e : Nat} (he : (ops[j]?).bind (·.dst) = some e) (hg : g e = .pv (.bool b)) (hb : (b == want) = true)
    (h2 : RO P pure F G n ops ({ dst := dst, op := op, type := ty, pos := pos, after := aft, guard := none } :: rest) g hp nb Q) : RO P pure F G n ops ({ dst := dst, op := op, type := ty, pos := pos, after := aft, guard := some (j, want) } :: rest) g hp nb Q := by
  intro T h r
  obtain ⟨T', h', g', hp1, nb1, e1, e2, e3⟩ := h2 T h r
  refine ⟨T', h', g', hp1, nb1, ?_, e2, e3⟩
  rw [← e1, runOps_cons, runOps_cons]
  have h3 : wantA ops T { dst := dst, op := op, type := ty, pos := pos, after := aft, guard := some (j, want) } = some true := by
    rw [rel_want r]
    unfold wantF
    simp only [he, hg, hb]
  have h4 : wantA ops T { dst := dst, op := op, type := ty, pos := pos, after := aft, guard := none } = some true := rfl
  unfold stepOp
  rw [h3, h4]
  rfl

theorem ro_weaken {Q' : Gm → Hp → Nat → Prop} (h : RO P pure F G n ops rest g hp nb Q) (hq : ∀ g hp nb, Q g hp nb → Q' g hp nb) : RO P pure F G n ops rest g hp nb Q' := by
  intro T l r
  obtain ⟨T', h', g', hp1, nb1, e1, e2, e3⟩ := h T l r
  exact ⟨T', h', g', hp1, nb1, e1, e2, hq _ _ _ e3⟩

/-! Code. -/

/-- Code leads to what is asked. -/
def EX (P : Program) (pure : Nat → Bool) (F : CallF) (G : CallG) (lim n : Nat) (c : Code) (g : Gm) (hp : Hp) (nb : Nat) (Q : XA → Gm → Hp → Nat → Prop) : Prop :=
  ∀ T h, Rel n g hp nb T h → ∃ x T' h' g' hp' nb', execC P pure F G lim c (T, h) = some (x, (T', h')) ∧ Rel n g' hp' nb' T' h' ∧ Q x g' hp' nb'

variable {K : XA → Gm → Hp → Nat → Prop}

theorem ex_skip (h : K .normal g hp nb) : EX P pure F G lim n .skip g hp nb K := fun T l r => ⟨.normal, T, l, g, hp, nb, rfl, r, h⟩
theorem ex_ret (h : K .ret g hp nb) : EX P pure F G lim n .ret g hp nb K := fun T l r => ⟨.ret, T, l, g, hp, nb, rfl, r, h⟩
theorem ex_exit {i : Nat} (h : K (.exit i) g hp nb) : EX P pure F G lim n (.exit i) g hp nb K := fun T l r => ⟨.exit i, T, l, g, hp, nb, rfl, r, h⟩

theorem ex_region {i : Nat} {a : Array Oper} (h : RO P pure F G n a.toList a.toList g hp nb (K .normal)) : EX P pure F G lim n (.region i a false) g hp nb K := by
  intro T l r
  obtain ⟨T', h', g', hp1, nb1, e1, e2, e3⟩ := h T l r
  refine ⟨.normal, T', h', g', hp1, nb1, ?_, e2, e3⟩
  rw [execC]
  simp [e1]

theorem ex_seq {a b : Code} (h : EX P pure F G lim n a g hp nb fun x g' hp' nb' => match x with
    | .normal => EX P pure F G lim n b g' hp' nb' K
    | x => K x g' hp' nb') : EX P pure F G lim n (.seq a b) g hp nb K := by
  intro T l r
  obtain ⟨x, T', h', g', hp1, nb1, e1, e2, e3⟩ := h T l r
  cases x with
  | normal =>
    obtain ⟨x2, T2, h2, g2, hp2, nb2, f1, f2, f3⟩ := e3 _ _ e2
    refine ⟨x2, T2, h2, g2, hp2, nb2, ?_, f2, f3⟩
    rw [execC, e1]
    exact f1
  | exit j => exact ⟨.exit j, T', h', g', hp1, nb1, by rw [execC, e1], e2, e3⟩
  | ret => exact ⟨.ret, T', h', g', hp1, nb1, by rw [execC, e1], e2, e3⟩

theorem ex_cond {c : Operand} {a b : Code} {t : Bool} (hc : evalF g c = .pv (.bool t)) (ha : t = true → EX P pure F G lim n a g hp nb K) (hb : t = false → EX P pure F G lim n b g hp nb K) :
    EX P pure F G lim n (.cond c a b) g hp nb K := by
  intro T l r
  have he : evalA T c = .pv (.bool t) := by rw [rel_eval r]; exact hc
  cases t with
  | true =>
    obtain ⟨x, T', h', g', hp1, nb1, e1, e2, e3⟩ := ha rfl T l r
    refine ⟨x, T', h', g', hp1, nb1, ?_, e2, e3⟩
    rw [execC]; simp only [he]; exact e1
  | false =>
    obtain ⟨x, T', h', g', hp1, nb1, e1, e2, e3⟩ := hb rfl T l r
    refine ⟨x, T', h', g', hp1, nb1, ?_, e2, e3⟩
    rw [execC]; simp only [he]; exact e1

theorem ex_block {i : Nat} {b : Code} (h : EX P pure F G lim n b g hp nb fun x g' hp' nb' => match x with
    | .exit j => if j = i then K .normal g' hp' nb' else K (.exit j) g' hp' nb'
    | x => K x g' hp' nb') : EX P pure F G lim n (.block i b) g hp nb K := by
  intro T l r
  obtain ⟨x, T', h', g', hp1, nb1, e1, e2, e3⟩ := h T l r
  cases x with
  | exit j =>
    by_cases hj : j = i
    · simp only [hj, if_true] at e3
      exact ⟨.normal, T', h', g', hp1, nb1, by rw [execC, e1]; simp [hj], e2, e3⟩
    · simp only [hj, if_false] at e3
      exact ⟨.exit j, T', h', g', hp1, nb1, by rw [execC, e1]; simp [hj], e2, e3⟩
  | normal => exact ⟨.normal, T', h', g', hp1, nb1, by rw [execC, e1], e2, e3⟩
  | ret => exact ⟨.ret, T', h', g', hp1, nb1, by rw [execC, e1], e2, e3⟩

/-- A loop: 'I' holds at its head, and the number falls. -/
theorem ex_loop {b : Code} (I : Nat → Gm → Hp → Nat → Prop) {m : Nat} (h0 : I m g hp nb) (hm : m < lim)
    (hb : ∀ m g hp nb, I m g hp nb → EX P pure F G lim n b g hp nb fun x g' hp' nb' => match x with
      | .normal => ∃ m', m' < m ∧ I m' g' hp' nb'
      | x => K x g' hp' nb') : EX P pure F G lim n (.loop b) g hp nb K := by
  have key : ∀ (fuel m : Nat), m < fuel → ∀ (g : Gm) (hp : Hp) (nb : Nat), I m g hp nb → ∀ T h, Rel n g hp nb T h →
      ∃ x T' h' g' hp' nb', loopN (execC P pure F G lim b) fuel (T, h) = some (x, (T', h')) ∧ Rel n g' hp' nb' T' h' ∧ K x g' hp' nb' := by
    intro fuel
    induction fuel with
    | zero => intro m hm; omega
    | succ fuel ih =>
      intro m hm g hp nb hI T l r
      obtain ⟨x, T', h', g', hp1, nb1, e1, e2, e3⟩ := hb m g hp nb hI T l r
      cases x with
      | normal =>
        obtain ⟨m', hm', hI'⟩ := e3
        obtain ⟨x2, T2, h2, g2, hp2, nb2, f1, f2, f3⟩ := ih m' (by omega) g' hp1 nb1 hI' T' h' e2
        exact ⟨x2, T2, h2, g2, hp2, nb2, by rw [loopN, e1]; exact f1, f2, f3⟩
      | exit j => exact ⟨.exit j, T', h', g', hp1, nb1, by rw [loopN, e1], e2, e3⟩
      | ret => exact ⟨.ret, T', h', g', hp1, nb1, by rw [loopN, e1], e2, e3⟩
  intro T l r
  obtain ⟨x, T', h', g', hp1, nb1, e1, e2, e3⟩ := key lim m hm g hp nb h0 T l r
  exact ⟨x, T', h', g', hp1, nb1, by rw [execC]; exact e1, e2, e3⟩

theorem ex_weaken {c : Code} {K' : XA → Gm → Hp → Nat → Prop} (h : EX P pure F G lim n c g hp nb K) (hq : ∀ x g hp nb, K x g hp nb → K' x g hp nb) : EX P pure F G lim n c g hp nb K' := by
  intro T l r
  obtain ⟨x, T', h', g', hp1, nb1, e1, e2, e3⟩ := h T l r
  exact ⟨x, T', h', g', hp1, nb1, e1, e2, hq _ _ _ _ e3⟩

/-! Functions. -/

def resOneF (P : Program) (g : Gm) (hp : Hp) : ResultVar → Option AV
  | .tmp t => some (g t)
  | .cell a t => loadA P hp t (g a)

def resF (P : Program) (fn : Func) (g : Gm) (hp : Hp) : Option AV :=
  match fn.results.toList with
  | [r] => resOneF P g hp r
  | rs => (rs.mapM (resOneF P g hp)).map .tuple

def argsF (args : List AV) : Gm := fun i => args.getD i undefA

theorem rel_args {args : List AV} (ha : args.length ≤ n) {h : List Blk} : Rel n (argsF args) (hf h) h.length (args ++ List.replicate (n - args.length) undefA) h := by
  refine ⟨by simp; omega, fun i => ?_, rfl, rfl⟩
  unfold argsF
  simp only [List.getD_eq_getElem?_getD]
  by_cases hi : i < args.length
  · rw [List.getElem?_append_left hi]
  · rw [List.getElem?_append_right (by omega), List.getElem?_eq_none (l := args) (by omega), List.getElem?_replicate]
    split <;> rfl

theorem ca_body {S : CallG} {d f : Nat} {fn : Func} {c : Code} {args : List AV} {Qc : AV → Hp → Nat → Prop} (hfn : P.funcs[f]? = some fn) (hb : fn.body = some c) (ha : args.length ≤ fn.ntmps)
    (h : EX P pure (callA P S pure lim d) (orS S (pureOf (callA P S pure lim d))) lim fn.ntmps c (argsF args) hp nb fun x g' hp' nb' => match x with
      | .exit _ => False
      | _ => ∃ v, resF P fn g' hp' = some v ∧ Qc v hp' nb') : CA (callA P S pure lim (d + 1)) f args hp nb Qc := by
  intro l h1 h2
  subst h1; subst h2
  obtain ⟨x, T', h', g', hp1, nb1, e1, e2, e3⟩ := h _ _ (rel_args (h := l) ha)
  have hres : ∀ v, resF P fn g' hp1 = some v → resA P fn T' (hf h') = some v := by
    intro v hv
    have e : resOneF P g' hp1 = resOne P T' (hf h') := by
      funext r
      cases r with
      | tmp t => exact congrArg some (e2.get t).symm
      | cell a t => simp only [resOneF, resOne, e2.hp, e2.get a]
    unfold resF at hv
    unfold resA
    rw [e] at hv
    cases hl : fn.results.toList with
    | nil => rw [hl] at hv; exact hv
    | cons a r => cases r <;> (rw [hl] at hv; exact hv)
  have hcall : ∀ v, resF P fn g' hp1 = some v → (x = .normal ∨ x = .ret) → callA P S pure lim (d + 1) f args l = some (v, h') := by
    intro v hv hx
    show bodyA _ _ _ _ _ _ _ _ = _
    unfold bodyA
    simp only [hfn, hb, e1]
    rcases hx with rfl | rfl <;> simp only [hres v hv] <;> rfl
  cases x with
  | normal =>
    obtain ⟨v, hv, hq⟩ := e3
    exact ⟨v, h', hcall v hv (.inl rfl), by rw [e2.hp, e2.nb]; exact hq⟩
  | exit j => exact e3.elim
  | ret =>
    obtain ⟨v, hv, hq⟩ := e3
    exact ⟨v, h', hcall v hv (.inr rfl), by rw [e2.hp, e2.nb]; exact hq⟩

/-- A function that is called by value. -/
theorem pure_of_ca {S : CallG} {d f : Nat} {args : List AV} {r : AV} {Qc : AV → Hp → Nat → Prop} (hpl : args.all plainV = true) (h : CA (callA P S pure lim d) f args (hf []) 0 Qc)
    (hq : ∀ v hp' nb', Qc v hp' nb' → freezeR hp' v = some r) (hp : Hp) : pureOf (callA P S pure lim d) hp f args = some r := by
  obtain ⟨v, h', e1, e2⟩ := h [] rfl rfl
  unfold pureOf
  rw [if_pos hpl, e1]
  exact hq v _ _ e2

/-! Regions that may come in another order. -/

def footF (ops : List Oper) (dst : Option Nat) (op : Op) (g : Gm) (c : Chg) (o : Oper) : Foot :=
  { dst := dst, tmps := opTmps ops o, reads := (if looksIn op then op.operands.toList.flatMap fun x => idOf (evalF g x) else []), chg := c }

def RD (P : Program) (pure : Nat → Bool) (F : CallF) (G : CallG) (n : Nat) (ops rest : List Oper) (g : Gm) (hp : Hp) (nb : Nat) (Q : List Foot → Gm → Hp → Nat → Prop) : Prop :=
  ∀ T h, Rel n g hp nb T h → ∃ fs T' h' g' hp' nb', traceD P pure F G ops rest (T, h) = some (fs, (T', h')) ∧ Rel n g' hp' nb' T' h' ∧ Q fs g' hp' nb'

variable {W : List Foot → Gm → Hp → Nat → Prop}

theorem rd_nil (hQ : W [] g hp nb) : RD P pure F G n ops [] g hp nb W := fun T h r => ⟨[], T, h, g, hp, nb, rfl, r, hQ⟩

theorem rd_one {dst : Option Nat} {op : Op} {ty : TypeId} {pos : String} {aft : Array Edge} {v : AV} {c : Chg} {hp' : Hp} {nb' : Nat} {T : List AV} {h : List Blk} (r : Rel n g hp nb T h)
    (h3 : runOp P pure F G T h op = some (v, c)) (h4 : hf (c.st h) = hp') (h5 : (c.st h).length = nb')
    (hd : ∀ d, dst = some d → d < n) (h2 : RD P pure F G n ops rest (putF g dst v) hp' nb' fun fs => W (footF ops dst op g c { dst := dst, op := op, type := ty, pos := pos, after := aft, guard := none } :: fs)) :
    ∃ fs T' h' g' hp' nb', traceD P pure F G ops ({ dst := dst, op := op, type := ty, pos := pos, after := aft, guard := none } :: rest) (T, h) = some (fs, (T', h')) ∧ Rel n g' hp' nb' T' h' ∧ W fs g' hp' nb' := by
  have hst : stepOp P pure F G ops { dst := dst, op := op, type := ty, pos := pos, after := aft, guard := none } (T, h) = some (v, c) := by
    unfold stepOp
    rw [rel_want r]
    exact h3
  have hr : Rel n (putF g dst v) hp' nb' (putA T dst v) (c.st h) := by
    unfold putF putA
    cases hdd : dst with
    | none => exact ⟨r.len, r.get, h4, h5⟩
    | some d => exact rel_put r (hd d hdd) v h4 h5
  obtain ⟨fs, T', h', g', hp1, nb1, e1, e2, e3⟩ := h2 _ _ hr
  refine ⟨_, T', h', g', hp1, nb1, ?_, e2, e3⟩
  rw [traceD_cons, hst]
  show Option.map _ (traceD P pure F G ops rest (putA T dst v, c.st h)) = _
  rw [e1]
  show some (footOf _ _ _ _ :: fs, _) = _
  congr 3
  unfold footOf footF opReads
  rw [rel_want r, rel_eval r]
  rfl

theorem rd_val {d : Nat} {op : Op} {ty : TypeId} {pos : String} {aft : Array Edge} {v : AV} (hc : calleeA (evalF g) op = none) (hv : primA P (evalF g) hp nb op = some (.val v)) (hd : d < n)
    (h2 : RD P pure F G n ops rest (upd g d v) hp nb fun fs => W (footF ops (some d) op g .no { dst := some d, op := op, type := ty, pos := pos, after := aft, guard := none } :: fs)) :
    RD P pure F G n ops ({ dst := some d, op := op, type := ty, pos := pos, after := aft, guard := none } :: rest) g hp nb W := by
  intro T h r
  refine rd_one r (v := v) (c := .no) ?_ r.hp r.nb (fun e he => by cases he; exact hd) h2
  unfold runOp
  rw [rel_eval r]
  simp only [hc]
  rw [r.hp, r.nb, hv]
  rfl

theorem rd_new {d : Nat} {op : Op} {ty : TypeId} {pos : String} {aft : Array Edge} {v : AV} {b : Blk} (hc : calleeA (evalF g) op = none) (hv : primA P (evalF g) hp nb op = some (.new v b)) (hd : d < n)
    (h2 : RD P pure F G n ops rest (upd g d v) (setHp hp nb b) (nb + 1) fun fs => W (footF ops (some d) op g (.one nb b) { dst := some d, op := op, type := ty, pos := pos, after := aft, guard := none } :: fs)) :
    RD P pure F G n ops ({ dst := some d, op := op, type := ty, pos := pos, after := aft, guard := none } :: rest) g hp nb W := by
  intro T h r
  refine rd_one r (v := v) (c := .one nb b) ?_ ?_ ?_ (fun e he => by cases he; exact hd) h2
  · unfold runOp
    rw [rel_eval r]
    simp only [hc]
    rw [r.hp, r.nb, hv]
    rfl
  · show hf (setL h nb b) = _
    rw [setL_hf0, r.hp]
  · show (setL h nb b).length = _
    rw [setL_length, r.nb]; omega

theorem rd_upd {dst : Option Nat} {op : Op} {ty : TypeId} {pos : String} {aft : Array Edge} {v : AV} {id : Nat} {b : Blk} (hc : calleeA (evalF g) op = none) (hv : primA P (evalF g) hp nb op = some (.upd v id b)) (hl : (hp id).live = true) (hd : ∀ d, dst = some d → d < n)
    (h2 : RD P pure F G n ops rest (putF g dst v) (setHp hp id b) nb fun fs => W (footF ops dst op g (.one id b) { dst := dst, op := op, type := ty, pos := pos, after := aft, guard := none } :: fs)) :
    RD P pure F G n ops ({ dst := dst, op := op, type := ty, pos := pos, after := aft, guard := none } :: rest) g hp nb W := by
  intro T h r
  refine rd_one r (v := v) (c := .one id b) ?_ ?_ ?_ hd h2
  · unfold runOp
    rw [rel_eval r]
    simp only [hc]
    rw [r.hp, r.nb, hv]
    rfl
  · show hf (setL h id b) = _
    rw [setL_hf0, r.hp]
  · show (setL h id b).length = _
    have : id < h.length := hf_lt (by rw [r.hp]; exact hl)
    rw [setL_length, ← r.nb]; omega

theorem rd_pure {d f : Nat} {args : Array Operand} {ats : Array TypeId} {ty : TypeId} {pos : String} {aft : Array Edge} {as : List AV} {v : AV} (hx : args.toList.map (evalF g) = as) (hp0 : pure f = true) (hv : G hp f as = some v) (hd : d < n)
    (h2 : RD P pure F G n ops rest (upd g d v) hp nb fun fs => W (footF ops (some d) (.call { callee := .value (.func f), args := args, argTypes := ats }) g .no { dst := some d, op := .call { callee := .value (.func f), args := args, argTypes := ats }, type := ty, pos := pos, after := aft, guard := none } :: fs)) :
    RD P pure F G n ops ({ dst := some d, op := .call { callee := .value (.func f), args := args, argTypes := ats }, type := ty, pos := pos, after := aft, guard := none } :: rest) g hp nb W := by
  intro T h r
  refine rd_one r (v := v) (c := .no) ?_ r.hp r.nb (fun e he => by cases he; exact hd) h2
  unfold runOp
  rw [rel_eval r]
  have hcal : calleeA (evalF g) (.call { callee := .value (.func f), args := args, argTypes := ats }) = some (f, as) := by
    rw [← hx]; rfl
  simp only [hcal]
  rw [if_pos hp0, r.hp, hv]
  rfl

theorem addL_length : ∀ (bs : List Blk) (h : List Blk), (addL h h.length bs).length = h.length + bs.length
  | [], h => rfl
  | b :: bs, h => by
    have e : (setL h h.length b).length = h.length + 1 := by rw [setL_length]; omega
    rw [addL, ← e, addL_length bs, e]
    simp; omega

theorem addL_hf0 : ∀ (bs : List Blk) (h : List Blk) (nb : Nat), hf (addL h nb bs) = addHp (hf h) nb bs
  | [], h, nb => by
    funext id
    show hf h id = _
    unfold addHp
    rw [if_neg (by simp)]
  | b :: bs, h, nb => by
    rw [addL, addL_hf0 bs, setL_hf0]
    funext id
    unfold addHp setHp
    by_cases h1 : id = nb
    · subst h1
      rw [if_neg (by omega), if_pos rfl, if_pos (by simp)]
      simp
    · by_cases h2 : nb ≤ id ∧ id < nb + (bs.length + 1)
      · rw [if_pos (by omega), if_pos (by simpa using h2), show id - nb = (id - (nb + 1)) + 1 by omega, List.getD_cons_succ]
      · rw [if_neg (by omega), if_neg h1, if_neg (by simpa using h2)]

/-- A call of plain values builds its own blocks. -/
theorem rd_add {d f : Nat} {args : Array Operand} {ats : Array TypeId} {ty : TypeId} {pos : String} {aft : Array Edge} {as : List AV} {Qc : AV → Hp → Nat → Prop} (hx : args.toList.map (evalF g) = as) (hp0 : pure f = false) (hpl : as.all plainV = true)
    (hv : CA F f as (hf []) 0 Qc) (hd : d < n)
    (h2 : ∀ v0 h', Qc v0 (hf h') h'.length → ∃ v bs, shR nb h'.length v0 = some v ∧ h'.mapM (shB nb h'.length) = some bs ∧
      RD P pure F G n ops rest (upd g d v) (addHp hp nb bs) (nb + bs.length) fun fs => W (footF ops (some d) (.call { callee := .value (.func f), args := args, argTypes := ats }) g (.add nb bs) { dst := some d, op := .call { callee := .value (.func f), args := args, argTypes := ats }, type := ty, pos := pos, after := aft, guard := none } :: fs)) :
    RD P pure F G n ops ({ dst := some d, op := .call { callee := .value (.func f), args := args, argTypes := ats }, type := ty, pos := pos, after := aft, guard := none } :: rest) g hp nb W := by
  intro T h r
  obtain ⟨v0, h', e1, e2⟩ := hv [] rfl rfl
  obtain ⟨v, bs, e3, e4, e5⟩ := h2 v0 h' e2
  refine rd_one r (v := v) (c := .add nb bs) ?_ ?_ ?_ (fun e he => by cases he; exact hd) e5
  · unfold runOp
    rw [rel_eval r]
    have hcal : calleeA (evalF g) (.call { callee := .value (.func f), args := args, argTypes := ats }) = some (f, as) := by
      rw [← hx]; rfl
    simp only [hcal]
    rw [if_neg (by simp [hp0]), if_pos hpl, e1]
    simp only [Option.bind_some, addOf, r.nb, e3, e4, Option.map_some]
  · show hf (addL h nb bs) = _
    rw [addL_hf0, r.hp]
  · show (addL h nb bs).length = _
    rw [← r.nb, addL_length]

theorem ro_add {d f : Nat} {args : Array Operand} {ats : Array TypeId} {ty : TypeId} {pos : String} {aft : Array Edge} {as : List AV} {Qc : AV → Hp → Nat → Prop} (hx : args.toList.map (evalF g) = as) (hp0 : pure f = false) (hpl : as.all plainV = true)
    (hv : CA F f as (hf []) 0 Qc) (hd : d < n)
    (h2 : ∀ v0 h', Qc v0 (hf h') h'.length → ∃ v bs, shR nb h'.length v0 = some v ∧ h'.mapM (shB nb h'.length) = some bs ∧ RO P pure F G n ops rest (upd g d v) (addHp hp nb bs) (nb + bs.length) Q) :
    RO P pure F G n ops ({ dst := some d, op := .call { callee := .value (.func f), args := args, argTypes := ats }, type := ty, pos := pos, after := aft, guard := none } :: rest) g hp nb Q := by
  intro T h r
  obtain ⟨v0, h', e1, e2⟩ := hv [] rfl rfl
  obtain ⟨v, bs, e3, e4, e5⟩ := h2 v0 h' e2
  refine ro_one (v := v) (c := .add nb bs) (hp' := addHp hp nb bs) (nb' := nb + bs.length) rfl r ?_ ?_ ?_ (fun e he => by cases he; exact hd) e5
  · unfold runOp
    rw [rel_eval r]
    have hcal : calleeA (evalF g) (.call { callee := .value (.func f), args := args, argTypes := ats }) = some (f, as) := by
      rw [← hx]; rfl
    simp only [hcal]
    rw [if_neg (by simp [hp0]), if_pos hpl, e1]
    simp only [Option.bind_some, addOf, r.nb, e3, e4, Option.map_some]
  · show hf (addL h nb bs) = _
    rw [addL_hf0, r.hp]
  · show (addL h nb bs).length = _
    rw [← r.nb, addL_length]

/-- Blocks of which all can be told elsewhere. -/
def okC (nb : Nat) (c : AV) : Prop := ∀ n len, nb ≤ len → (shA n len c).isSome = true

def Tidy (hp : Hp) (nb : Nat) : Prop := ∀ id, id < nb → ∃ ver cs, hp id = .cells ver cs ∧ ∀ c ∈ cs, okC nb c

theorem okC_pv (nb : Nat) (p : PV) : okC nb (.pv p) := fun n len _ => rfl

theorem okC_mono {nb nb' : Nat} (h : nb ≤ nb') {c : AV} (hc : okC nb c) : okC nb' c := fun n len hl => hc n len (by omega)

theorem okC_slice {nb id ver off l mc esz : Nat} {xc : Bool} (h : id < nb) : okC nb (.slice id ver off l mc esz xc) := fun n len hl => by simp [shA, show id < len by omega]

theorem okC_ptr {nb id ver off : Nat} (h : id < nb) : okC nb (.ptr id ver off) := fun n len hl => by simp [shA, show id < len by omega]

theorem mapM_all {α β : Type} {f : α → Option β} : ∀ {l : List α}, (∀ x ∈ l, (f x).isSome = true) → ∃ r, l.mapM f = some r
  | [], _ => ⟨[], rfl⟩
  | x :: l, h => by
    obtain ⟨r, hr⟩ := mapM_all (fun y hy => h y (List.mem_cons_of_mem _ hy))
    obtain ⟨y, hy⟩ := Option.isSome_iff_exists.1 (h x (List.mem_cons_self))
    exact ⟨y :: r, by simp [List.mapM_cons, hy, hr]⟩

theorem tidy_put {hp : Hp} {nb id ver : Nat} {cs : List AV} (h : Tidy hp nb) (hc : ∀ c ∈ cs, okC nb c) : Tidy (setHp hp id (.cells ver cs)) nb := by
  intro j hj
  by_cases e : j = id
  · subst e; exact ⟨ver, cs, by simp [setHp], hc⟩
  · obtain ⟨v, c, h1, h2⟩ := h j hj
    exact ⟨v, c, by simp [setHp, e, h1], h2⟩

theorem tidy_new {hp : Hp} {nb : Nat} {cs : List AV} (h : Tidy hp nb) (hc : ∀ c ∈ cs, okC (nb + 1) c) : Tidy (setHp hp nb (.cells 1 cs)) (nb + 1) := by
  intro j hj
  by_cases e : j = nb
  · subst e; exact ⟨1, cs, by simp [setHp], hc⟩
  · obtain ⟨v, c, h1, h2⟩ := h j (by omega)
    exact ⟨v, c, by simp [setHp, e, h1], fun x hx => okC_mono (Nat.le_succ _) (h2 x hx)⟩

theorem tidy_nil : Tidy (hf []) 0 := fun id h => absurd h (Nat.not_lt_zero _)

/-- Tidy blocks, told elsewhere. -/
theorem tidy_add {h' : List Blk} (ht : Tidy (hf h') h'.length) (hp : Hp) (nb : Nat) : ∃ bs, h'.mapM (shB nb h'.length) = some bs ∧ bs.length = h'.length ∧
    (∀ id, id < nb → addHp hp nb bs id = hp id) ∧ (∀ id ver cs, id < h'.length → hf h' id = .cells ver cs → ∃ cs', cs.mapM (shA nb h'.length) = some cs' ∧ addHp hp nb bs (id + nb) = .cells ver cs') := by
  have hget : ∀ id (hid : id < h'.length), h'[id] = hf h' id := by
    intro id hid
    unfold hf
    rw [List.getD_eq_getElem?_getD, List.getElem?_eq_getElem hid]
    rfl
  obtain ⟨bs, hbs⟩ := mapM_all (l := h') (f := shB nb h'.length) (by
    intro b hb
    obtain ⟨i, hi, rfl⟩ := List.getElem_of_mem hb
    obtain ⟨ver, cs, e1, e2⟩ := ht i hi
    rw [hget i hi, e1]
    obtain ⟨r, hr⟩ := mapM_all (l := cs) (f := shA nb h'.length) (fun c hc => e2 c hc nb _ (Nat.le_refl _))
    simp [shB, hr])
  have key : ∀ {l : List Blk} {bs : List Blk}, l.mapM (shB nb h'.length) = some bs → bs.length = l.length ∧ ∀ (i : Nat) (b : Blk), bs[i]? = some b → ∃ a, l[i]? = some a ∧ shB nb h'.length a = some b := by
    intro l
    induction l with
    | nil => intro bs h; simp at h; subst h; simp
    | cons x l ih =>
      intro bs h
      simp only [List.mapM_cons, Option.bind_eq_bind, Option.bind_eq_some_iff, Option.pure_def, Option.some.injEq] at h
      obtain ⟨p, hp', ps', h', rfl⟩ := h
      obtain ⟨e1, e2⟩ := ih h'
      refine ⟨by simp [e1], fun i b hb => ?_⟩
      cases i with
      | zero => simp at hb; subst hb; exact ⟨x, rfl, hp'⟩
      | succ i => exact e2 i b (by simpa using hb)
  obtain ⟨hl, hel⟩ := key hbs
  refine ⟨bs, hbs, hl, fun id hid => ?_, fun id ver cs hid he => ?_⟩
  · unfold addHp
    rw [if_neg (by omega)]
  · have hid' : id < bs.length := by omega
    obtain ⟨a, ha, hab⟩ := hel id bs[id] (List.getElem?_eq_getElem hid')
    have ha' : a = hf h' id := by
      rw [List.getElem?_eq_getElem hid] at ha
      cases ha
      exact hget id hid
    rw [ha', he] at hab
    simp only [shB, Option.map_eq_some_iff] at hab
    obtain ⟨cs', hcs, e⟩ := hab
    refine ⟨cs', hcs, ?_⟩
    unfold addHp
    rw [if_pos (by omega), Nat.add_sub_cancel, List.getD_eq_getElem?_getD, List.getElem?_eq_getElem hid', e]
    rfl

theorem trace_feet : ∀ (l : List Oper) {s : St} {fs : List Foot} {s' : St}, traceD P pure F G ops l s = some (fs, s') → fs.map (fun f => (f.dst, f.tmps)) = l.map fun o => (o.dst, opTmps ops o)
  | [], s, fs, s', hr => by
    simp only [traceD, Option.some.injEq, Prod.mk.injEq] at hr
    obtain ⟨rfl, rfl⟩ := hr
    rfl
  | o :: l, s, fs, s', hr => by
    rw [traceD_cons] at hr
    simp only [Option.bind_eq_some_iff, Option.map_eq_some_iff, Prod.mk.injEq] at hr
    obtain ⟨r, _, ⟨fs1, s1⟩, h1, h2, h3⟩ := hr
    subst h2
    rw [List.map_cons, List.map_cons, trace_feet l h1]
    rfl

theorem ex_draw {i : Nat} {a : Array Oper} (hst : statOk a.toList = true) (h : RD P pure F G n a.toList a.toList g hp nb fun fs g hp nb => dynOk a.toList fs = true ∧ K .normal g hp nb) : EX P pure F G lim n (.region i a true) g hp nb K := by
  intro T l r
  obtain ⟨fs, T', h', g', hp1, nb1, e1, e2, e3, e4⟩ := h T l r
  refine ⟨.normal, T', h', g', hp1, nb1, ?_, e2, e4⟩
  have hchk := apart_parts (trace_feet _ e1) hst e3
  rw [execC]
  simp only [if_true, drawOps, e1, Option.bind_some]
  rw [if_pos hchk]
  rfl

end

end Go.Proofs.Ytabpcmmkmbchnaa.AI
