/- One operation, calls among them; a region in the order of its text. -/
import Derived.Test.YtabpcmmkmbchnaaB1
set_option linter.unusedVariables false
set_option linter.unusedSectionVars false
set_option linter.unusedSimpArgs false
namespace Go.Proofs.Ytabpcmmkmbchnaa.AI
open Go
variable [Val]

variable {X : Nat → Prop} {hp : Hp} {φ : Emb} {w : World} {P : Program} {pure : Nat → Bool} {F : CallF} {G : CallG}

def Bodied (P : Program) (f : Nat) : Prop := ∃ fn, P.funcs[f]? = some fn ∧ (fn.name == "runtime.NumGoroutine") = false ∧ fn.body.isNone = false

/-- A call that comes to its end: by a body, or by the machine itself. -/
def Good (P : Program) (f : Nat) (vs : Array Value) (w : World) (R : Value → World → Prop) : Prop :=
  (Bodied P f ∧ Calls P f vs w fun e w' => ∃ y, e = .returned y ∧ R y w') ∨ ∃ y w', (callFunc f vs).run P w = .ok (.value y) w' ∧ R y w'

theorem Good.mono {f : Nat} {vs : Array Value} {R R' : Value → World → Prop} (h : Good P f vs w R) (hR : ∀ y w', R y w' → R' y w') : Good P f vs w R' := by
  rcases h with ⟨hb, h⟩ | ⟨y, w', h, h'⟩
  · exact .inl ⟨hb, h.mono fun e w' ⟨y, he, hr⟩ => ⟨y, he, hR y w' hr⟩⟩
  · exact .inr ⟨y, w', h, hR y w' h'⟩

/-- What a call of the heap's kind must be worth. -/
def WholeOk (P : Program) (F : CallF) : Prop := ∀ f args h r h', F f args h = some (r, h') →
  ∀ (X : Nat → Prop) (φ : Emb) (w : World) (vs : Array Value), RelH X (hf h) φ w → RepL X (hf h) φ w args vs.toList →
    Good P f vs w fun y w' => ∃ φ', RepA X (hf h') φ' w' r y ∧ RelH X (hf h') φ' w' ∧ Evo (hf h) φ w (hf h') φ' w'

/-- What a call of plain values must be worth. -/
def PureOk (P : Program) (G : CallG) : Prop := ∀ (hp : Hp) f args r, G hp f args = some r →
  ∀ (X : Nat → Prop) (φ : Emb) (w : World) (vs : Array Value), RelH X hp φ w → RepL X hp φ w args vs.toList →
    Good P f vs w fun y w' => RepA X hp φ w' r y ∧ RelH X hp φ w' ∧ Evo hp φ w hp φ w'

/-- It hangs on no memory but what its arguments lead to. -/
def CongG (G : CallG) : Prop := ∀ (hp1 hp2 : Hp) (f : Nat) (args : List AV), (∀ id ∈ args.flatMap idOf0, hp1 id = hp2 id) → G hp1 f args = G hp2 f args

theorem setL_hf : ∀ (h : List Blk) (id : Nat) (b : Blk), hf (setL h id b) = setHp (hf h) id b
  | [], 0, b => by funext j; cases j <;> simp [setL, hf, setHp]
  | [], n + 1, b => by
    have ih := setL_hf [] n b
    funext j
    cases j with
    | zero => simp [setL, hf, setHp]
    | succ j =>
      have := congrFun ih j
      simp only [hf, setHp] at this ⊢
      simp only [setL, List.getD_cons_succ, this, Nat.add_right_cancel_iff]
      simp
  | x :: l, 0, b => by funext j; cases j <;> simp [setL, hf, setHp]
  | x :: l, n + 1, b => by
    have ih := setL_hf l n b
    funext j
    cases j with
    | zero => simp [setL, hf, setHp]
    | succ j =>
      have := congrFun ih j
      simp only [hf, setHp] at this ⊢
      simp only [setL, List.getD_cons_succ, this, Nat.add_right_cancel_iff]

theorem hf_ge {h : List Blk} {id : Nat} (hid : h.length ≤ id) : hf h id = .gone 0 := by
  unfold hf
  rw [List.getD_eq_getElem?_getD, List.getElem?_eq_none hid]
  rfl

theorem hf_new (h : List Blk) : hf h h.length = .gone 0 := by simp [hf]

theorem addL_hf : ∀ (bs : List Blk) (h : List Blk) (nb : Nat), hf (addL h nb bs) = addHp (hf h) nb bs
  | [], h, nb => by
    funext id
    show hf h id = _
    rw [addHp_out (by simp)]
  | b :: bs, h, nb => by
    rw [addL, addL_hf bs, setL_hf]
    funext id
    unfold addHp setHp
    by_cases h1 : id = nb
    · subst h1
      rw [if_neg (by omega), if_pos rfl, if_pos (by simp)]
      simp
    · by_cases h2 : nb ≤ id ∧ id < nb + (bs.length + 1)
      · rw [if_pos (by omega), if_pos (by simpa using h2), show id - nb = (id - (nb + 1)) + 1 by omega, List.getD_cons_succ]
      · rw [if_neg (by omega), if_neg h1, if_neg (by simpa using h2)]

theorem chg_st (h : List Blk) (c : Chg) : hf (c.st h) = c.hp (hf h) := by
  cases c with
  | no => rfl
  | one id b => exact setL_hf h id b
  | all h' => rfl
  | add nb bs => exact addL_hf bs h nb

theorem eff_chg (hp : Hp) (nb : Nat) (e : Eff) : (e.chg nb).hp hp = e.hp hp nb := by cases e <;> rfl

/-- What an operation does, of any heap that reads as it must. -/
def OpSem (P : Program) (pure : Nat → Bool) (F : CallF) (G : CallG) (ρA : Operand → AV) (hp : Hp) (nb : Nat) (op : Op) (v : AV) (c : Chg) : Prop :=
  match calleeA ρA op with
  | some (f, args) => (pure f = true ∧ G hp f args = some v ∧ c = .no) ∨ (pure f = false ∧ ∃ h h', F f args h = some (v, h') ∧ c = .all h' ∧ hp = hf h) ∨
    (pure f = false ∧ args.all plainV = true ∧ ∃ v0 h' bs, F f args [] = some (v0, h') ∧ shR nb h'.length v0 = some v ∧ h'.mapM (shB nb h'.length) = some bs ∧ c = .add nb bs)
  | none => ∃ e, primA P ρA hp nb op = some e ∧ v = e.v ∧ c = e.chg nb

theorem runOp_sem {T : List AV} {h : List Blk} {op : Op} {v : AV} {c : Chg} (hr : runOp P pure F G T h op = some (v, c)) : OpSem P pure F G (evalA T) (hf h) h.length op v c := by
  unfold runOp at hr
  unfold OpSem
  split at hr
  · rename_i f args hc
    rw [hc]
    simp only
    split at hr
    · rename_i hp'
      simp only [Option.map_eq_some_iff, Prod.mk.injEq] at hr
      obtain ⟨a, ha, rfl, rfl⟩ := hr
      exact .inl ⟨hp', ha, rfl⟩
    · rename_i hp'
      split at hr
      · rename_i hall
        simp only [Option.bind_eq_some_iff] at hr
        obtain ⟨⟨v0, h'⟩, h1, h2⟩ := hr
        simp only [addOf, Option.bind_eq_some_iff, Option.map_eq_some_iff, Prod.mk.injEq] at h2
        obtain ⟨v1, h3, bs, h4, rfl, rfl⟩ := h2
        exact .inr (.inr ⟨by simpa using hp', hall, v0, h', bs, h1, h3, h4, rfl⟩)
      · simp only [Option.map_eq_some_iff, Prod.mk.injEq] at hr
        obtain ⟨⟨a, h'⟩, ha, rfl, rfl⟩ := hr
        exact .inr (.inl ⟨by simpa using hp', h, h', ha, rfl, rfl⟩)
  · rename_i hc
    rw [hc]
    simp only [Option.map_eq_some_iff, Prod.mk.injEq] at hr
    obtain ⟨e, he, rfl, rfl⟩ := hr
    exact ⟨e, he, rfl, rfl⟩

theorem callFunc_run {f : Nat} (hb : Bodied P f) (args : Array Value) : (callFunc f args).run P w = .ok (.enter f args) w := by
  obtain ⟨fn, hf, h1, h2⟩ := hb
  simp only [callFunc, Sem.run_bind, run_program, Result.andThen_ok, hf, h1, h2, Bool.false_eq_true, if_false, Sem.run_pure]

theorem callee_run {ρA : Operand → AV} {ρ : Operand → Value} (hρ : ∀ x, RepA X hp φ w (ρA x) (ρ x)) {o : Oper} {f : Nat} {args : List AV} (hc : calleeA ρA o.op = some (f, args)) :
    ∃ vs : Array Value, (execOp ρ o).run P w = (callFunc f vs).run P w ∧ RepL X hp φ w args vs.toList := by
  obtain ⟨dst, op, type, pos, after, guard⟩ := o
  simp only at hc
  unfold calleeA at hc
  split at hc
  · rename_i fo as ts
    have hl := repL_map hρ as.toList
    split at hc
    · rename_i g hg
      simp only [Option.some.injEq, Prod.mk.injEq] at hc
      obtain ⟨rfl, rfl⟩ := hc
      have hv := hρ fo; rw [hg] at hv
      have hv := repA_fn hv
      refine ⟨as.map ρ, ?_, by simpa using hl⟩
      simp only [execOp, Sem.run_bind, resolve, hv, Deferred.ofValue, Sem.run_pure, Result.andThen_ok, invoke, Array.empty_append, Array.append_empty]
    · rename_i g cs hg
      simp only [Option.some.injEq, Prod.mk.injEq] at hc
      obtain ⟨rfl, rfl⟩ := hc
      have hv := hρ fo; rw [hg] at hv
      obtain ⟨vs, hv, hvl⟩ := repA_clo hv
      refine ⟨as.map ρ ++ vs, ?_, by simpa using hl.append hvl⟩
      simp only [execOp, Sem.run_bind, resolve, hv, Deferred.ofValue, Sem.run_pure, Result.andThen_ok, invoke, Array.empty_append]
    · simp at hc
  · simp at hc

theorem oper_sound (hF : WholeOk P F) (hG : PureOk P G) (R : RelH X hp φ w) {nb : Nat} {a : Act} {ρA : Operand → AV} (hρ : ∀ x, RepA X hp φ w (ρA x) (a.eval x)) {o : Oper} {v : AV} {c : Chg}
    (hg : ∀ id ∈ c.ids, nb ≤ id → hp id = .gone 0) (hs : OpSem P pure F G ρA hp nb o.op v c) {K : Act → World → Prop} {Q : Exit → Act → World → Prop}
    (hk : ∀ y w' φ', RepA X (c.hp hp) φ' w' v y → RelH X (c.hp hp) φ' w' → Evo hp φ w (c.hp hp) φ' w' → K (a.put o.dst y) w') : o.wp P a w K Q := by
  unfold OpSem at hs
  split at hs
  · rename_i f args hc
    have fin : ∀ {vs : Array Value} {R : Value → World → Prop}, (execOp (a.eval) o).run P w = (callFunc f vs).run P w → Good P f vs w R → (∀ y w', R y w' → K (a.put o.dst y) w') → o.wp P a w K Q := by
      intro vs R hrun hgood hK
      unfold Oper.wp
      rcases hgood with ⟨hb, hcall⟩ | ⟨y, w', hv, hR⟩
      · rw [hrun, callFunc_run hb, Oper.upon_enter]
        refine hcall.mono ?_
        rintro e w' ⟨y, rfl, hR⟩
        exact hK y w' hR
      · rw [hrun, hv, Oper.upon_value]
        exact hK y w' hR
    obtain ⟨vs, hrun, hvs⟩ := callee_run (P := P) hρ hc
    rcases hs with ⟨hp', hr, rfl⟩ | ⟨hp', h, h', hr, rfl, rfl⟩ | ⟨hp', hall, v0, h', bs, hr, hsh, hbs, rfl⟩
    · exact fin hrun (hG hp f args v hr X φ w vs R hvs) fun y w' ⟨r1, r2, r3⟩ => hk y w' φ r1 r2 r3
    · exact fin hrun (hF f args h v h' hr X φ w vs R hvs) fun y w' ⟨φ', r1, r2, r3⟩ => hk y w' φ' r1 r2 r3
    · have R0 : RelH (Avoid X hp φ) (hf []) φ w :=
        { far := fun b hb => hb.elim (fun h => Own.lt R h) (fun h => R.far b h)
          inj := fun i j hi => by rw [hf_nil] at hi; simp [Blk.live] at hi
          cells := fun id ver cs hc => by rw [hf_nil] at hc; simp at hc }
      have hvs0 : RepL (Avoid X hp φ) (hf []) φ w args vs.toList := by
        refine ⟨hvs.1, fun i c hc => ?_⟩
        obtain ⟨u, hu, hr⟩ := hvs.2 i c hc
        exact ⟨u, hu, plain_moves (fun b hb => hb.elim (fun h => absurd h own_nil) id) (List.all_eq_true.1 hall c (List.mem_of_getElem? hc)) hr⟩
      refine fin hrun (hF f args [] v0 h' hr (Avoid X hp φ) φ w vs R0 hvs0) fun y w' ⟨φ', r1, r2, r3⟩ => ?_
      obtain ⟨φ2, s1, s2, s3⟩ := add_sound R hbs (fun id h1 h2 => hg id (by simp only [Chg.ids, List.mem_range'_1]; omega) h1) r1 r2 r3 hsh
      exact hk y w' φ2 s1 s2 s3
  · rename_i hc
    obtain ⟨e, he, rfl, rfl⟩ := hs
    obtain ⟨r, y, w', φ', hrun, hr, r1, r2, r3⟩ := prim_sound R hρ o (fun ⟨v, b, hn⟩ => hg nb (by subst hn; simp [Eff.chg, Chg.ids]) (Nat.le_refl _)) he
    rw [eff_chg] at hk
    unfold Oper.wp
    rw [hrun]
    rcases hr with rfl | ⟨rfl, rfl⟩
    · rw [Oper.upon_value]; exact hk y w' φ' r1 r2 r3
    · rw [Oper.upon_skip]; exact hk _ w' φ' r1 r2 r3

/-! Temporaries. -/

theorem eval_sound {T : List AV} {a : Act} (hT : RepL X hp φ w T a.tmps.toList) (x : Operand) : RepA X hp φ w (evalA T x) (a.eval x) := by
  cases x with
  | tmp t =>
    simp only [evalA, Act.eval]
    by_cases ht : t < T.length
    · have := hT.getD t ht
      simpa [List.getD, ht] using this
    · have hs : ¬ t < a.tmps.size := fun h => ht (by
        have h2 : T.length = a.tmps.size := by simpa using hT.1
        rw [h2]; exact h)
      have e1 : T.getD t undefA = undefA := by simp [List.getD, List.getElem?_eq_none (Nat.le_of_not_lt ht)]
      have e2 : a.tmps.getD t undef = undef := by simp [Array.getD, hs]
      rw [e1, e2]; exact repA_undef
  | const v => exact repA_ofConst v
  | global g => exact .dead _
  | func f => exact .pv _ _ (.fn f)

theorem put_sound {T : List AV} {a : Act} (hT : RepL X hp φ w T a.tmps.toList) (dst : Option Nat) {v : AV} {y : Value} (hv : RepA X hp φ w v y) : RepL X hp φ w (putA T dst v) (a.put dst y).tmps.toList := by
  cases dst with
  | none => exact hT
  | some d =>
    simp only [putA, Act.put, Array.toList_setIfInBounds]
    refine ⟨by simp [hT.1], fun i c hc => ?_⟩
    rw [List.getElem?_set] at hc ⊢
    have hl := hT.1
    by_cases hd : d = i
    · subst hd
      rw [if_pos rfl] at hc ⊢
      by_cases hlt : d < T.length
      · rw [if_pos hlt] at hc
        rw [if_pos (by omega)]
        simp only [Option.some.injEq] at hc; subst hc
        exact ⟨y, rfl, hv⟩
      · rw [if_neg hlt] at hc; simp at hc
    · rw [if_neg hd] at hc ⊢
      exact hT.2 i c hc

theorem want_sound {ops : Array Oper} {T : List AV} {a : Act} (hT : RepL X hp φ w T a.tmps.toList) {o : Oper} {b : Bool} (h : wantA ops.toList T o = some b) : Region.wanted o (yielded ops a.tmps) = b := by
  unfold wantA at h
  unfold Region.wanted
  split at h
  · rename_i hg; rw [hg]; simpa using h
  · rename_i j want hg
    rw [hg]
    simp only
    have hy : yielded ops a.tmps j = match ((ops.toList[j]?).bind (·.dst)).bind (a.tmps[·]?) with | some (.bool b) => some b | _ => none := by
      simp only [yielded, Array.getElem?_toList]
      rfl
    rw [hy]
    split at h
    · rename_i hd
      rw [hd]; simp at h; subst h; rfl
    · rename_i d hd
      rw [hd]
      simp only [Option.bind_some]
      split at h
      · rename_i b' hb
        obtain ⟨y, hy1, hy2⟩ := hT.2 d _ hb
        have := repA_bool hy2; subst this
        have hy1' : a.tmps[d]? = some (.bool b') := by simpa using hy1
        rw [hy1']
        simp only [Option.some.injEq] at h; subst h
        cases b' <;> cases want <;> rfl
      · simp at h
      · simp at h
      · rename_i n1 n2 n3
        simp only [Option.some.injEq] at h; subst h
        cases hTd : T[d]? with
        | none =>
          have : a.tmps[d]? = none := by
            have hl := hT.1
            have h1 := List.getElem?_eq_none_iff.1 hTd
            simp at hl ⊢; omega
          rw [this]; rfl
        | some c =>
          obtain ⟨y, hy1, hy2⟩ := hT.2 d c hTd
          have hy1' : a.tmps[d]? = some y := by simpa using hy1
          rw [hy1']
          have hnb : ∀ b, y ≠ .bool b := by
            intro b hb; subst hb
            cases hy2 with
            | pv p _ hp' =>
              cases hp' with
              | bool => exact n1 _ hTd
              | sym => exact n3 _ hTd
            | dead => exact n2 hTd
          cases y <;> first | rfl | exact absurd rfl (hnb _)

/-! A region in the order of its text. -/

theorem ops_sound (hF : WholeOk P F) (hG : PureOk P G) {ops : Array Oper} {Q : Exit → Act → World → Prop} : ∀ (l : List Oper) (s s' : St), runOps P pure F G ops.toList l s = some s' →
    ∀ (X : Nat → Prop) (φ : Emb) (w : World) (a : Act), RelH X (hf s.2) φ w → RepL X (hf s.2) φ w s.1 a.tmps.toList → a.defers = [] →
    (∀ φ' w' a', RelH X (hf s'.2) φ' w' → RepL X (hf s'.2) φ' w' s'.1 a'.tmps.toList → a'.defers = [] → Evo (hf s.2) φ w (hf s'.2) φ' w' → Q .normal a' w') →
    wpList P ops Q l a w
  | [], s, s', h, X, φ, w, a, R, hT, hd, hk => by
    simp only [runOps, Option.some.injEq] at h; subst h
    exact wpList_nil (hk φ w a R hT hd (Evo.refl _ _ _))
  | o :: l, s, s', h, X, φ, w, a, R, hT, hd, hk => by
    rw [runOps_cons] at h
    simp only [Option.bind_eq_some_iff] at h
    obtain ⟨⟨v, c⟩, hst, hrest⟩ := h
    refine wpList_step fun K hK => ?_
    unfold stepOp at hst
    split at hst
    · simp at hst
    · rename_i hw
      simp only [Option.some.injEq, Prod.mk.injEq] at hst
      obtain ⟨rfl, rfl⟩ := hst
      rw [want_sound hT hw, if_neg (by simp)]
      refine hK _ _ (ops_sound hF hG l _ s' hrest X φ w (a.put o.dst undef) R (put_sound hT o.dst repA_undef) ?_ hk)
      cases hdst : o.dst <;> simpa [Act.put] using hd
    · rename_i hw
      rw [want_sound hT hw, if_pos rfl]
      refine oper_sound hF hG R (eval_sound hT) (fun id _ hid => hf_ge hid) (runOp_sem hst) (fun y w' φ' r1 r2 r3 => ?_)
      have e := chg_st s.2 c
      refine hK _ _ (ops_sound hF hG l _ s' hrest X φ' w' (a.put o.dst y) (by simp only [nextSt, e]; exact r2) (by simp only [nextSt, e]; exact put_sound (hT.evo r3) o.dst r1) ?_ (fun φ2 w2 a2 R2 T2 d2 e2 => hk φ2 w2 a2 R2 T2 d2 ?_))
      · cases hdst : o.dst <;> simpa [Act.put] using hd
      · simp only [nextSt, e] at e2; exact r3.trans e2

end Go.Proofs.Ytabpcmmkmbchnaa.AI
