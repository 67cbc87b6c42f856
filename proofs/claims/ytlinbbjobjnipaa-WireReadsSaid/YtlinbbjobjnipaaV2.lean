/- What the proof needs, part 2. Joined by pack.py. -/
import Derived.Laws.Externs
import Derived.ProofKit
import Derived.OpenShut
import Derived.ReadAgain
import Derived.Below
import Derived.Test.YtlinbbjobjnipaaV1
set_option linter.unusedVariables false
set_option linter.unusedSectionVars false
set_option linter.unusedSimpArgs false
namespace Go.Proofs.Ytlinbbjobjnipaa.AI
open Go
variable [Val]
variable {X : Nat → Prop} {hp : Hp} {φ : Emb} {w : World} {P : Program} {pure : Nat → Bool} {F : CallF} {G : CallG}
def Bodied (P : Program) (f : Nat) : Prop := ∃ fn, P.funcs[f]? = some fn ∧ (fn.name == "runtime.NumGoroutine") = false ∧ fn.body.isNone = false
/-- A call that comes to its end: by a body, or by the machine itself. -/
def Good (P : Program) (f : Nat) (vs : Array Value) (w : World) (R : Value → World → Prop) : Prop :=
  (Bodied P f ∧ Calls P f vs w fun e w' => ∃ y, e = .returned y ∧ R y w') ∨ ∃ y w', (callFunc f vs).run P w = .ok (.value y) w' ∧ R y w'
theorem Good.mono {f : Nat} {vs : Array Value} {R R' : Value → World → Prop} (h : Good P f vs w R) (hR : ∀ y w', R y w' → R' y w') : Good P f vs w R' := by
  rcases h with ⟨hb, h⟩ | ⟨y, w', h, h'⟩
  · exact .inl ⟨hb, h.mono fun e w' ⟨y, he, hr⟩ => ⟨y, he, hR y w' hr⟩⟩
  · exact .inr ⟨y, w', h, hR y w' h'⟩
/-- What a call of the heap's kind must be worth. -/
def WholeOk (P : Program) (F : CallF) : Prop := ∀ f args h r h', F f args h = some (r, h') →
  ∀ (X : Nat → Prop) (φ : Emb) (w : World) (vs : Array Value), RelH X (hf h) φ w → RepL X (hf h) φ w args vs.toList →
    Good P f vs w fun y w' => ∃ φ', RepA X (hf h') φ' w' r y ∧ RelH X (hf h') φ' w' ∧ Evo (hf h) φ w (hf h') φ' w'
/-- What a call of plain values must be worth. -/
def PureOk (P : Program) (G : CallG) : Prop := ∀ (hp : Hp) f args r, G hp f args = some r →
  ∀ (X : Nat → Prop) (φ : Emb) (w : World) (vs : Array Value), RelH X hp φ w → RepL X hp φ w args vs.toList →
    Good P f vs w fun y w' => RepA X hp φ w' r y ∧ RelH X hp φ w' ∧ Evo hp φ w hp φ w'
/-- It hangs on no memory but what its arguments lead to. -/
def CongG (G : CallG) : Prop := ∀ (hp1 hp2 : Hp) (f : Nat) (args : List AV), (∀ id ∈ args.flatMap idOf0, hp1 id = hp2 id) → G hp1 f args = G hp2 f args
theorem setL_hf : ∀ (h : List Blk) (id : Nat) (b : Blk), hf (setL h id b) = setHp (hf h) id b
  | [], 0, b => by funext j; cases j <;> simp [setL, hf, setHp]
  | [], n + 1, b => by
    have ih := setL_hf [] n b
    funext j
    cases j with
    | zero => simp [setL, hf, setHp]
    | succ j =>
      have := congrFun ih j
      simp only [hf, setHp] at this ⊢
      simp only [setL, List.getD_cons_succ, this, Nat.add_right_cancel_iff]
      simp
  | x :: l, 0, b => by funext j; cases j <;> simp [setL, hf, setHp]
  | x :: l, n + 1, b => by
    have ih := setL_hf l n b
    funext j
    cases j with
    | zero => simp [setL, hf, setHp]
    | succ j =>
      have := congrFun ih j
      simp only [hf, setHp] at this ⊢
      simp only [setL, List.getD_cons_succ, this, Nat.add_right_cancel_iff]
theorem hf_ge {h : List Blk} {id : Nat} (hid : h.length ≤ id) : hf h id = .gone 0 := by
  unfold hf
  rw [List.getD_eq_getElem?_getD, List.getElem?_eq_none hid]
  rfl
theorem addL_hf : ∀ (bs : List Blk) (h : List Blk) (nb : Nat), hf (addL h nb bs) = addHp (hf h) nb bs
  | [], h, nb => by
    funext id
    show hf h id = _
    rw [addHp_out (by simp)]
  | b :: bs, h, nb => by
    rw [addL, addL_hf bs, setL_hf]
    funext id
    unfold addHp setHp
    by_cases h1 : id = nb
    · subst h1
      rw [if_neg (by omega), if_pos rfl, if_pos (by simp)]
      simp
    · by_cases h2 : nb ≤ id ∧ id < nb + (bs.length + 1)
      · rw [if_pos (by omega), if_pos (by simpa using h2), show id - nb = (id - (nb + 1)) + 1 by omega, List.getD_cons_succ]
      · rw [if_neg (by omega), if_neg h1, if_neg (by simpa using h2)]
mutual
theorem eqPV_sound : ∀ {p q : PV}, eqPV p q = true → p = q
  | .bool a, .bool b, h => by simp [eqPV] at h; rw [h]
  | .int k a, .int j b, h => by simp [eqPV] at h; rw [h.1, h.2]
  | .str a, .str b, h => by simp [eqPV] at h; rw [h]
  | .nilPtr, .nilPtr, h => rfl
  | .nilSlice, .nilSlice, h => rfl
  | .nilMap, .nilMap, h => rfl
  | .nilFunc, .nilFunc, h => rfl
  | .nilIface, .nilIface, h => rfl
  | .zcap, .zcap, h => rfl
  | .ros a n c, .ros b m d, h => by
    simp only [eqPV, Bool.and_eq_true, decide_eq_true_eq] at h
    rw [h.1.1, h.1.2, eqPVs_sound h.2]
  | .rop c o, .rop d p, h => by
    simp only [eqPV, Bool.and_eq_true, decide_eq_true_eq] at h
    rw [h.1, eqPVs_sound h.2]
  | .fn a, .fn b, h => by simp [eqPV] at h; rw [h]
  | .sym a, .sym b, h => by simp [eqPV] at h; rw [h]
theorem eqPVs_sound : ∀ {p q : List PV}, eqPVs p q = true → p = q
  | [], [], h => rfl
  | x :: xs, y :: ys, h => by
    simp only [eqPVs, Bool.and_eq_true] at h
    rw [eqPV_sound h.1, eqPVs_sound h.2]
end
theorem sameCell_sound {a b : AV} (h : sameCell a b = true) : a = b := by
  cases a <;> cases b <;> simp [sameCell] at h
  · rw [eqPV_sound h]
  · obtain ⟨⟨h1, h2⟩, h3⟩ := h; subst h1; subst h2; subst h3; rfl
  · obtain ⟨⟨⟨⟨⟨⟨h1, h2⟩, h3⟩, h4⟩, h5⟩, h6⟩, h7⟩ := h
    subst h1; subst h2; subst h3; subst h4; subst h5; subst h6; subst h7; rfl
theorem eqCells'_sound : ∀ {a b : List AV}, eqCells' a b = true → a = b
  | [], [], h => rfl
  | x :: xs, y :: ys, h => by
    simp only [eqCells', Bool.and_eq_true] at h
    rw [sameCell_sound h.1, eqCells'_sound h.2]
  | [], _ :: _, h => by simp [eqCells'] at h
  | _ :: _, [], h => by simp [eqCells'] at h
theorem eqBlk_sound {a b : Blk} (h : eqBlk a b = true) : a = b := by
  cases a <;> cases b <;> simp [eqBlk] at h
  · rw [h]
  · rw [h.1, eqCells'_sound h.2]
theorem all_hp (h h' : List Blk) : Chg.hp (hf h) (.all h h') = hf h' := by
  funext id
  simp only [Chg.hp]
  split
  · rename_i e; exact eqBlk_sound e
  · rfl
theorem chg_st (h : List Blk) (c : Chg) (hc : ∀ old new, c = .all old new → old = h) : hf (c.st h) = c.hp (hf h) := by
  cases c with
  | no => rfl
  | one id b => exact setL_hf h id b
  | all old new => rw [hc old new rfl]; exact (all_hp h new).symm
  | add nb bs => exact addL_hf bs h nb
theorem stepOp_all {ops : List Oper} {o : Oper} {s : St} {v : AV} {c : Chg} (hs : stepOp P pure F G ops o s = some (v, c)) : ∀ old new, c = .all old new → old = s.2 := by
  intro old new e
  subst e
  unfold stepOp at hs
  split at hs
  · simp at hs
  · simp at hs
  · unfold runOp at hs
    split at hs
    · split at hs
      · simp at hs
      · split at hs
        · simp only [Option.bind_eq_some_iff] at hs
          obtain ⟨x, _, hx⟩ := hs
          simp only [addOf, Option.bind_eq_some_iff, Option.map_eq_some_iff, Prod.mk.injEq] at hx
          obtain ⟨_, _, _, _, _, hx⟩ := hx
          cases hx
        · simp only [Option.map_eq_some_iff, Prod.mk.injEq] at hs
          obtain ⟨x, _, _, hx⟩ := hs
          cases hx
          rfl
    · simp only [Option.map_eq_some_iff, Prod.mk.injEq] at hs
      obtain ⟨e, _, _, hx⟩ := hs
      cases e <;> simp [Eff.chg] at hx
theorem eff_chg (hp : Hp) (nb : Nat) (e : Eff) : (e.chg nb).hp hp = e.hp hp nb := by cases e <;> rfl
/-- What an operation does, of any heap that reads as it must. -/
def OpSem (P : Program) (pure : Nat → Bool) (F : CallF) (G : CallG) (ρA : Operand → AV) (hp : Hp) (nb : Nat) (op : Op) (v : AV) (c : Chg) : Prop :=
  match calleeA ρA op with
  | some (f, args) => (pure f = true ∧ G hp f args = some v ∧ c = .no) ∨ (pure f = false ∧ ∃ h h', F f args h = some (v, h') ∧ c = .all h h' ∧ hp = hf h) ∨
    (pure f = false ∧ args.all plainV = true ∧ ∃ v0 h' bs, F f args [] = some (v0, h') ∧ shR nb h'.length v0 = some v ∧ h'.mapM (shB nb h'.length) = some bs ∧ c = .add nb bs)
  | none => ∃ e, primA P ρA hp nb op = some e ∧ v = e.v ∧ c = e.chg nb
theorem runOp_sem {T : List AV} {h : List Blk} {op : Op} {v : AV} {c : Chg} (hr : runOp P pure F G T h op = some (v, c)) : OpSem P pure F G (evalA T) (hf h) h.length op v c := by
  unfold runOp at hr
  unfold OpSem
  split at hr
  · rename_i f args hc
    rw [hc]
    simp only
    split at hr
    · rename_i hp'
      simp only [Option.map_eq_some_iff, Prod.mk.injEq] at hr
      obtain ⟨a, ha, rfl, rfl⟩ := hr
      exact .inl ⟨hp', ha, rfl⟩
    · rename_i hp'
      split at hr
      · rename_i hall
        simp only [Option.bind_eq_some_iff] at hr
        obtain ⟨⟨v0, h'⟩, h1, h2⟩ := hr
        simp only [addOf, Option.bind_eq_some_iff, Option.map_eq_some_iff, Prod.mk.injEq] at h2
        obtain ⟨v1, h3, bs, h4, rfl, rfl⟩ := h2
        exact .inr (.inr ⟨by simpa using hp', hall, v0, h', bs, h1, h3, h4, rfl⟩)
      · simp only [Option.map_eq_some_iff, Prod.mk.injEq] at hr
        obtain ⟨⟨a, h'⟩, ha, rfl, rfl⟩ := hr
        exact .inr (.inl ⟨by simpa using hp', h, h', ha, rfl, rfl⟩)
  · rename_i hc
    rw [hc]
    simp only [Option.map_eq_some_iff, Prod.mk.injEq] at hr
    obtain ⟨e, he, rfl, rfl⟩ := hr
    exact ⟨e, he, rfl, rfl⟩
theorem callFunc_run {f : Nat} (hb : Bodied P f) (args : Array Value) : (callFunc f args).run P w = .ok (.enter f args) w := by
  obtain ⟨fn, hf, h1, h2⟩ := hb
  simp only [callFunc, Sem.run_bind, run_program, Result.andThen_ok, hf, h1, h2, Bool.false_eq_true, if_false, Sem.run_pure]
theorem callee_run {ρA : Operand → AV} {ρ : Operand → Value} (hρ : ∀ x, RepA X hp φ w (ρA x) (ρ x)) {o : Oper} {f : Nat} {args : List AV} (hc : calleeA ρA o.op = some (f, args)) :
    ∃ vs : Array Value, (execOp ρ o).run P w = (callFunc f vs).run P w ∧ RepL X hp φ w args vs.toList := by
  obtain ⟨dst, op, type, pos, after, guard⟩ := o
  simp only at hc
  unfold calleeA at hc
  split at hc
  · rename_i fo as ts
    have hl := repL_map hρ as.toList
    split at hc
    · rename_i g hg
      simp only [Option.some.injEq, Prod.mk.injEq] at hc
      obtain ⟨rfl, rfl⟩ := hc
      have hv := hρ fo; rw [hg] at hv
      have hv := repA_fn hv
      refine ⟨as.map ρ, ?_, by simpa using hl⟩
      simp only [execOp, Sem.run_bind, resolve, hv, Deferred.ofValue, Sem.run_pure, Result.andThen_ok, invoke, Array.empty_append, Array.append_empty]
    · rename_i g cs hg
      simp only [Option.some.injEq, Prod.mk.injEq] at hc
      obtain ⟨rfl, rfl⟩ := hc
      have hv := hρ fo; rw [hg] at hv
      obtain ⟨vs, hv, hvl⟩ := repA_clo hv
      refine ⟨as.map ρ ++ vs, ?_, by simpa using hl.append hvl⟩
      simp only [execOp, Sem.run_bind, resolve, hv, Deferred.ofValue, Sem.run_pure, Result.andThen_ok, invoke, Array.empty_append]
    · simp at hc
  · simp at hc
theorem oper_sound (hF : WholeOk P F) (hG : PureOk P G) (R : RelH X hp φ w) {nb : Nat} {a : Act} {ρA : Operand → AV} (hρ : ∀ x, RepA X hp φ w (ρA x) (a.eval x)) {o : Oper} {v : AV} {c : Chg}
    (hg : ∀ id ∈ c.ids, nb ≤ id → hp id = .gone 0) (hs : OpSem P pure F G ρA hp nb o.op v c) {K : Act → World → Prop} {Q : Exit → Act → World → Prop}
    (hk : ∀ y w' φ', RepA X (c.hp hp) φ' w' v y → RelH X (c.hp hp) φ' w' → Evo hp φ w (c.hp hp) φ' w' → K (a.put o.dst y) w') : o.wp P a w K Q := by
  unfold OpSem at hs
  split at hs
  · rename_i f args hc
    have fin : ∀ {vs : Array Value} {R : Value → World → Prop}, (execOp (a.eval) o).run P w = (callFunc f vs).run P w → Good P f vs w R → (∀ y w', R y w' → K (a.put o.dst y) w') → o.wp P a w K Q := by
      intro vs R hrun hgood hK
      unfold Oper.wp
      rcases hgood with ⟨hb, hcall⟩ | ⟨y, w', hv, hR⟩
      · rw [hrun, callFunc_run hb, Oper.upon_enter]
        refine hcall.mono ?_
        rintro e w' ⟨y, rfl, hR⟩
        exact hK y w' hR
      · rw [hrun, hv, Oper.upon_value]
        exact hK y w' hR
    obtain ⟨vs, hrun, hvs⟩ := callee_run (P := P) hρ hc
    rcases hs with ⟨hp', hr, rfl⟩ | ⟨hp', h, h', hr, rfl, rfl⟩ | ⟨hp', hall, v0, h', bs, hr, hsh, hbs, rfl⟩
    · exact fin hrun (hG hp f args v hr X φ w vs R hvs) fun y w' ⟨r1, r2, r3⟩ => hk y w' φ r1 r2 r3
    · refine fin hrun (hF f args h v h' hr X φ w vs R hvs) fun y w' ⟨φ', r1, r2, r3⟩ => ?_
      rw [all_hp] at hk
      exact hk y w' φ' r1 r2 r3
    · have R0 : RelH (Avoid X hp φ) (hf []) φ w :=
        { far := fun b hb => hb.elim (fun h => Own.lt R h) (fun h => R.far b h)
          inj := fun i j hi => by rw [hf_nil] at hi; simp [Blk.live] at hi
          cells := fun id ver cs hc => by rw [hf_nil] at hc; simp at hc }
      have hvs0 : RepL (Avoid X hp φ) (hf []) φ w args vs.toList := by
        refine ⟨hvs.1, fun i c hc => ?_⟩
        obtain ⟨u, hu, hr⟩ := hvs.2 i c hc
        exact ⟨u, hu, plain_moves (fun b hb => hb.elim (fun h => absurd h own_nil) id) (List.all_eq_true.1 hall c (List.mem_of_getElem? hc)) hr⟩
      refine fin hrun (hF f args [] v0 h' hr (Avoid X hp φ) φ w vs R0 hvs0) fun y w' ⟨φ', r1, r2, r3⟩ => ?_
      obtain ⟨φ2, s1, s2, s3⟩ := add_sound R hbs (fun id h1 h2 => hg id (by simp only [Chg.ids, List.mem_range'_1]; omega) h1) r1 r2 r3 hsh
      exact hk y w' φ2 s1 s2 s3
  · rename_i hc
    obtain ⟨e, he, rfl, rfl⟩ := hs
    obtain ⟨r, y, w', φ', hrun, hr, r1, r2, r3⟩ := prim_sound R hρ o (fun ⟨v, b, hn⟩ => hg nb (by subst hn; simp [Eff.chg, Chg.ids]) (Nat.le_refl _)) he
    rw [eff_chg] at hk
    unfold Oper.wp
    rw [hrun]
    rcases hr with rfl | ⟨rfl, rfl⟩
    · rw [Oper.upon_value]; exact hk y w' φ' r1 r2 r3
    · rw [Oper.upon_skip]; exact hk _ w' φ' r1 r2 r3
theorem eval_sound {T : List AV} {a : Act} (hT : RepL X hp φ w T a.tmps.toList) (x : Operand) : RepA X hp φ w (evalA T x) (a.eval x) := by
  cases x with
  | tmp t =>
    simp only [evalA, Act.eval]
    by_cases ht : t < T.length
    · have := hT.getD t ht
      simpa [List.getD, ht] using this
    · have hs : ¬ t < a.tmps.size := fun h => ht (by
        have h2 : T.length = a.tmps.size := by simpa using hT.1
        rw [h2]; exact h)
      have e1 : T.getD t undefA = undefA := by simp [List.getD, List.getElem?_eq_none (Nat.le_of_not_lt ht)]
      have e2 : a.tmps.getD t undef = undef := by simp [Array.getD, hs]
      rw [e1, e2]; exact repA_undef
  | const v => exact repA_ofConst v
  | global g => exact .dead _
  | func f => exact .pv _ _ (.fn f)
theorem put_sound {T : List AV} {a : Act} (hT : RepL X hp φ w T a.tmps.toList) (dst : Option Nat) {v : AV} {y : Value} (hv : RepA X hp φ w v y) : RepL X hp φ w (putA T dst v) (a.put dst y).tmps.toList := by
  cases dst with
  | none => exact hT
  | some d =>
    simp only [putA, Act.put, Array.toList_setIfInBounds]
    refine ⟨by simp [hT.1], fun i c hc => ?_⟩
    rw [List.getElem?_set] at hc ⊢
    have hl := hT.1
    by_cases hd : d = i
    · subst hd
      rw [if_pos rfl] at hc ⊢
      by_cases hlt : d < T.length
      · rw [if_pos hlt] at hc
        rw [if_pos (by omega)]
        simp only [Option.some.injEq] at hc; subst hc
        exact ⟨y, rfl, hv⟩
      · rw [if_neg hlt] at hc; simp at hc
    · rw [if_neg hd] at hc ⊢
      exact hT.2 i c hc
theorem want_sound {ops : Array Oper} {T : List AV} {a : Act} (hT : RepL X hp φ w T a.tmps.toList) {o : Oper} {b : Bool} (h : wantA ops.toList T o = some b) : Region.wanted o (yielded ops a.tmps) = b := by
  unfold wantA at h
  unfold Region.wanted
  split at h
  · rename_i hg; rw [hg]; simpa using h
  · rename_i j want hg
    rw [hg]
    simp only
    have hy : yielded ops a.tmps j = match ((ops.toList[j]?).bind (·.dst)).bind (a.tmps[·]?) with | some (.bool b) => some b | _ => none := by
      simp only [yielded, Array.getElem?_toList]
      rfl
    rw [hy]
    split at h
    · rename_i hd
      rw [hd]; simp at h; subst h; rfl
    · rename_i d hd
      rw [hd]
      simp only [Option.bind_some]
      split at h
      · rename_i b' hb
        obtain ⟨y, hy1, hy2⟩ := hT.2 d _ hb
        have := repA_bool hy2; subst this
        have hy1' : a.tmps[d]? = some (.bool b') := by simpa using hy1
        rw [hy1']
        simp only [Option.some.injEq] at h; subst h
        cases b' <;> cases want <;> rfl
      · simp at h
      · simp at h
      · rename_i n1 n2 n3
        simp only [Option.some.injEq] at h; subst h
        cases hTd : T[d]? with
        | none =>
          have : a.tmps[d]? = none := by
            have hl := hT.1
            have h1 := List.getElem?_eq_none_iff.1 hTd
            simp at hl ⊢; omega
          rw [this]; rfl
        | some c =>
          obtain ⟨y, hy1, hy2⟩ := hT.2 d c hTd
          have hy1' : a.tmps[d]? = some y := by simpa using hy1
          rw [hy1']
          have hnb : ∀ b, y ≠ .bool b := by
            intro b hb; subst hb
            cases hy2 with
            | pv p _ hp' =>
              cases hp' with
              | bool => exact n1 _ hTd
              | sym => exact n3 _ hTd
            | dead => exact n2 hTd
          cases y <;> first | rfl | exact absurd rfl (hnb _)
theorem ops_sound (hF : WholeOk P F) (hG : PureOk P G) {ops : Array Oper} {Q : Exit → Act → World → Prop} : ∀ (l : List Oper) (s s' : St), runOps P pure F G ops.toList l s = some s' →
    ∀ (X : Nat → Prop) (φ : Emb) (w : World) (a : Act), RelH X (hf s.2) φ w → RepL X (hf s.2) φ w s.1 a.tmps.toList → a.defers = [] →
    (∀ φ' w' a', RelH X (hf s'.2) φ' w' → RepL X (hf s'.2) φ' w' s'.1 a'.tmps.toList → a'.defers = [] → Evo (hf s.2) φ w (hf s'.2) φ' w' → Q .normal a' w') →
    wpList P ops Q l a w
  | [], s, s', h, X, φ, w, a, R, hT, hd, hk => by
    simp only [runOps, Option.some.injEq] at h; subst h
    exact wpList_nil (hk φ w a R hT hd (Evo.refl _ _ _))
  | o :: l, s, s', h, X, φ, w, a, R, hT, hd, hk => by
    rw [runOps_cons] at h
    simp only [Option.bind_eq_some_iff] at h
    obtain ⟨⟨v, c⟩, hst, hrest⟩ := h
    have hst0 := hst
    refine wpList_step fun K hK => ?_
    unfold stepOp at hst
    split at hst
    · simp at hst
    · rename_i hw
      simp only [Option.some.injEq, Prod.mk.injEq] at hst
      obtain ⟨rfl, rfl⟩ := hst
      rw [want_sound hT hw, if_neg (by simp)]
      refine hK _ _ (ops_sound hF hG l _ s' hrest X φ w (a.put o.dst undef) R (put_sound hT o.dst repA_undef) ?_ hk)
      cases hdst : o.dst <;> simpa [Act.put] using hd
    · rename_i hw
      rw [want_sound hT hw, if_pos rfl]
      refine oper_sound hF hG R (eval_sound hT) (fun id _ hid => hf_ge hid) (runOp_sem hst) (fun y w' φ' r1 r2 r3 => ?_)
      have e := chg_st s.2 c (stepOp_all hst0)
      refine hK _ _ (ops_sound hF hG l _ s' hrest X φ' w' (a.put o.dst y) (by simp only [nextSt, e]; exact r2) (by simp only [nextSt, e]; exact put_sound (hT.evo r3) o.dst r1) ?_ (fun φ2 w2 a2 R2 T2 d2 e2 => hk φ2 w2 a2 R2 T2 d2 ?_))
      · cases hdst : o.dst <;> simpa [Act.put] using hd
      · simp only [nextSt, e] at e2; exact r3.trans e2
end Go.Proofs.Ytlinbbjobjnipaa.AI

set_option linter.unusedVariables false
set_option linter.unusedSectionVars false
set_option linter.unusedSimpArgs false
namespace Go.Proofs.Ytlinbbjobjnipaa.AI
open Go
variable [Val]
variable {X : Nat → Prop} {P : Program} {pure : Nat → Bool} {F : CallF} {G : CallG}
theorem look_congr {hp1 hp2 : Hp} {id ver : Nat} (h : hp1 id = hp2 id) : look hp1 id ver = look hp2 id ver := by simp [look, h]
theorem sliceCells_congr {hp1 hp2 : Hp} {x : AV} (h : ∀ id ∈ idOf x, hp1 id = hp2 id) : sliceCells hp1 x = sliceCells hp2 x := by
  cases x with
  | pv p => cases p <;> rfl
  | slice id ver off len mc esz xc => simp only [sliceCells, look_congr (h id (by simp [idOf]))]
  | _ => rfl
theorem readAt_congr {hp1 hp2 : Hp} {x : AV} (h : ∀ id ∈ idOf x, hp1 id = hp2 id) (n : Nat) : readAt hp1 x n = readAt hp2 x n := by
  cases x with
  | pv p => cases p <;> rfl
  | ptr id ver off => simp only [readAt, look_congr (h id (by simp [idOf]))]
  | _ => rfl
theorem loadA_congr {hp1 hp2 : Hp} {x : AV} (h : ∀ id ∈ idOf x, hp1 id = hp2 id) (t : TypeId) : loadA P hp1 t x = loadA P hp2 t x := by
  unfold loadA
  cases isAggA P t with
  | none => rfl
  | some b =>
    cases b with
    | true => simp only [readAt_congr h]
    | false =>
      cases x with
      | pv p => cases p <;> rfl
      | ptr id ver off => simp only [look_congr (h id (by simp [idOf]))]
      | _ => rfl
theorem storeA_congr {hp1 hp2 : Hp} {x : AV} (h : ∀ id ∈ idOf x, hp1 id = hp2 id) (t : TypeId) (y : AV) : storeA P hp1 t x y = storeA P hp2 t x y := by
  cases x with
  | pv p => cases p <;> rfl
  | ptr id ver off => simp only [storeA, look_congr (h id (by simp [idOf]))]
  | _ => rfl
theorem srcA_congr {hp1 hp2 : Hp} {x : AV} (h : ∀ id ∈ idOf x, hp1 id = hp2 id) (n : Nat) : srcA hp1 n x = srcA hp2 n x := by
  cases x with
  | pv p => cases p <;> rfl
  | slice id ver off len mc esz xc => simp only [srcA, sliceCells_congr h]
  | _ => rfl
theorem sourceA_congr {hp1 hp2 : Hp} {x : AV} (h : ∀ id ∈ idOf x, hp1 id = hp2 id) (e : TypeId) (i : TypeInfo) (t : TypeId) : sourceA P hp1 e i t x = sourceA P hp2 e i t x := by
  simp only [sourceA, srcA_congr h]
theorem convertA_congr {hp1 hp2 : Hp} {x : AV} (h : ∀ id ∈ idOf x, hp1 id = hp2 id) (nb : Nat) (s d : TypeId) : convertA P hp1 nb s d x = convertA P hp2 nb s d x := by
  unfold convertA
  rw [srcA_congr h]
theorem appendA_congr {hp1 hp2 : Hp} {s x : AV} (hs : ∀ id ∈ idOf s, hp1 id = hp2 id) (h : ∀ id ∈ idOf x, hp1 id = hp2 id) (nb : Nat) (ts : Array TypeId) : appendA P hp1 nb ts s x = appendA P hp2 nb ts s x := by
  unfold appendA
  simp only [sourceA_congr h]
  cases s with
  | pv p => cases p <;> rfl
  | slice id ver off len mc esz xc => simp only [look_congr (hs id (by simp [idOf]))]
  | _ => rfl
theorem copyA_congr {hp1 hp2 : Hp} {s x : AV} (hs : ∀ id ∈ idOf s, hp1 id = hp2 id) (h : ∀ id ∈ idOf x, hp1 id = hp2 id) (ts : Array TypeId) : copyA P hp1 ts s x = copyA P hp2 ts s x := by
  unfold copyA
  simp only [srcA_congr h]
  cases s with
  | pv p => cases p <;> rfl
  | slice id ver off len mc esz xc => simp only [look_congr (hs id (by simp [idOf]))]
  | _ => rfl
theorem builtinA_congr {hp1 hp2 : Hp} {args : List AV} (h : ∀ x ∈ args, ∀ id ∈ idOf x, hp1 id = hp2 id) (nb : Nat) (b : Builtin) (ts : Array TypeId) : builtinA P hp1 nb b ts args = builtinA P hp2 nb b ts args := by
  unfold builtinA
  split <;> try rfl
  · rename_i s x
    exact appendA_congr (h s (by simp)) (h x (by simp)) nb ts
  · rename_i s x
    exact copyA_congr (h s (by simp)) (h x (by simp)) ts
theorem map_congr_ops {ρ1 ρ2 : Operand → AV} {l : List Operand} (h : ∀ x ∈ l, ρ1 x = ρ2 x) : l.map ρ1 = l.map ρ2 := List.map_congr_left h
theorem parts_congr {ρ1 ρ2 : Operand → AV} (ps : Array (Nat × Operand)) (h : ∀ x ∈ (ps.toList.map (·.2)), ρ1 x = ρ2 x) : (ps.toList.map fun (i, x) => (i, ρ1 x)) = ps.toList.map fun (i, x) => (i, ρ2 x) := by
  apply List.map_congr_left
  rintro ⟨i, x⟩ hx
  simp only [h x (List.mem_map.2 ⟨(i, x), hx, rfl⟩)]
theorem primA_congr {ρ1 ρ2 : Operand → AV} {hp1 hp2 : Hp} {nb : Nat} {op : Op} (hρ : ∀ x ∈ op.operands.toList, ρ1 x = ρ2 x)
    (hh : looksIn op = true → ∀ x ∈ op.operands.toList, ∀ id ∈ idOf (ρ2 x), hp1 id = hp2 id) : primA P ρ1 hp1 nb op = primA P ρ2 hp2 nb op := by
  cases op <;> try rfl
  case move x => simp only [primA, hρ x (by simp [Op.operands])]
  case assign x => simp only [primA, hρ x (by simp [Op.operands])]
  case pick c a b => simp only [primA, hρ c (by simp [Op.operands]), hρ a (by simp [Op.operands]), hρ b (by simp [Op.operands])]
  case box t x => simp only [primA, hρ x (by simp [Op.operands])]
  case build t ps => simp only [primA, parts_congr ps (by simpa [Op.operands] using hρ)]
  case buildSlice t n ps => simp only [primA, parts_congr ps (by simpa [Op.operands] using hρ)]
  case load t a =>
    have e := hρ a (by simp [Op.operands])
    simp only [primA, e, loadA_congr (P := P) (fun id hid => hh rfl a (by simp [Op.operands]) id hid)]
  case store t a x =>
    simp only [primA, hρ a (by simp [Op.operands]), hρ x (by simp [Op.operands]), storeA_congr (P := P) (fun id hid => hh rfl a (by simp [Op.operands]) id hid)]
  case nilCheck x => simp only [primA, hρ x (by simp [Op.operands])]
  case binOp op t x y yt => simp only [primA, hρ x (by simp [Op.operands]), hρ y (by simp [Op.operands])]
  case unOp op t x => simp only [primA, hρ x (by simp [Op.operands])]
  case convert s d x => simp only [primA, hρ x (by simp [Op.operands]), convertA_congr (P := P) (fun id hid => hh rfl x (by simp [Op.operands]) id hid)]
  case makeFunc fn first captured =>
    cases fn <;> try rfl
    simp only [primA, map_congr_ops (l := captured.toList) (fun x hx => hρ x (by simp [Op.operands]; right; simpa using hx))]
  case makeSlice t l c => simp only [primA, hρ l (by simp [Op.operands]), hρ c (by simp [Op.operands])]
  case slice t x lo hi mx =>
    have e1 : lo.map ρ1 = lo.map ρ2 := by cases lo with | none => rfl | some y => simp [hρ y (by simp [Op.operands])]
    have e2 : hi.map ρ1 = hi.map ρ2 := by cases hi with | none => rfl | some y => simp [hρ y (by simp [Op.operands])]
    have e3 : mx.map ρ1 = mx.map ρ2 := by cases mx with | none => rfl | some y => simp [hρ y (by simp [Op.operands])]
    simp only [primA, hρ x (by simp [Op.operands]), e1, e2, e3]
  case fieldAddr s x f => simp only [primA, hρ x (by simp [Op.operands])]
  case field s x f => simp only [primA, hρ x (by simp [Op.operands])]
  case indexAddr t x i => simp only [primA, hρ x (by simp [Op.operands]), hρ i (by simp [Op.operands])]
  case index t x i => simp only [primA, hρ x (by simp [Op.operands]), hρ i (by simp [Op.operands])]
  case extract t i => simp only [primA, hρ t (by simp [Op.operands])]
  case call c =>
    obtain ⟨callee, args, ts⟩ := c
    cases callee <;> try rfl
    rename_i b
    have e : args.toList.map ρ1 = args.toList.map ρ2 := map_congr_ops (fun x hx => hρ x (by simpa [Op.operands, Call.operands] using hx))
    simp only [primA, e]
    exact builtinA_congr (fun y hy => by
      obtain ⟨x, hx, rfl⟩ := List.mem_map.1 hy
      exact hh rfl x (by simpa [Op.operands, Call.operands] using hx)) nb b ts
theorem calleeA_congr {ρ1 ρ2 : Operand → AV} {op : Op} (hρ : ∀ x ∈ op.operands.toList, ρ1 x = ρ2 x) : calleeA ρ1 op = calleeA ρ2 op := by
  cases op <;> try rfl
  rename_i c
  obtain ⟨callee, args, ts⟩ := c
  cases callee <;> try rfl
  rename_i f
  have e : args.toList.map ρ1 = args.toList.map ρ2 := map_congr_ops (fun x hx => hρ x (by simp [Op.operands, Call.operands]; right; simpa using hx))
  simp only [calleeA, hρ f (by simp [Op.operands, Call.operands]), e]
structure Tr (P : Program) (pure : Nat → Bool) (F : CallF) (G : CallG) (ops : List Oper) (o : Nat → Oper) (v : Nat → AV) (c : Nat → Chg) (sts : Nat → St) (n : Nat) : Prop where
  op : ∀ i, i < n → ops[i]? = some (o i)
  step : ∀ i, i < n → stepOp P pure F G ops (o i) (sts i) = some (v i, c i)
  next : ∀ i, i < n → sts (i + 1) = nextSt (o i) (sts i) (v i, c i)
theorem trace_some (ops : List Oper) : ∀ (l : List Oper) (s s' : St) (fs : List Foot), traceD P pure F G ops l s = some (fs, s') →
    fs.length = l.length ∧ ∃ (v : Nat → AV) (c : Nat → Chg) (sts : Nat → St), sts 0 = s ∧ sts l.length = s' ∧
      ∀ i o, l[i]? = some o → stepOp P pure F G ops o (sts i) = some (v i, c i) ∧ sts (i + 1) = nextSt o (sts i) (v i, c i) ∧ fs[i]? = some (footOf ops o (sts i) (v i, c i))
  | [], s, s', fs, h => by
    simp only [traceD, Option.some.injEq, Prod.mk.injEq] at h
    obtain ⟨rfl, rfl⟩ := h
    exact ⟨rfl, fun _ => default, fun _ => .no, fun _ => s, rfl, rfl, by simp⟩
  | o :: l, s, s', fs, h => by
    rw [traceD_cons] at h
    simp only [Option.bind_eq_some_iff, Option.map_eq_some_iff] at h
    obtain ⟨⟨v0, c0⟩, hst, ⟨fs', s2⟩, hr, he⟩ := h
    simp only [Prod.mk.injEq] at he
    obtain ⟨rfl, rfl⟩ := he
    obtain ⟨hl, v, c, sts, h0, hn, hall⟩ := trace_some ops l _ s2 fs' hr
    refine ⟨by simp [hl], fun i => match i with | 0 => v0 | i + 1 => v i, fun i => match i with | 0 => c0 | i + 1 => c i, fun i => match i with | 0 => s | i + 1 => sts i, rfl, by simpa using hn, fun i o' hi => ?_⟩
    cases i with
    | zero =>
      simp only [List.getElem?_cons_zero, Option.some.injEq] at hi; subst hi
      exact ⟨hst, h0, by simp⟩
    | succ i =>
      obtain ⟨a1, a2, a3⟩ := hall i o' (by simpa using hi)
      exact ⟨a1, a2, by simpa using a3⟩
section
variable (o : Nat → Oper) (v : Nat → AV) (c : Nat → Chg) (s0 : St) (S : Nat → Bool)
/-- The temporaries and the heap where those operations have been carried out that S says. -/
def TS : Nat → List AV
  | 0 => s0.1
  | k + 1 => if S k then putA (TS k) (o k).dst (v k) else TS k
def HS : Nat → Hp
  | 0 => hf s0.2
  | k + 1 => if S k then (c k).hp (HS k) else HS k
end
variable {o : Nat → Oper} {v : Nat → AV} {c : Nat → Chg} {s0 : St}
theorem putA_length (T : List AV) (d : Option Nat) (x : AV) : (putA T d x).length = T.length := by cases d <;> simp [putA]
theorem TS_length (S : Nat → Bool) : ∀ k, (TS o v s0 S k).length = s0.1.length
  | 0 => rfl
  | k + 1 => by
    unfold TS; split
    · rw [putA_length, TS_length S k]
    · exact TS_length S k
theorem putA_get (T : List AV) (d : Option Nat) (x : AV) (t : Nat) : (putA T d x)[t]? = if d = some t then (if t < T.length then some x else none) else T[t]? := by
  cases d with
  | none => simp [putA]
  | some d =>
    simp only [putA, List.getElem?_set, Option.some.injEq]
    by_cases h : d = t
    · subst h; rfl
    · rw [if_neg h, if_neg h]
theorem TS_agree (S S' : Nat → Bool) (t : Nat) : ∀ k, (∀ j, j < k → (o j).dst = some t → S j = S' j) → (TS o v s0 S k)[t]? = (TS o v s0 S' k)[t]?
  | 0, _ => rfl
  | k + 1, h => by
    have ih := TS_agree S S' t k (fun j hj => h j (by omega))
    have hl : (TS o v s0 S k).length = (TS o v s0 S' k).length := by rw [TS_length, TS_length]
    unfold TS
    by_cases hd : (o k).dst = some t
    · rw [h k (by omega) hd]
      split
      · rw [putA_get, putA_get, hl]; simp [hd]
      · exact ih
    · split <;> split <;> (try rw [putA_get, if_neg hd]) <;> (try rw [putA_get, if_neg hd]) <;> exact ih
def touches (c : Chg) (id : Nat) : Bool := c.ids.contains id
theorem all_ids {old new : List Blk} {id : Nat} : id ∈ (Chg.all old new).ids ↔ eqBlk (hf old id) (hf new id) = false := by
  simp only [Chg.ids, List.mem_filter, List.mem_range, Bool.not_eq_true']
  refine ⟨fun h => h.2, fun h => ⟨?_, h⟩⟩
  by_cases hl : id < max old.length new.length
  · exact hl
  · rw [hf_ge (by omega), hf_ge (by omega)] at h
    simp [eqBlk] at h
theorem chg_hp_ne (x : Chg) (hp : Hp) (id : Nat) (h : touches x id = false) : x.hp hp id = hp id := by
  have hn : id ∉ x.ids := by
    intro hc
    simp [touches, hc] at h
  cases x with
  | no => rfl
  | one j b =>
    have hne : id ≠ j := by intro e; subst e; exact hn (by simp [Chg.ids])
    simp [Chg.hp, setHp, hne]
  | all old new =>
    rw [all_ids] at hn
    simp only [Bool.not_eq_false] at hn
    simp only [Chg.hp, hn, if_true]
  | add nb bs =>
    refine addHp_out ?_
    intro hc
    exact hn (by simp only [Chg.ids, List.mem_range'_1]; omega)
theorem chg_hp_eq (x : Chg) (hp hp' : Hp) (id : Nat) (h : touches x id = true) : x.hp hp id = x.hp hp' id := by
  have hn : id ∈ x.ids := by simpa [touches] using h
  cases x with
  | no => simp [Chg.ids] at hn
  | one j b =>
    have he : id = j := by simpa [Chg.ids] using hn
    simp [Chg.hp, setHp, he]
  | all old new =>
    rw [all_ids] at hn
    simp [Chg.hp, hn]
  | add nb bs =>
    simp only [Chg.ids, List.mem_range'_1] at hn
    simp only [Chg.hp, addHp]
    rw [if_pos (by omega), if_pos (by omega)]
theorem HS_agree (S S' : Nat → Bool) (id : Nat) : ∀ k, (∀ j, j < k → touches (c j) id = true → S j = S' j) → HS c s0 S k id = HS c s0 S' k id
  | 0, _ => rfl
  | k + 1, h => by
    have ih := HS_agree S S' id k (fun j hj => h j (by omega))
    unfold HS
    cases ht : touches (c k) id with
    | true =>
      rw [h k (by omega) ht]
      split
      · exact chg_hp_eq _ _ _ _ ht
      · exact ih
    | false =>
      split <;> split <;> (try rw [chg_hp_ne _ _ _ ht]) <;> (try rw [chg_hp_ne _ _ _ ht]) <;> exact ih
/-- The first i operations: the text's order. -/
theorem TS_first {ops : List Oper} {sts : Nat → St} {n : Nat} (tr : Tr P pure F G ops o v c sts n) (h0 : sts 0 = s0) (i : Nat) : ∀ k, k ≤ n → TS o v s0 (fun j => decide (j < i)) k = (sts (min k i)).1
  | 0, _ => by simp [TS, h0]
  | k + 1, hk => by
    have ih := TS_first tr h0 i k (by omega)
    unfold TS
    by_cases h : k < i
    · rw [if_pos (by simpa using h), ih, show min k i = k by omega, show min (k + 1) i = k + 1 by omega, tr.next k (by omega)]
      rfl
    · rw [if_neg (by simpa using h), ih, show min k i = i by omega, show min (k + 1) i = i by omega]
theorem HS_first {ops : List Oper} {sts : Nat → St} {n : Nat} (tr : Tr P pure F G ops o v c sts n) (h0 : sts 0 = s0) (i : Nat) : ∀ k, k ≤ n → HS c s0 (fun j => decide (j < i)) k = hf (sts (min k i)).2
  | 0, _ => by simp [HS, h0]
  | k + 1, hk => by
    have ih := HS_first tr h0 i k (by omega)
    unfold HS
    by_cases h : k < i
    · rw [if_pos (by simpa using h), ih, show min k i = k by omega, show min (k + 1) i = k + 1 by omega, tr.next k (by omega)]
      exact (chg_st _ _ (stepOp_all (tr.step k (by omega)))).symm
    · rw [if_neg (by simpa using h), ih, show min k i = i by omega, show min (k + 1) i = i by omega]
theorem TS_succ (S : Nat → Bool) (k : Nat) : TS o v s0 S (k + 1) = if S k then putA (TS o v s0 S k) (o k).dst (v k) else TS o v s0 S k := rfl
theorem HS_succ (S : Nat → Bool) (k : Nat) : HS c s0 S (k + 1) = if S k then (c k).hp (HS c s0 S k) else HS c s0 S k := rfl
/-- One more is carried out. -/
theorem TS_more (S : Nat → Bool) (i : Nat) (hi : S i = false) : ∀ k, (∀ j, i < j → j < k → S j = true → ∀ d, (o j).dst = some d → (o i).dst ≠ some d) →
    TS o v s0 (fun j => S j || j == i) k = if i < k then putA (TS o v s0 S k) (o i).dst (v i) else TS o v s0 S k
  | 0, _ => by simp [TS]
  | k + 1, h => by
    have ih := TS_more S i hi k (fun j h1 h2 => h j h1 (by omega))
    rw [TS_succ, TS_succ]
    by_cases hk : k = i
    · subst hk
      rw [if_neg (Nat.lt_irrefl _)] at ih
      rw [ih]
      simp [hi]
    · have hne : (k == i) = false := by simpa using hk
      simp only [hne, Bool.or_false]
      by_cases hlt : i < k
      · rw [if_pos hlt] at ih
        rw [if_pos (show i < k + 1 by omega), ih]
        cases hs : S k with
        | false => simp
        | true =>
          simp only [if_true]
          cases hd : (o i).dst with
          | none => rfl
          | some d =>
            cases hd' : (o k).dst with
            | none => rfl
            | some d' =>
              have hdd : d' ≠ d := by
                intro e; subst e
                exact h k hlt (by omega) hs d' hd' hd
              simp only [putA]
              exact List.set_comm _ _ (Ne.symm hdd)
      · rw [if_neg hlt] at ih
        rw [if_neg (show ¬ i < k + 1 by omega), ih]
def commutes (a b : Chg) : Prop := ∀ hp, a.hp (b.hp hp) = b.hp (a.hp hp)
theorem HS_more (S : Nat → Bool) (i : Nat) (hi : S i = false) : ∀ k, (∀ j, i < j → j < k → S j = true → commutes (c j) (c i)) →
    HS c s0 (fun j => S j || j == i) k = if i < k then (c i).hp (HS c s0 S k) else HS c s0 S k
  | 0, _ => by simp [HS]
  | k + 1, h => by
    have ih := HS_more S i hi k (fun j h1 h2 => h j h1 (by omega))
    rw [HS_succ, HS_succ]
    by_cases hk : k = i
    · subst hk
      rw [if_neg (Nat.lt_irrefl _)] at ih
      rw [ih]
      simp [hi]
    · have hne : (k == i) = false := by simpa using hk
      simp only [hne, Bool.or_false]
      by_cases hlt : i < k
      · rw [if_pos hlt] at ih
        rw [if_pos (show i < k + 1 by omega), ih]
        cases hs : S k with
        | false => simp
        | true =>
          simp only [if_true]
          exact h k hlt (by omega) hs _
      · rw [if_neg hlt] at ih
        rw [if_neg (show ¬ i < k + 1 by omega), ih]
structure Apart (a b : Foot) : Prop where
  t1 : ∀ d, a.dst = some d → d ∉ b.tmps
  t2 : ∀ d, b.dst = some d → d ∉ a.tmps
  t3 : ∀ d, a.dst = some d → b.dst ≠ some d
  h1 : a.chg.isAll = true → b.chg.ids = [] ∧ b.chg.isAll = false
  h2 : b.chg.isAll = true → a.chg.ids = [] ∧ a.chg.isAll = false
  h3 : ∀ id ∈ a.chg.ids, id ∉ b.reads
  h4 : ∀ id ∈ b.chg.ids, id ∉ a.reads
  h5 : ∀ id ∈ a.chg.ids, id ∉ b.chg.ids
theorem Apart.symm {a b : Foot} (h : Apart a b) : Apart b a :=
  ⟨h.t2, h.t1, fun d h1 h2 => h.t3 d h2 h1, h.h2, h.h1, h.h4, h.h3, fun id h1 h2 => h.h5 id h2 h1⟩
theorem disjointL_spec {a b : List Nat} (h : disjointL a b = true) : ∀ x ∈ a, x ∉ b := by
  intro x hx
  have := List.all_eq_true.1 h x hx
  simpa using this
theorem apart_of {a b : Foot} (h : apartF a b = true) : Apart a b := by
  simp only [apartF, Bool.and_eq_true] at h
  obtain ⟨⟨⟨q1, q2⟩, q3⟩, q4⟩ := h
  have p1 := disjointL_spec q1
  have p2 := disjointL_spec q2
  have p3 := disjointL_spec q3
  have base : (a.chg.isAll = true → b.chg.ids = [] ∧ b.chg.isAll = false) ∧ (b.chg.isAll = true → a.chg.ids = [] ∧ a.chg.isAll = false) ∧ (∀ id ∈ a.chg.ids, id ∉ b.reads) ∧ (∀ id ∈ b.chg.ids, id ∉ a.reads) ∧ (∀ id ∈ a.chg.ids, id ∉ b.chg.ids) := by
    split at q4
    · rename_i ha
      simp only [Bool.and_eq_true, List.isEmpty_iff, Bool.not_eq_true'] at q4
      obtain ⟨⟨z1, z2⟩, z3⟩ := q4
      exact ⟨fun _ => ⟨z1, z2⟩, fun h => by rw [z2] at h; simp at h, disjointL_spec z3, by simp [z1], by simp [z1]⟩
    · rename_i ha
      have ha' : a.chg.isAll = false := by simpa using ha
      split at q4
      · rename_i hb
        simp only [Bool.and_eq_true, List.isEmpty_iff] at q4
        obtain ⟨z1, z3⟩ := q4
        exact ⟨fun h => absurd h ha, fun _ => ⟨z1, ha'⟩, by simp [z1], disjointL_spec z3, by simp [z1]⟩
      · rename_i hb
        simp only [Bool.and_eq_true] at q4
        exact ⟨fun h => absurd h ha, fun h => absurd h hb, disjointL_spec q4.1.1, disjointL_spec q4.1.2, disjointL_spec q4.2⟩
  exact ⟨fun d hd => p1 d (by simp [hd]), fun d hd => p2 d (by simp [hd]), fun d hd hd' => p3 d (by simp [hd]) (by simp [hd']), base.1, base.2.1, base.2.2.1, base.2.2.2.1, base.2.2.2.2⟩
theorem apart_commutes {a b : Foot} (h : Apart a b) : commutes a.chg b.chg := by
  intro hp
  funext id
  have ht : ∀ z : Chg, touches z id = true → id ∈ z.ids := by
    intro z h
    simpa [touches] using h
  cases h1 : touches a.chg id with
  | true =>
    have hny : touches b.chg id = false := by
      cases h2 : touches b.chg id with
      | false => rfl
      | true => exact absurd (ht _ h2) (h.h5 id (ht _ h1))
    rw [chg_hp_ne _ _ _ hny, chg_hp_eq a.chg _ hp id h1]
  | false =>
    rw [chg_hp_ne _ _ _ h1]
    cases h2 : touches b.chg id with
    | true => exact chg_hp_eq b.chg _ _ id h2
    | false => rw [chg_hp_ne _ _ _ h2, chg_hp_ne _ _ _ h2, chg_hp_ne _ _ _ h1]
def mask (o : Oper) (acc : List Nat) : Nat := (direct o).foldl (fun s j => s ||| 2 ^ j ||| acc.getD j 0) 0
theorem befL_spec : ∀ (l : List Oper) (acc : List Nat) (k : Nat), (befL l acc).length = acc.length + l.length ∧ (k < acc.length → (befL l acc)[k]? = acc[k]?) ∧
    (∀ o, acc.length ≤ k → l[k - acc.length]? = some o → (befL l acc)[k]? = some (mask o ((befL l acc).take k)))
  | [], acc, k => by simp [befL]
  | o :: l, acc, k => by
    obtain ⟨h1, h2, h3⟩ := befL_spec l (acc ++ [mask o acc]) k
    have hu : befL (o :: l) acc = befL l (acc ++ [mask o acc]) := rfl
    rw [hu]
    simp only [List.length_append, List.length_cons, List.length_nil] at h1 h2 h3
    refine ⟨by rw [h1]; simp; omega, fun hk => ?_, fun o' hk ho => ?_⟩
    · rw [h2 (by omega), List.getElem?_append_left hk]
    · by_cases he : k = acc.length
      · subst he
        simp at ho; subst ho
        rw [h2 (by omega)]
        have hall : ∀ j, j < acc.length → (befL l (acc ++ [mask o acc]))[j]? = acc[j]? := by
          intro j hj
          have := (befL_spec l (acc ++ [mask o acc]) j).2.1 (by simp; omega)
          rw [this, List.getElem?_append_left hj]
        have htake : (befL l (acc ++ [mask o acc])).take acc.length = acc := by
          apply List.ext_getElem?
          intro j
          rw [List.getElem?_take]
          split
          · rename_i hj; exact hall j hj
          · rename_i hj; rw [List.getElem?_eq_none (by omega)]
        rw [htake]
        simp
      · refine h3 o' (by omega) ?_
        have : k - acc.length = (k - (acc.length + 1)) + 1 := by omega
        rw [this, List.getElem?_cons_succ] at ho
        exact ho
theorem foldl_bits (acc : List Nat) (i : Nat) : ∀ (l : List Nat) (s : Nat), (l.foldl (fun s j => s ||| 2 ^ j ||| acc.getD j 0) s).testBit i = true → s.testBit i = true ∨ ∃ j ∈ l, i = j ∨ (acc.getD j 0).testBit i = true
  | [], s, h => .inl h
  | j :: l, s, h => by
    rcases foldl_bits acc i l _ h with h1 | ⟨k, hk, h1⟩
    · simp only [Nat.testBit_or, Bool.or_eq_true] at h1
      rcases h1 with (h1 | h1) | h1
      · exact .inl h1
      · rw [Nat.testBit_two_pow] at h1
        exact .inr ⟨j, by simp, .inl (by simpa using (of_decide_eq_true h1).symm)⟩
      · exact .inr ⟨j, by simp, .inr h1⟩
    · exact .inr ⟨k, by simp [hk], h1⟩
/-- A set that holds with each what is ordered directly ahead of it, holds all that is. -/
theorem bef_closed {ops : List Oper} (S : Nat → Bool) (hS : ∀ k op, ops[k]? = some op → S k = true → ∀ j ∈ direct op, S j = true) :
    ∀ (k : Nat) (op : Oper), ops[k]? = some op → (∀ j ∈ direct op, S j = true) → (∀ j ∈ direct op, j < k) → edgesDown ops = true → ∀ i, ((befL ops []).getD k 0).testBit i = true → S i = true := by
  intro k
  induction k using Nat.strongRecOn with
  | _ k ih =>
    intro op hop hd hlt hed i hi
    have hsp := (befL_spec ops [] k).2.2 op (by simp) (by simpa using hop)
    rw [List.getD_eq_getElem?_getD, hsp] at hi
    simp only [Option.getD_some, mask] at hi
    rcases foldl_bits _ i _ _ hi with h | ⟨j, hj, h⟩
    · simp at h
    · rcases h with rfl | h
      · exact hd _ hj
      · have hjk := hlt j hj
        have hjl : j < ops.length := by
          have := (List.getElem?_eq_some_iff.1 hop).1; omega
        have hop' : ops[j]? = some ops[j] := by simp [hjl]
        have htk : ((befL ops []).take k).getD j 0 = (befL ops []).getD j 0 := by
          rw [List.getD_eq_getElem?_getD, List.getElem?_take, if_pos hjk, ← List.getD_eq_getElem?_getD]
        rw [htk] at h
        have hlt' : ∀ q ∈ direct ops[j], q < j := by
          have h1 := List.all_eq_true.1 hed j (by simpa using hjl)
          rw [hop'] at h1
          intro q hq
          exact of_decide_eq_true (List.all_eq_true.1 h1 q hq)
        exact ih j hjk ops[j] hop' (hS j _ hop' (hd j hj)) hlt' hed i h
end Go.Proofs.Ytlinbbjobjnipaa.AI

set_option linter.unusedVariables false
set_option linter.unusedSectionVars false
set_option linter.unusedSimpArgs false
namespace Go.Proofs.Ytlinbbjobjnipaa.AI
open Go
variable [Val]
variable {X : Nat → Prop} {P : Program} {pure : Nat → Bool} {F : CallF} {G : CallG}
variable {o : Nat → Oper} {v : Nat → AV} {c : Nat → Chg} {s0 : St}
def Sof (listed : Array Bool) : Nat → Bool := fun j => listed.getD j false
theorem count_more (S : Nat → Bool) (i : Nat) (hi : S i = false) : ∀ n, ((List.range n).countP fun j => !S j) = ((List.range n).countP fun j => !(S j || j == i)) + if i < n then 1 else 0
  | 0 => by simp
  | n + 1 => by
    have ih := count_more S i hi n
    rw [List.range_succ, List.countP_append, List.countP_append, ih]
    simp only [List.countP_cons, List.countP_nil]
    by_cases h : n = i
    · subst h; simp [hi]
    · have hne : (n == i) = false := by simpa using h
      simp only [hne, Bool.or_false]
      by_cases hlt : i < n
      · rw [if_pos hlt, if_pos (show i < n + 1 by omega)]; omega
      · rw [if_neg hlt, if_neg (show ¬ i < n + 1 by omega)]; omega
theorem Sof_set (listed : Array Bool) (i : Nat) (hi : i < listed.size) : Sof (listed.setIfInBounds i true) = fun j => Sof listed j || j == i := by
  funext j
  simp only [Sof, Array.getD_eq_getD_getElem?, Array.getElem?_setIfInBounds]
  by_cases h : i = j
  · subst h; simp [hi]
  · have hne : (j == i) = false := by simpa using fun e => h e.symm
    simp [h, hne]
theorem ready_mem {ops : Array Oper} {listed : Array Bool} {i : Nat} (h : i ∈ Region.ready .any ops listed) (hs : listed.size = ops.size) :
    ∃ op, ops[i]? = some op ∧ i < ops.size ∧ Sof listed i = false ∧ ∀ j ∈ direct op, Sof listed j = true := by
  simp only [Region.ready, List.mem_filter, List.mem_range, Bool.and_eq_true, Bool.not_eq_true'] at h
  obtain ⟨h1, h2, h3⟩ := h
  refine ⟨ops[i], by simp [h1], h1, ?_, fun j hj => ?_⟩
  · have hl : i < listed.size := by omega
    simp only [Sof, Array.getD_eq_getD_getElem?, hl, Array.getElem?_eq_getElem, Option.getD_some] at h2 ⊢
    exact h2
  · simp only [h1, Array.getElem?_eq_getElem, Option.map_some, Option.getD_some] at h3
    simp only [direct, List.mem_map, List.mem_filter, Array.mem_toList_iff] at hj
    obtain ⟨e, ⟨he1, he2⟩, rfl⟩ := hj
    have := (Array.all_eq_true'.1 h3) e he1
    simp only [he2, Bool.not_true, Bool.false_or] at this
    exact this
theorem ready_of {ops : Array Oper} {listed : Array Bool} {i : Nat} {op : Oper} (hop : ops[i]? = some op) (hS : Sof listed i = false) (hs : listed.size = ops.size) (hd : ∀ j ∈ direct op, Sof listed j = true) :
    i ∈ Region.ready .any ops listed := by
  obtain ⟨h1, rfl⟩ := Array.getElem?_eq_some_iff.1 hop
  simp only [Region.ready, List.mem_filter, List.mem_range, Bool.and_eq_true, Bool.not_eq_true']
  refine ⟨h1, ?_, ?_⟩
  · have hl : i < listed.size := by omega
    simp only [Sof, Array.getD_eq_getD_getElem?, hl, Array.getElem?_eq_getElem, Option.getD_some] at hS ⊢
    exact hS
  · simp only [h1, Array.getElem?_eq_getElem, Option.map_some, Option.getD_some]
    refine Array.all_eq_true'.2 fun e he => ?_
    cases hb : Region.binds .any e with
    | false => simp
    | true =>
      simp only [Bool.not_true, Bool.false_or]
      exact hd e.on (by simp only [direct, List.mem_map, List.mem_filter, Array.mem_toList_iff]; exact ⟨e, ⟨he, hb⟩, rfl⟩)
theorem touches_ids {x : Chg} {id : Nat} (h : touches x id = true) : id ∈ x.ids := by
  simpa [touches] using h
theorem callee_reads {ops : List Oper} {s : St} {o : Oper} {r : AV × Chg} {f : Nat} {args : List AV} (hc : calleeA (evalA s.1) o.op = some (f, args)) (hw : wantA ops s.1 o = some true) {id : Nat} (hid : id ∈ args.flatMap idOf0) :
    id ∈ (footOf ops o s r).reads := by
  have sub : ∀ (v : AV) (id : Nat), id ∈ idOf0 v → id ∈ idOf v := by
    intro v id h
    cases v <;> first | exact h | simp [idOf0] at h
  unfold calleeA at hc
  split at hc
  · rename_i fo as ts hop
    have hr : ∀ (x : Operand) (id : Nat), (x = fo ∨ x ∈ as) → id ∈ idOf (evalA s.1 x) → id ∈ (footOf ops o s r).reads := by
      intro x id hx hi
      have hin : x ∈ o.op.operands.toList := by
        rw [hop]
        rcases hx with rfl | hx
        · simp [Op.operands, Call.operands]
        · simp [Op.operands, Call.operands, hx]
      simp only [footOf, opReads, hw, hop, looksIn, beq_self_eq_true, Bool.and_self, if_true, List.mem_flatMap]
      rw [hop] at hin
      exact ⟨x, hin, hi⟩
    split at hc
    · rename_i g hg
      simp only [Option.some.injEq, Prod.mk.injEq] at hc
      obtain ⟨rfl, rfl⟩ := hc
      simp only [List.mem_flatMap, List.mem_map, Array.mem_toList_iff] at hid
      obtain ⟨v, ⟨x, hx, rfl⟩, hi⟩ := hid
      exact hr x id (.inr hx) (sub _ _ hi)
    · rename_i g cs hg
      simp only [Option.some.injEq, Prod.mk.injEq] at hc
      obtain ⟨rfl, rfl⟩ := hc
      rw [List.flatMap_append, List.mem_append] at hid
      rcases hid with hid | hid
      · simp only [List.mem_flatMap, List.mem_map, Array.mem_toList_iff] at hid
        obtain ⟨v, ⟨x, hx, rfl⟩, hi⟩ := hid
        exact hr x id (.inr hx) (sub _ _ hi)
      · refine hr fo id (.inl rfl) ?_
        rw [hg]
        exact hid
    · simp at hc
  · simp at hc
theorem any_sound (hF : WholeOk P F) (hG : PureOk P G) (hC : CongG G) {ops : Array Oper} {sts : Nat → St} (tr : Tr P pure F G ops.toList o v c sts ops.size) (h0 : sts 0 = s0)
    (hap : ∀ i k, i < k → k < ops.size → ((befL ops.toList []).getD k 0).testBit i = true ∨ Apart (footOf ops.toList (o i) (sts i) (v i, c i)) (footOf ops.toList (o k) (sts k) (v k, c k)))
    (hed : edgesDown ops.toList = true) {Q : Exit → Act → World → Prop} {φ0 : Emb} {w0 : World}
    (hQ : ∀ φ' w' a', RelH X (hf (sts ops.size).2) φ' w' → RepL X (hf (sts ops.size).2) φ' w' (sts ops.size).1 a'.tmps.toList → a'.defers = [] → Evo (hf s0.2) φ0 w0 (hf (sts ops.size).2) φ' w' → Q .normal a' w') :
    ∀ (fuel : Nat) (listed : Array Bool) (a : Act) (w : World) (φ : Emb), listed.size = ops.size → ((List.range ops.size).countP fun j => !Sof listed j) = fuel →
      (∀ k op, ops.toList[k]? = some op → Sof listed k = true → ∀ j ∈ direct op, Sof listed j = true) →
      RelH X (HS c s0 (Sof listed) ops.size) φ w → RepL X (HS c s0 (Sof listed) ops.size) φ w (TS o v s0 (Sof listed) ops.size) a.tmps.toList → a.defers = [] →
      Evo (hf s0.2) φ0 w0 (HS c s0 (Sof listed) ops.size) φ w → wpAny P .any ops Q fuel listed a w := by
  have hlt : ∀ k op, ops.toList[k]? = some op → ∀ j ∈ direct op, j < k := by
    intro k op hop j hj
    have hk := (List.getElem?_eq_some_iff.1 hop).1
    have h1 := List.all_eq_true.1 hed k (by simpa using hk)
    rw [hop] at h1
    exact of_decide_eq_true (List.all_eq_true.1 h1 j hj)
  intro fuel
  induction fuel with
  | zero =>
    intro listed a w φ hs hc hcl R hT hd ev
    have hall : ∀ j, j < ops.size → Sof listed j = true := by
      intro j hj
      have := List.countP_eq_zero.1 hc j (by simpa using hj)
      simpa using this
    refine ⟨?_, ?_⟩
    · by_cases hne : Region.ready .any ops listed = []
      · exact hne
      · obtain ⟨i, hi⟩ := List.exists_mem_of_ne_nil _ hne
        obtain ⟨op, _, h1, h2, _⟩ := ready_mem hi hs
        rw [hall i h1] at h2; simp at h2
    · have e1 : TS o v s0 (Sof listed) ops.size = (sts ops.size).1 := by
        have := TS_first tr h0 ops.size ops.size (Nat.le_refl _)
        rw [Nat.min_self] at this
        rw [← this]
        apply List.ext_getElem?
        intro t
        exact TS_agree _ _ t _ (fun j hj _ => by rw [hall j hj]; simp [hj])
      have e2 : HS c s0 (Sof listed) ops.size = hf (sts ops.size).2 := by
        have := HS_first tr h0 ops.size ops.size (Nat.le_refl _)
        rw [Nat.min_self] at this
        rw [← this]
        funext id
        exact HS_agree _ _ id _ (fun j hj _ => by rw [hall j hj]; simp [hj])
      rw [e2] at R ev
      rw [e1, e2] at hT
      exact hQ φ w a R hT hd ev
  | succ fuel ih =>
    intro listed a w φ hs hc hcl R hT hd ev
    refine ⟨fun hr => ?_, fun i hi => ?_⟩
    · -- somebody is ready
      exfalso
      have hex : ∃ j, j < ops.size ∧ Sof listed j = false := by
        have hpos : 0 < (List.range ops.size).countP fun j => !Sof listed j := by omega
        obtain ⟨j, hj, hj2⟩ := List.countP_pos_iff.1 hpos
        exact ⟨j, by simpa using hj, by simpa using hj2⟩
      have key : ∀ m, m < ops.size → Sof listed m = false → False := by
        intro m
        induction m using Nat.strongRecOn with
        | _ m ihm =>
          intro hm hSm
          have hop : ops[m]? = some ops[m] := by simp [hm]
          by_cases hd' : ∀ j ∈ direct ops[m], Sof listed j = true
          · have := ready_of hop hSm hs hd'
            rw [hr] at this; simp at this
          · simp only [Classical.not_forall] at hd'
            obtain ⟨j, hj, hjS⟩ := hd'
            have hjm := hlt m ops[m] (by simp [hm]) j hj
            exact ihm j hjm (by omega) (by simpa using hjS)
      obtain ⟨j, h1, h2⟩ := hex
      exact key j h1 h2
    · obtain ⟨op, hop, hin, hSi, hdir⟩ := ready_mem hi hs
      have hopL : ops.toList[i]? = some op := by simpa using hop
      obtain rfl : op = o i := by have := tr.op i hin; rw [hopL] at this; exact Option.some.inj this
      have hst := tr.step i hin
      have hilt := hlt i (o i) hopL
      -- who is ordered, or apart
      have ord : ∀ j, j < ops.size → j ≠ i → (Sof listed j = decide (j < i)) ∨ Apart (footOf ops.toList (o j) (sts j) (v j, c j)) (footOf ops.toList (o i) (sts i) (v i, c i)) := by
        intro j hj hne
        rcases Nat.lt_or_gt_of_ne hne with h | h
        · rcases hap j i h hin with hb | hA
          · left
            rw [bef_closed (Sof listed) hcl i (o i) hopL hdir hilt hed j hb]
            simp [h]
          · exact .inr hA
        · rcases hap i j h hj with hb | hA
          · left
            have hn : Sof listed j = false := by
              cases hSj : Sof listed j with
              | false => rfl
              | true =>
                exfalso
                have hopj := tr.op j hj
                have := bef_closed (Sof listed) hcl j (o j) hopj (hcl j (o j) hopj hSj) (hlt j (o j) hopj) hed i hb
                rw [hSi] at this; simp at this
            rw [hn]; simp; omega
          · exact .inr hA.symm
      -- the temporaries that it looks at
      have tmpEq : ∀ t ∈ opTmps ops.toList (o i), (TS o v s0 (Sof listed) ops.size)[t]? = (sts i).1[t]? := by
        intro t ht
        have h1 : (TS o v s0 (Sof listed) ops.size)[t]? = (TS o v s0 (fun j => decide (j < i)) ops.size)[t]? :=
          TS_agree _ _ t _ (fun j hj hjd => by
            by_cases hji : j = i
            · subst hji; rw [hSi]; simp
            · rcases ord j hj hji with h | h
              · exact h
              · exact absurd ht (h.t1 t hjd))
        rw [h1, TS_first tr h0 i ops.size (Nat.le_refl _), show min ops.size i = i by omega]
      have heapEq : ∀ id, (id ∈ (footOf ops.toList (o i) (sts i) (v i, c i)).reads ∨ id ∈ (c i).ids ∨ (c i).isAll = true) → HS c s0 (Sof listed) ops.size id = hf (sts i).2 id := by
        intro id hid
        have h1 : HS c s0 (Sof listed) ops.size id = HS c s0 (fun j => decide (j < i)) ops.size id :=
          HS_agree _ _ id _ (fun j hj hjt => by
            by_cases hji : j = i
            · subst hji; rw [hSi]; simp
            · rcases ord j hj hji with h | h
              · exact h
              · exfalso
                have hjid := touches_ids hjt
                rcases hid with hid | hid | hid
                · exact h.h3 id hjid hid
                · exact h.h5 id hjid hid
                · have := (h.h2 hid).1
                  simp only [footOf] at this
                  rw [this] at hjid; simp at hjid)
        rw [h1, HS_first tr h0 i ops.size (Nat.le_refl _), show min ops.size i = i by omega]
      -- one more
      have hTm : TS o v s0 (Sof (listed.setIfInBounds i true)) ops.size = putA (TS o v s0 (Sof listed) ops.size) (o i).dst (v i) := by
        rw [Sof_set listed i (by omega)]
        have := TS_more (o := o) (v := v) (s0 := s0) (Sof listed) i hSi ops.size (fun j h1 h2 hSj d hjd => by
          rcases ord j h2 (by omega) with h | h
          · rw [hSj] at h; simp at h; omega
          · exact h.t3 d hjd)
        rw [if_pos hin] at this
        exact this
      have hHm : HS c s0 (Sof (listed.setIfInBounds i true)) ops.size = (c i).hp (HS c s0 (Sof listed) ops.size) := by
        rw [Sof_set listed i (by omega)]
        have := HS_more (c := c) (s0 := s0) (Sof listed) i hSi ops.size (fun j h1 h2 hSj => by
          rcases ord j h2 (by omega) with h | h
          · rw [hSj] at h; simp at h; omega
          · exact apart_commutes h)
        rw [if_pos hin] at this
        exact this
      have hcl' : ∀ k op, ops.toList[k]? = some op → Sof (listed.setIfInBounds i true) k = true → ∀ j ∈ direct op, Sof (listed.setIfInBounds i true) j = true := by
        intro k op hk hSk j hj
        rw [Sof_set listed i (by omega)] at hSk ⊢
        simp only [Bool.or_eq_true] at hSk ⊢
        rcases hSk with h | h
        · exact .inl (hcl k op hk h j hj)
        · have : k = i := by simpa using h
          subst this
          rw [hopL] at hk; cases hk
          exact .inl (hdir j hj)
      have hcnt : ((List.range ops.size).countP fun j => !Sof (listed.setIfInBounds i true) j) = fuel := by
        rw [Sof_set listed i (by omega)]
        have := count_more (Sof listed) i hSi ops.size
        rw [if_pos hin] at this
        show ((List.range ops.size).countP fun j => !(Sof listed j || j == i)) = fuel
        omega
      have goOn : ∀ (a' : Act) (w' : World) (φ' : Emb), RelH X ((c i).hp (HS c s0 (Sof listed) ops.size)) φ' w' → RepL X ((c i).hp (HS c s0 (Sof listed) ops.size)) φ' w' (putA (TS o v s0 (Sof listed) ops.size) (o i).dst (v i)) a'.tmps.toList →
          a'.defers = [] → Evo (HS c s0 (Sof listed) ops.size) φ w ((c i).hp (HS c s0 (Sof listed) ops.size)) φ' w' → wpAny P .any ops Q fuel (listed.setIfInBounds i true) a' w' := by
        intro a' w' φ' R' hT' hd' ev'
        exact ih _ a' w' φ' (by simpa using hs) hcnt hcl' (by rw [hHm]; exact R') (by rw [hHm, hTm]; exact hT') hd' (by rw [hHm]; exact ev.trans ev')
      -- is it wanted?
      have wantEq : wantA ops.toList (TS o v s0 (Sof listed) ops.size) (o i) = wantA ops.toList (sts i).1 (o i) := by
        unfold wantA
        split
        · rfl
        · rename_i j want hg
          split
          · rfl
          · rename_i d hdj
            rw [tmpEq d (by unfold opTmps; rw [hg]; simp only [List.mem_append]; right; rw [hdj]; simp)]
      unfold wpOp
      rw [hop]
      simp only
      unfold stepOp at hst
      split at hst
      · simp at hst
      · rename_i hw
        rw [← wantEq] at hw
        simp only [Option.some.injEq, Prod.mk.injEq] at hst
        obtain ⟨hv, hcc⟩ := hst
        rw [want_sound hT hw, if_neg (by simp)]
        refine goOn _ w φ (by rw [← hcc]; exact R) (by rw [← hcc, ← hv]; exact put_sound hT _ repA_undef) ?_ (by rw [← hcc]; exact Evo.refl _ _ _)
        cases hdst : (o i).dst <;> simpa [Act.put] using hd
      · rename_i hw
        have hw0 := hw
        rw [← wantEq] at hw
        rw [want_sound hT hw, if_pos rfl]
        refine .inl ?_
        have hρeq : ∀ x ∈ (o i).op.operands.toList, evalA (TS o v s0 (Sof listed) ops.size) x = evalA (sts i).1 x := by
          intro x hx
          cases x with
          | tmp t =>
            simp only [evalA, List.getD_eq_getElem?_getD]
            rw [tmpEq t (by simp only [opTmps, List.mem_append, List.mem_filterMap]; exact .inl ⟨.tmp t, hx, rfl⟩)]
          | const v => rfl
          | global g => rfl
          | func f => rfl
        have hsem := runOp_sem hst
        have hsem' : OpSem P pure F G (evalA (TS o v s0 (Sof listed) ops.size)) (HS c s0 (Sof listed) ops.size) (sts i).2.length (o i).op (v i) (c i) := by
          unfold OpSem at hsem ⊢
          rw [calleeA_congr hρeq]
          split
          · rename_i f args hcal
            rw [hcal] at hsem
            rcases hsem with ⟨hp', hGr, hca⟩ | ⟨hp', h, h', hFr, hca, hhf⟩ | hadd
            · refine .inl ⟨hp', ?_, hca⟩
              rw [← hGr]
              exact hC _ _ f args (fun id hid => heapEq id (.inl (callee_reads hcal hw0 hid)))
            · refine .inr (.inl ⟨hp', h, h', hFr, hca, ?_⟩)
              rw [← hhf]
              funext id
              exact heapEq id (.inr (.inr (by rw [hca]; rfl)))
            · exact .inr (.inr hadd)
          · rename_i hcal
            rw [hcal] at hsem
            obtain ⟨e, he, h1, h2⟩ := hsem
            refine ⟨e, ?_, h1, h2⟩
            rw [← he]
            refine primA_congr hρeq (fun hl x hx id hid => heapEq id (.inl ?_))
            simp only [footOf, opReads, hw0, hl, beq_self_eq_true, Bool.and_self, if_true, List.mem_flatMap]
            exact ⟨x, hx, hid⟩
        refine oper_sound hF hG R (eval_sound hT) (fun id hid hge => ?_) hsem' (fun y w' φ' r1 r2 r3 => ?_)
        · rw [heapEq _ (.inr (.inl hid))]; exact hf_ge hge
        · refine goOn _ w' φ' r2 (put_sound (hT.evo r3) _ r1) ?_ r3
          cases hdst : (o i).dst <;> simpa [Act.put] using hd
theorem Evo.drew {hp : Hp} {φ : Emb} {w : World} : Evo hp φ w hp φ { w with drawn := w.drawn + 1 } :=
  ⟨⟨rfl, rfl, rfl, Nat.le_refl _, fun _ _ _ => rfl, fun _ c _ fr h => ⟨c, fr, h, rfl⟩⟩, fun _ => Nat.le_refl _, fun _ h _ => ⟨h, rfl⟩, fun _ h => .inl h⟩
theorem RelH.drew {hp : Hp} {φ : Emb} {w : World} (R : RelH X hp φ w) : RelH X hp φ { w with drawn := w.drawn + 1 } := R.evo Evo.drew (fun _ _ => rfl)
theorem draw_sound (hF : WholeOk P F) (hG : PureOk P G) (hC : CongG G) (hm : P.follows .mixedOrders = true) {id : Nat} {ops : Array Oper} {Q : Exit → Act → World → Prop} {s s' : St} (h : drawOps P pure F G ops.toList s = some s')
    {φ : Emb} {w : World} {a : Act} (R : RelH X (hf s.2) φ w) (hT : RepL X (hf s.2) φ w s.1 a.tmps.toList) (hd : a.defers = [])
    (hk : ∀ φ' w' a', RelH X (hf s'.2) φ' w' → RepL X (hf s'.2) φ' w' s'.1 a'.tmps.toList → a'.defers = [] → Evo (hf s.2) φ w (hf s'.2) φ' w' → Q .normal a' w') :
    (Code.region id ops true).wp P Q a w := by
  unfold drawOps at h
  simp only [Option.bind_eq_some_iff] at h
  obtain ⟨⟨fs, s2⟩, htr, h⟩ := h
  split at h
  · rename_i hchk
    simp only [Bool.and_eq_true] at hchk
    obtain ⟨hed, hap⟩ := hchk
    simp only [Option.some.injEq] at h; subst h
    obtain ⟨hfl, v, c, sts, h0, hn, hall⟩ := trace_some ops.toList ops.toList s s2 fs htr
    rw [Array.length_toList] at hfl hn
    let o : Nat → Oper := fun i => ops.getD i default
    have hoi : ∀ i, i < ops.size → ops.toList[i]? = some (o i) := by
      intro i hi; simp [o, hi, Array.getD]
    have tr : Tr P pure F G ops.toList o v c sts ops.size :=
      ⟨hoi, fun i hi => (hall i (o i) (hoi i hi)).1, fun i hi => (hall i (o i) (hoi i hi)).2.1⟩
    have hS0 : Sof (Array.replicate ops.size false) = fun _ => false := by
      funext j; simp only [Sof, Array.getD_eq_getD_getElem?, Array.getElem?_replicate]; split <;> rfl
    have hT0 : ∀ k, TS o v s (fun _ => false) k = s.1 := by intro k; induction k with | zero => rfl | succ k ih => rw [TS_succ]; simpa using ih
    have hH0 : ∀ k, HS c s (fun _ => false) k = hf s.2 := by intro k; induction k with | zero => rfl | succ k ih => rw [HS_succ]; simpa using ih
    refine wp_region_any hm (any_sound (X := X) hF hG hC tr h0 (fun i k hik hkn => ?_) hed (φ0 := φ) (w0 := w) (fun φ' w' a' r1 r2 r3 r4 => ?_) ops.size _ a _ φ (by simp) ?_ ?_ ?_ ?_ hd ?_)
    · have hfl' : fs.length = ops.size := by simpa using hfl
      have h1 := List.all_eq_true.1 hap k (by rw [List.mem_range, hfl']; exact hkn)
      have h2 := List.all_eq_true.1 h1 i (by simpa using hik)
      rw [(hall i (o i) (hoi i (by omega))).2.2, (hall k (o k) (hoi k hkn)).2.2] at h2
      simp only [Bool.or_eq_true] at h2
      exact h2.imp (fun h => h) apart_of
    · rw [hn] at r1 r2 r4; exact hk φ' w' a' r1 r2 r3 r4
    · rw [hS0]; simp
    · rw [hS0]; simp
    · rw [hS0, hH0]; exact R.drew
    · rw [hS0, hH0, hT0]; exact hT.evo Evo.drew
    · rw [hS0, hH0]; exact Evo.drew
  · simp at h
def XA.exit' : XA → Exit
  | .normal => .normal
  | .exit id => .exit id
  | .ret => .ret
theorem exec_sound (hF : WholeOk P F) (hG : PureOk P G) (hC : CongG G) (hm : P.follows .mixedOrders = true) (lim : Nat) : ∀ (code : Code) (s s' : St) (e : XA), execC P pure F G lim code s = some (e, s') →
    ∀ (X : Nat → Prop) (φ : Emb) (w : World) (a : Act) (Q : Exit → Act → World → Prop), RelH X (hf s.2) φ w → RepL X (hf s.2) φ w s.1 a.tmps.toList → a.defers = [] →
    (∀ φ' w' a', RelH X (hf s'.2) φ' w' → RepL X (hf s'.2) φ' w' s'.1 a'.tmps.toList → a'.defers = [] → Evo (hf s.2) φ w (hf s'.2) φ' w' → Q e.exit' a' w') → code.wp P Q a w := by
  intro code
  induction code with
  | skip =>
    intro s s' e h X φ w a Q R hT hd hk
    simp only [execC, Option.some.injEq, Prod.mk.injEq] at h; obtain ⟨rfl, rfl⟩ := h
    exact wp_skip (hk φ w a R hT hd (Evo.refl _ _ _))
  | label l =>
    intro s s' e h X φ w a Q R hT hd hk
    simp only [execC, Option.some.injEq, Prod.mk.injEq] at h; obtain ⟨rfl, rfl⟩ := h
    exact wp_label (hk φ w a R hT hd (Evo.refl _ _ _))
  | region id ops draw =>
    intro s s' e h X φ w a Q R hT hd hk
    simp only [execC, Option.map_eq_some_iff, Prod.mk.injEq] at h
    obtain ⟨s2, h, rfl, rfl⟩ := h
    cases draw with
    | false =>
      rw [if_neg (by simp)] at h
      exact wp_region_list (ops_sound hF hG ops.toList s s2 h X φ w a R hT hd hk)
    | true =>
      rw [if_pos rfl] at h
      exact draw_sound hF hG hC hm h R hT hd hk
  | seq x y ihx ihy =>
    intro s s' e h X φ w a Q R hT hd hk
    simp only [execC] at h
    refine wp_seq ?_
    split at h
    · rename_i s1 hx
      refine ihx s s1 .normal hx X φ w a _ R hT hd (fun φ' w' a' R' T' d' e' => ?_)
      exact ihy s1 s' e h X φ' w' a' Q R' T' d' (fun φ2 w2 a2 R2 T2 d2 e2 => hk φ2 w2 a2 R2 T2 d2 (e'.trans e2))
    · rename_i r hne
      refine ihx s s' e h X φ w a _ R hT hd (fun φ' w' a' R' T' d' e' => ?_)
      have := hk φ' w' a' R' T' d' e'
      cases e with
      | normal => exact absurd h (by rw [h] at hne; exact fun _ => hne s' rfl)
      | exit id => exact this
      | ret => exact this
  | cond cnd x y ihx ihy =>
    intro s s' e h X φ w a Q R hT hd hk
    simp only [execC] at h
    have hcv := eval_sound hT cnd
    split at h
    · rename_i hc
      rw [hc] at hcv
      exact wp_cond_true (repA_bool hcv) (ihx s s' e h X φ w a Q R hT hd hk)
    · rename_i hc
      rw [hc] at hcv
      exact wp_cond_false (repA_bool hcv) (ihy s s' e h X φ w a Q R hT hd hk)
    · simp at h
  | block id b ih =>
    intro s s' e h X φ w a Q R hT hd hk
    simp only [execC] at h
    refine wp_block ?_
    split at h
    · rename_i j s1 hb
      refine ih s s1 (.exit j) hb X φ w a _ R hT hd (fun φ' w' a' R' T' d' e' => ?_)
      split at h
      · rename_i hj
        simp only [Option.some.injEq, Prod.mk.injEq] at h; obtain ⟨rfl, rfl⟩ := h
        simp only [XA.exit', Exit.inBlock, hj, if_true]
        exact hk φ' w' a' R' T' d' e'
      · rename_i hj
        simp only [Option.some.injEq, Prod.mk.injEq] at h; obtain ⟨rfl, rfl⟩ := h
        simp only [XA.exit', Exit.inBlock, hj, if_false]
        exact hk φ' w' a' R' T' d' e'
    · rename_i r hne
      refine ih s s' e h X φ w a _ R hT hd (fun φ' w' a' R' T' d' e' => ?_)
      have := hk φ' w' a' R' T' d' e'
      cases e with
      | normal => exact this
      | exit j => exact absurd h (by rw [h] at hne; exact fun _ => hne j s' rfl)
      | ret => exact this
  | loop b ih =>
    intro s s' e h X φ w a Q R hT hd hk
    simp only [execC] at h
    have key : ∀ (n : Nat) (s : St), loopN (execC P pure F G lim b) n s = some (e, s') → ∀ (φ : Emb) (w : World) (a : Act), RelH X (hf s.2) φ w → RepL X (hf s.2) φ w s.1 a.tmps.toList → a.defers = [] →
        (∀ φ' w' a', RelH X (hf s'.2) φ' w' → RepL X (hf s'.2) φ' w' s'.1 a'.tmps.toList → a'.defers = [] → Evo (hf s.2) φ w (hf s'.2) φ' w' → Q e.exit' a' w') → Code.rounds P b Q n a w := by
      intro n
      induction n with
      | zero => intro s h; simp [loopN] at h
      | succ n ihn =>
        intro s h φ w a R hT hd hk
        rw [rounds_succ]
        simp only [loopN] at h
        split at h
        · rename_i s1 hb
          refine ih s s1 .normal hb X φ w a _ R hT hd (fun φ' w' a' R' T' d' e' => ?_)
          exact ihn s1 h φ' w' a' R' T' d' (fun φ2 w2 a2 R2 T2 d2 e2 => hk φ2 w2 a2 R2 T2 d2 (e'.trans e2))
        · rename_i r hne
          refine ih s s' e h X φ w a _ R hT hd (fun φ' w' a' R' T' d' e' => ?_)
          have := hk φ' w' a' R' T' d' e'
          cases e with
          | normal => exact absurd h (by rw [h] at hne; exact fun _ => hne s' rfl)
          | exit id => exact this
          | ret => exact this
    exact wp_loop_rounds lim (key lim s h φ w a R hT hd hk)
  | exit id =>
    intro s s' e h X φ w a Q R hT hd hk
    simp only [execC, Option.some.injEq, Prod.mk.injEq] at h; obtain ⟨rfl, rfl⟩ := h
    exact wp_exit (hk φ w a R hT hd (Evo.refl _ _ _))
  | ret =>
    intro s s' e h X φ w a Q R hT hd hk
    simp only [execC, Option.some.injEq, Prod.mk.injEq] at h; obtain ⟨rfl, rfl⟩ := h
    exact wp_ret (hk φ w a R hT hd (Evo.refl _ _ _))
  | rangeFunc f ps x y ihx ihy => intro s s' e h; simp [execC] at h
  | scope b ih => intro s s' e h; simp [execC] at h
  | goto l => intro s s' e h; simp [execC] at h
  | refuse why => intro s s' e h; simp [execC] at h
end Go.Proofs.Ytlinbbjobjnipaa.AI

set_option linter.unusedVariables false
set_option linter.unusedSectionVars false
set_option linter.unusedSimpArgs false
namespace Go.Proofs.Ytlinbbjobjnipaa.AI
open Go
variable [Val]
variable {X : Nat → Prop} {hp : Hp} {φ : Emb} {w : World} {P : Program} {pure : Nat → Bool} {F : CallF} {G : CallG}
theorem loadVar_sound (R : RelH X hp φ w) {t : TypeId} {a x : AV} {v : Value} (h : RepA X hp φ w a v) (hl : loadA P hp t a = some x) :
    ∃ y, (do loadVar t (← asAddr v) : Sem Value).run P w = .ok y w ∧ RepA X hp φ w x y := by
  obtain ⟨y, hy, hr⟩ := load_sound R h hl
  have hp' : ∃ ad, v = .pointer (some ad) := by
    unfold loadA at hl
    split at hl
    · simp only [Option.bind_eq_some_iff, Option.map_eq_some_iff] at hl
      obtain ⟨n, hn, cs, hcs, _⟩ := hl
      obtain ⟨b, o, vs, hv, _⟩ := read_row R h hcs
      exact ⟨_, hv⟩
    · split at hl
      · cases h with | ptr _ _ _ ad => exact ⟨ad, rfl⟩
      · cases h with | pv _ _ h => cases h with | rop => exact ⟨_, rfl⟩
      · simp at hl
    · simp at hl
  obtain ⟨ad, rfl⟩ := hp'
  refine ⟨y, ?_, hr⟩
  simpa [Instr.loadAt, Instr.sureAddr, asAddr] using hy
def resVal (tmps : Array Value) : ResultVar → Sem Value
  | .tmp t => Pure.pure (tmps.getD t undef)
  | .cell a t => do loadVar t (← asAddr (tmps.getD a undef))
theorem results_eq (fn : Func) (tmps : Array Value) : results fn tmps = (do
    let vs ← fn.results.mapM (resVal tmps)
    Pure.pure (if h : vs.size = 1 then vs[0] else .tuple vs)) := by
  unfold results
  congr 1
theorem resOne_sound (R : RelH X hp φ w) {T : List AV} {tmps : Array Value} (hT : RepL X hp φ w T tmps.toList) {r : ResultVar} {x : AV} (h : resOne P T hp r = some x) :
    ∃ y, (resVal tmps r).run P w = .ok y w ∧ RepA X hp φ w x y := by
  have ev : ∀ t, RepA X hp φ w (T.getD t undefA) (tmps.getD t undef) := fun t => eval_sound (a := ⟨tmps, []⟩) hT (.tmp t)
  cases r with
  | tmp t =>
    simp only [resOne, Option.some.injEq] at h; subst h
    exact ⟨_, rfl, ev t⟩
  | cell a t => exact loadVar_sound R (ev a) h
theorem results_mapM (R : RelH X hp φ w) {T : List AV} {tmps : Array Value} (hT : RepL X hp φ w T tmps.toList) : ∀ {r : List ResultVar} {xs : List AV}, r.mapM (resOne P T hp) = some xs →
    ∃ ys : List Value, (r.mapM (resVal tmps)).run P w = .ok ys w ∧ RepL X hp φ w xs ys
  | [], xs, h => by simp at h; subst h; exact ⟨[], by simp, .nil⟩
  | a :: r, xs, h => by
    simp only [List.mapM_cons, Option.bind_eq_bind, Option.bind_eq_some_iff, Option.pure_def, Option.some.injEq] at h
    obtain ⟨x, hx, xs', hxs, rfl⟩ := h
    obtain ⟨y, hy, hr⟩ := resOne_sound R hT hx
    obtain ⟨ys, hys, hrs⟩ := results_mapM R hT hxs
    refine ⟨y :: ys, ?_, .cons hr hrs⟩
    rw [List.mapM_cons, Sem.run_bind, hy, Result.andThen_ok, Sem.run_bind, hys, Result.andThen_ok, Sem.run_pure]
theorem results_run {fn : Func} {tmps : Array Value} {ys : List Value} (h : (fn.results.toList.mapM (resVal tmps)).run P w = .ok ys w) :
    (results fn tmps).run P w = .ok (if h : ys.length = 1 then ys[0] else .tuple ys.toArray) w := by
  rw [results_eq]
  have e : fn.results.mapM (resVal tmps) = List.toArray <$> fn.results.toList.mapM (resVal tmps) := by
    rw [← List.mapM_toArray, Array.toArray_toList]
  rw [e, map_eq_pure_bind, Sem.run_bind, Sem.run_bind, h, Result.andThen_ok, Sem.run_pure, Result.andThen_ok, Sem.run_pure]
  simp
theorem res_sound {fn : Func} (R : RelH X hp φ w) {T : List AV} {tmps : Array Value} (hT : RepL X hp φ w T tmps.toList) {x : AV} (h : resA P fn T hp = some x) :
    ∃ y, (results fn tmps).run P w = .ok y w ∧ RepA X hp φ w x y := by
  unfold resA at h
  split at h
  · rename_i r hrs
    obtain ⟨y, hy, hr⟩ := resOne_sound R hT h
    refine ⟨y, ?_, hr⟩
    rw [results_run (ys := [y])]
    · simp
    · rw [hrs, List.mapM_cons, Sem.run_bind, hy, Result.andThen_ok, Sem.run_bind, List.mapM_nil, Sem.run_pure, Result.andThen_ok, Sem.run_pure]
  · rename_i hne
    simp only [Option.map_eq_some_iff] at h
    obtain ⟨xs, hxs, rfl⟩ := h
    obtain ⟨ys, hys, hrs⟩ := results_mapM R hT hxs
    refine ⟨.tuple ys.toArray, ?_, RepL.tuple (by simpa using hrs)⟩
    rw [results_run hys]
    rw [dif_neg]
    intro h1
    have h2 : xs.length = 1 := by rw [hrs.1, h1]
    have h3 : fn.results.toList.length = 1 := by
      have : ∀ (l : List ResultVar) (xs : List AV), l.mapM (resOne P T hp) = some xs → xs.length = l.length := by
        intro l; induction l with
        | nil => intro xs h; simp at h; subst h; rfl
        | cons a l ih =>
          intro xs h
          simp only [List.mapM_cons, Option.bind_eq_bind, Option.bind_eq_some_iff, Option.pure_def, Option.some.injEq] at h
          obtain ⟨x, _, xs', h', rfl⟩ := h
          simp [ih xs' h']
      rw [← this _ _ hxs, h2]
    obtain ⟨r, hr⟩ := List.length_eq_one_iff.1 h3
    exact hne r hr
/-- Where a slice of bytes lies. -/
theorem src_lies (R : RelH X hp φ w) {x : AV} {v : Value} {m : Nat} {cs : List AV} (hx : RepA X hp φ w x v) (hc : srcA hp 1 x = some (m, cs)) (hne : ∀ s, x ≠ .pv (.str s)) :
    (v = .slice none 0 0 ∧ cs = []) ∨ (∃ a cap, v = .slice (some a) 0 cap ∧ cs = []) ∨ ∃ b o cap vs, v = .slice (some ⟨b, o, none⟩) vs.length cap ∧ RepL X hp φ w cs vs ∧ Lies w b o vs := by
  unfold srcA at hc
  split at hc
  · simp only [Option.some.injEq, Prod.mk.injEq] at hc; obtain ⟨rfl, rfl⟩ := hc
    exact .inl ⟨repA_nilSlice hx, rfl⟩
  · simp only [Option.some.injEq, Prod.mk.injEq] at hc; obtain ⟨rfl, rfl⟩ := hc
    obtain ⟨a, rfl⟩ := repA_zcap hx
    exact .inr (.inl ⟨a, 0, rfl, rfl⟩)
  · rename_i esz n l
    split at hc
    · rename_i he; subst he
      simp only [Option.some.injEq, Prod.mk.injEq] at hc; obtain ⟨rfl, rfl⟩ := hc
      have hx := repA_pv hx
      cases hx with
      | ros _ _ _ b off cap vals hl hcap hO hv hr =>
        obtain ⟨r1, r2⟩ := ro_row hv hr
        refine .inr (.inr ⟨b, off, cap, _, ?_, r1, r2⟩)
        simp [hl]
    · simp at hc
  · rename_i s; exact absurd rfl (hne s)
  · rename_i id ver off n mc esz xc
    split at hc
    · rename_i he; subst he
      simp only [sliceCells, Option.map_eq_some_iff, Option.bind_eq_some_iff, Prod.mk.injEq] at hc
      obtain ⟨cs', ⟨row, hrow, hc⟩, rfl, rfl⟩ := hc
      split at hc
      · rename_i hle
        simp only [Option.some.injEq] at hc; subst hc
        have hid := look_some hrow
        obtain ⟨c, T, lo, hi, a1, a2, a3, a4, a5, a6⟩ := R.row hid
        cases hx with
        | slice _ _ _ _ _ _ _ a cap hver hln ha =>
          obtain ⟨g1, g2, g3⟩ := hln
          rcases ha (by rw [hid]; rfl) (by rw [hid]; rfl) with g4 | ⟨g4, g5⟩
          · obtain rfl : n = 0 := by omega
            exact .inr (.inl ⟨a, cap, rfl, by simp⟩)
          · refine .inr (.inr ⟨_, _, cap, _, ?_, (a4.drop off).take (n * 1), a6.sub off (n * 1)⟩)
            rw [g4]
            congr 1
            have := a4.1
            simp only [List.length_take, List.length_drop, Array.length_toList] at this ⊢
            omega
      · simp at hc
    · simp at hc
  · simp at hc
theorem run_loadBytes {b : Nat} : ∀ (ns : List Int) (o : Nat) (acc : ByteArray), Lies w b o (ns.map fun n => .int .u8 n) →
    (Extern.Bytes.loadBytes ⟨b, o, none⟩ ns.length acc).run P w = .ok (ns.foldl (fun r n => r.push (UInt8.ofNat n.toNat)) acc) w
  | [], o, acc, _ => rfl
  | n :: ns, o, acc, h => by
    have h0 := h 0 (.int .u8 n) rfl
    have ht : Lies w b (o + 1) (ns.map fun n => Value.int .u8 n) := by
      intro j v hv
      have := h (j + 1) v (by simpa using hv)
      rwa [show o + 1 + j = o + (j + 1) by omega]
    have ih := run_loadBytes ns (o + 1) (acc.push (UInt8.ofNat n.toNat)) ht
    have hld : (load ⟨b, o, none⟩).run P w = .ok (.int .u8 n) w := by simp [show w.cell? ⟨b, o, none⟩ = some (Value.int .u8 n) from h0]
    simp only [List.length_cons, Extern.Bytes.loadBytes, Sem.run_bind, hld, Result.andThen_ok, add_none, List.foldl_cons]
    exact ih
theorem bytes_sound (R : RelH X hp φ w) {x : AV} {v : Value} {s : List Nat} (hx : RepA X hp φ w x v) (h : bytesA hp x = some s) :
    ∃ B : ByteArray, (Extern.Bytes.bytesOf v).run P w = .ok B w ∧ B.data.toList.map UInt8.toNat = s := by
  unfold bytesA at h
  split at h
  · simp at h
  · rename_i hne
    simp only [Option.bind_eq_some_iff] at h
    obtain ⟨⟨m, cs⟩, hc, hs⟩ := h
    rcases src_lies R hx hc (fun s hs' => hne s hs') with ⟨rfl, rfl⟩ | ⟨a, cap, rfl, rfl⟩ | ⟨b, o, cap, vs, rfl, hr, hl⟩
    · simp at hs; subst hs
      exact ⟨.empty, rfl, rfl⟩
    · simp at hs; subst hs
      exact ⟨.empty, rfl, rfl⟩
    · obtain ⟨ns, rfl, rfl⟩ := mapM_bytes cs vs s hr hs
      refine ⟨ns.foldl (fun r n => r.push (UInt8.ofNat n.toNat)) .empty, ?_, by rw [foldl_push_data]; simp⟩
      have := run_loadBytes (P := P) ns o .empty hl
      simpa [Extern.Bytes.bytesOf] using this
theorem ba_get (a : ByteArray) (i : Nat) (h : i < a.size) : a[i]! = a.data.toList.getD i 0 := by
  rw [getElem!_pos a i h]
  have h' : i < a.data.size := h
  show a.data[i] = _
  rw [List.getD, Array.getElem?_toList, Array.getElem?_eq_getElem h']
  rfl
theorem find_congr {α : Type} {p q : α → Bool} : ∀ {l : List α}, (∀ x ∈ l, p x = q x) → l.find? p = l.find? q
  | [], _ => rfl
  | x :: l, h => by
    rw [List.find?_cons, List.find?_cons, h x (by simp), find_congr (fun y hy => h y (by simp [hy]))]
def cmpU (x y : List UInt8) : Int :=
  match (List.range (min x.length y.length)).find? fun i => x.getD i 0 != y.getD i 0 with
  | some i => if x.getD i 0 < y.getD i 0 then -1 else 1
  | none => if x.length < y.length then -1 else if x.length > y.length then 1 else 0
theorem cmpU_is : ∀ (x y : List UInt8), cmpU x y = cmpL (x.map UInt8.toNat) (y.map UInt8.toNat)
  | [], [] => rfl
  | [], b :: y => by simp [cmpU, cmpL]
  | a :: x, [] => by simp [cmpU, cmpL]
  | a :: x, b :: y => by
    have ih := cmpU_is x y
    simp only [List.map_cons, cmpL]
    rw [← ih]
    unfold cmpU
    rw [show min (a :: x).length (b :: y).length = min x.length y.length + 1 by simp [Nat.add_min_add_right], List.range_succ_eq_map, List.find?_cons]
    by_cases h : a = b
    · subst h
      simp only [List.getD_cons_zero, bne_self_eq_false, if_true, List.find?_map, Function.comp_def, List.getD_cons_succ]
      cases (List.range (min x.length y.length)).find? fun i => x.getD i 0 != y.getD i 0 with
      | none => simp
      | some i => simp
    · have hne : (a != b) = true := by simpa using h
      have hnn : ¬ a.toNat = b.toNat := fun e => h (UInt8.toNat_inj.1 e)
      simp only [List.getD_cons_zero, hne, if_neg hnn]
      by_cases hl : a < b
      · rw [if_pos hl, if_pos (UInt8.lt_iff_toNat_lt.1 hl)]
      · rw [if_neg hl, if_neg (fun h => hl (UInt8.lt_iff_toNat_lt.2 h))]
theorem cmp_is (a b : ByteArray) : Extern.BytealgCompare.cmp a b = cmpL (a.data.toList.map UInt8.toNat) (b.data.toList.map UInt8.toNat) := by
  rw [← cmpU_is]
  have ha : a.size = a.data.toList.length := by rw [Array.length_toList]; rfl
  have hb : b.size = b.data.toList.length := by rw [Array.length_toList]; rfl
  unfold Extern.BytealgCompare.cmp cmpU
  have e : ((List.range (min a.size b.size)).find? fun i => a[i]! != b[i]!) = (List.range (min a.data.toList.length b.data.toList.length)).find? fun i => a.data.toList.getD i 0 != b.data.toList.getD i 0 := by
    rw [ha, hb]
    refine find_congr fun i hi => ?_
    have hi := List.mem_range.1 hi
    rw [ba_get a i (by omega), ba_get b i (by omega)]
  rw [e]
  cases hf : (List.range (min a.data.toList.length b.data.toList.length)).find? fun i => a.data.toList.getD i 0 != b.data.toList.getD i 0 with
  | none => simp only [ha, hb]
  | some i =>
    have hi := List.mem_range.1 (List.mem_of_find?_eq_some hf)
    simp only [ba_get a i (by omega), ba_get b i (by omega)]
/-- What the machine stands in for, it stands in for as is said here. -/
def ExtOk (P : Program) : Prop := ∀ (f : Nat) (fn : Func), P.funcs[f]? = some fn → (fn.name == "internal/bytealg.Compare") = true → fn.body = none →
  Extern.findNext fn = none ∧ Extern.find fn = some Extern.BytealgCompare.compare
theorem ext_sound (hx : ExtOk P) {f : Nat} {fn : Func} (hfn : P.funcs[f]? = some fn) (hnm : (fn.name == "runtime.NumGoroutine") = false) (hb : fn.body = none) {args : List AV} {h : List Blk} {v : AV} (hv : extA fn (hf h) args = some v) :
    ∀ (X : Nat → Prop) (φ : Emb) (w : World) (vs : Array Value), RelH X (hf h) φ w → RepL X (hf h) φ w args vs.toList →
    Good P f vs w fun y w' => ∃ φ', RepA X (hf h) φ' w' v y ∧ RelH X (hf h) φ' w' ∧ Evo (hf h) φ w (hf h) φ' w' := by
  intro X φ w vs R hvs
  unfold extA at hv
  split at hv
  · rename_i hname
    obtain ⟨h1, h2⟩ := hx f fn hfn hname hb
    split at hv
    · rename_i a b
      simp only [Option.bind_eq_some_iff, Option.map_eq_some_iff] at hv
      obtain ⟨x, hxa, y, hyb, rfl⟩ := hv
      obtain ⟨va, vs', e1, r1, r2⟩ := hvs.head
      obtain ⟨vb, vs'', e2, r3, r4⟩ := r2.head
      obtain rfl := r4.of_nil
      subst e2
      obtain rfl : vs = #[va, vb] := by cases vs; simpa using e1
      obtain ⟨A, hA, rfl⟩ := bytes_sound (P := P) R r1 hxa
      obtain ⟨B, hB, rfl⟩ := bytes_sound (P := P) R r3 hyb
      refine .inr ⟨.int .i64 (cmpL (A.data.toList.map UInt8.toNat) (B.data.toList.map UInt8.toNat)), w, ?_, φ, .pv _ _ (.int _ _), R, Evo.refl _ _ _⟩
      rw [run_callFunc_extern hfn hnm (by simp [hb]) h1 h2]
      change ((Extern.Bytes.bytesOf va >>= fun A => Extern.Bytes.bytesOf vb >>= fun B => Pure.pure (goInt (Extern.BytealgCompare.cmp A B)) : Sem Value).run P w).andThen _ = _
      rw [Sem.run_bind, hA, Result.andThen_ok, Sem.run_bind, hB, Result.andThen_ok, Sem.run_pure, Result.andThen_ok, cmp_is]
      rfl
    · simp at hv
  · simp at hv
theorem body_sound (hx : ExtOk P) (hnm : ∀ (f : Nat) (fn : Func), P.funcs[f]? = some fn → (fn.name == "runtime.NumGoroutine") = false) (hm : P.follows .mixedOrders = true) (hF : WholeOk P F) (hG : PureOk P G) (hC : CongG G) (lim : Nat) : WholeOk P (bodyA P pure F G lim) := by
  intro f args h r h' hr
  unfold bodyA at hr
  split at hr
  · rename_i fn hfn
    split at hr
    · rename_i c hc
      intro X φ w vs R hvs
      refine .inl ⟨⟨fn, hfn, hnm f fn hfn, by simp [hc]⟩, calls_of_wp hfn hc ?_⟩
      have hT : RepL X (hf h) φ w (args ++ List.replicate (fn.ntmps - args.length) undefA) (vs ++ Array.replicate (fn.ntmps - vs.size) undef).toList := by
        rw [Array.toList_append]
        refine hvs.append ?_
        have : vs.size = args.length := by simpa using hvs.1.symm
        rw [this]
        refine ⟨by simp, fun i x hx => ?_⟩
        rw [List.getElem?_replicate] at hx
        split at hx
        · simp only [Option.some.injEq] at hx; subst hx
          rename_i hi
          exact ⟨undef, by simp [Array.toList_replicate, hi], repA_undef⟩
        · simp at hx
      have fin : ∀ T, resA P fn T (hf h') = some r → ∀ (e : XA), execC P pure F G lim c (args ++ List.replicate (fn.ntmps - args.length) undefA, h) = some (e, (T, h')) → (e = .normal ∨ e = .ret) →
          c.wp P (bodyPost P fn fun e w' => ∃ y, e = .returned y ∧ ∃ φ', RepA X (hf h') φ' w' r y ∧ RelH X (hf h') φ' w' ∧ Evo (hf h) φ w (hf h') φ' w') { tmps := vs ++ Array.replicate (fn.ntmps - vs.size) undef, defers := [] } w := by
        intro T hres e hex he
        refine exec_sound hF hG hC hm lim c _ _ e hex X φ w _ _ R hT rfl (fun φ' w' a' R' T' d' e' => ?_)
        obtain ⟨y, hy, hry⟩ := res_sound R' T' hres
        rcases he with rfl | rfl
        · exact ⟨d', y, hy, y, rfl, φ', hry, R', e'⟩
        · exact ⟨d', y, hy, y, rfl, φ', hry, R', e'⟩
      split at hr
      · rename_i T h1 hex
        simp only [Option.map_eq_some_iff, Prod.mk.injEq] at hr
        obtain ⟨v, hv, rfl, rfl⟩ := hr
        exact fin T hv .normal hex (.inl rfl)
      · rename_i T h1 hex
        simp only [Option.map_eq_some_iff, Prod.mk.injEq] at hr
        obtain ⟨v, hv, rfl, rfl⟩ := hr
        exact fin T hv .ret hex (.inr rfl)
      · simp at hr
    · rename_i hc
      simp only [Option.map_eq_some_iff, Prod.mk.injEq] at hr
      obtain ⟨v, hv, rfl, rfl⟩ := hr
      exact ext_sound hx hfn (hnm f fn hfn) hc hv
  · simp at hr
theorem freezeP_sound {O : Nat → Prop} (hO : ∀ b, O b → X b) (hfar : ∀ b, Own hp φ b → ¬ O b) (R : RelH X hp φ w) : ∀ (d : Nat) {v : AV} {y : Value} {p : PV}, freezeP hp d v = some p → RepA X hp φ w v y → RepP O w p y
  | 0, v, y, p, h, hv => by
    cases v with
    | pv q =>
      simp only [freezeP, Option.some.injEq] at h; subst h
      cases hv with | pv _ _ hv => exact hv.imp fun b hb => .inr (hO b hb)
    | _ => simp [freezeP] at h
  | d + 1, v, y, p, h, hv => by
    cases v with
    | pv q =>
      simp only [freezeP, Option.some.injEq] at h; subst h
      cases hv with | pv _ _ hv => exact hv.imp fun b hb => .inr (hO b hb)
    | slice id ver off len mc esz xc =>
      cases hv with
      | slice _ _ _ _ _ _ _ a cap hver hlen ha =>
      simp only [freezeP] at h
      split at h
      · rename_i hmc
        split at h
        · rename_i hxc
          simp only [Option.some.injEq] at h; subst h
          have h1 := hlen.2.2 hxc
          have h2 : len = 0 := by omega
          have h3 : cap = 0 := by omega
          subst h2; subst h3
          exact .zcap a
        · simp at h
      · rename_i hmc
        simp only [Option.bind_eq_some_iff] at h
        obtain ⟨row, hrow, h⟩ := h
        split at h
        · rename_i hle
          simp only [Option.map_eq_some_iff] at h
          obtain ⟨ps, hps, rfl⟩ := h
          have hid := look_some hrow
          obtain ⟨c, T, lo, hi, a1, a2, a3, a4, a5, a6⟩ := R.row hid
          have hl : (hp id).live = true := by rw [hid]; rfl
          have ha' := (ha hl (by rw [hid]; rfl)).resolve_left (by omega)
          obtain ⟨rfl, _⟩ := ha'
          have hsub := (a4.drop off).take (len * esz)
          have hlies := a6.sub off (len * esz)
          have hml : ∀ (l : List AV) (ps : List PV), l.mapM (freezeP hp d) = some ps → ps.length = l.length ∧ ∀ i (hi : i < ps.length), ∃ c, l[i]? = some c ∧ freezeP hp d c = some ps[i] := by
            intro l; induction l with
            | nil => intro ps h; simp at h; subst h; simp
            | cons x l ih =>
              intro ps h
              simp only [List.mapM_cons, Option.bind_eq_bind, Option.bind_eq_some_iff, Option.pure_def, Option.some.injEq] at h
              obtain ⟨p, hp', ps', h', rfl⟩ := h
              obtain ⟨e1, e2⟩ := ih ps' h'
              refine ⟨by simp [e1], fun i hi => ?_⟩
              cases i with
              | zero => exact ⟨x, rfl, hp'⟩
              | succ i => simpa using e2 i (by simpa using hi)
          obtain ⟨m1, m2⟩ := hml _ _ hps
          have hpl : ps.length = len * esz := by rw [m1]; simp; omega
          have get : ∀ i (hi : i < ps.length), ∃ v, w.cell? ⟨(φ id).1, (φ id).2 + off + i, none⟩ = some v ∧ RepP O w ps[i] v := by
            intro i hi
            obtain ⟨c, hc, hcf⟩ := m2 i hi
            obtain ⟨v, hv, hr⟩ := hsub.2 i c hc
            exact ⟨v, hlies i v hv, freezeP_sound hO hfar R d hcf hr⟩
          refine .ros esz len ps (φ id).1 ((φ id).2 + off) cap (fun i => (w.cell? ⟨(φ id).1, (φ id).2 + off + i, none⟩).getD undef) hpl (by omega) (fun _ => hfar _ ⟨id, hl, rfl⟩) (fun i hi => ?_) (fun i hi => ?_)
          · obtain ⟨v, hv, _⟩ := get i hi
            rw [hv]; rfl
          · obtain ⟨v, hv, hr⟩ := get i hi
            rw [hv]; exact hr
        · simp at h
    | _ => simp [freezeP] at h
theorem freezeV_sound {hp' : Hp} {φ' : Emb} {X' : Nat → Prop} (hO : ∀ b, Avoid X' hp' φ' b → X b) (hfar : ∀ b, Own hp φ b → ¬ Avoid X' hp' φ' b) (R : RelH X hp φ w) {v r : AV} {y : Value}
    (h : freezeV hp v = some r) (hv : RepA X hp φ w v y) : RepA X' hp' φ' w r y := by
  unfold freezeV at h
  split at h
  · rename_i cs
    simp only [Option.map_eq_some_iff] at h
    obtain ⟨ps, hps, rfl⟩ := h
    obtain ⟨vs, rfl, hl⟩ := repA_agg hv
    obtain ⟨m1, m2⟩ := mapM_some hps
    refine RepL.agg ⟨by simp [m1, hl.1], fun i x hx => ?_⟩
    simp only [List.getElem?_map, Option.map_eq_some_iff] at hx
    obtain ⟨p, hp', rfl⟩ := hx
    obtain ⟨a, ha, haf⟩ := m2 i p hp'
    obtain ⟨u, hu, hr⟩ := hl.2 i a ha
    exact ⟨u, hu, .pv _ _ (freezeP_sound hO hfar R 3 haf hr)⟩
  · simp only [Option.map_eq_some_iff] at h
    obtain ⟨p, hp', rfl⟩ := h
    exact .pv _ _ (freezeP_sound hO hfar R 3 hp' hv)
theorem freezeR_sound {hp' : Hp} {φ' : Emb} {X' : Nat → Prop} (hO : ∀ b, Avoid X' hp' φ' b → X b) (hfar : ∀ b, Own hp φ b → ¬ Avoid X' hp' φ' b) (R : RelH X hp φ w) {v r : AV} {y : Value}
    (h : freezeR hp v = some r) (hv : RepA X hp φ w v y) : RepA X' hp' φ' w r y := by
  unfold freezeR at h
  split at h
  · rename_i cs
    simp only [Option.map_eq_some_iff] at h
    obtain ⟨ps, hps, rfl⟩ := h
    obtain ⟨vs, rfl, hl⟩ := repA_tuple hv
    obtain ⟨m1, m2⟩ := mapM_some hps
    refine RepL.tuple ⟨by simp [m1, hl.1], fun i x hx => ?_⟩
    obtain ⟨a, ha, haf⟩ := m2 i x hx
    obtain ⟨u, hu, hr⟩ := hl.2 i a ha
    exact ⟨u, hu, freezeV_sound hO hfar R haf hr⟩
  · exact freezeV_sound hO hfar R h hv
theorem flat_any {O O' : Nat → Prop} {w' : World} {p : PV} {v : Value} (hf' : flatP p = true) (h : RepP O w p v) : RepP O' w' p v := by
  cases h with
  | bool b => exact .bool b
  | int k n => exact .int k n
  | str s B h => exact .str s B h
  | nilPtr => exact .nilPtr
  | nilSlice => exact .nilSlice
  | nilMap => exact .nilMap
  | nilFunc => exact .nilFunc
  | nilIface => exact .nilIface
  | zcap a => exact .zcap a
  | fn f => exact .fn f
  | sym i v h => simp [flatP] at hf'
  | ros => simp [flatP] at hf'
  | rop => simp [flatP] at hf'
/-- A row of own cells, each of them read out. -/
theorem row_out {O : Nat → Prop} {g : AV → Option PV} {b o : Nat} {cs : List AV} {vs : List Value} {ps : List PV} (hr : RepL X hp φ w cs vs) (hl : Lies w b o vs) (hps : cs.mapM g = some ps)
    (hg : ∀ (c : AV) (v : Value) (p : PV), g c = some p → RepA X hp φ w c v → RepP O w p v) :
    ps.length = cs.length ∧ ∃ vals : Nat → Value, (∀ i, i < ps.length → w.cell? ⟨b, o + i, none⟩ = some (vals i)) ∧ ∀ i (hi : i < ps.length), RepP O w ps[i] (vals i) := by
  obtain ⟨m1, m2⟩ := mapM_some hps
  have get : ∀ i (hi : i < ps.length), ∃ v, w.cell? ⟨b, o + i, none⟩ = some v ∧ RepP O w ps[i] v := by
    intro i hi
    obtain ⟨c, hc, hcf⟩ := m2 i ps[i] (by simp [hi])
    obtain ⟨v, hv, hr'⟩ := hr.2 i c hc
    exact ⟨v, hl i v hv, hg c v _ hcf hr'⟩
  refine ⟨m1, fun i => (w.cell? ⟨b, o + i, none⟩).getD undef, fun i hi => ?_, fun i hi => ?_⟩
  · obtain ⟨v, hv, _⟩ := get i hi
    simp only [hv, Option.getD_some]
  · obtain ⟨v, hv, hr'⟩ := get i hi
    simp only [hv, Option.getD_some]
    exact hr'
theorem newP_sound {O : Nat → Prop} (hfar : ∀ b, Own hp φ b → ¬ O b) (R : RelH X hp φ w) : ∀ (d : Nat) {v : AV} {y : Value} {p : PV}, newP hp d v = some p → RepA X hp φ w v y → RepP O w p y
  | 0, v, y, p, h, hv => by
    cases v with
    | pv q =>
      simp only [newP] at h
      split at h
      · rename_i hq
        simp only [Option.some.injEq] at h; subst h
        cases hv with | pv _ _ hv => exact flat_any hq hv
      · simp at h
    | _ => simp [newP] at h
  | d + 1, v, y, p, h, hv => by
    cases v with
    | pv q =>
      simp only [newP] at h
      split at h
      · rename_i hq
        simp only [Option.some.injEq] at h; subst h
        cases hv with | pv _ _ hv => exact flat_any hq hv
      · simp at h
    | slice id ver off len mc esz xc =>
      cases hv with
      | slice _ _ _ _ _ _ _ a cap hver hlen ha =>
      simp only [newP] at h
      split at h
      · rename_i hmc
        split at h
        · rename_i hxc
          simp only [Option.some.injEq] at h; subst h
          have h1 := hlen.2.2 hxc
          have h2 : len = 0 := by omega
          have h3 : cap = 0 := by omega
          subst h2; subst h3
          exact .zcap a
        · simp at h
      · rename_i hmc
        simp only [Option.bind_eq_some_iff] at h
        obtain ⟨row, hrow, h⟩ := h
        split at h
        · rename_i hle
          simp only [Option.map_eq_some_iff] at h
          obtain ⟨ps, hps, rfl⟩ := h
          have hid := look_some hrow
          obtain ⟨c, T, lo, hi, a1, a2, a3, a4, a5, a6⟩ := R.row hid
          have hl : (hp id).live = true := by rw [hid]; rfl
          obtain ⟨rfl, _⟩ := (ha hl (by rw [hid]; rfl)).resolve_left (by omega)
          obtain ⟨m1, vals, m2, m3⟩ := row_out (O := O) ((a4.drop off).take (len * esz)) (a6.sub off (len * esz)) hps (fun c v p hc hr => newP_sound hfar R d hc hr)
          have hpl : ps.length = len * esz := by rw [m1]; simp; omega
          exact .ros esz len ps (φ id).1 ((φ id).2 + off) cap vals hpl (by omega) (fun _ => hfar _ ⟨id, hl, rfl⟩) m2 m3
        · simp at h
    | ptr id ver off =>
      cases hv with
      | ptr _ _ _ a hver ha =>
      simp only [newP, Option.bind_eq_some_iff] at h
      obtain ⟨row, hrow, h⟩ := h
      split at h
      · simp at h
      · simp only [Option.map_eq_some_iff] at h
        obtain ⟨ps, hps, rfl⟩ := h
        have hid := look_some hrow
        obtain ⟨c, T, lo, hi, a1, a2, a3, a4, a5, a6⟩ := R.row hid
        have hl : (hp id).live = true := by rw [hid]; rfl
        obtain rfl := ha hl (by rw [hid]; rfl)
        obtain ⟨m1, vals, m2, m3⟩ := row_out (O := O) a4 a6 hps (fun c v p hc hr => newP_sound hfar R d hc hr)
        exact .rop ps off (φ id).1 (φ id).2 vals (fun _ => hfar _ ⟨id, hl, rfl⟩) m2 m3
    | _ => simp [newP] at h
theorem newV_sound {hp' : Hp} {φ' : Emb} {X' : Nat → Prop} (hfar : ∀ b, Own hp φ b → ¬ Avoid X' hp' φ' b) (R : RelH X hp φ w) {v r : AV} {y : Value}
    (h : newV hp v = some r) (hv : RepA X hp φ w v y) : RepA X' hp' φ' w r y := by
  unfold newV at h
  split at h
  · rename_i cs
    simp only [Option.map_eq_some_iff] at h
    obtain ⟨ps, hps, rfl⟩ := h
    obtain ⟨vs, rfl, hl⟩ := repA_agg hv
    obtain ⟨m1, m2⟩ := mapM_some hps
    refine RepL.agg ⟨by simp [m1, hl.1], fun i x hx => ?_⟩
    simp only [List.getElem?_map, Option.map_eq_some_iff] at hx
    obtain ⟨p, hp', rfl⟩ := hx
    obtain ⟨a, ha, haf⟩ := m2 i p hp'
    obtain ⟨u, hu, hr⟩ := hl.2 i a ha
    exact ⟨u, hu, .pv _ _ (newP_sound hfar R 3 haf hr)⟩
  · simp only [Option.map_eq_some_iff] at h
    obtain ⟨p, hp', rfl⟩ := h
    exact .pv _ _ (newP_sound hfar R 3 hp' hv)
theorem newR_sound {hp' : Hp} {φ' : Emb} {X' : Nat → Prop} (hfar : ∀ b, Own hp φ b → ¬ Avoid X' hp' φ' b) (R : RelH X hp φ w) {v r : AV} {y : Value}
    (h : newR hp v = some r) (hv : RepA X hp φ w v y) : RepA X' hp' φ' w r y := by
  unfold newR at h
  split at h
  · rename_i cs
    simp only [Option.map_eq_some_iff] at h
    obtain ⟨ps, hps, rfl⟩ := h
    obtain ⟨vs, rfl, hl⟩ := repA_tuple hv
    obtain ⟨m1, m2⟩ := mapM_some hps
    refine RepL.tuple ⟨by simp [m1, hl.1], fun i x hx => ?_⟩
    obtain ⟨a, ha, haf⟩ := m2 i x hx
    obtain ⟨u, hu, hr⟩ := hl.2 i a ha
    exact ⟨u, hu, newV_sound hfar R haf hr⟩
  · exact newV_sound hfar R h hv
/-- A value that is lent, in a heap of which nothing is own. -/
theorem lend_sound {φ' : Emb} (R : RelH X hp φ w) {v r : AV} {y : Value} (h : lendV hp v = some r) (hv : RepA X hp φ w v y) : RepA (fun _ => False) (hf []) φ' w r y := by
  unfold lendV at h
  split at h
  · rename_i hpl
    simp only [Option.some.injEq] at h; subst h
    exact plain_moves (fun b hb => hb.elim (fun h => absurd h own_nil) False.elim) hpl hv
  · split at h
    · rename_i id ver off len mc esz xc
      simp only [Option.map_eq_some_iff] at h
      obtain ⟨p, hp', rfl⟩ := h
      exact .pv _ _ (freezeP_sound (O := Avoid (fun _ => False) (hf []) φ') (X := X) (fun b hb => hb.elim (fun h => absurd h own_nil) False.elim) (fun b _ hb => hb.elim own_nil (fun h => h)) R 1 hp' hv)
    · simp at h
theorem pure_sound (hF : WholeOk P F) : PureOk P (pureOf F) := by
  intro hp f args r hr X φ w vs R hvs
  have hlt : ∀ b, Avoid X hp φ b → b < w.heap.size := fun b hb => hb.elim (fun h => Own.lt R h) (fun h => R.far b h)
  have go : ∀ {h : List Blk} {φ' : Emb} {w' : World} {X0 : Nat → Prop}, Evo (hf []) φ w (hf h) φ' w' → (∀ b : Nat, b < w.heap.size → w'.heap[b]? = w.heap[b]?) ∧ Evo hp φ w hp φ w' ∧ RelH X hp φ w' := by
    intro h φ' w' X0 r3
    have hkeep : ∀ b : Nat, b < w.heap.size → w'.heap[b]? = w.heap[b]? := fun b hb => r3.ext.keep b hb own_nil
    have ev : Evo hp φ w hp φ w' :=
      ⟨⟨r3.ext.os, r3.ext.tape, r3.ext.output, r3.ext.size, fun b hb _ => hkeep b hb, r3.ext.shape⟩, fun _ => Nat.le_refl _, fun _ h _ => ⟨h, rfl⟩, fun _ h => .inl h⟩
    exact ⟨hkeep, ev, R.evo ev (fun j hj => hkeep _ (Own.lt R ⟨j, hj, rfl⟩))⟩
  have far : ∀ {h : List Blk} {φ' : Emb} {w' : World}, Evo (hf []) φ w (hf h) φ' w' → ∀ b, Own (hf h) φ' b → ¬ Avoid X hp φ b := by
    intro h φ' w' r3 b hb ho
    rcases r3.own b hb with h | h
    · exact own_nil h
    · have := hlt b ho; omega
  unfold pureOf at hr
  split at hr
  · rename_i hall
    simp only [Option.bind_eq_some_iff] at hr
    obtain ⟨⟨v, h⟩, hfa, hfr⟩ := hr
    have hcall := hF f args [] v h hfa
    have R0 : RelH (Avoid X hp φ) (hf []) φ w :=
      { far := hlt
        inj := fun i j hi => by rw [hf_nil] at hi; simp [Blk.live] at hi
        cells := fun id ver cs hc => by rw [hf_nil] at hc; simp at hc }
    have hvs0 : RepL (Avoid X hp φ) (hf []) φ w args vs.toList := by
      refine ⟨hvs.1, fun i c hc => ?_⟩
      obtain ⟨u, hu, hr⟩ := hvs.2 i c hc
      exact ⟨u, hu, plain_moves (fun b hb => hb.elim (fun h => absurd h own_nil) id) (List.all_eq_true.1 hall c (List.mem_of_getElem? hc)) hr⟩
    refine (hcall (Avoid X hp φ) φ w vs R0 hvs0).mono ?_
    rintro y w' ⟨φ', r1, r2, r3⟩
    obtain ⟨_, ev, R'⟩ := go (X0 := X) r3
    exact ⟨freezeR_sound (fun b hb => hb) (far r3) r2 hfr r1, R', ev⟩
  · simp only [Option.bind_eq_some_iff] at hr
    obtain ⟨as, has, ⟨v, h⟩, hfa, hfr⟩ := hr
    have hcall := hF f as [] v h hfa
    have R0 : RelH (fun _ => False) (hf []) φ w :=
      { far := fun b hb => hb.elim
        inj := fun i j hi => by rw [hf_nil] at hi; simp [Blk.live] at hi
        cells := fun id ver cs hc => by rw [hf_nil] at hc; simp at hc }
    have hvs0 : RepL (fun _ => False) (hf []) φ w as vs.toList := by
      obtain ⟨m1, m2⟩ := mapM_some has
      refine ⟨by rw [m1]; exact hvs.1, fun i c hc => ?_⟩
      obtain ⟨a, ha, hal⟩ := m2 i c hc
      obtain ⟨u, hu, hr⟩ := hvs.2 i a ha
      exact ⟨u, hu, lend_sound R hal hr⟩
    refine (hcall _ φ w vs R0 hvs0).mono ?_
    rintro y w' ⟨φ', r1, r2, r3⟩
    obtain ⟨_, ev, R'⟩ := go (X0 := X) r3
    exact ⟨newR_sound (far r3) r2 hfr r1, R', ev⟩
theorem mapM_congr {α β : Type} {f g : α → Option β} : ∀ {l : List α}, (∀ x ∈ l, f x = g x) → l.mapM f = l.mapM g
  | [], _ => rfl
  | x :: l, h => by
    simp only [List.mapM_cons]
    rw [h x (by simp), mapM_congr (fun y hy => h y (by simp [hy]))]
theorem pure_cong : CongG (pureOf F) := by
  intro hp1 hp2 f args h
  unfold pureOf
  have key : ∀ v ∈ args, lendV hp1 v = lendV hp2 v := by
    intro v hv
    have hid : ∀ id ∈ idOf0 v, hp1 id = hp2 id := fun id hi => h id (List.mem_flatMap.2 ⟨v, hv, hi⟩)
    unfold lendV
    split
    · rfl
    · cases v with
      | slice id ver off len mc esz xc =>
        have e := look_congr (ver := ver) (hid id (by simp [idOf0]))
        have z : ∀ c, freezeP hp1 0 c = freezeP hp2 0 c := by intro c; cases c <;> rfl
        simp only [freezeP, e, funext z]
      | _ => rfl
  rw [mapM_congr key]
theorem orS_sound {S : CallG} (hS : PureOk P S) (hG : PureOk P G) : PureOk P (orS S G) := by
  intro hp f args r hr
  unfold orS at hr
  split at hr
  · rename_i r' hr'
    simp only [Option.some.injEq] at hr; subst hr
    exact hS hp f args _ hr'
  · exact hG hp f args r hr
theorem orS_cong {S : CallG} (hS : CongG S) (hG : CongG G) : CongG (orS S G) := by
  intro hp1 hp2 f args h
  unfold orS
  rw [hS hp1 hp2 f args h, hG hp1 hp2 f args h]
theorem noS_sound : PureOk P noS := fun hp f args r h => by simp [noS] at h
theorem noS_cong : CongG noS := fun _ _ _ _ _ => rfl
theorem call_sound (hx : ExtOk P) {S : CallG} (hS : PureOk P S) (hSc : CongG S) (hnm : ∀ (f : Nat) (fn : Func), P.funcs[f]? = some fn → (fn.name == "runtime.NumGoroutine") = false) (hm : P.follows .mixedOrders = true) (pure : Nat → Bool) (lim : Nat) : ∀ d, WholeOk P (callA P S pure lim d)
  | 0 => fun f args h r h' hr => by simp [callA] at hr
  | d + 1 => body_sound hx hnm hm (call_sound hx hS hSc hnm hm pure lim d) (orS_sound hS (pure_sound (call_sound hx hS hSc hnm hm pure lim d))) (orS_cong hSc pure_cong) lim
/-- A call of plain values: what the interpreter gives is what the machine returns, and nothing else has changed. -/
theorem call_plain (hx : ExtOk P) {S : CallG} (hS : PureOk P S) (hSc : CongG S) (hnm : ∀ (f : Nat) (fn : Func), P.funcs[f]? = some fn → (fn.name == "runtime.NumGoroutine") = false) (hm : P.follows .mixedOrders = true) {pure : Nat → Bool} {lim d f : Nat} {args : List AV} {r : AV} {h : List Blk}
    (hb : ((P.funcs[f]?).bind (·.body)).isSome = true) (hc : callA P S pure lim d f args [] = some (r, h)) {vs : Array Value} {w : World} (hvs : RepL (fun _ => False) (hf []) (fun _ => (0, 0)) w args vs.toList) :
    Calls P f vs w fun e w' => ∃ y, e = .returned y ∧ ∃ φ', RepA (fun _ => False) (hf h) φ' w' r y ∧ RelH (fun _ => False) (hf h) φ' w' ∧ Evo (hf []) (fun _ => (0, 0)) w (hf h) φ' w' := by
  rcases call_sound hx hS hSc hnm hm pure lim d f args [] r h hc _ _ w vs
    { far := fun b hb => hb.elim
      inj := fun i j hi => by rw [hf_nil] at hi; simp [Blk.live] at hi
      cells := fun id ver cs hc => by rw [hf_nil] at hc; simp at hc } hvs with ⟨_, h⟩ | ⟨y, w', hrun, _⟩
  · exact h
  · exfalso
    cases hfn : P.funcs[f]? with
    | none => rw [hfn] at hb; simp at hb
    | some fn =>
      rw [hfn] at hb
      rw [callFunc_run ⟨fn, hfn, hnm f fn hfn, by simpa using hb⟩] at hrun
      cases hrun
end Go.Proofs.Ytlinbbjobjnipaa.AI

set_option linter.unusedVariables false
namespace Go.Proofs.Ytlinbbjobjnipaa.AI
open Go Go.ChangeShapes Go.WideShapes Go.ChangeAt Go.RowKit
theorem evo_below [Val] {φ φ' : Emb} {w w' : World} {h : List Blk} (e : Evo (hf []) φ w (hf h) φ' w') : Below w.heap.size w w' :=
  ⟨e.ext.os, e.ext.tape, e.ext.output, e.ext.size, fun b hb => e.ext.keep b hb own_nil⟩
section
variable {H : Type} {enc : TypeId × Value → H} {P : Program}
theorem trodAll_carry {w w' : World} {sp : Nat → Bool} : ∀ {ts : List TypeId} {vs : List Value} {ds : List (DataW H)} {ps : List MemPlace},
    DataW.TrodAll enc P w 0 sp true ts vs ds ps → (∀ p ∈ ps, w.sameAt w' p) → DataW.TrodAll enc P w' 0 sp true ts vs ds ps
  | [], [], [], _, h, _ => h
  | _ :: _, _ :: _, _ :: _, _, ⟨p, q, ⟨n, h1⟩, h2, e⟩, hs =>
    ⟨p, q, ⟨n, DataW.trod_carry n _ _ _ h1 (fun x hx => hs x (by rw [e]; exact List.mem_append_left _ hx))⟩, trodAll_carry h2 (fun x hx => hs x (by rw [e]; exact List.mem_append_right _ hx)), e⟩
theorem law_post (hl : laidOutB P = true) (hm : mapsRowed P = true)
    (hz : ((List.range P.types.size).all fun t => match P.underlying t with | some (.slice e) => decide (0 < P.cellsOf e) | _ => true) = true)
    {f : Func} {s : ChangeSpec} {apart fresh handsOn again : Bool} {W W' : World} {args : Array Value} {ds gs : List (DataW H)} {before : List MemPlace} {tb : TypeId}
    (hts : ∀ t ∈ f.params.toList, t < P.types.size) (hvars0 : s.vars = []) (hfn : s.fn H (ds ++ gs) = { results := [.lit (.bool true)], args := ds })
    (hW : DataW.Whole enc P f.params.toList s.vars apart W args.toList ds gs before) (hres : f.resultTypes = #[tb]) (htb : P.underlying tb = some .bool)
    (hb : Below W.heap.size W W') : s.post enc P f apart fresh handsOn again W args (.bool true) W' := by
  have hlt := hW.lt
  have hW' := hW
  obtain ⟨p, q, hA, hV, he, hfz, hnd⟩ := hW
  rw [hvars0] at hV
  obtain ⟨rfl, rfl⟩ := trodVars_none hV
  rw [List.append_nil] at he; subst he
  have hsame : ∀ x ∈ before, W.sameAt W' x := fun x hx => hb.same (hlt x hx)
  have hargs : ∀ sp : Nat → Bool, (∀ x ∈ before, sp x.block = true) → DataW.TrodAll enc P W' 0 sp true f.params.toList args.toList (s.fn H (ds ++ [])).args before := by
    intro sp hsp
    rw [hfn]
    exact (trodAll_carry hA hsame).respare (kids_rows hl hm) (slices_full_of P hz) hts hsp
  have hvs : ∀ sp : Nat → Bool, DataW.TrodVars enc P W' sp s.vars (s.fn H (ds ++ [])).vars [] := by
    intro sp
    rw [hvars0, hfn]
    rfl
  have hr : ∀ (b : Nat) (sp : Nat → Bool) (hd : Bool), DataW.TrodAll enc P W' b sp hd f.resultTypes.toList ((Value.bool true).resultList f.resultTypes.size) (s.fn H (ds ++ [])).results [] := by
    intro b sp hd
    rw [hfn, hres]
    exact trodAll_cons_mk (shut_bool htb _) trodAll_mk0
  have hok : ∀ (j : Nat) (t : TypeId) (r : Value), f.resultTypes[j]? = some t → ((Value.bool true).resultList f.resultTypes.size)[j]? = some r → Value.okWide P W' .any 0 t r := by
    exact ok_one hres rfl (okWide_bool_mk htb _)
  have hold : ∀ x ∈ before, (fun b => decide (b < W.heap.size)) x.block = true := fun x hx => by simpa using hlt x hx
  refine ⟨ds, [], before, [], before, [], hW', hr _ _ _, hargs _ hold, hvs _, hb.frame _, fun _ => ⟨hok, _, _, ([] ++ before) ++ [], ⟨[] ++ before, [], trodAll_append (hargs _ (fun _ _ => rfl)) (hr _ _ _), hvs _, rfl, ?_, ?_⟩, ?_⟩⟩
  · intro b off hx
    have hx' : MemPlace.cell b off ∈ before := by simpa using hx
    rw [hb.frozen (p := ⟨b, off, none⟩) (hlt _ hx')]
    exact hfz b off hx'
  · intro ha
    simpa using hnd ha
  · intro x hx _
    simpa using hx
end
end Go.Proofs.Ytlinbbjobjnipaa.AI

set_option linter.unusedVariables false
set_option linter.unusedSimpArgs false
set_option linter.unusedSectionVars false
namespace Go.Proofs.Ytlinbbjobjnipaa.AI
open Go
inductive Tre where
  | leaf (o : Option AV)
  | node (a b c d : Tre)
/-- By the rest of a number by four. -/
def four {γ : Type} (i : Nat) (a b c d : γ) : γ := Nat.casesOn (motive := fun _ => γ) i a fun m => Nat.casesOn (motive := fun _ => γ) m b fun m => Nat.casesOn (motive := fun _ => γ) m c fun _ => d
noncomputable def getT (t : Tre) : Nat → Option AV :=
  Tre.rec (motive := fun _ => Nat → Option AV)
    (fun o i => Nat.casesOn (motive := fun _ => Option AV) i o fun _ => none)
    (fun _ _ _ _ ga gb gc gd i => four (i % 4) (ga (i / 4)) (gb (i / 4)) (gc (i / 4)) (gd (i / 4))) t
/-- Set and go on; what lies beyond stays as it is. -/
noncomputable def setK {β : Type} (v : AV) (t : Tre) : Nat → (Tre → β) → β :=
  Tre.rec (motive := fun _ => Nat → (Tre → β) → β)
    (fun o i k => Nat.casesOn (motive := fun _ => β) i (Option.casesOn (motive := fun _ => β) o (k (.leaf none)) fun _ => k (.leaf (some v))) fun _ => k (.leaf o))
    (fun a b c d sa sb sc sd i k => four (i % 4) (sa (i / 4) fun a' => k (.node a' b c d)) (sb (i / 4) fun b' => k (.node a b' c d)) (sc (i / 4) fun c' => k (.node a b c' d)) (sd (i / 4) fun d' => k (.node a b c d'))) t
noncomputable def setT (v : AV) (t : Tre) (i : Nat) : Tre := setK v t i fun t => t
theorem four_lt {γ : Type} (i : Nat) (hi : i < 4) (a b c d : γ) : four i a b c d = if i = 0 then a else if i = 1 then b else if i = 2 then c else d := by
  rcases i with _ | _ | _ | _ | i <;> first | rfl | omega
theorem getT_node (a b c d : Tre) (i : Nat) : getT (.node a b c d) i = four (i % 4) (getT a (i / 4)) (getT b (i / 4)) (getT c (i / 4)) (getT d (i / 4)) := rfl
theorem setK_node {β : Type} (v : AV) (a b c d : Tre) (i : Nat) (k : Tre → β) : setK v (.node a b c d) i k =
    four (i % 4) (setK v a (i / 4) fun a' => k (.node a' b c d)) (setK v b (i / 4) fun b' => k (.node a b' c d)) (setK v c (i / 4) fun c' => k (.node a b c' d)) (setK v d (i / 4) fun d' => k (.node a b c d')) := rfl
theorem setK_eq (v : AV) : ∀ (t : Tre) (β : Type) (i : Nat) (k : Tre → β), setK v t i k = k (setT v t i) := by
  intro t
  induction t with
  | leaf o => intro β i k; cases i <;> cases o <;> rfl
  | node a b c d ha hb hc hd =>
    intro β i k
    unfold setT
    rw [setK_node, setK_node, four_lt _ (by omega), four_lt _ (by omega), ha, hb, hc, hd, ha Tre, hb Tre, hc Tre, hd Tre]
    split
    · rfl
    split
    · rfl
    split <;> rfl
theorem setT_node (v : AV) (a b c d : Tre) (i : Nat) : setT v (.node a b c d) i =
    four (i % 4) (.node (setT v a (i / 4)) b c d) (.node a (setT v b (i / 4)) c d) (.node a b (setT v c (i / 4)) d) (.node a b c (setT v d (i / 4))) := by
  show setK v _ i (fun t => t) = _
  rw [setK_node, setK_eq, setK_eq, setK_eq, setK_eq]
theorem getT_setT (v : AV) : ∀ (t : Tre) (i j : Nat), getT (setT v t i) j = if j = i then (getT t i).map fun _ => v else getT t j := by
  intro t
  induction t with
  | leaf o => intro i j; rcases i with _ | i <;> rcases j with _ | j <;> rcases o with _ | o <;> (split <;> first | rfl | (exfalso; omega))
  | node a b c d ha hb hc hd =>
    intro i j
    rw [setT_node, four_lt _ (by omega)]
    have hij : j = i ↔ j % 4 = i % 4 ∧ j / 4 = i / 4 := by omega
    have hj : j % 4 < 4 := by omega
    have hi : i % 4 < 4 := by omega
    rw [getT_node a b c d i, getT_node a b c d j, four_lt _ hi, four_lt _ hj]
    split
    · rename_i e
      rw [getT_node, four_lt _ hj, ha]
      by_cases h1 : j % 4 = 0
      · rw [if_pos h1, if_pos h1]
        simp only [show (j / 4 = i / 4) = (j = i) from propext (by omega)]
      · rw [if_neg h1, if_neg (show ¬ j = i by omega), if_neg h1]
    split
    · rename_i e0 e
      rw [getT_node, four_lt _ hj, hb]
      by_cases h1 : j % 4 = 1
      · rw [if_neg (show ¬ j % 4 = 0 by omega), if_pos h1, if_neg (show ¬ j % 4 = 0 by omega), if_pos h1]
        simp only [show (j / 4 = i / 4) = (j = i) from propext (by omega)]
      · rw [if_neg (show ¬ j = i by omega)]
        simp [h1]
    split
    · rename_i e0 e1 e
      rw [getT_node, four_lt _ hj, hc]
      by_cases h1 : j % 4 = 2
      · rw [if_neg (show ¬ j % 4 = 0 by omega), if_neg (show ¬ j % 4 = 1 by omega), if_pos h1, if_neg (show ¬ j % 4 = 0 by omega), if_neg (show ¬ j % 4 = 1 by omega), if_pos h1]
        simp only [show (j / 4 = i / 4) = (j = i) from propext (by omega)]
      · rw [if_neg (show ¬ j = i by omega)]
        simp [h1]
    · rename_i e0 e1 e
      rw [getT_node, four_lt _ hj, hd]
      by_cases h1 : j % 4 = 3
      · rw [if_neg (show ¬ j % 4 = 0 by omega), if_neg (show ¬ j % 4 = 1 by omega), if_neg (show ¬ j % 4 = 2 by omega), if_neg (show ¬ j % 4 = 0 by omega), if_neg (show ¬ j % 4 = 1 by omega), if_neg (show ¬ j % 4 = 2 by omega)]
        simp only [show (j / 4 = i / 4) = (j = i) from propext (by omega)]
      · rw [if_neg (show ¬ j = i by omega)]
        by_cases h5 : j % 4 = 0
        · simp [h5]
        · by_cases h6 : j % 4 = 1
          · simp [h6]
          · have h7 : j % 4 = 2 := by omega
            simp [h7]
/-- So many empty temporaries. -/
noncomputable def mkU : Nat → Nat → Tre
  | 0, n => .leaf (Nat.casesOn (motive := fun _ => Option AV) n none fun _ => some undefA)
  | d + 1, n => .node (mkU d ((n + 3) / 4)) (mkU d ((n + 2) / 4)) (mkU d ((n + 1) / 4)) (mkU d (n / 4))
theorem getT_mkU : ∀ (d n i : Nat), n ≤ 4 ^ d → getT (mkU d n) i = if i < n then some undefA else none
  | 0, n, i, h => by
    have h1 : n ≤ 1 := by simpa using h
    rcases n with _ | n <;> rcases i with _ | i
    · rfl
    · rfl
    · rfl
    · rw [if_neg (by omega)]
      rfl
  | d + 1, n, i, h => by
    have hp : 4 ^ (d + 1) = 4 ^ d * 4 := Nat.pow_succ 4 d
    rw [mkU, getT_node, getT_mkU d _ _ (by omega), getT_mkU d _ _ (by omega), getT_mkU d _ _ (by omega), getT_mkU d _ _ (by omega), four_lt _ (by omega)]
    have h4 : i % 4 = 0 ∨ i % 4 = 1 ∨ i % 4 = 2 ∨ i % 4 = 3 := by omega
    rcases h4 with h4 | h4 | h4 | h4
    · simp only [h4, if_true, show (i / 4 < (n + 3) / 4) = (i < n) from propext (by omega)]
    · simp [h4, show (i / 4 < (n + 2) / 4) = (i < n) from propext (by omega)]
    · simp [h4, show (i / 4 < (n + 1) / 4) = (i < n) from propext (by omega)]
    · simp [h4, show (i / 4 < n / 4) = (i < n) from propext (by omega)]
/-- Temporaries in a tree are those of a list. -/
def RT (t : Tre) (T : List AV) : Prop := ∀ i, getT t i = T[i]?
theorem RT.set {t : Tre} {T : List AV} (h : RT t T) (i : Nat) (v : AV) : RT (setT v t i) (T.set i v) := by
  intro j
  rw [getT_setT, h i, h j, List.getElem?_set]
  by_cases hij : j = i
  · subst hij
    by_cases hl : j < T.length
    · simp [hl]
    · simp [hl]
  · rw [if_neg hij, if_neg (fun h => hij h.symm)]
noncomputable def putsK {β : Type} : List AV → Tre → Nat → (Tre → β) → β
  | [], t, _, k => k t
  | a :: as, t, i, k => forceA a fun a => setK a t i fun t => forceN (i + 1) fun i => putsK as t i k
theorem putsK_ok {β : Type} : ∀ (as : List AV) (t : Tre) (i : Nat) (k : Tre → β) (pre : List AV) (n : Nat), as.length ≤ n → RT t (pre ++ List.replicate n undefA) → pre.length = i →
    ∃ t', putsK as t i k = k t' ∧ RT t' (pre ++ as ++ List.replicate (n - as.length) undefA)
  | [], t, i, k, pre, n, hn, h, hi => ⟨t, rfl, by simpa using h⟩
  | a :: as, t, i, k, pre, n, hn, h, hi => by
    rw [putsK, forceA_eq, setK_eq, forceN_eq]
    have h' := h.set i a
    obtain ⟨n, rfl⟩ : ∃ m, n = m + 1 := ⟨n - 1, by simp at hn; omega⟩
    have e : (pre ++ List.replicate (n + 1) undefA).set i a = (pre ++ [a]) ++ List.replicate n undefA := by
      subst hi
      rw [List.replicate_succ, List.set_append_right _ _ (Nat.le_refl _)]
      simp
    rw [e] at h'
    obtain ⟨t', h1, h2⟩ := putsK_ok as _ (i + 1) k (pre ++ [a]) n (by simpa using hn) h' (by simp [hi])
    exact ⟨t', h1, by simpa using h2⟩
noncomputable def evalG (g : Nat → Option AV) : Operand → AV
  | .tmp t => (g t).getD undefA
  | .const v => ofConst v
  | .func f => .pv (.fn f)
  | .global _ => .dead
theorem evalG_eq {t : Tre} {T : List AV} (h : RT t T) : evalG (getT t) = evalA T := by
  funext o
  cases o with
  | tmp i => simp [evalG, evalA, h i, List.getD_eq_getElem?_getD]
  | _ => rfl
noncomputable def wantG (ops : List Oper) (g : Nat → Option AV) (o : Oper) : Option Bool :=
  match o.guard with
  | none => some true
  | some (j, want) =>
    match (ops[j]?).bind (·.dst) with
    | none => some false
    | some d => match g d with
      | some (.pv (.bool b)) => some (b == want)
      | some .dead => none
      | some (.pv (.sym _)) => none
      | _ => some false
theorem wantG_eq {t : Tre} {T : List AV} (h : RT t T) (ops : List Oper) (o : Oper) : wantG ops (getT t) o = wantA ops T o := by
  have : getT t = fun i => T[i]? := funext h
  rw [this]
  rfl
def runR (P : Program) (pure : Nat → Bool) (F : CallF) (G : CallG) (ρ : Operand → AV) (h : List Blk) (op : Op) : Option (AV × Chg) :=
  match calleeA ρ op with
  | some (f, args) =>
    if pure f then (G (hf h) f args).map fun v => (v, .no)
    else if args.all plainV then (F f args []).bind fun (v, h') => addOf h.length v h'
    else (F f args h).map fun (v, h') => (v, .all h h')
  | none => (primA P ρ (hf h) h.length op).map fun e => (e.v, e.chg h.length)
def Less (FT F : CallF) : Prop := ∀ f args h r, FT f args h = some r → F f args h = some r
def LessG (GT G : CallG) : Prop := ∀ hp f args r, GT hp f args = some r → G hp f args = some r
theorem runR_less {P : Program} {pure : Nat → Bool} {FT F : CallF} {GT G : CallG} (hF : Less FT F) (hG : LessG GT G) {T : List AV} {h : List Blk} {op : Op} {r : AV × Chg}
    (hr : runR P pure FT GT (evalA T) h op = some r) : runOp P pure F G T h op = some r := by
  unfold runR at hr
  unfold runOp
  split at hr
  · rename_i f args hc
    rw [hc]
    simp only
    split at hr
    · rename_i hp
      rw [if_pos hp]
      simp only [Option.map_eq_some_iff] at hr ⊢
      obtain ⟨v, h1, h2⟩ := hr
      exact ⟨v, hG _ _ _ _ h1, h2⟩
    · rename_i hp
      rw [if_neg hp]
      split at hr
      · rename_i hall
        rw [if_pos hall]
        simp only [Option.bind_eq_some_iff] at hr ⊢
        obtain ⟨v, h1, h2⟩ := hr
        exact ⟨v, hF _ _ _ _ h1, h2⟩
      · rename_i hall
        rw [if_neg hall]
        simp only [Option.map_eq_some_iff] at hr ⊢
        obtain ⟨v, h1, h2⟩ := hr
        exact ⟨v, hF _ _ _ _ h1, h2⟩
  · rename_i hc
    rw [hc]
    exact hr
noncomputable def stepT (P : Program) (pure : Nat → Bool) (F : CallF) (G : CallG) (ops : List Oper) (o : Oper) (t : Tre) (h : List Blk) : Option (AV × Chg) :=
  match wantG ops (getT t) o with
  | none => none
  | some false => some (undefA, .no)
  | some true => runR P pure F G (evalG (getT t)) h o.op
theorem stepT_less {P : Program} {pure : Nat → Bool} {FT F : CallF} {GT G : CallG} (hF : Less FT F) (hG : LessG GT G) {ops : List Oper} {o : Oper} {t : Tre} {T : List AV} {h : List Blk} {r : AV × Chg}
    (hT : RT t T) (hr : stepT P pure FT GT ops o t h = some r) : stepOp P pure F G ops o (T, h) = some r := by
  unfold stepT at hr
  unfold stepOp
  rw [wantG_eq hT, evalG_eq hT] at hr
  simp only
  split at hr
  · simp at hr
  · rename_i hw; rw [hw]; exact hr
  · rename_i hw; rw [hw]; exact runR_less hF hG hr
abbrev StT := Tre × List Blk
noncomputable def putK {β : Type} (t : Tre) (dst : Option Nat) (v : AV) (k : Tre → β) : β :=
  match dst with
  | some d => setK v t d k
  | none => k t
theorem putK_ok {β : Type} {t : Tre} {T : List AV} (h : RT t T) (dst : Option Nat) (v : AV) (k : Tre → β) : ∃ t', putK t dst v k = k t' ∧ RT t' (putA T dst v) := by
  cases dst with
  | none => exact ⟨t, rfl, h⟩
  | some d => exact ⟨_, setK_eq v t β d k, h.set d v⟩
def forceH {β : Type} (h : List Blk) (c : Chg) (k : List Blk → β) : β :=
  match c with
  | .no => k h
  | .one id b => forceL (fun b k => k b) (setL h id b) k
  | .all _ h' => forceL (fun b k => k b) h' k
  | .add nb bs => forceL (fun b k => k b) (addL h nb bs) k
theorem forceH_eq {β : Type} (h : List Blk) (c : Chg) (k : List Blk → β) : forceH h c k = k (c.st h) := by
  cases c with
  | no => rfl
  | one id b => exact forceL_eq (fun _ _ => rfl) _ _
  | all h h' => exact forceL_eq (fun _ _ => rfl) _ _
  | add nb bs => exact forceL_eq (fun _ _ => rfl) _ _
noncomputable def nextT {β : Type} (o : Oper) (t : Tre) (h : List Blk) (r : AV × Chg) (k : StT → β) : β :=
  forceA r.1 fun v => forceC r.2 fun c => putK t o.dst v fun t => forceH h c fun h => k (t, h)
theorem nextT_ok {β : Type} {t : Tre} {T : List AV} (hT : RT t T) (o : Oper) (h : List Blk) (r : AV × Chg) (k : StT → β) :
    ∃ t', nextT o t h r k = k (t', (nextSt o (T, h) r).2) ∧ RT t' (nextSt o (T, h) r).1 := by
  unfold nextT
  rw [forceA_eq, forceC_eq]
  obtain ⟨t', h1, h2⟩ := putK_ok hT o.dst r.1 (fun t => forceH h r.2 fun h => k (t, h))
  refine ⟨t', ?_, h2⟩
  rw [h1, forceH_eq]
  rfl
noncomputable def runT (P : Program) (pure : Nat → Bool) (F : CallF) (G : CallG) (ops : List Oper) : List Oper → StT → Option StT
  | [], s => some s
  | o :: rest, s => match stepT P pure F G ops o s.1 s.2 with
    | some r => nextT o s.1 s.2 r fun s' => runT P pure F G ops rest s'
    | none => none
theorem runT_less {P : Program} {pure : Nat → Bool} {FT F : CallF} {GT G : CallG} (hF : Less FT F) (hG : LessG GT G) {ops : List Oper} : ∀ (l : List Oper) {t : Tre} {T : List AV} {h : List Blk} {s' : StT},
    RT t T → runT P pure FT GT ops l (t, h) = some s' → ∃ T', RT s'.1 T' ∧ runOps P pure F G ops l (T, h) = some (T', s'.2)
  | [], t, T, h, s', hT, hr => by
    simp only [runT, Option.some.injEq] at hr
    subst hr
    exact ⟨T, hT, rfl⟩
  | o :: l, t, T, h, s', hT, hr => by
    rw [runT] at hr
    split at hr
    · rename_i r hs
      obtain ⟨t1, h1, h2⟩ := nextT_ok hT o h r (fun s' => runT P pure FT GT ops l s')
      rw [h1] at hr
      obtain ⟨T', h3, h4⟩ := runT_less hF hG l h2 hr
      refine ⟨T', h3, ?_⟩
      rw [runOps_cons, stepT_less hF hG hT hs]
      exact h4
    · simp at hr
def footR (ops : List Oper) (o : Oper) (ρ : Operand → AV) (w : Option Bool) (r : AV × Chg) : Foot :=
  { dst := o.dst, tmps := opTmps ops o, reads := (if (w == some true) && looksIn o.op then o.op.operands.toList.flatMap fun x => idOf (ρ x) else []), chg := r.2 }
noncomputable def traceT (P : Program) (pure : Nat → Bool) (F : CallF) (G : CallG) (ops : List Oper) : List Oper → StT → Option (List Foot × StT)
  | [], s => some ([], s)
  | o :: rest, s => match stepT P pure F G ops o s.1 s.2 with
    | some r => nextT o s.1 s.2 r fun s' => match traceT P pure F G ops rest s' with
      | some (fs, s'') => some (footR ops o (evalG (getT s.1)) (wantG ops (getT s.1) o) r :: fs, s'')
      | none => none
    | none => none
theorem traceT_less {P : Program} {pure : Nat → Bool} {FT F : CallF} {GT G : CallG} (hF : Less FT F) (hG : LessG GT G) {ops : List Oper} : ∀ (l : List Oper) {t : Tre} {T : List AV} {h : List Blk} {fs : List Foot} {s' : StT},
    RT t T → traceT P pure FT GT ops l (t, h) = some (fs, s') → ∃ T', RT s'.1 T' ∧ traceD P pure F G ops l (T, h) = some (fs, (T', s'.2))
  | [], t, T, h, fs, s', hT, hr => by
    simp only [traceT, Option.some.injEq, Prod.mk.injEq] at hr
    obtain ⟨rfl, rfl⟩ := hr
    exact ⟨T, hT, rfl⟩
  | o :: l, t, T, h, fs, s', hT, hr => by
    rw [traceT] at hr
    split at hr
    · rename_i r hs
      obtain ⟨t1, h1, h2⟩ := nextT_ok hT o h r (fun s' => match traceT P pure FT GT ops l s' with
        | some (fs, s'') => some (footR ops o (evalG (getT t)) (wantG ops (getT t) o) r :: fs, s'')
        | none => none)
      simp only at hr
      rw [h1] at hr
      split at hr
      · rename_i fs1 s1 htr
        simp only [Option.some.injEq, Prod.mk.injEq] at hr
        obtain ⟨rfl, rfl⟩ := hr
        obtain ⟨T', h3, h4⟩ := traceT_less hF hG l h2 htr
        refine ⟨T', h3, ?_⟩
        rw [traceD_cons, stepT_less hF hG hT hs, evalG_eq hT, wantG_eq hT]
        show Option.map _ (traceD P pure F G ops l (nextSt o (T, h) r)) = _
        rw [h4]
        rfl
      · simp at hr
    · simp at hr
def tmpPart (a b : Option Nat × List Nat) : Bool := disjointL a.1.toList b.2 && disjointL b.1.toList a.2 && disjointL a.1.toList b.1.toList
def heapPart (a b : Foot) : Bool :=
  if a.chg.isAll then b.chg.ids.isEmpty && !b.chg.isAll && disjointL a.chg.ids b.reads
  else if b.chg.isAll then a.chg.ids.isEmpty && disjointL b.chg.ids a.reads
  else disjointL a.chg.ids b.reads && disjointL b.chg.ids a.reads && disjointL a.chg.ids b.chg.ids
theorem apartF_parts (a b : Foot) : apartF a b = (tmpPart (a.dst, a.tmps) (b.dst, b.tmps) && heapPart a b) := rfl
def isNo : Chg → Bool
  | .no => true
  | _ => false
def tLater (bef : Nat → Nat) (i : Nat) (a : Option Nat × List Nat) : Nat → List (Option Nat × List Nat) → Bool
  | _, [] => true
  | k, b :: r => ((bef k).testBit i || tmpPart a b) && tLater bef i a (k + 1) r
def tmpsOk (bef : Nat → Nat) : Nat → List (Option Nat × List Nat) → Bool
  | _, [] => true
  | i, a :: r => tLater bef i a (i + 1) r && tmpsOk bef (i + 1) r
def hLater (bef : Nat → Nat) (i : Nat) (a : Foot) : Nat → List Foot → Bool
  | _, [] => true
  | k, b :: r => (!heapful b || (bef k).testBit i || heapPart a b) && hLater bef i a (k + 1) r
def heapsOk (bef : Nat → Nat) : Nat → List Foot → Bool
  | _, [] => true
  | i, a :: r => (!heapful a || hLater bef i a (i + 1) r) && heapsOk bef (i + 1) r
theorem tLater_ok {bef : Nat → Nat} {i : Nat} {a : Option Nat × List Nat} : ∀ {k : Nat} {l : List (Option Nat × List Nat)}, tLater bef i a k l = true → ∀ j b, l[j]? = some b → ((bef (k + j)).testBit i || tmpPart a b) = true
  | k, [], h, j, b, hb => by simp at hb
  | k, b' :: r, h, 0, b, hb => by
    simp only [List.getElem?_cons_zero, Option.some.injEq] at hb; subst hb
    simp only [tLater, Bool.and_eq_true] at h
    exact h.1
  | k, b' :: r, h, j + 1, b, hb => by
    simp only [List.getElem?_cons_succ] at hb
    simp only [tLater, Bool.and_eq_true] at h
    have := tLater_ok h.2 j b hb
    rwa [show k + 1 + j = k + (j + 1) by omega] at this
theorem tmpsOk_ok {bef : Nat → Nat} : ∀ {n : Nat} {l : List (Option Nat × List Nat)}, tmpsOk bef n l = true → ∀ i k a b, i < k → l[i]? = some a → l[k]? = some b → ((bef (n + k)).testBit (n + i) || tmpPart a b) = true
  | n, [], h, i, k, a, b, hik, ha, hb => by simp at ha
  | n, c :: r, h, 0, k, a, b, hik, ha, hb => by
    simp only [List.getElem?_cons_zero, Option.some.injEq] at ha; subst ha
    simp only [tmpsOk, Bool.and_eq_true] at h
    obtain ⟨k, rfl⟩ : ∃ m, k = m + 1 := ⟨k - 1, by omega⟩
    simp only [List.getElem?_cons_succ] at hb
    have := tLater_ok h.1 k b hb
    rwa [show n + 1 + k = n + (k + 1) by omega] at this
  | n, c :: r, h, i + 1, k, a, b, hik, ha, hb => by
    simp only [tmpsOk, Bool.and_eq_true] at h
    obtain ⟨k, rfl⟩ : ∃ m, k = m + 1 := ⟨k - 1, by omega⟩
    simp only [List.getElem?_cons_succ] at ha hb
    have := tmpsOk_ok h.2 i k a b (by omega) ha hb
    rwa [show n + 1 + k = n + (k + 1) by omega, show n + 1 + i = n + (i + 1) by omega] at this
theorem hLater_ok {bef : Nat → Nat} {i : Nat} {a : Foot} : ∀ {k : Nat} {l : List Foot}, hLater bef i a k l = true → ∀ j b, l[j]? = some b → (!heapful b || (bef (k + j)).testBit i || heapPart a b) = true
  | k, [], h, j, b, hb => by simp at hb
  | k, b' :: r, h, 0, b, hb => by
    simp only [List.getElem?_cons_zero, Option.some.injEq] at hb; subst hb
    simp only [hLater, Bool.and_eq_true] at h
    exact h.1
  | k, b' :: r, h, j + 1, b, hb => by
    simp only [List.getElem?_cons_succ] at hb
    simp only [hLater, Bool.and_eq_true] at h
    have := hLater_ok h.2 j b hb
    rwa [show k + 1 + j = k + (j + 1) by omega] at this
theorem disjoint_nil (a : List Nat) : disjointL a [] = true := by simp [disjointL]
theorem heapPart_left {a b : Foot} (h : heapful a = false) : heapPart a b = true := by
  simp only [heapful, Bool.or_eq_false_iff, Bool.not_eq_false', List.isEmpty_iff] at h
  obtain ⟨⟨h1, h2⟩, h3⟩ := h
  unfold heapPart
  rw [h3, h2, h1]
  simp [disjointL]
theorem heapPart_right {a b : Foot} (h : heapful b = false) : heapPart a b = true := by
  simp only [heapful, Bool.or_eq_false_iff, Bool.not_eq_false', List.isEmpty_iff] at h
  obtain ⟨⟨h1, h2⟩, h3⟩ := h
  unfold heapPart
  rw [h3, h2, h1]
  simp [disjointL]
theorem heapPart_no {a b : Foot} (ha : isNo a.chg = true) (hb : isNo b.chg = true) : heapPart a b = true := by
  unfold heapPart
  cases h : a.chg <;> rw [h] at ha <;> simp [isNo] at ha
  cases h : b.chg <;> rw [h] at hb <;> simp [isNo] at hb
  simp [Chg.isAll, Chg.ids, disjointL]
theorem heapsOk_ok {bef : Nat → Nat} : ∀ {n : Nat} {l : List Foot}, heapsOk bef n l = true → ∀ i k a b, i < k → l[i]? = some a → l[k]? = some b → ((bef (n + k)).testBit (n + i) || heapPart a b) = true
  | n, [], h, i, k, a, b, hik, ha, hb => by simp at ha
  | n, c :: r, h, 0, k, a, b, hik, ha, hb => by
    simp only [List.getElem?_cons_zero, Option.some.injEq] at ha; subst ha
    simp only [heapsOk, Bool.and_eq_true] at h
    obtain ⟨k, rfl⟩ : ∃ m, k = m + 1 := ⟨k - 1, by omega⟩
    simp only [List.getElem?_cons_succ] at hb
    cases hc : heapful c with
    | false => rw [heapPart_left hc, Bool.or_true]
    | true =>
      have h1 := h.1
      rw [hc] at h1
      have := hLater_ok (by simpa using h1) k b hb
      rw [show n + 1 + k = n + (k + 1) by omega] at this
      cases hbf : heapful b with
      | false => rw [heapPart_right hbf, Bool.or_true]
      | true => rw [hbf] at this; simpa using this
  | n, c :: r, h, i + 1, k, a, b, hik, ha, hb => by
    simp only [heapsOk, Bool.and_eq_true] at h
    obtain ⟨k, rfl⟩ : ∃ m, k = m + 1 := ⟨k - 1, by omega⟩
    simp only [List.getElem?_cons_succ] at ha hb
    have := heapsOk_ok h.2 i k a b (by omega) ha hb
    rwa [show n + 1 + k = n + (k + 1) by omega, show n + 1 + i = n + (i + 1) by omega] at this
def befF (ops : List Oper) (k : Nat) : Nat := (befL ops []).getD k 0
def statOk (ops : List Oper) : Bool := edgesDown ops && tmpsOk (befF ops) 0 (ops.map fun o => (o.dst, opTmps ops o))
def dynOk (ops : List Oper) (fs : List Foot) : Bool := (fs.all fun f => isNo f.chg) || heapsOk (befF ops) 0 fs
theorem apart_parts {ops : List Oper} {fs : List Foot} (hfs : fs.map (fun f => (f.dst, f.tmps)) = ops.map fun o => (o.dst, opTmps ops o)) (h1 : statOk ops = true) (h2 : dynOk ops fs = true) :
    (edgesDown ops && apartAll (befL ops []) fs) = true := by
  simp only [statOk, Bool.and_eq_true] at h1
  rw [h1.1, Bool.true_and]
  unfold apartAll
  rw [List.all_eq_true]
  intro k hk
  rw [List.all_eq_true]
  intro i hi
  rw [List.mem_range] at hk hi
  have ha : fs[i]? = some fs[i] := List.getElem?_eq_getElem (by omega)
  have hb : fs[k]? = some fs[k] := List.getElem?_eq_getElem hk
  rw [ha, hb]
  simp only
  have e1 := tmpsOk_ok h1.2 i k (fs[i].dst, fs[i].tmps) (fs[k].dst, fs[k].tmps) hi (by rw [← hfs, List.getElem?_map, ha]; rfl) (by rw [← hfs, List.getElem?_map, hb]; rfl)
  have e2 : ((befF ops (0 + k)).testBit (0 + i) || heapPart fs[i] fs[k]) = true := by
    simp only [dynOk, Bool.or_eq_true] at h2
    rcases h2 with h2 | h2
    · rw [List.all_eq_true] at h2
      rw [heapPart_no (h2 _ (List.getElem_mem _)) (h2 _ (List.getElem_mem _)), Bool.or_true]
    · exact heapsOk_ok h2 i k _ _ hi ha hb
  rw [apartF_parts]
  simp only [Nat.zero_add, befF] at e1 e2
  cases hbit : ((befL ops []).getD k 0).testBit i with
  | true => rfl
  | false =>
    rw [hbit] at e1 e2
    simp only [Bool.false_or] at e1 e2 ⊢
    rw [e1, e2]
    rfl
theorem traceT_feet {P : Program} {pure : Nat → Bool} {F : CallF} {G : CallG} {ops : List Oper} : ∀ (l : List Oper) {t : Tre} {T : List AV} {h : List Blk} {fs : List Foot} {s' : StT}, RT t T →
    traceT P pure F G ops l (t, h) = some (fs, s') → fs.map (fun f => (f.dst, f.tmps)) = l.map fun o => (o.dst, opTmps ops o)
  | [], t, T, h, fs, s', hT, hr => by
    simp only [traceT, Option.some.injEq, Prod.mk.injEq] at hr
    obtain ⟨rfl, rfl⟩ := hr
    rfl
  | o :: l, t, T, h, fs, s', hT, hr => by
    rw [traceT] at hr
    split at hr
    · rename_i r hs
      obtain ⟨t1, h1, h2⟩ := nextT_ok hT o h r (fun s' => match traceT P pure F G ops l s' with
        | some (fs, s'') => some (footR ops o (evalG (getT t)) (wantG ops (getT t) o) r :: fs, s'')
        | none => none)
      simp only at hr
      rw [h1] at hr
      split at hr
      · rename_i fs1 s1 htr
        simp only [Option.some.injEq, Prod.mk.injEq] at hr
        obtain ⟨rfl, rfl⟩ := hr
        rw [List.map_cons, List.map_cons, traceT_feet l h2 htr]
        rfl
      · simp at hr
    · simp at hr
noncomputable def drawT (P : Program) (pure : Nat → Bool) (F : CallF) (G : CallG) (ops : List Oper) (s : StT) : Option StT :=
  match traceT P pure F G ops ops s with
  | some (fs, s') => if statOk ops && dynOk ops fs then some s' else none
  | none => none
theorem drawT_less {P : Program} {pure : Nat → Bool} {FT F : CallF} {GT G : CallG} (hF : Less FT F) (hG : LessG GT G) {ops : List Oper} {t : Tre} {T : List AV} {h : List Blk} {s' : StT}
    (hT : RT t T) (hr : drawT P pure FT GT ops (t, h) = some s') : ∃ T', RT s'.1 T' ∧ drawOps P pure F G ops (T, h) = some (T', s'.2) := by
  unfold drawT at hr
  split at hr
  · rename_i fs s1 htr
    split at hr
    · rename_i hc
      simp only [Option.some.injEq] at hr
      subst hr
      rw [Bool.and_eq_true] at hc
      have hc' := apart_parts (traceT_feet ops hT htr) hc.1 hc.2
      obtain ⟨T', h3, h4⟩ := traceT_less hF hG ops hT htr
      refine ⟨T', h3, ?_⟩
      unfold drawOps
      rw [h4]
      show (if _ then _ else _) = _
      rw [if_pos hc']
    · simp at hr
  · simp at hr
def loopT (body : StT → Option (XA × StT)) : Nat → StT → Option (XA × StT)
  | 0, _ => none
  | n + 1, s => match body s with
    | some (.normal, s') => loopT body n s'
    | r => r
noncomputable def execT (P : Program) (pure : Nat → Bool) (F : CallF) (G : CallG) (lim : Nat) : Code → StT → Option (XA × StT)
  | .skip, s => some (.normal, s)
  | .label _, s => some (.normal, s)
  | .region _ ops draw, s => match (if draw then drawT P pure F G ops.toList s else runT P pure F G ops.toList ops.toList s) with
    | some s' => some (.normal, s')
    | none => none
  | .seq a b, s => match execT P pure F G lim a s with
    | some (.normal, s') => execT P pure F G lim b s'
    | r => r
  | .cond c x y, s => match evalG (getT s.1) c with
    | .pv (.bool true) => execT P pure F G lim x s
    | .pv (.bool false) => execT P pure F G lim y s
    | _ => none
  | .block id b, s => match execT P pure F G lim b s with
    | some (.exit j, s') => if j = id then some (.normal, s') else some (.exit j, s')
    | r => r
  | .loop b, s => loopT (execT P pure F G lim b) lim s
  | .exit id, s => some (.exit id, s)
  | .ret, s => some (.ret, s)
  | _, _ => none
/-- What a run in trees gives, a run in lists gives. -/
def Goes (x : Option (XA × StT)) (y : Option (XA × St)) : Prop := ∀ c s', x = some (c, s') → ∃ T', RT s'.1 T' ∧ y = some (c, (T', s'.2))
theorem loopT_less {bT : StT → Option (XA × StT)} {b : St → Option (XA × St)} (hb : ∀ t T h, RT t T → Goes (bT (t, h)) (b (T, h))) : ∀ n t T h, RT t T → Goes (loopT bT n (t, h)) (loopN b n (T, h))
  | 0, t, T, h, hT => fun c s' hr => by simp [loopT] at hr
  | n + 1, t, T, h, hT => fun c s' hr => by
    rw [loopT] at hr
    rw [loopN]
    split at hr
    · rename_i s1 h1
      obtain ⟨T1, h2, h3⟩ := hb t T h hT _ _ h1
      rw [h3]
      exact loopT_less hb n _ T1 _ h2 _ _ hr
    · rename_i hn
      obtain ⟨T1, h2, h3⟩ := hb t T h hT _ _ hr
      rw [h3]
      cases c with
      | normal => exact absurd hr (hn _)
      | _ => exact ⟨T1, h2, rfl⟩
theorem execT_less {P : Program} {pure : Nat → Bool} {FT F : CallF} {GT G : CallG} (hF : Less FT F) (hG : LessG GT G) (lim : Nat) : ∀ (c : Code) (t : Tre) (T : List AV) (h : List Blk), RT t T →
    Goes (execT P pure FT GT lim c (t, h)) (execC P pure F G lim c (T, h)) := by
  intro c
  induction c with
  | skip => intro t T h hT x s' hr; simp only [execT, Option.some.injEq, Prod.mk.injEq] at hr; obtain ⟨rfl, rfl⟩ := hr; exact ⟨T, hT, rfl⟩
  | label _ => intro t T h hT x s' hr; simp only [execT, Option.some.injEq, Prod.mk.injEq] at hr; obtain ⟨rfl, rfl⟩ := hr; exact ⟨T, hT, rfl⟩
  | region _ ops draw =>
    intro t T h hT x s' hr
    rw [execT] at hr
    rw [execC]
    split at hr
    · rename_i s1 h1
      simp only [Option.some.injEq, Prod.mk.injEq] at hr
      obtain ⟨rfl, rfl⟩ := hr
      split at h1
      · rename_i hd
        obtain ⟨T1, h2, h3⟩ := drawT_less hF hG hT h1
        rw [if_pos hd, h3]
        exact ⟨T1, h2, rfl⟩
      · rename_i hd
        obtain ⟨T1, h2, h3⟩ := runT_less hF hG _ hT h1
        rw [if_neg hd, h3]
        exact ⟨T1, h2, rfl⟩
    · simp at hr
  | seq a b ha hb =>
    intro t T h hT x s' hr
    rw [execT] at hr
    rw [execC]
    split at hr
    · rename_i s1 h1
      obtain ⟨T1, h2, h3⟩ := ha t T h hT _ _ h1
      rw [h3]
      exact hb _ T1 _ h2 _ _ hr
    · rename_i hn
      obtain ⟨T1, h2, h3⟩ := ha t T h hT _ _ hr
      rw [h3]
      cases x with
      | normal => exact absurd hr (hn _)
      | _ => exact ⟨T1, h2, rfl⟩
  | cond c a b ha hb =>
    intro t T h hT x s' hr
    rw [execT, evalG_eq hT] at hr
    rw [execC]
    split at hr
    · rename_i h1; simp only [h1]; exact ha t T h hT _ _ hr
    · rename_i h1; simp only [h1]; exact hb t T h hT _ _ hr
    · simp at hr
  | block id b hb =>
    intro t T h hT x s' hr
    rw [execT] at hr
    rw [execC]
    split at hr
    · rename_i j s1 h1
      obtain ⟨T1, h2, h3⟩ := hb t T h hT _ _ h1
      rw [h3]
      simp only
      split at hr
      · rename_i hj
        simp only [Option.some.injEq, Prod.mk.injEq] at hr
        obtain ⟨rfl, rfl⟩ := hr
        rw [if_pos hj]
        exact ⟨T1, h2, rfl⟩
      · rename_i hj
        simp only [Option.some.injEq, Prod.mk.injEq] at hr
        obtain ⟨rfl, rfl⟩ := hr
        rw [if_neg hj]
        exact ⟨T1, h2, rfl⟩
    · rename_i hn
      obtain ⟨T1, h2, h3⟩ := hb t T h hT _ _ hr
      rw [h3]
      cases x with
      | exit j => exact absurd hr (hn _ _)
      | _ => exact ⟨T1, h2, rfl⟩
  | loop b hb =>
    intro t T h hT x s' hr
    rw [execT] at hr
    rw [execC]
    exact loopT_less (fun t T h hT => hb t T h hT) lim t T h hT _ _ hr
  | exit id => intro t T h hT x s' hr; simp only [execT, Option.some.injEq, Prod.mk.injEq] at hr; obtain ⟨rfl, rfl⟩ := hr; exact ⟨T, hT, rfl⟩
  | ret => intro t T h hT x s' hr; simp only [execT, Option.some.injEq, Prod.mk.injEq] at hr; obtain ⟨rfl, rfl⟩ := hr; exact ⟨T, hT, rfl⟩
  | _ => intro t T h hT x s' hr; simp [execT] at hr
noncomputable def resOneT (P : Program) (t : Tre) (hp : Hp) : ResultVar → Option AV
  | .tmp i => some ((getT t i).getD undefA)
  | .cell a ty => loadA P hp ty ((getT t a).getD undefA)
theorem resOneT_eq {t : Tre} {T : List AV} (h : RT t T) (P : Program) (hp : Hp) : resOneT P t hp = resOne P T hp := by
  funext r
  cases r with
  | tmp i => simp [resOneT, resOne, h i, List.getD_eq_getElem?_getD]
  | cell a ty => simp [resOneT, resOne, h a, List.getD_eq_getElem?_getD]
noncomputable def resT (P : Program) (fn : Func) (t : Tre) (hp : Hp) : Option AV :=
  match fn.results.toList with
  | [r] => resOneT P t hp r
  | rs => (rs.mapM (resOneT P t hp)).map .tuple
theorem resT_eq {t : Tre} {T : List AV} (h : RT t T) (P : Program) (fn : Func) (hp : Hp) : resT P fn t hp = resA P fn T hp := by
  unfold resT resA
  rw [resOneT_eq h]
  cases fn.results.toList with
  | nil => rfl
  | cons a l => cases l <;> rfl
def depT (n : Nat) : Nat := if n ≤ 4 then 1 else if n ≤ 16 then 2 else if n ≤ 64 then 3 else if n ≤ 256 then 4 else if n ≤ 1024 then 5 else 6
noncomputable def bodyT (P : Program) (pure : Nat → Bool) (F : CallF) (G : CallG) (lim : Nat) (f : Nat) (args : List AV) (h : List Blk) : Option (AV × List Blk) :=
  match P.funcs[f]? with
  | some fn =>
    match fn.body with
    | some c =>
      if fn.ntmps ≤ 4 ^ depT fn.ntmps ∧ args.length ≤ fn.ntmps then
        putsK args (mkU (depT fn.ntmps) fn.ntmps) 0 fun t =>
        match execT P pure F G lim c (t, h) with
        | some (.normal, (t, h')) | some (.ret, (t, h')) => (resT P fn t (hf h')).map fun v => (v, h')
        | _ => none
      else none
    | none => (extA fn (hf h) args).map fun v => (v, h)
  | none => none
theorem bodyT_less {P : Program} {pure : Nat → Bool} {FT F : CallF} {GT G : CallG} (hF : Less FT F) (hG : LessG GT G) (lim : Nat) : Less (bodyT P pure FT GT lim) (bodyA P pure F G lim) := by
  intro f args h r hr
  unfold bodyT at hr
  unfold bodyA
  split at hr
  · rename_i fn hfn
    simp only [hfn]
    split at hr
    · rename_i c hc
      simp only [hc]
      split at hr
      · rename_i hg
        obtain ⟨t0, h0, hT0⟩ := putsK_ok args (mkU (depT fn.ntmps) fn.ntmps) 0 (fun t =>
          match execT P pure FT GT lim c (t, h) with
          | some (.normal, (t, h')) | some (.ret, (t, h')) => (resT P fn t (hf h')).map fun v => (v, h')
          | _ => none) [] fn.ntmps hg.2 (fun i => by
            rw [getT_mkU _ _ _ hg.1, List.nil_append, List.getElem?_replicate]) rfl
        rw [h0] at hr
        have he := execT_less (P := P) (pure := pure) hF hG lim c t0 _ h hT0
        simp only [List.nil_append] at he
        split at hr
        · rename_i t1 h1 hx
          obtain ⟨T1, h2, h3⟩ := he _ _ hx
          rw [h3]
          show Option.map _ (resA P fn T1 _) = _
          rw [← resT_eq h2]
          exact hr
        · rename_i t1 h1 hx
          obtain ⟨T1, h2, h3⟩ := he _ _ hx
          rw [h3]
          show Option.map _ (resA P fn T1 _) = _
          rw [← resT_eq h2]
          exact hr
        · simp at hr
      · simp at hr
    · rename_i hc
      simp only [hc]
      exact hr
  · simp at hr
theorem pureOf_less {FT F : CallF} (hF : Less FT F) : LessG (pureOf FT) (pureOf F) := by
  intro hp f args r hr
  unfold pureOf at hr ⊢
  split at hr
  · rename_i hall
    rw [if_pos hall]
    simp only [Option.bind_eq_some_iff] at hr ⊢
    obtain ⟨x, h1, h2⟩ := hr
    exact ⟨x, hF _ _ _ _ h1, h2⟩
  · rename_i hall
    rw [if_neg hall]
    simp only [Option.bind_eq_some_iff] at hr ⊢
    obtain ⟨as, h0, x, h1, h2⟩ := hr
    exact ⟨as, h0, x, hF _ _ _ _ h1, h2⟩
theorem orS_less (S : CallG) {GT G : CallG} (hG : LessG GT G) : LessG (orS S GT) (orS S G) := by
  intro hp f args r hr
  unfold orS at hr ⊢
  split at hr
  · exact hr
  · exact hG _ _ _ _ hr
/-- A call, run in trees. -/
noncomputable def callT (P : Program) (S : CallG) (pure : Nat → Bool) (lim : Nat) : Nat → CallF
  | 0 => fun _ _ _ => none
  | d + 1 => bodyT P pure (callT P S pure lim d) (orS S (pureOf (callT P S pure lim d))) lim
theorem callT_less (P : Program) (S : CallG) (pure : Nat → Bool) (lim : Nat) : ∀ d, Less (callT P S pure lim d) (callA P S pure lim d)
  | 0 => fun f args h r hr => by simp [callT] at hr
  | d + 1 => bodyT_less (callT_less P S pure lim d) (orS_less S (pureOf_less (callT_less P S pure lim d))) lim
end Go.Proofs.Ytlinbbjobjnipaa.AI

set_option linter.unusedVariables false
set_option linter.unusedSimpArgs false
set_option linter.unusedSectionVars false
namespace Go.Proofs.Ytlinbbjobjnipaa.AI
open Go
abbrev Gm := Nat → AV
def upd (g : Gm) (i : Nat) (v : AV) : Gm := fun j => if j = i then v else g j
theorem upd_same (g : Gm) (i : Nat) (v : AV) : upd g i v i = v := if_pos rfl
def evalF (g : Gm) : Operand → AV
  | .tmp t => g t
  | .const v => ofConst v
  | .func f => .pv (.fn f)
  | .global _ => .dead
structure Rel (n : Nat) (g : Gm) (hp : Hp) (nb : Nat) (T : List AV) (h : List Blk) : Prop where
  len : T.length = n
  get : ∀ i, T.getD i undefA = g i
  hp : hf h = hp
  nb : h.length = nb
theorem rel_eval {n : Nat} {g : Gm} {hp : Hp} {nb : Nat} {T : List AV} {h : List Blk} (r : Rel n g hp nb T h) : evalA T = evalF g := by
  funext o
  cases o with
  | tmp i => exact r.get i
  | _ => rfl
theorem getD_set (T : List AV) (i j : Nat) (v : AV) : (T.set i v).getD j undefA = if j = i ∧ i < T.length then v else T.getD j undefA := by
  simp only [List.getD_eq_getElem?_getD, List.getElem?_set]
  by_cases h : i = j
  · subst h
    by_cases hl : i < T.length <;> simp [hl]
  · have h' : ¬ j = i := fun e => h e.symm
    simp [h, h']
theorem rel_put {n : Nat} {g : Gm} {hp hp' : Hp} {nb nb' : Nat} {T : List AV} {h h' : List Blk} (r : Rel n g hp nb T h) {d : Nat} (hd : d < n) (v : AV) (h1 : hf h' = hp') (h2 : h'.length = nb') :
    Rel n (upd g d v) hp' nb' (T.set d v) h' := by
  refine ⟨by simp [r.len], fun i => ?_, h1, h2⟩
  rw [getD_set, r.len, r.get]
  unfold upd
  simp [hd]
def wantF (ops : List Oper) (g : Gm) (o : Oper) : Option Bool :=
  match o.guard with
  | none => some true
  | some (j, want) =>
    match (ops[j]?).bind (·.dst) with
    | none => some false
    | some d => match g d with
      | .pv (.bool b) => some (b == want)
      | .dead => none
      | .pv (.sym _) => none
      | _ => some false
theorem rel_want {n : Nat} {g : Gm} {hp : Hp} {nb : Nat} {T : List AV} {h : List Blk} (r : Rel n g hp nb T h) (ops : List Oper) (o : Oper) : wantA ops T o = wantF ops g o := by
  unfold wantA wantF
  cases hg : o.guard with
  | none => rfl
  | some p =>
    obtain ⟨j, want⟩ := p
    simp only
    cases (ops[j]?).bind (·.dst) with
    | none => rfl
    | some d =>
      simp only [← r.get d, List.getD_eq_getElem?_getD]
      cases T[d]? with
      | none => rfl
      | some v => cases v with
        | pv p => cases p <;> rfl
        | _ => rfl
theorem setL_length : ∀ (h : List Blk) (i : Nat) (b : Blk), (setL h i b).length = max h.length (i + 1)
  | [], 0, b => rfl
  | [], n + 1, b => by simp [setL, setL_length [] n b]
  | _ :: l, 0, b => by simp [setL]
  | x :: l, n + 1, b => by simp only [setL, List.length_cons, setL_length l n b]; omega
theorem setL_hf0 : ∀ (h : List Blk) (id : Nat) (b : Blk), hf (setL h id b) = setHp (hf h) id b
  | [], 0, b => by funext j; cases j <;> simp [setL, hf, setHp]
  | [], n + 1, b => by
    have ih := setL_hf0 [] n b
    funext j
    cases j with
    | zero => simp [setL, hf, setHp]
    | succ j =>
      have := congrFun ih j
      simp only [hf, setHp] at this ⊢
      simp only [setL, List.getD_cons_succ, this, Nat.add_right_cancel_iff]
      simp
  | x :: l, 0, b => by funext j; cases j <;> simp [setL, hf, setHp]
  | x :: l, n + 1, b => by
    have ih := setL_hf0 l n b
    funext j
    cases j with
    | zero => simp [setL, hf, setHp]
    | succ j =>
      have := congrFun ih j
      simp only [hf, setHp] at this ⊢
      simp only [setL, List.getD_cons_succ, this, Nat.add_right_cancel_iff]
theorem hf_lt {h : List Blk} {id : Nat} (hl : (hf h id).live = true) : id < h.length := by
  unfold hf at hl
  rcases Nat.lt_or_ge id h.length with h1 | h1
  · exact h1
  · rw [List.getD_eq_getElem?_getD, List.getElem?_eq_none h1] at hl
    simp [Blk.live] at hl
theorem look_live {hp : Hp} {id ver : Nat} {cs : List AV} (h : look hp id ver = some cs) : (hp id).live = true := by
  unfold look at h
  split at h
  · rename_i hb; rw [hb]; rfl
  · simp at h
section
variable {P : Program} {pure : Nat → Bool} {F : CallF} {G : CallG} {lim n : Nat} {ops rest : List Oper} {g : Gm} {hp : Hp} {nb : Nat} {Q : Gm → Hp → Nat → Prop}
/-- A row of operations leads to what is asked. -/
def RO (P : Program) (pure : Nat → Bool) (F : CallF) (G : CallG) (n : Nat) (ops rest : List Oper) (g : Gm) (hp : Hp) (nb : Nat) (Q : Gm → Hp → Nat → Prop) : Prop :=
  ∀ T h, Rel n g hp nb T h → ∃ T' h' g' hp' nb', runOps P pure F G ops rest (T, h) = some (T', h') ∧ Rel n g' hp' nb' T' h' ∧ Q g' hp' nb'
theorem ro_nil (hQ : Q g hp nb) : RO P pure F G n ops [] g hp nb Q := fun T h r => ⟨T, h, g, hp, nb, rfl, r, hQ⟩
def putF (g : Gm) (dst : Option Nat) (v : AV) : Gm :=
  match dst with
  | some d => upd g d v
  | none => g
/-- Any operation that is wanted. -/
theorem ro_one {o : Oper} (hw : wantF ops g o = some true) {v : AV} {c : Chg} {hp' : Hp} {nb' : Nat} {T : List AV} {h : List Blk} (r : Rel n g hp nb T h)
    (h3 : runOp P pure F G T h o.op = some (v, c)) (h4 : hf (c.st h) = hp') (h5 : (c.st h).length = nb')
    (hd : ∀ d, o.dst = some d → d < n) (h2 : RO P pure F G n ops rest (putF g o.dst v) hp' nb' Q) :
    ∃ T' h' g' hp' nb', runOps P pure F G ops (o :: rest) (T, h) = some (T', h') ∧ Rel n g' hp' nb' T' h' ∧ Q g' hp' nb' := by
  have hst : stepOp P pure F G ops o (T, h) = some (v, c) := by
    unfold stepOp
    rw [rel_want r, hw]
    exact h3
  have hr : Rel n (putF g o.dst v) hp' nb' (putA T o.dst v) (c.st h) := by
    unfold putF putA
    cases hdd : o.dst with
    | none => exact ⟨r.len, r.get, h4, h5⟩
    | some d => exact rel_put r (hd d hdd) v h4 h5
  obtain ⟨T', h', g', hp1, nb1, e1, e2, e3⟩ := h2 _ _ hr
  refine ⟨T', h', g', hp1, nb1, ?_, e2, e3⟩
  rw [runOps_cons, hst]
  exact e1
theorem ro_step {o : Oper} (hw : wantF ops g o = some true) {v : AV} {hp' : Hp} {nb' : Nat}
    (hs : ∀ T h, Rel n g hp nb T h → ∃ c, runOp P pure F G T h o.op = some (v, c) ∧ hf (c.st h) = hp' ∧ (c.st h).length = nb')
    (hd : ∀ d, o.dst = some d → d < n) (h2 : RO P pure F G n ops rest (putF g o.dst v) hp' nb' Q) : RO P pure F G n ops (o :: rest) g hp nb Q := by
  intro T h r
  obtain ⟨c, h3, h4, h5⟩ := hs T h r
  exact ro_one hw r h3 h4 h5 hd h2
theorem ro_val {d : Nat} {op : Op} {ty : TypeId} {pos : String} {aft : Array Edge} {v : AV} (hc : calleeA (evalF g) op = none) (hv : primA P (evalF g) hp nb op = some (.val v)) (hd : d < n)
    (h2 : RO P pure F G n ops rest (upd g d v) hp nb Q) : RO P pure F G n ops ({ dst := some d, op := op, type := ty, pos := pos, after := aft, guard := none } :: rest) g hp nb Q := by
  refine ro_step (v := v) (hp' := hp) (nb' := nb) rfl (fun T h r => ⟨.no, ?_, r.hp, r.nb⟩) (fun e he => by cases he; exact hd) h2
  unfold runOp
  rw [rel_eval r]
  simp only [hc]
  rw [r.hp, r.nb, hv]
  rfl
theorem ro_upd {d : Option Nat} {op : Op} {ty : TypeId} {pos : String} {aft : Array Edge} {v : AV} {id : Nat} {b : Blk} (hc : calleeA (evalF g) op = none) (hv : primA P (evalF g) hp nb op = some (.upd v id b)) (hl : (hp id).live = true) (hd : ∀ e, d = some e → e < n)
    (h2 : RO P pure F G n ops rest (putF g d v) (setHp hp id b) nb Q) : RO P pure F G n ops ({ dst := d, op := op, type := ty, pos := pos, after := aft, guard := none } :: rest) g hp nb Q := by
  refine ro_step (v := v) (hp' := setHp hp id b) (nb' := nb) rfl (fun T h r => ⟨.one id b, ?_, ?_, ?_⟩) hd h2
  · unfold runOp
    rw [rel_eval r]
    simp only [hc]
    rw [r.hp, r.nb, hv]
    rfl
  · show hf (setL h id b) = _
    rw [setL_hf0, r.hp]
  · show (setL h id b).length = _
    have : id < h.length := hf_lt (by rw [r.hp]; exact hl)
    rw [setL_length, ← r.nb]; omega
theorem ro_new {d : Nat} {op : Op} {ty : TypeId} {pos : String} {aft : Array Edge} {v : AV} {b : Blk} (hc : calleeA (evalF g) op = none) (hv : primA P (evalF g) hp nb op = some (.new v b)) (hd : d < n)
    (h2 : RO P pure F G n ops rest (upd g d v) (setHp hp nb b) (nb + 1) Q) : RO P pure F G n ops ({ dst := some d, op := op, type := ty, pos := pos, after := aft, guard := none } :: rest) g hp nb Q := by
  refine ro_step (v := v) (hp' := setHp hp nb b) (nb' := nb + 1) rfl (fun T h r => ⟨.one nb b, ?_, ?_, ?_⟩) (fun e he => by cases he; exact hd) h2
  · unfold runOp
    rw [rel_eval r]
    simp only [hc]
    rw [r.hp, r.nb, hv]
    rfl
  · show hf (setL h nb b) = _
    rw [setL_hf0, r.hp]
  · show (setL h nb b).length = _
    rw [setL_length, r.nb]; omega
theorem ro_move {d : Nat} {x : Operand} {ty : TypeId} {pos : String} {aft : Array Edge} {v : AV} (hv : evalF g x = v) (hd : d < n)
    (h2 : RO P pure F G n ops rest (upd g d v) hp nb Q) : RO P pure F G n ops ({ dst := some d, op := .move x, type := ty, pos := pos, after := aft, guard := none } :: rest) g hp nb Q :=
  ro_val rfl (by simp only [primA]; rw [hv]) hd h2
theorem ro_assign {d : Nat} {x : Operand} {ty : TypeId} {pos : String} {aft : Array Edge} {v : AV} (hv : evalF g x = v) (hd : d < n)
    (h2 : RO P pure F G n ops rest (upd g d v) hp nb Q) : RO P pure F G n ops ({ dst := some d, op := .assign x, type := ty, pos := pos, after := aft, guard := none } :: rest) g hp nb Q :=
  ro_val rfl (by simp only [primA]; rw [hv]) hd h2
theorem ro_pick {d : Nat} {c x y : Operand} {ty : TypeId} {pos : String} {aft : Array Edge} {b : Bool} {vx vy : AV} (hc : evalF g c = .pv (.bool b)) (hx : evalF g x = vx) (hy : evalF g y = vy) (hd : d < n)
    (h2 : RO P pure F G n ops rest (upd g d (if b then vx else vy)) hp nb Q) : RO P pure F G n ops ({ dst := some d, op := .pick c x y, type := ty, pos := pos, after := aft, guard := none } :: rest) g hp nb Q := by
  refine ro_val rfl ?_ hd h2
  simp only [primA]
  rw [hc]
  cases b
  · simp only [hy]; rfl
  · simp only [hx]; rfl
theorem ro_nilCheck {d : Nat} {x : Operand} {ty : TypeId} {pos : String} {aft : Array Edge} {id ver off : Nat} (hv : evalF g x = .ptr id ver off) (hd : d < n)
    (h2 : RO P pure F G n ops rest (upd g d (.ptr id ver off)) hp nb Q) : RO P pure F G n ops ({ dst := some d, op := .nilCheck x, type := ty, pos := pos, after := aft, guard := none } :: rest) g hp nb Q :=
  ro_val rfl (by simp only [primA]; rw [hv]) hd h2
theorem ro_fieldAddr {d f : Nat} {s : TypeId} {x : Operand} {ty : TypeId} {pos : String} {aft : Array Edge} {a v : AV} (hx : evalF g x = a) (hv : fieldAddrA P s a f = some v) (hd : d < n)
    (h2 : RO P pure F G n ops rest (upd g d v) hp nb Q) : RO P pure F G n ops ({ dst := some d, op := .fieldAddr s x f, type := ty, pos := pos, after := aft, guard := none } :: rest) g hp nb Q :=
  ro_val rfl (by simp only [primA]; rw [hx, hv]; rfl) hd h2
theorem ro_indexAddr {d : Nat} {t : TypeId} {x ix : Operand} {ty : TypeId} {pos : String} {aft : Array Edge} {a i v : AV} (hx : evalF g x = a) (hi : evalF g ix = i) (hv : indexAddrA P t a i = some v) (hd : d < n)
    (h2 : RO P pure F G n ops rest (upd g d v) hp nb Q) : RO P pure F G n ops ({ dst := some d, op := .indexAddr t x ix, type := ty, pos := pos, after := aft, guard := none } :: rest) g hp nb Q :=
  ro_val rfl (by simp only [primA]; rw [hx, hi, hv]; rfl) hd h2
theorem ro_load {d : Nat} {t : TypeId} {x : Operand} {ty : TypeId} {pos : String} {aft : Array Edge} {a v : AV} (hx : evalF g x = a) (hv : loadA P hp t a = some v) (hd : d < n)
    (h2 : RO P pure F G n ops rest (upd g d v) hp nb Q) : RO P pure F G n ops ({ dst := some d, op := .load t x, type := ty, pos := pos, after := aft, guard := none } :: rest) g hp nb Q :=
  ro_val rfl (by simp only [primA]; rw [hx, hv]; rfl) hd h2
theorem ro_store {t : TypeId} {x y : Operand} {ty : TypeId} {pos : String} {aft : Array Edge} {a v : AV} {id : Nat} {b : Blk} (hx : evalF g x = a) (hy : evalF g y = v) (hv : storeA P hp t a v = some (.upd undefA id b))
    (h2 : RO P pure F G n ops rest g (setHp hp id b) nb Q) : RO P pure F G n ops ({ dst := none, op := .store t x y, type := ty, pos := pos, after := aft, guard := none } :: rest) g hp nb Q := by
  have hl : (hp id).live = true := by
    have hv' := hv
    unfold storeA at hv'
    split at hv'
    · rename_i id' ver off
      simp only [Option.bind_eq_some_iff] at hv'
      obtain ⟨cs, h1, h2⟩ := hv'
      split at h2
      · simp only [Option.some.injEq, Eff.upd.injEq] at h2
        obtain ⟨_, rfl, _⟩ := h2
        exact look_live h1
      · simp at h2
    · simp at hv'
  exact ro_upd (d := none) rfl (by simp only [primA]; rw [hx, hy, hv]) hl (fun e he => by cases he) h2
theorem ro_bin {d : Nat} {op : BinOp} {t t2 : TypeId} {x y : Operand} {ty : TypeId} {pos : String} {aft : Array Edge} {a b v : AV} (hx : evalF g x = a) (hy : evalF g y = b) (hv : binOpA P op t a b = some v) (hd : d < n)
    (h2 : RO P pure F G n ops rest (upd g d v) hp nb Q) : RO P pure F G n ops ({ dst := some d, op := .binOp op t x y t2, type := ty, pos := pos, after := aft, guard := none } :: rest) g hp nb Q :=
  ro_val rfl (by simp only [primA]; rw [hx, hy, hv]; rfl) hd h2
theorem ro_un {d : Nat} {op : UnOp} {t : TypeId} {x : Operand} {ty : TypeId} {pos : String} {aft : Array Edge} {a v : AV} (hx : evalF g x = a) (hv : unOpA op a = some v) (hd : d < n)
    (h2 : RO P pure F G n ops rest (upd g d v) hp nb Q) : RO P pure F G n ops ({ dst := some d, op := .unOp op t x, type := ty, pos := pos, after := aft, guard := none } :: rest) g hp nb Q :=
  ro_val rfl (by simp only [primA]; rw [hx, hv]; rfl) hd h2
theorem ro_conv {d : Nat} {s t : TypeId} {x : Operand} {ty : TypeId} {pos : String} {aft : Array Edge} {a v : AV} (hx : evalF g x = a) (hv : convertA P hp nb s t a = some (.val v)) (hd : d < n)
    (h2 : RO P pure F G n ops rest (upd g d v) hp nb Q) : RO P pure F G n ops ({ dst := some d, op := .convert s t x, type := ty, pos := pos, after := aft, guard := none } :: rest) g hp nb Q :=
  ro_val rfl (by simp only [primA]; rw [hx, hv]) hd h2
theorem ro_slice {d : Nat} {t : TypeId} {x : Operand} {lo hi mx : Option Operand} {ty : TypeId} {pos : String} {aft : Array Edge} {a v : AV} {l1 l2 l3 : Option AV} (hx : evalF g x = a)
    (e1 : lo.map (evalF g) = l1) (e2 : hi.map (evalF g) = l2) (e3 : mx.map (evalF g) = l3) (hv : sliceOpA P t a l1 l2 l3 = some v) (hd : d < n)
    (h2 : RO P pure F G n ops rest (upd g d v) hp nb Q) : RO P pure F G n ops ({ dst := some d, op := .slice t x lo hi mx, type := ty, pos := pos, after := aft, guard := none } :: rest) g hp nb Q :=
  ro_val rfl (by simp only [primA]; rw [hx, e1, e2, e3, hv]; rfl) hd h2
theorem ro_extract {d i : Nat} {x : Operand} {ty : TypeId} {pos : String} {aft : Array Edge} {vs : List AV} {v : AV} (hx : evalF g x = .tuple vs) (hv : vs[i]? = some v) (hd : d < n)
    (h2 : RO P pure F G n ops rest (upd g d v) hp nb Q) : RO P pure F G n ops ({ dst := some d, op := .extract x i, type := ty, pos := pos, after := aft, guard := none } :: rest) g hp nb Q :=
  ro_val rfl (by simp only [primA]; rw [hx]; simp only [hv]; rfl) hd h2
theorem ro_build {d : Nat} {t : TypeId} {parts : Array (Nat × Operand)} {ty : TypeId} {pos : String} {aft : Array Edge} {ps : List (Nat × AV)} {v : AV} (hx : (parts.toList.map fun (i, x) => (i, evalF g x)) = ps) (hv : buildA P t ps = some v) (hd : d < n)
    (h2 : RO P pure F G n ops rest (upd g d v) hp nb Q) : RO P pure F G n ops ({ dst := some d, op := .build t parts, type := ty, pos := pos, after := aft, guard := none } :: rest) g hp nb Q :=
  ro_val rfl (by simp only [primA]; rw [hx, hv]; rfl) hd h2
theorem ro_alloc {d : Nat} {t : TypeId} {ty : TypeId} {pos : String} {aft : Array Edge} {z : List AV} (hz : zeroA P t = some z) (ho : okZero z = true) (hd : d < n)
    (h2 : RO P pure F G n ops rest (upd g d (.ptr nb 1 0)) (setHp hp nb (.cells 1 z)) (nb + 1) Q) : RO P pure F G n ops ({ dst := some d, op := .alloc t, type := ty, pos := pos, after := aft, guard := none } :: rest) g hp nb Q :=
  ro_new rfl (by simp only [primA]; rw [hz]; simp only [Option.bind_some, ho, if_true]; rfl) hd h2
theorem ro_box {d : Nat} {t : TypeId} {x : Operand} {ty : TypeId} {pos : String} {aft : Array Edge} {v : AV} (hx : evalF g x = v) (ho : v.cells.all AV.isCell = true) (hd : d < n)
    (h2 : RO P pure F G n ops rest (upd g d (.ptr nb 1 0)) (setHp hp nb (.cells 1 v.cells)) (nb + 1) Q) : RO P pure F G n ops ({ dst := some d, op := .box t x, type := ty, pos := pos, after := aft, guard := none } :: rest) g hp nb Q :=
  ro_new rfl (by simp only [primA]; rw [hx, ho]; rfl) hd h2
theorem ro_buildSlice {d : Nat} {t : TypeId} {len : Nat} {parts : Array (Nat × Operand)} {ty : TypeId} {pos : String} {aft : Array Edge} {ps : List (Nat × AV)} {v : AV} {b : Blk} (hx : (parts.toList.map fun (i, x) => (i, evalF g x)) = ps)
    (hv : buildSliceA P nb t len ps = some (.new v b)) (hd : d < n)
    (h2 : RO P pure F G n ops rest (upd g d v) (setHp hp nb b) (nb + 1) Q) : RO P pure F G n ops ({ dst := some d, op := .buildSlice t len parts, type := ty, pos := pos, after := aft, guard := none } :: rest) g hp nb Q :=
  ro_new rfl (by simp only [primA]; rw [hx, hv]) hd h2
theorem ro_builtin {d : Nat} {c : Call} {ty : TypeId} {pos : String} {aft : Array Edge} {b : Builtin} {as : List AV} {v : AV} (hb : c.callee = .builtin b) (hx : c.args.toList.map (evalF g) = as) (hv : builtinA P hp nb b c.argTypes as = some (.val v)) (hd : d < n)
    (h2 : RO P pure F G n ops rest (upd g d v) hp nb Q) : RO P pure F G n ops ({ dst := some d, op := .call c, type := ty, pos := pos, after := aft, guard := none } :: rest) g hp nb Q := by
  obtain ⟨callee, args, argTypes⟩ := c
  simp only at hb
  subst hb
  exact ro_val rfl (by simp only [primA]; rw [hx, hv]) hd h2
theorem ro_builtin_new {d : Nat} {c : Call} {ty : TypeId} {pos : String} {aft : Array Edge} {b : Builtin} {as : List AV} {v : AV} {bl : Blk} (hb : c.callee = .builtin b) (hx : c.args.toList.map (evalF g) = as) (hv : builtinA P hp nb b c.argTypes as = some (.new v bl)) (hd : d < n)
    (h2 : RO P pure F G n ops rest (upd g d v) (setHp hp nb bl) (nb + 1) Q) : RO P pure F G n ops ({ dst := some d, op := .call c, type := ty, pos := pos, after := aft, guard := none } :: rest) g hp nb Q := by
  obtain ⟨callee, args, argTypes⟩ := c
  simp only at hb
  subst hb
  exact ro_new rfl (by simp only [primA]; rw [hx, hv]) hd h2
theorem ro_builtin_upd {d : Nat} {c : Call} {ty : TypeId} {pos : String} {aft : Array Edge} {b : Builtin} {as : List AV} {v : AV} {id : Nat} {bl : Blk} (hb : c.callee = .builtin b) (hx : c.args.toList.map (evalF g) = as) (hv : builtinA P hp nb b c.argTypes as = some (.upd v id bl)) (hl : (hp id).live = true) (hd : d < n)
    (h2 : RO P pure F G n ops rest (upd g d v) (setHp hp id bl) nb Q) : RO P pure F G n ops ({ dst := some d, op := .call c, type := ty, pos := pos, after := aft, guard := none } :: rest) g hp nb Q := by
  obtain ⟨callee, args, argTypes⟩ := c
  simp only at hb
  subst hb
  exact ro_upd (d := some d) rfl (by simp only [primA]; rw [hx, hv]) hl (fun e he => by cases he; exact hd) h2
/-- A call of a function that is called by value. -/
theorem ro_pure {d f : Nat} {c : Call} {ty : TypeId} {pos : String} {aft : Array Edge} {as : List AV} {v : AV} (hb : c.callee = .value (.func f)) (hx : c.args.toList.map (evalF g) = as) (hp0 : pure f = true) (hv : G hp f as = some v) (hd : d < n)
    (h2 : RO P pure F G n ops rest (upd g d v) hp nb Q) : RO P pure F G n ops ({ dst := some d, op := .call c, type := ty, pos := pos, after := aft, guard := none } :: rest) g hp nb Q := by
  obtain ⟨callee, args, argTypes⟩ := c
  simp only at hb
  subst hb
  refine ro_step (v := v) (hp' := hp) (nb' := nb) rfl (fun T h r => ⟨.no, ?_, r.hp, r.nb⟩) (fun e he => by cases he; exact hd) h2
  unfold runOp
  rw [rel_eval r]
  have hcal : calleeA (evalF g) (.call { callee := .value (.func f), args := args, argTypes := argTypes }) = some (f, as) := by
    rw [← hx]; rfl
  simp only [hcal]
  rw [if_pos hp0, r.hp, hv]
  rfl
/-- What a call does. -/
def CA (F : CallF) (f : Nat) (args : List AV) (hp : Hp) (nb : Nat) (Qc : AV → Hp → Nat → Prop) : Prop :=
  ∀ h, hf h = hp → h.length = nb → ∃ v h', F f args h = some (v, h') ∧ Qc v (hf h') h'.length
theorem ro_call {d f : Nat} {c : Call} {ty : TypeId} {pos : String} {aft : Array Edge} {as : List AV} {Qc : AV → Hp → Nat → Prop} (hb : c.callee = .value (.func f)) (hx : c.args.toList.map (evalF g) = as) (hp0 : pure f = false) (hpl : as.all plainV = false) (hv : CA F f as hp nb Qc) (hd : d < n)
    (h2 : ∀ v hp' nb', Qc v hp' nb' → RO P pure F G n ops rest (upd g d v) hp' nb' Q) : RO P pure F G n ops ({ dst := some d, op := .call c, type := ty, pos := pos, after := aft, guard := none } :: rest) g hp nb Q := by
  obtain ⟨callee, args, argTypes⟩ := c
  simp only at hb
  subst hb
  intro T h r
  obtain ⟨v, h', e1, e2⟩ := hv h r.hp r.nb
  refine ro_one (v := v) (c := .all h h') (hp' := hf h') (nb' := h'.length) rfl r ?_ rfl rfl (fun e he => by cases he; exact hd) (h2 v _ _ e2)
  unfold runOp
  rw [rel_eval r]
  have hcal : calleeA (evalF g) (.call { callee := .value (.func f), args := args, argTypes := argTypes }) = some (f, as) := by
    rw [← hx]; rfl
  simp only [hcal]
  rw [if_neg (by simp [hp0]), if_neg (by simp [hpl]), e1]
  rfl
/-- An operation behind a guard that is not wanted. -/
theorem ro_skip {j : Nat} {want b : Bool} {dst : Option Nat} {op : Op} {ty : TypeId} {pos : String} {aft : Array Edge} {e : Nat} (he : (ops[j]?).bind (·.dst) = some e) (hg : g e = .pv (.bool b)) (hb : (b == want) = false) (hd : ∀ d, dst = some d → d < n)
    (h2 : RO P pure F G n ops rest (putF g dst undefA) hp nb Q) : RO P pure F G n ops ({ dst := dst, op := op, type := ty, pos := pos, after := aft, guard := some (j, want) } :: rest) g hp nb Q := by
  intro T h r
  have hst : stepOp P pure F G ops { dst := dst, op := op, type := ty, pos := pos, after := aft, guard := some (j, want) } (T, h) = some (undefA, .no) := by
    unfold stepOp
    rw [rel_want r]
    unfold wantF
    simp only [he, hg, hb]
  have hr : Rel n (putF g dst undefA) hp nb (putA T dst undefA) h := by
    unfold putF putA
    cases hdd : dst with
    | none => exact ⟨r.len, r.get, r.hp, r.nb⟩
    | some d => exact rel_put r (hd d hdd) undefA r.hp r.nb
  obtain ⟨T', h', g', hp1, nb1, e1, e2, e3⟩ := h2 _ _ hr
  refine ⟨T', h', g', hp1, nb1, ?_, e2, e3⟩
  rw [runOps_cons, hst]
  exact e1
/-- An operation behind a guard that is wanted goes as one without. -/
theorem ro_guard {j : Nat} {want b : Bool} {dst : Option Nat} {op : Op} {ty : TypeId} {pos : String} {aft : Array Edge} {e : Nat} (he : (ops[j]?).bind (·.dst) = some e) (hg : g e = .pv (.bool b)) (hb : (b == want) = true)
    (h2 : RO P pure F G n ops ({ dst := dst, op := op, type := ty, pos := pos, after := aft, guard := none } :: rest) g hp nb Q) : RO P pure F G n ops ({ dst := dst, op := op, type := ty, pos := pos, after := aft, guard := some (j, want) } :: rest) g hp nb Q := by
  intro T h r
  obtain ⟨T', h', g', hp1, nb1, e1, e2, e3⟩ := h2 T h r
  refine ⟨T', h', g', hp1, nb1, ?_, e2, e3⟩
  rw [← e1, runOps_cons, runOps_cons]
  have h3 : wantA ops T { dst := dst, op := op, type := ty, pos := pos, after := aft, guard := some (j, want) } = some true := by
    rw [rel_want r]
    unfold wantF
    simp only [he, hg, hb]
  have h4 : wantA ops T { dst := dst, op := op, type := ty, pos := pos, after := aft, guard := none } = some true := rfl
  unfold stepOp
  rw [h3, h4]
  rfl
/-- Code leads to what is asked. -/
def EX (P : Program) (pure : Nat → Bool) (F : CallF) (G : CallG) (lim n : Nat) (c : Code) (g : Gm) (hp : Hp) (nb : Nat) (Q : XA → Gm → Hp → Nat → Prop) : Prop :=
  ∀ T h, Rel n g hp nb T h → ∃ x T' h' g' hp' nb', execC P pure F G lim c (T, h) = some (x, (T', h')) ∧ Rel n g' hp' nb' T' h' ∧ Q x g' hp' nb'
variable {K : XA → Gm → Hp → Nat → Prop}
theorem ex_skip (h : K .normal g hp nb) : EX P pure F G lim n .skip g hp nb K := fun T l r => ⟨.normal, T, l, g, hp, nb, rfl, r, h⟩
theorem ex_ret (h : K .ret g hp nb) : EX P pure F G lim n .ret g hp nb K := fun T l r => ⟨.ret, T, l, g, hp, nb, rfl, r, h⟩
theorem ex_exit {i : Nat} (h : K (.exit i) g hp nb) : EX P pure F G lim n (.exit i) g hp nb K := fun T l r => ⟨.exit i, T, l, g, hp, nb, rfl, r, h⟩
theorem ex_region {i : Nat} {a : Array Oper} (h : RO P pure F G n a.toList a.toList g hp nb (K .normal)) : EX P pure F G lim n (.region i a false) g hp nb K := by
  intro T l r
  obtain ⟨T', h', g', hp1, nb1, e1, e2, e3⟩ := h T l r
  refine ⟨.normal, T', h', g', hp1, nb1, ?_, e2, e3⟩
  rw [execC]
  simp [e1]
theorem ex_seq {a b : Code} (h : EX P pure F G lim n a g hp nb fun x g' hp' nb' => match x with
    | .normal => EX P pure F G lim n b g' hp' nb' K
    | x => K x g' hp' nb') : EX P pure F G lim n (.seq a b) g hp nb K := by
  intro T l r
  obtain ⟨x, T', h', g', hp1, nb1, e1, e2, e3⟩ := h T l r
  cases x with
  | normal =>
    obtain ⟨x2, T2, h2, g2, hp2, nb2, f1, f2, f3⟩ := e3 _ _ e2
    refine ⟨x2, T2, h2, g2, hp2, nb2, ?_, f2, f3⟩
    rw [execC, e1]
    exact f1
  | exit j => exact ⟨.exit j, T', h', g', hp1, nb1, by rw [execC, e1], e2, e3⟩
  | ret => exact ⟨.ret, T', h', g', hp1, nb1, by rw [execC, e1], e2, e3⟩
theorem ex_cond {c : Operand} {a b : Code} {t : Bool} (hc : evalF g c = .pv (.bool t)) (ha : t = true → EX P pure F G lim n a g hp nb K) (hb : t = false → EX P pure F G lim n b g hp nb K) :
    EX P pure F G lim n (.cond c a b) g hp nb K := by
  intro T l r
  have he : evalA T c = .pv (.bool t) := by rw [rel_eval r]; exact hc
  cases t with
  | true =>
    obtain ⟨x, T', h', g', hp1, nb1, e1, e2, e3⟩ := ha rfl T l r
    refine ⟨x, T', h', g', hp1, nb1, ?_, e2, e3⟩
    rw [execC]; simp only [he]; exact e1
  | false =>
    obtain ⟨x, T', h', g', hp1, nb1, e1, e2, e3⟩ := hb rfl T l r
    refine ⟨x, T', h', g', hp1, nb1, ?_, e2, e3⟩
    rw [execC]; simp only [he]; exact e1
theorem ex_block {i : Nat} {b : Code} (h : EX P pure F G lim n b g hp nb fun x g' hp' nb' => match x with
    | .exit j => if j = i then K .normal g' hp' nb' else K (.exit j) g' hp' nb'
    | x => K x g' hp' nb') : EX P pure F G lim n (.block i b) g hp nb K := by
  intro T l r
  obtain ⟨x, T', h', g', hp1, nb1, e1, e2, e3⟩ := h T l r
  cases x with
  | exit j =>
    by_cases hj : j = i
    · simp only [hj, if_true] at e3
      exact ⟨.normal, T', h', g', hp1, nb1, by rw [execC, e1]; simp [hj], e2, e3⟩
    · simp only [hj, if_false] at e3
      exact ⟨.exit j, T', h', g', hp1, nb1, by rw [execC, e1]; simp [hj], e2, e3⟩
  | normal => exact ⟨.normal, T', h', g', hp1, nb1, by rw [execC, e1], e2, e3⟩
  | ret => exact ⟨.ret, T', h', g', hp1, nb1, by rw [execC, e1], e2, e3⟩
/-- A loop: 'I' holds at its head, and the number falls. -/
theorem ex_loop {b : Code} (I : Nat → Gm → Hp → Nat → Prop) {m : Nat} (h0 : I m g hp nb) (hm : m < lim)
    (hb : ∀ m g hp nb, I m g hp nb → EX P pure F G lim n b g hp nb fun x g' hp' nb' => match x with
      | .normal => ∃ m', m' < m ∧ I m' g' hp' nb'
      | x => K x g' hp' nb') : EX P pure F G lim n (.loop b) g hp nb K := by
  have key : ∀ (fuel m : Nat), m < fuel → ∀ (g : Gm) (hp : Hp) (nb : Nat), I m g hp nb → ∀ T h, Rel n g hp nb T h →
      ∃ x T' h' g' hp' nb', loopN (execC P pure F G lim b) fuel (T, h) = some (x, (T', h')) ∧ Rel n g' hp' nb' T' h' ∧ K x g' hp' nb' := by
    intro fuel
    induction fuel with
    | zero => intro m hm; omega
    | succ fuel ih =>
      intro m hm g hp nb hI T l r
      obtain ⟨x, T', h', g', hp1, nb1, e1, e2, e3⟩ := hb m g hp nb hI T l r
      cases x with
      | normal =>
        obtain ⟨m', hm', hI'⟩ := e3
        obtain ⟨x2, T2, h2, g2, hp2, nb2, f1, f2, f3⟩ := ih m' (by omega) g' hp1 nb1 hI' T' h' e2
        exact ⟨x2, T2, h2, g2, hp2, nb2, by rw [loopN, e1]; exact f1, f2, f3⟩
      | exit j => exact ⟨.exit j, T', h', g', hp1, nb1, by rw [loopN, e1], e2, e3⟩
      | ret => exact ⟨.ret, T', h', g', hp1, nb1, by rw [loopN, e1], e2, e3⟩
  intro T l r
  obtain ⟨x, T', h', g', hp1, nb1, e1, e2, e3⟩ := key lim m hm g hp nb h0 T l r
  exact ⟨x, T', h', g', hp1, nb1, by rw [execC]; exact e1, e2, e3⟩
theorem ex_weaken {c : Code} {K' : XA → Gm → Hp → Nat → Prop} (h : EX P pure F G lim n c g hp nb K) (hq : ∀ x g hp nb, K x g hp nb → K' x g hp nb) : EX P pure F G lim n c g hp nb K' := by
  intro T l r
  obtain ⟨x, T', h', g', hp1, nb1, e1, e2, e3⟩ := h T l r
  exact ⟨x, T', h', g', hp1, nb1, e1, e2, hq _ _ _ _ e3⟩
/-- A case of a switch that is not met. -/
theorem ex_test_f {i t x1 x2 : Nat} {k x : Int} {ty1 ty2 : TypeId} {p1 p2 : String} {f1 f2 : Array Edge} {a b : Code} (hk : evalF g (.tmp t) = .pv (.int .i64 k)) (hne : k ≠ x) (h1 : x1 < n) (h2 : x2 < n)
    (h : EX P pure F G lim n b (upd (upd g x1 (.pv (.bool false))) x2 (.pv (.bool false))) hp nb K) :
    EX P pure F G lim n (.seq (.region i #[{ dst := some x1, op := .binOp .eql 3 (.tmp t) (.const (.int .i64 x)) 3, type := ty1, pos := p1, after := f1, guard := none }, { dst := some x2, op := .assign (.tmp x1), type := ty2, pos := p2, after := f2, guard := none }] false) (.cond (.tmp x2) a b)) g hp nb K := by
  refine ex_seq (ex_region ?_)
  refine ro_bin hk rfl (v := .pv (.bool false)) (by show some (AV.pv (.bool (k == x))) = _; rw [beq_eq_false_iff_ne.2 hne]) h1 ?_
  refine ro_assign (v := .pv (.bool false)) (upd_same _ _ _) h2 ?_
  refine ro_nil ?_
  exact ex_cond (t := false) (upd_same _ _ _) (fun h => by simp at h) (fun _ => h)
/-- A case of a switch that is met. -/
theorem ex_test_t {i t x1 x2 : Nat} {k x : Int} {ty1 ty2 : TypeId} {p1 p2 : String} {f1 f2 : Array Edge} {a b : Code} (hk : evalF g (.tmp t) = .pv (.int .i64 k)) (he : k = x) (h1 : x1 < n) (h2 : x2 < n)
    (h : EX P pure F G lim n a (upd (upd g x1 (.pv (.bool true))) x2 (.pv (.bool true))) hp nb K) :
    EX P pure F G lim n (.seq (.region i #[{ dst := some x1, op := .binOp .eql 3 (.tmp t) (.const (.int .i64 x)) 3, type := ty1, pos := p1, after := f1, guard := none }, { dst := some x2, op := .assign (.tmp x1), type := ty2, pos := p2, after := f2, guard := none }] false) (.cond (.tmp x2) a b)) g hp nb K := by
  refine ex_seq (ex_region ?_)
  refine ro_bin hk rfl (v := .pv (.bool true)) (by show some (AV.pv (.bool (k == x))) = _; rw [beq_iff_eq.2 he]) h1 ?_
  refine ro_assign (v := .pv (.bool true)) (upd_same _ _ _) h2 ?_
  refine ro_nil ?_
  exact ex_cond (t := true) (upd_same _ _ _) (fun _ => h) (fun h => by simp at h)
def resOneF (P : Program) (g : Gm) (hp : Hp) : ResultVar → Option AV
  | .tmp t => some (g t)
  | .cell a t => loadA P hp t (g a)
def resF (P : Program) (fn : Func) (g : Gm) (hp : Hp) : Option AV :=
  match fn.results.toList with
  | [r] => resOneF P g hp r
  | rs => (rs.mapM (resOneF P g hp)).map .tuple
def argsF (args : List AV) : Gm := fun i => args.getD i undefA
theorem arg0 (x : AV) (l : List AV) : argsF (x :: l) 0 = x := rfl
theorem argS (x : AV) (l : List AV) (n : Nat) : argsF (x :: l) (n + 1) = argsF l n := rfl
theorem rel_args {args : List AV} (ha : args.length ≤ n) {h : List Blk} : Rel n (argsF args) (hf h) h.length (args ++ List.replicate (n - args.length) undefA) h := by
  refine ⟨by simp; omega, fun i => ?_, rfl, rfl⟩
  unfold argsF
  simp only [List.getD_eq_getElem?_getD]
  by_cases hi : i < args.length
  · rw [List.getElem?_append_left hi]
  · rw [List.getElem?_append_right (by omega), List.getElem?_eq_none (l := args) (by omega), List.getElem?_replicate]
    split <;> rfl
theorem ca_body {S : CallG} {d f : Nat} {fn : Func} {c : Code} {args : List AV} {Qc : AV → Hp → Nat → Prop} (hfn : P.funcs[f]? = some fn) (hb : fn.body = some c) (ha : args.length ≤ fn.ntmps)
    (h : EX P pure (callA P S pure lim d) (orS S (pureOf (callA P S pure lim d))) lim fn.ntmps c (argsF args) hp nb fun x g' hp' nb' => match x with
      | .exit _ => False
      | _ => ∃ v, resF P fn g' hp' = some v ∧ Qc v hp' nb') : CA (callA P S pure lim (d + 1)) f args hp nb Qc := by
  intro l h1 h2
  subst h1; subst h2
  obtain ⟨x, T', h', g', hp1, nb1, e1, e2, e3⟩ := h _ _ (rel_args (h := l) ha)
  have hres : ∀ v, resF P fn g' hp1 = some v → resA P fn T' (hf h') = some v := by
    intro v hv
    have e : resOneF P g' hp1 = resOne P T' (hf h') := by
      funext r
      cases r with
      | tmp t => exact congrArg some (e2.get t).symm
      | cell a t => simp only [resOneF, resOne, e2.hp, e2.get a]
    unfold resF at hv
    unfold resA
    rw [e] at hv
    cases hl : fn.results.toList with
    | nil => rw [hl] at hv; exact hv
    | cons a r => cases r <;> (rw [hl] at hv; exact hv)
  have hcall : ∀ v, resF P fn g' hp1 = some v → (x = .normal ∨ x = .ret) → callA P S pure lim (d + 1) f args l = some (v, h') := by
    intro v hv hx
    show bodyA _ _ _ _ _ _ _ _ = _
    unfold bodyA
    simp only [hfn, hb, e1]
    rcases hx with rfl | rfl <;> simp only [hres v hv] <;> rfl
  cases x with
  | normal =>
    obtain ⟨v, hv, hq⟩ := e3
    exact ⟨v, h', hcall v hv (.inl rfl), by rw [e2.hp, e2.nb]; exact hq⟩
  | exit j => exact e3.elim
  | ret =>
    obtain ⟨v, hv, hq⟩ := e3
    exact ⟨v, h', hcall v hv (.inr rfl), by rw [e2.hp, e2.nb]; exact hq⟩
/-- A function that is called by value. -/
theorem pure_of_ca {S : CallG} {d f : Nat} {args : List AV} {r : AV} {Qc : AV → Hp → Nat → Prop} (hpl : args.all plainV = true) (h : CA (callA P S pure lim d) f args (hf []) 0 Qc)
    (hq : ∀ v hp' nb', Qc v hp' nb' → freezeR hp' v = some r) (hp : Hp) : pureOf (callA P S pure lim d) hp f args = some r := by
  obtain ⟨v, h', e1, e2⟩ := h [] rfl rfl
  unfold pureOf
  rw [if_pos hpl, e1]
  exact hq v _ _ e2
def footF (ops : List Oper) (dst : Option Nat) (op : Op) (g : Gm) (c : Chg) (o : Oper) : Foot :=
  { dst := dst, tmps := opTmps ops o, reads := (if looksIn op then op.operands.toList.flatMap fun x => idOf (evalF g x) else []), chg := c }
def RD (P : Program) (pure : Nat → Bool) (F : CallF) (G : CallG) (n : Nat) (ops rest : List Oper) (g : Gm) (hp : Hp) (nb : Nat) (Q : List Foot → Gm → Hp → Nat → Prop) : Prop :=
  ∀ T h, Rel n g hp nb T h → ∃ fs T' h' g' hp' nb', traceD P pure F G ops rest (T, h) = some (fs, (T', h')) ∧ Rel n g' hp' nb' T' h' ∧ Q fs g' hp' nb'
variable {W : List Foot → Gm → Hp → Nat → Prop}
theorem rd_nil (hQ : W [] g hp nb) : RD P pure F G n ops [] g hp nb W := fun T h r => ⟨[], T, h, g, hp, nb, rfl, r, hQ⟩
theorem rd_one {dst : Option Nat} {op : Op} {ty : TypeId} {pos : String} {aft : Array Edge} {v : AV} {c : Chg} {hp' : Hp} {nb' : Nat} {T : List AV} {h : List Blk} (r : Rel n g hp nb T h)
    (h3 : runOp P pure F G T h op = some (v, c)) (h4 : hf (c.st h) = hp') (h5 : (c.st h).length = nb')
    (hd : ∀ d, dst = some d → d < n) (h2 : RD P pure F G n ops rest (putF g dst v) hp' nb' fun fs => W (footF ops dst op g c { dst := dst, op := op, type := ty, pos := pos, after := aft, guard := none } :: fs)) :
    ∃ fs T' h' g' hp' nb', traceD P pure F G ops ({ dst := dst, op := op, type := ty, pos := pos, after := aft, guard := none } :: rest) (T, h) = some (fs, (T', h')) ∧ Rel n g' hp' nb' T' h' ∧ W fs g' hp' nb' := by
  have hst : stepOp P pure F G ops { dst := dst, op := op, type := ty, pos := pos, after := aft, guard := none } (T, h) = some (v, c) := by
    unfold stepOp
    rw [rel_want r]
    exact h3
  have hr : Rel n (putF g dst v) hp' nb' (putA T dst v) (c.st h) := by
    unfold putF putA
    cases hdd : dst with
    | none => exact ⟨r.len, r.get, h4, h5⟩
    | some d => exact rel_put r (hd d hdd) v h4 h5
  obtain ⟨fs, T', h', g', hp1, nb1, e1, e2, e3⟩ := h2 _ _ hr
  refine ⟨_, T', h', g', hp1, nb1, ?_, e2, e3⟩
  rw [traceD_cons, hst]
  show Option.map _ (traceD P pure F G ops rest (putA T dst v, c.st h)) = _
  rw [e1]
  show some (footOf _ _ _ _ :: fs, _) = _
  congr 3
  unfold footOf footF opReads
  rw [rel_want r, rel_eval r]
  rfl
theorem rd_val {d : Nat} {op : Op} {ty : TypeId} {pos : String} {aft : Array Edge} {v : AV} (hc : calleeA (evalF g) op = none) (hv : primA P (evalF g) hp nb op = some (.val v)) (hd : d < n)
    (h2 : RD P pure F G n ops rest (upd g d v) hp nb fun fs => W (footF ops (some d) op g .no { dst := some d, op := op, type := ty, pos := pos, after := aft, guard := none } :: fs)) :
    RD P pure F G n ops ({ dst := some d, op := op, type := ty, pos := pos, after := aft, guard := none } :: rest) g hp nb W := by
  intro T h r
  refine rd_one r (v := v) (c := .no) ?_ r.hp r.nb (fun e he => by cases he; exact hd) h2
  unfold runOp
  rw [rel_eval r]
  simp only [hc]
  rw [r.hp, r.nb, hv]
  rfl
theorem rd_new {d : Nat} {op : Op} {ty : TypeId} {pos : String} {aft : Array Edge} {v : AV} {b : Blk} (hc : calleeA (evalF g) op = none) (hv : primA P (evalF g) hp nb op = some (.new v b)) (hd : d < n)
    (h2 : RD P pure F G n ops rest (upd g d v) (setHp hp nb b) (nb + 1) fun fs => W (footF ops (some d) op g (.one nb b) { dst := some d, op := op, type := ty, pos := pos, after := aft, guard := none } :: fs)) :
    RD P pure F G n ops ({ dst := some d, op := op, type := ty, pos := pos, after := aft, guard := none } :: rest) g hp nb W := by
  intro T h r
  refine rd_one r (v := v) (c := .one nb b) ?_ ?_ ?_ (fun e he => by cases he; exact hd) h2
  · unfold runOp
    rw [rel_eval r]
    simp only [hc]
    rw [r.hp, r.nb, hv]
    rfl
  · show hf (setL h nb b) = _
    rw [setL_hf0, r.hp]
  · show (setL h nb b).length = _
    rw [setL_length, r.nb]; omega
theorem rd_upd {dst : Option Nat} {op : Op} {ty : TypeId} {pos : String} {aft : Array Edge} {v : AV} {id : Nat} {b : Blk} (hc : calleeA (evalF g) op = none) (hv : primA P (evalF g) hp nb op = some (.upd v id b)) (hl : (hp id).live = true) (hd : ∀ d, dst = some d → d < n)
    (h2 : RD P pure F G n ops rest (putF g dst v) (setHp hp id b) nb fun fs => W (footF ops dst op g (.one id b) { dst := dst, op := op, type := ty, pos := pos, after := aft, guard := none } :: fs)) :
    RD P pure F G n ops ({ dst := dst, op := op, type := ty, pos := pos, after := aft, guard := none } :: rest) g hp nb W := by
  intro T h r
  refine rd_one r (v := v) (c := .one id b) ?_ ?_ ?_ hd h2
  · unfold runOp
    rw [rel_eval r]
    simp only [hc]
    rw [r.hp, r.nb, hv]
    rfl
  · show hf (setL h id b) = _
    rw [setL_hf0, r.hp]
  · show (setL h id b).length = _
    have : id < h.length := hf_lt (by rw [r.hp]; exact hl)
    rw [setL_length, ← r.nb]; omega
theorem rd_pure {d f : Nat} {args : Array Operand} {ats : Array TypeId} {ty : TypeId} {pos : String} {aft : Array Edge} {as : List AV} {v : AV} (hx : args.toList.map (evalF g) = as) (hp0 : pure f = true) (hv : G hp f as = some v) (hd : d < n)
    (h2 : RD P pure F G n ops rest (upd g d v) hp nb fun fs => W (footF ops (some d) (.call { callee := .value (.func f), args := args, argTypes := ats }) g .no { dst := some d, op := .call { callee := .value (.func f), args := args, argTypes := ats }, type := ty, pos := pos, after := aft, guard := none } :: fs)) :
    RD P pure F G n ops ({ dst := some d, op := .call { callee := .value (.func f), args := args, argTypes := ats }, type := ty, pos := pos, after := aft, guard := none } :: rest) g hp nb W := by
  intro T h r
  refine rd_one r (v := v) (c := .no) ?_ r.hp r.nb (fun e he => by cases he; exact hd) h2
  unfold runOp
  rw [rel_eval r]
  have hcal : calleeA (evalF g) (.call { callee := .value (.func f), args := args, argTypes := ats }) = some (f, as) := by
    rw [← hx]; rfl
  simp only [hcal]
  rw [if_pos hp0, r.hp, hv]
  rfl
theorem addL_length : ∀ (bs : List Blk) (h : List Blk), (addL h h.length bs).length = h.length + bs.length
  | [], h => rfl
  | b :: bs, h => by
    have e : (setL h h.length b).length = h.length + 1 := by rw [setL_length]; omega
    rw [addL, ← e, addL_length bs, e]
    simp; omega
theorem addL_hf0 : ∀ (bs : List Blk) (h : List Blk) (nb : Nat), hf (addL h nb bs) = addHp (hf h) nb bs
  | [], h, nb => by
    funext id
    show hf h id = _
    unfold addHp
    rw [if_neg (by simp)]
  | b :: bs, h, nb => by
    rw [addL, addL_hf0 bs, setL_hf0]
    funext id
    unfold addHp setHp
    by_cases h1 : id = nb
    · subst h1
      rw [if_neg (by omega), if_pos rfl, if_pos (by simp)]
      simp
    · by_cases h2 : nb ≤ id ∧ id < nb + (bs.length + 1)
      · rw [if_pos (by omega), if_pos (by simpa using h2), show id - nb = (id - (nb + 1)) + 1 by omega, List.getD_cons_succ]
      · rw [if_neg (by omega), if_neg h1, if_neg (by simpa using h2)]
/-- A call that may see and change the heap. -/
theorem rd_call {d f : Nat} {args : Array Operand} {ats : Array TypeId} {ty : TypeId} {pos : String} {aft : Array Edge} {as : List AV} {Qc : AV → Hp → Nat → Prop} (hx : args.toList.map (evalF g) = as) (hp0 : pure f = false) (hpl : as.all plainV = false)
    (hv : CA F f as hp nb Qc) (hd : d < n)
    (h2 : ∀ v h h', hf h = hp → h.length = nb → Qc v (hf h') h'.length → RD P pure F G n ops rest (upd g d v) (hf h') h'.length fun fs => W (footF ops (some d) (.call { callee := .value (.func f), args := args, argTypes := ats }) g (.all h h') { dst := some d, op := .call { callee := .value (.func f), args := args, argTypes := ats }, type := ty, pos := pos, after := aft, guard := none } :: fs)) :
    RD P pure F G n ops ({ dst := some d, op := .call { callee := .value (.func f), args := args, argTypes := ats }, type := ty, pos := pos, after := aft, guard := none } :: rest) g hp nb W := by
  intro T h r
  obtain ⟨v, h', e1, e2⟩ := hv h r.hp r.nb
  refine rd_one r (v := v) (c := .all h h') ?_ rfl rfl (fun e he => by cases he; exact hd) (h2 v h h' r.hp r.nb e2)
  unfold runOp
  rw [rel_eval r]
  have hcal : calleeA (evalF g) (.call { callee := .value (.func f), args := args, argTypes := ats }) = some (f, as) := by
    rw [← hx]; rfl
  simp only [hcal]
  rw [if_neg (by simp [hp0]), if_neg (by simp [hpl]), e1]
  rfl
theorem ro_add {d f : Nat} {args : Array Operand} {ats : Array TypeId} {ty : TypeId} {pos : String} {aft : Array Edge} {as : List AV} {Qc : AV → Hp → Nat → Prop} (hx : args.toList.map (evalF g) = as) (hp0 : pure f = false) (hpl : as.all plainV = true)
    (hv : CA F f as (hf []) 0 Qc) (hd : d < n)
    (h2 : ∀ v0 h', Qc v0 (hf h') h'.length → ∃ v bs, shR nb h'.length v0 = some v ∧ h'.mapM (shB nb h'.length) = some bs ∧ RO P pure F G n ops rest (upd g d v) (addHp hp nb bs) (nb + bs.length) Q) :
    RO P pure F G n ops ({ dst := some d, op := .call { callee := .value (.func f), args := args, argTypes := ats }, type := ty, pos := pos, after := aft, guard := none } :: rest) g hp nb Q := by
  intro T h r
  obtain ⟨v0, h', e1, e2⟩ := hv [] rfl rfl
  obtain ⟨v, bs, e3, e4, e5⟩ := h2 v0 h' e2
  refine ro_one (v := v) (c := .add nb bs) (hp' := addHp hp nb bs) (nb' := nb + bs.length) rfl r ?_ ?_ ?_ (fun e he => by cases he; exact hd) e5
  · unfold runOp
    rw [rel_eval r]
    have hcal : calleeA (evalF g) (.call { callee := .value (.func f), args := args, argTypes := ats }) = some (f, as) := by
      rw [← hx]; rfl
    simp only [hcal]
    rw [if_neg (by simp [hp0]), if_pos hpl, e1]
    simp only [Option.bind_some, addOf, r.nb, e3, e4, Option.map_some]
  · show hf (addL h nb bs) = _
    rw [addL_hf0, r.hp]
  · show (addL h nb bs).length = _
    rw [← r.nb, addL_length]
/-- Blocks of which all can be told elsewhere. -/
def okC (nb : Nat) (c : AV) : Prop := ∀ n len, nb ≤ len → (shA n len c).isSome = true
def Tidy (hp : Hp) (nb : Nat) : Prop := ∀ id, id < nb → ∃ ver cs, hp id = .cells ver cs ∧ ∀ c ∈ cs, okC nb c
theorem okC_pv (nb : Nat) (p : PV) : okC nb (.pv p) := fun n len _ => rfl
theorem okC_mono {nb nb' : Nat} (h : nb ≤ nb') {c : AV} (hc : okC nb c) : okC nb' c := fun n len hl => hc n len (by omega)
theorem okC_slice {nb id ver off l mc esz : Nat} {xc : Bool} (h : id < nb) : okC nb (.slice id ver off l mc esz xc) := fun n len hl => by simp [shA, show id < len by omega]
theorem okC_ptr {nb id ver off : Nat} (h : id < nb) : okC nb (.ptr id ver off) := fun n len hl => by simp [shA, show id < len by omega]
theorem mapM_all {α β : Type} {f : α → Option β} : ∀ {l : List α}, (∀ x ∈ l, (f x).isSome = true) → ∃ r, l.mapM f = some r
  | [], _ => ⟨[], rfl⟩
  | x :: l, h => by
    obtain ⟨r, hr⟩ := mapM_all (fun y hy => h y (List.mem_cons_of_mem _ hy))
    obtain ⟨y, hy⟩ := Option.isSome_iff_exists.1 (h x (List.mem_cons_self))
    exact ⟨y :: r, by simp [List.mapM_cons, hy, hr]⟩
theorem tidy_put {hp : Hp} {nb id ver : Nat} {cs : List AV} (h : Tidy hp nb) (hc : ∀ c ∈ cs, okC nb c) : Tidy (setHp hp id (.cells ver cs)) nb := by
  intro j hj
  by_cases e : j = id
  · subst e; exact ⟨ver, cs, by simp [setHp], hc⟩
  · obtain ⟨v, c, h1, h2⟩ := h j hj
    exact ⟨v, c, by simp [setHp, e, h1], h2⟩
theorem tidy_new {hp : Hp} {nb : Nat} {cs : List AV} (h : Tidy hp nb) (hc : ∀ c ∈ cs, okC (nb + 1) c) : Tidy (setHp hp nb (.cells 1 cs)) (nb + 1) := by
  intro j hj
  by_cases e : j = nb
  · subst e; exact ⟨1, cs, by simp [setHp], hc⟩
  · obtain ⟨v, c, h1, h2⟩ := h j (by omega)
    exact ⟨v, c, by simp [setHp, e, h1], fun x hx => okC_mono (Nat.le_succ _) (h2 x hx)⟩
theorem tidy_nil : Tidy (hf []) 0 := fun id h => absurd h (Nat.not_lt_zero _)
/-- Tidy blocks, told elsewhere. -/
theorem tidy_add {h' : List Blk} (ht : Tidy (hf h') h'.length) (hp : Hp) (nb : Nat) : ∃ bs, h'.mapM (shB nb h'.length) = some bs ∧ bs.length = h'.length ∧
    (∀ id, id < nb → addHp hp nb bs id = hp id) ∧ (∀ id ver cs, id < h'.length → hf h' id = .cells ver cs → ∃ cs', cs.mapM (shA nb h'.length) = some cs' ∧ addHp hp nb bs (id + nb) = .cells ver cs') := by
  have hget : ∀ id (hid : id < h'.length), h'[id] = hf h' id := by
    intro id hid
    unfold hf
    rw [List.getD_eq_getElem?_getD, List.getElem?_eq_getElem hid]
    rfl
  obtain ⟨bs, hbs⟩ := mapM_all (l := h') (f := shB nb h'.length) (by
    intro b hb
    obtain ⟨i, hi, rfl⟩ := List.getElem_of_mem hb
    obtain ⟨ver, cs, e1, e2⟩ := ht i hi
    rw [hget i hi, e1]
    obtain ⟨r, hr⟩ := mapM_all (l := cs) (f := shA nb h'.length) (fun c hc => e2 c hc nb _ (Nat.le_refl _))
    simp [shB, hr])
  have key : ∀ {l : List Blk} {bs : List Blk}, l.mapM (shB nb h'.length) = some bs → bs.length = l.length ∧ ∀ (i : Nat) (b : Blk), bs[i]? = some b → ∃ a, l[i]? = some a ∧ shB nb h'.length a = some b := by
    intro l
    induction l with
    | nil => intro bs h; simp at h; subst h; simp
    | cons x l ih =>
      intro bs h
      simp only [List.mapM_cons, Option.bind_eq_bind, Option.bind_eq_some_iff, Option.pure_def, Option.some.injEq] at h
      obtain ⟨p, hp', ps', h', rfl⟩ := h
      obtain ⟨e1, e2⟩ := ih h'
      refine ⟨by simp [e1], fun i b hb => ?_⟩
      cases i with
      | zero => simp at hb; subst hb; exact ⟨x, rfl, hp'⟩
      | succ i => exact e2 i b (by simpa using hb)
  obtain ⟨hl, hel⟩ := key hbs
  refine ⟨bs, hbs, hl, fun id hid => ?_, fun id ver cs hid he => ?_⟩
  · unfold addHp
    rw [if_neg (by omega)]
  · have hid' : id < bs.length := by omega
    obtain ⟨a, ha, hab⟩ := hel id bs[id] (List.getElem?_eq_getElem hid')
    have ha' : a = hf h' id := by
      rw [List.getElem?_eq_getElem hid] at ha
      cases ha
      exact hget id hid
    rw [ha', he] at hab
    simp only [shB, Option.map_eq_some_iff] at hab
    obtain ⟨cs', hcs, e⟩ := hab
    refine ⟨cs', hcs, ?_⟩
    unfold addHp
    rw [if_pos (by omega), Nat.add_sub_cancel, List.getD_eq_getElem?_getD, List.getElem?_eq_getElem hid', e]
    rfl
theorem trace_feet : ∀ (l : List Oper) {s : St} {fs : List Foot} {s' : St}, traceD P pure F G ops l s = some (fs, s') → fs.map (fun f => (f.dst, f.tmps)) = l.map fun o => (o.dst, opTmps ops o)
  | [], s, fs, s', hr => by
    simp only [traceD, Option.some.injEq, Prod.mk.injEq] at hr
    obtain ⟨rfl, rfl⟩ := hr
    rfl
  | o :: l, s, fs, s', hr => by
    rw [traceD_cons] at hr
    simp only [Option.bind_eq_some_iff, Option.map_eq_some_iff, Prod.mk.injEq] at hr
    obtain ⟨r, _, ⟨fs1, s1⟩, h1, h2, h3⟩ := hr
    subst h2
    rw [List.map_cons, List.map_cons, trace_feet l h1]
    rfl
theorem ex_draw {i : Nat} {a : Array Oper} (hst : statOk a.toList = true) (h : RD P pure F G n a.toList a.toList g hp nb fun fs g hp nb => dynOk a.toList fs = true ∧ K .normal g hp nb) : EX P pure F G lim n (.region i a true) g hp nb K := by
  intro T l r
  obtain ⟨fs, T', h', g', hp1, nb1, e1, e2, e3, e4⟩ := h T l r
  refine ⟨.normal, T', h', g', hp1, nb1, ?_, e2, e4⟩
  have hchk := apart_parts (trace_feet _ e1) hst e3
  rw [execC]
  simp only [if_true, drawOps, e1, Option.bind_some]
  rw [if_pos hchk]
  rfl
end
end Go.Proofs.Ytlinbbjobjnipaa.AI

set_option linter.unusedVariables false
set_option linter.unusedSimpArgs false
set_option linter.unusedSectionVars false
namespace Go.Proofs.Ytlinbbjobjnipaa.AI
open Go
/-- A slice type of which each element is one cell. -/
structure ST (P : Program) (t e : TypeId) : Prop where
  und : P.underlying t = some (.slice e)
  info : ∃ i, P.info? e = some i ∧ i.size = 1 ∧ i.bytes ≤ 64 ∧ i.zero.map (·.cells.size) = some 1
  agg : isAggA P e = some false
theorem ST.sz {P : Program} {t e : TypeId} (h : ST P t e) : szA P e = some 1 := by
  obtain ⟨i, h1, h2, _⟩ := h.info
  unfold szA
  rw [h1]
  simp [h2]
/-- A slice that reads as a row of plain values. -/
inductive Row (hp : Hp) (nb : Nat) : AV → List PV → Prop
  | nil : Row hp nb (.pv .nilSlice) []
  | zcap : Row hp nb (.pv .zcap) []
  | ros (n : Nat) (l : List PV) (h : l.length = n) : Row hp nb (.pv (.ros 1 n l)) l
  | own (id ver off n mc : Nat) (xc : Bool) (cs : List AV) (l : List PV) (h : l.length = n) (hi : id < nb) (hc : hp id = .cells ver cs) (ho : off + n ≤ cs.length) (hm : n ≤ mc)
      (hl : (cs.drop off).take n = l.map .pv) : Row hp nb (.slice id ver off n mc 1 xc) l
def ownOf : AV → Option Nat
  | .slice id .. => some id
  | _ => none
theorem Row.keep {hp hp' : Hp} {nb nb' : Nat} {v : AV} {l : List PV} (h : Row hp nb v l) (hn : nb ≤ nb') (hk : ∀ id, id < nb → ownOf v = some id → hp' id = hp id) : Row hp' nb' v l := by
  cases h with
  | nil => exact .nil
  | zcap => exact .zcap
  | ros n l h => exact .ros n l h
  | own id ver off n mc xc cs l h hi hc ho hm hl => exact .own id ver off n mc xc cs l h (by omega) (by rw [hk id hi rfl]; exact hc) ho hm hl
section
variable {P : Program} {t e : TypeId} {hp : Hp} {nb : Nat} {v : AV} {l : List PV}
theorem row_lenA (h : ST P t e) (r : Row hp nb v l) : lenA P t v = some (l.length : Int) := by
  unfold lenA
  rw [h.und]
  cases r with
  | nil => rfl
  | zcap => rfl
  | ros n l h => simp [h]
  | own id ver off n mc xc cs l h => simp [h]
theorem row_len (h : ST P t e) (r : Row hp nb v l) {hp' : Hp} {nb' : Nat} : builtinA P hp' nb' .len #[t] [v] = some (.val (.pv (.int .i64 l.length))) := by
  unfold builtinA
  show Option.map _ (lenA P t v) = _
  rw [row_lenA h r]
  rfl
theorem row_at (h : ST P t e) (r : Row hp nb v l) {i : Nat} {x : PV} (hx : l[i]? = some x) : ∃ a, indexAddrA P t v (.pv (.int .i64 i)) = some a ∧ loadA P hp e a = some (.pv x) := by
  have hi : i < l.length := (List.getElem?_eq_some_iff.1 hx).1
  cases r with
  | nil => simp at hi
  | zcap => simp at hi
  | ros n l hn =>
    refine ⟨.pv (.rop l (i * 1)), ?_, ?_⟩
    · unfold indexAddrA
      simp only [asIntA, Option.bind_some, h.und, h.sz]
      rw [if_pos (by omega)]
      simp
    · unfold loadA
      simp only [h.agg, Nat.mul_one, hx]
      rfl
  | own id ver off n mc xc cs l hn hid hc ho hm hl =>
    refine ⟨.ptr id ver (off + i * 1), ?_, ?_⟩
    · unfold indexAddrA
      simp only [asIntA, Option.bind_some, h.und, h.sz]
      rw [if_pos (by omega)]
      simp
    · unfold loadA
      have : ((cs.drop off).take n)[i]? = some (.pv x) := by rw [hl, List.getElem?_map, hx]; rfl
      rw [List.getElem?_take, if_pos (by omega), List.getElem?_drop] at this
      simp only [h.agg, Nat.mul_one, look, hc, if_true, Option.bind_some, this]
theorem row_src (r : Row hp nb v l) : srcA hp 1 v = some (l.length, l.map .pv) := by
  cases r with
  | nil => rfl
  | zcap => rfl
  | ros n l h => simp [srcA, h]
  | own id ver off n mc xc cs l h hi hc ho hm hl => simp [srcA, sliceCells, look, hc, ho, hl, h]
theorem row_slice (h : ST P t e) (r : Row hp nb v l) {lo hi : Nat} {lv hv : Option AV} (hlo : (lv = some (.pv (.int .i64 lo))) ∨ (lv = none ∧ lo = 0)) (hhi : (hv = some (.pv (.int .i64 hi))) ∨ (hv = none ∧ hi = l.length))
    (h1 : lo ≤ hi) (h2 : hi ≤ l.length) : ∃ v', sliceOpA P t v lv hv none = some v' ∧ Row hp nb v' ((l.drop lo).take (hi - lo)) ∧ (∀ id, ownOf v' = some id → ownOf v = some id) := by
  have bnd : ∀ mc, l.length ≤ mc → boundsA l.length mc lv hv none = some (lo, hi, mc) := by
    intro mc hmc
    unfold boundsA
    have e1 : boundA hv l.length mc = some hi := by
      rcases hhi with rfl | ⟨rfl, rfl⟩
      · simp only [boundA]; rw [if_pos (by omega)]; simp
      · rfl
    have e2 : boundA lv 0 hi = some lo := by
      rcases hlo with rfl | ⟨rfl, rfl⟩
      · simp only [boundA]; rw [if_pos (by omega)]; simp
      · rfl
    simp [e1, e2]
  unfold sliceOpA
  simp only [h.und, h.sz, Option.bind_some]
  cases r with
  | nil =>
    have hb := bnd 0 (by simp)
    simp only [List.length_nil] at hb
    exact ⟨.pv .nilSlice, by simp only [hb]; rfl, by simp; exact .nil, fun id h => by simp [ownOf] at h⟩
  | zcap =>
    have hb := bnd 0 (by simp)
    simp only [List.length_nil] at hb
    exact ⟨.pv .zcap, by simp only [hb]; rfl, by simp; exact .zcap, fun id h => by simp [ownOf] at h⟩
  | ros n l hn =>
    have hb := bnd n (by omega)
    rw [hn] at hb
    refine ⟨.pv (.ros 1 (hi - lo) ((l.drop lo).take (hi - lo))), by simp [hb], .ros _ _ (by simp; omega), fun id h => by simp [ownOf] at h⟩
  | own id ver off n mc xc cs l hn hid hc ho hm hl =>
    have hb := bnd mc (by omega)
    rw [hn] at hb
    refine ⟨.slice id ver (off + lo) (hi - lo) (mc - lo) 1 xc, by simp [hb], .own _ _ _ _ _ _ cs _ (by simp; omega) hid hc (by omega) (by omega) ?_, fun id h => h⟩
    have : ((cs.drop off).take n).drop lo = (l.map AV.pv).drop lo := by rw [hl]
    rw [List.drop_take, List.drop_drop] at this
    have h3 := congrArg (List.take (hi - lo)) this
    rw [List.take_take, show min (hi - lo) (n - lo) = hi - lo by omega] at h3
    rw [h3, ← List.map_drop, ← List.map_take]
/-- A row that grows: all of its room is used. -/
inductive Grow (hp : Hp) (nb : Nat) : AV → List PV → Prop
  | nil : Grow hp nb (.pv .nilSlice) []
  | own (id ver n : Nat) (xc : Bool) (l : List PV) (h : l.length = n) (hi : id < nb) (hc : hp id = .cells ver (l.map .pv)) : Grow hp nb (.slice id ver 0 n n 1 xc) l
theorem Grow.row (g : Grow hp nb v l) : Row hp nb v l := by
  cases g with
  | nil => exact .nil
  | own id ver n xc l h hi hc => exact .own id ver 0 n n xc _ l h hi hc (by simp [h]) (Nat.le_refl _) (by simp [← h, ← List.map_take])
theorem Grow.keep {hp' : Hp} {nb' : Nat} (g : Grow hp nb v l) (hn : nb ≤ nb') (hk : ∀ id, id < nb → ownOf v = some id → hp' id = hp id) : Grow hp' nb' v l := by
  cases g with
  | nil => exact .nil
  | own id ver n xc l h hi hc => exact .own id ver n xc l h (by omega) (by rw [hk id hi rfl]; exact hc)
theorem grow_app (h : ST P t e) (g : Grow hp nb v l) {xt e' : TypeId} (hxt : P.underlying xt = some (.slice e')) {s : AV} {r : List PV} (hs : srcA hp 1 s = some (r.length, r.map .pv)) (hl : l.length + r.length ≤ 1000000) :
    (builtinA P hp nb .append #[t, xt] [v, s] = some (.val v) ∧ r = []) ∨
    (∃ v' b, builtinA P hp nb .append #[t, xt] [v, s] = some (.new v' b) ∧ ownOf v' = some nb ∧ Grow (setHp hp nb b) (nb + 1) v' (l ++ r) ∧ ∃ cs : List PV, b = .cells 1 (cs.map .pv)) ∨
    (∃ v' id b, builtinA P hp nb .append #[t, xt] [v, s] = some (.upd v' id b) ∧ (hp id).live = true ∧ ownOf v = some id ∧ ownOf v' = some id ∧ id < nb ∧ Grow (setHp hp id b) nb v' (l ++ r) ∧ ∃ (ver : Nat) (cs : List PV), b = .cells ver (cs.map .pv)) := by
  obtain ⟨i, hi1, hi2, hi3, hi4⟩ := h.info
  have hcells : ∀ l : List PV, (l.map AV.pv).all AV.isCell = true := by
    intro l
    induction l with
    | nil => rfl
    | cons a l ih => rw [List.map_cons, List.all_cons, ih]; rfl
  have big : ∀ n, n ≤ 1000000 → (2 * n + 768) * i.bytes ≤ 281474976710656 ∧ n ≤ 1099511627776 := by
    intro n hn
    refine ⟨?_, by omega⟩
    calc (2 * n + 768) * i.bytes ≤ (2 * n + 768) * 64 := Nat.mul_le_mul_left _ hi3
      _ ≤ _ := by omega
  have hb : builtinA P hp nb .append #[t, xt] [v, s] = appendA P hp nb #[t, xt] v s := rfl
  rw [hb]
  unfold appendA
  simp only [show (#[t, xt] : Array TypeId)[0]? = some t from rfl, show (#[t, xt] : Array TypeId)[1]? = some xt from rfl, h.und, hi1, sourceA, hxt, hi2, hs, Option.bind_some]
  rw [if_neg (by simp only [hi4, hcells]; simp)]
  cases g with
  | nil =>
    cases r with
    | nil => left; simp
    | cons a r =>
      right; left
      simp only [List.length_nil, Nat.zero_add] at hl
      refine ⟨.slice nb 1 0 (a :: r).length (a :: r).length 1 false, .cells 1 ((a :: r).map .pv), ?_, rfl, ?_, _, rfl⟩
      · simp only
        rw [if_neg (by simp), if_pos (big _ hl)]
        rfl
      · exact .own _ _ _ _ _ rfl (by omega) (by simp [setHp])
  | own id ver n xc l hn hid hc =>
    simp only [ne_eq, not_true, if_false, look, hc, if_true, Option.bind_some]
    cases r with
    | nil => left; simp
    | cons a r =>
      right
      rw [if_neg (by simp), if_neg (by simp), if_pos (big _ (by omega))]
      cases xc with
      | true =>
        left
        refine ⟨.slice nb 1 0 (n + (a :: r).length) (n + (a :: r).length) 1 false, .cells 1 ((l ++ (a :: r)).map .pv), ?_, rfl, .own _ _ _ _ _ (by simp [hn]) (by omega) (by simp [setHp]), _, rfl⟩
        rw [if_pos rfl, if_pos (by simp [hn])]
        simp [newCells, ← hn, List.take_of_length_le]
      | false =>
        right
        refine ⟨.slice id (ver + 1) 0 (n + (a :: r).length) (n + (a :: r).length) 1 false, id, .cells (ver + 1) ((l ++ (a :: r)).map .pv), ?_, by rw [hc]; rfl, rfl, rfl, hid, .own _ _ _ _ _ (by simp [hn]) hid (by simp [setHp]), _, _, rfl⟩
        rw [if_neg (by simp), if_pos (by simp [hn])]
        simp
end
section
variable {P : Program} {pure : Nat → Bool} {F : CallF} {G : CallG} {lim n : Nat} {ops rest : List Oper} {g : Gm} {hp : Hp} {nb : Nat} {Q : Gm → Hp → Nat → Prop}
theorem tidy_pvs {hp : Hp} {nb id ver : Nat} {cs : List PV} (h : Tidy hp nb) : Tidy (setHp hp id (.cells ver (cs.map .pv))) nb :=
  tidy_put h (fun c hc => by obtain ⟨q, _, rfl⟩ := List.mem_map.1 hc; exact okC_pv _ _)
/-- What is behind an append. -/
def After (hp : Hp) (nb : Nat) (v : AV) (hp' : Hp) (nb' : Nat) : Prop :=
  nb ≤ nb' ∧ (∀ id, id < nb → ownOf v ≠ some id → hp' id = hp id) ∧ (Tidy hp nb → Tidy hp' nb')
theorem ro_append {d : Nat} {ty t e xt e' : TypeId} {pos : String} {aft : Array Edge} {x y : Operand} {v s : AV} {l r : List PV} (h : ST P t e) (hxt : P.underlying xt = some (.slice e')) (hx : evalF g x = v) (hy : evalF g y = s)
    (gr : Grow hp nb v l) (hs : srcA hp 1 s = some (r.length, r.map .pv)) (hl : l.length + r.length ≤ 1000000) (hd : d < n)
    (h2 : ∀ v' hp' nb', Grow hp' nb' v' (l ++ r) → After hp nb v hp' nb' → (∀ id, ownOf v' = some id → ownOf v = some id ∨ nb ≤ id) → RO P pure F G n ops rest (upd g d v') hp' nb' Q) :
    RO P pure F G n ops ({ dst := some d, op := .call { callee := .builtin .append, args := #[x, y], argTypes := #[t, xt] }, type := ty, pos := pos, after := aft, guard := none } :: rest) g hp nb Q := by
  have hxs : (#[x, y] : Array Operand).toList.map (evalF g) = [v, s] := by simp [hx, hy]
  rcases grow_app h gr hxt hs hl with ⟨e1, rfl⟩ | ⟨v', b, e1, eo, e2, cs, e3⟩ | ⟨v', id, b, e1, e2, e3, eo, e4, e5, ver, cs, e6⟩
  · refine ro_builtin rfl hxs e1 hd (h2 v hp nb (by simpa using gr) ⟨Nat.le_refl _, fun _ _ _ => rfl, fun h => h⟩ (fun id h => .inl h))
  · subst e3
    refine ro_builtin_new rfl hxs e1 hd (h2 v' _ _ e2 ⟨Nat.le_succ _, fun id hid _ => by simp [setHp, show id ≠ nb by omega], fun ht => tidy_new ht (fun c hc => ?_)⟩ (fun id hid => ?_))
    · obtain ⟨q, _, rfl⟩ := List.mem_map.1 hc; exact okC_pv _ _
    · rw [eo] at hid; cases hid; exact .inr (Nat.le_refl _)
  · subst e6
    refine ro_builtin_upd rfl hxs e1 e2 hd (h2 v' _ _ e5 ⟨Nat.le_refl _, fun j hj hne => ?_, fun ht => tidy_pvs ht⟩ (fun j hj => ?_))
    · have : j ≠ id := by intro e; subst e; exact hne e3
      simp [setHp, this]
    · rw [eo] at hj; cases hj; exact .inl e3
end
end Go.Proofs.Ytlinbbjobjnipaa.AI

set_option linter.unusedVariables false
set_option linter.unusedSimpArgs false
set_option linter.unusedSectionVars false
namespace Go.Proofs.Ytlinbbjobjnipaa.AI
open Go
/-- The operations of a region, by its number. -/
def regOps (k : Nat) : Code → Option (List Oper)
  | .region i ops _ => if i = k then some ops.toList else none
  | .seq a b => match regOps k a with
    | some l => some l
    | none => regOps k b
  | .cond _ a b => match regOps k a with
    | some l => some l
    | none => regOps k b
  | .block _ b => regOps k b
  | .loop b => regOps k b
  | _ => none
def regOf (f : Func) (k : Nat) : List Oper :=
  match f.body with
  | some c => (regOps k c).getD []
  | none => []
/-- May an operation change the heap? -/
def mayChg : Op → Bool
  | .alloc .. | .box .. | .store .. | .buildSlice .. | .makeSlice .. | .convert .. => true
  | .call { callee := .builtin .len, .. } | .call { callee := .builtin .cap, .. } | .call { callee := .builtin .min, .. } | .call { callee := .builtin .max, .. } => false
  | .call .. => true
  | _ => false
def heapy (o : Oper) : Bool := looksIn o.op || mayChg o.op
/-- The pairs that are not ordered and may meet in the heap. -/
def needs (ops : List Oper) : List (Nat × Nat) :=
  (List.range ops.length).flatMap fun k => (List.range k).filterMap fun i =>
    match ops[i]?, ops[k]? with
    | some a, some b => if (befF ops k).testBit i then none else if (mayChg a.op || mayChg b.op) && heapy a && heapy b then some (i, k) else none
    | _, _ => none
def classOk : List Oper → List Foot → Bool
  | [], [] => true
  | o :: ops, f :: fs => (mayChg o.op || isNo f.chg) && (looksIn o.op || f.reads.isEmpty) && classOk ops fs
  | _, _ => false
theorem classOk_get : ∀ {ops : List Oper} {fs : List Foot}, classOk ops fs = true → ∀ (i : Nat) (f : Foot), fs[i]? = some f → ∃ o, ops[i]? = some o ∧ (mayChg o.op || isNo f.chg) = true ∧ (looksIn o.op || f.reads.isEmpty) = true
  | [], [], h, i, f, hf => by simp at hf
  | [], _ :: _, h, i, f, hf => by simp [classOk] at h
  | _ :: _, [], h, i, f, hf => by simp [classOk] at h
  | o :: ops, f0 :: fs, h, 0, f, hf => by
    simp only [List.getElem?_cons_zero, Option.some.injEq] at hf; subst hf
    simp only [classOk, Bool.and_eq_true] at h
    exact ⟨o, rfl, h.1.1, h.1.2⟩
  | o :: ops, f0 :: fs, h, i + 1, f, hf => by
    simp only [classOk, Bool.and_eq_true] at h
    obtain ⟨o', h1, h2⟩ := classOk_get h.2 i f (by simpa using hf)
    exact ⟨o', by simpa using h1, h2⟩
theorem heapsOk_of {bef : Nat → Nat} : ∀ {n : Nat} {l : List Foot}, (∀ i k a b, i < k → l[i]? = some a → l[k]? = some b → (bef (n + k)).testBit (n + i) = true ∨ heapPart a b = true) → heapsOk bef n l = true
  | n, [], h => rfl
  | n, c :: r, h => by
    rw [heapsOk, heapsOk_of (n := n + 1) (l := r) (fun i k a b hik ha hb => by
      have := h (i + 1) (k + 1) a b (by omega) (by simpa using ha) (by simpa using hb)
      rwa [show n + (k + 1) = n + 1 + k by omega, show n + (i + 1) = n + 1 + i by omega] at this), Bool.and_true, Bool.or_eq_true]
    right
    have key : ∀ (k : Nat) (l : List Foot), (∀ j b, l[j]? = some b → (bef (k + j)).testBit n = true ∨ heapPart c b = true) → hLater bef n c k l = true := by
      intro k l
      induction l generalizing k with
      | nil => intro _; rfl
      | cons b l ih =>
        intro hl
        rw [hLater, ih (k + 1) (fun j b hb => by
          have := hl (j + 1) b (by simpa using hb)
          rwa [show k + (j + 1) = k + 1 + j by omega] at this), Bool.and_true]
        rcases hl 0 b rfl with h1 | h1
        · rw [Nat.add_zero] at h1; simp [h1]
        · simp [h1]
    refine key (n + 1) r (fun j b hb => ?_)
    have := h 0 (j + 1) c b (by omega) rfl (by simpa using hb)
    rwa [Nat.add_zero, show n + (j + 1) = n + 1 + j by omega] at this
theorem dyn_of {ops : List Oper} {fs : List Foot} (hc : classOk ops fs = true) (h : ∀ p ∈ needs ops, ∀ a b, fs[p.1]? = some a → fs[p.2]? = some b → heapPart a b = true) : dynOk ops fs = true := by
  unfold dynOk
  rw [Bool.or_eq_true]
  right
  refine heapsOk_of (fun i k a b hik ha hb => ?_)
  rw [Nat.zero_add, Nat.zero_add]
  obtain ⟨oa, a1, a2, a3⟩ := classOk_get hc i a ha
  obtain ⟨ob, b1, b2, b3⟩ := classOk_get hc k b hb
  cases hbit : (befF ops k).testBit i with
  | true => exact .inl rfl
  | false =>
    right
    by_cases hn : ((mayChg oa.op || mayChg ob.op) && heapy oa && heapy ob) = true
    · refine h (i, k) ?_ a b ha hb
      unfold needs
      refine List.mem_flatMap.2 ⟨k, List.mem_range.2 (List.getElem?_eq_some_iff.1 b1).1, List.mem_filterMap.2 ⟨i, List.mem_range.2 hik, ?_⟩⟩
      simp only [a1, b1, hbit, Bool.false_eq_true, if_false, hn, if_true]
    · have quiet : ∀ {o : Oper} {f : Foot}, heapy o = false → (mayChg o.op || isNo f.chg) = true → (looksIn o.op || f.reads.isEmpty) = true → heapful f = false := by
        intro o f h1 h2 h3
        simp only [heapy, Bool.or_eq_false_iff] at h1
        rw [h1.2, Bool.false_or] at h2
        rw [h1.1, Bool.false_or] at h3
        cases hf : f.chg <;> rw [hf] at h2 <;> simp [isNo] at h2
        simp [heapful, hf, Chg.ids, Chg.isAll, h3]
      simp only [Bool.and_eq_true, Bool.or_eq_true, not_and, Bool.not_eq_true] at hn
      cases ha' : heapy oa with
      | false => exact heapPart_left (quiet ha' a2 a3)
      | true =>
        cases hb' : heapy ob with
        | false => exact heapPart_right (quiet hb' b2 b3)
        | true =>
          have hm : ¬ (mayChg oa.op = true ∨ mayChg ob.op = true) := fun hm => by
            have := hn ⟨hm, ha'⟩
            rw [hb'] at this; simp at this
          simp only [not_or, Bool.not_eq_true] at hm
          rw [hm.1, Bool.false_or] at a2
          rw [hm.2, Bool.false_or] at b2
          exact heapPart_no a2 b2
section
variable {P : Program} {pure : Nat → Bool} {F : CallF} {G : CallG} {lim n : Nat} {ops rest : List Oper} {g : Gm} {hp : Hp} {nb : Nat} {W : List Foot → Gm → Hp → Nat → Prop}
/-- What an append does to the heap: nothing, a change of its own row, a new block. -/
def AppChg (nb : Nat) (v : AV) (c : Chg) : Prop := c = .no ∨ (∃ b, c = .one nb b) ∨ ∃ id b, c = .one id b ∧ ownOf v = some id ∧ id < nb
theorem rd_append {d : Nat} {ty t e xt e' : TypeId} {pos : String} {aft : Array Edge} {x y : Operand} {v s : AV} {l r : List PV} (h : ST P t e) (hxt : P.underlying xt = some (.slice e')) (hx : evalF g x = v) (hy : evalF g y = s)
    (gr : Grow hp nb v l) (hs : srcA hp 1 s = some (r.length, r.map .pv)) (hl : l.length + r.length ≤ 1000000) (hd : d < n)
    (h2 : ∀ v' hp' nb' c, Grow hp' nb' v' (l ++ r) → After hp nb v hp' nb' → AppChg nb v c → (∀ id, ownOf v' = some id → ownOf v = some id ∨ nb ≤ id) → RD P pure F G n ops rest (upd g d v') hp' nb' fun fs =>
      W (footF ops (some d) (.call { callee := .builtin .append, args := #[x, y], argTypes := #[t, xt] }) g c { dst := some d, op := .call { callee := .builtin .append, args := #[x, y], argTypes := #[t, xt] }, type := ty, pos := pos, after := aft, guard := none } :: fs)) :
    RD P pure F G n ops ({ dst := some d, op := .call { callee := .builtin .append, args := #[x, y], argTypes := #[t, xt] }, type := ty, pos := pos, after := aft, guard := none } :: rest) g hp nb W := by
  have hxs : (#[x, y] : Array Operand).toList.map (evalF g) = [v, s] := by simp [hx, hy]
  have hpr : ∀ {E : Eff}, builtinA P hp nb .append #[t, xt] [v, s] = some E → primA P (evalF g) hp nb (.call { callee := .builtin .append, args := #[x, y], argTypes := #[t, xt] }) = some E := by
    intro E hE
    simp only [primA]
    rw [hxs, hE]
  rcases grow_app h gr hxt hs hl with ⟨e1, rfl⟩ | ⟨v', b, e1, eo, e2, cs, e3⟩ | ⟨v', id, b, e1, e2, e3, eo, e4, e5, ver, cs, e6⟩
  · exact rd_val rfl (hpr e1) hd (h2 v hp nb .no (by simpa using gr) ⟨Nat.le_refl _, fun _ _ _ => rfl, fun h => h⟩ (.inl rfl) (fun id h => .inl h))
  · subst e3
    refine rd_new rfl (hpr e1) hd (h2 v' _ _ _ e2 ⟨Nat.le_succ _, fun id hid _ => by simp [setHp, show id ≠ nb by omega], fun ht => tidy_new ht (fun c hc => ?_)⟩ (.inr (.inl ⟨_, rfl⟩)) (fun id hid => ?_))
    · obtain ⟨q, _, rfl⟩ := List.mem_map.1 hc; exact okC_pv _ _
    · rw [eo] at hid; cases hid; exact .inr (Nat.le_refl _)
  · subst e6
    refine rd_upd rfl (hpr e1) e2 (fun e he => by cases he; exact hd) (h2 v' _ _ _ e5 ⟨Nat.le_refl _, fun j hj hne => ?_, fun ht => tidy_pvs ht⟩ (.inr (.inr ⟨_, _, rfl, e3, e4⟩)) (fun j hj => ?_))
    · have : j ≠ id := by intro e; subst e; exact hne e3
      simp [setHp, this]
    · rw [eo] at hj; cases hj; exact .inl e3
/-- An operation behind a guard that is not wanted. -/
theorem rd_gskip {j e : Nat} {want b : Bool} {d : Nat} {op : Op} {ty : TypeId} {pos : String} {aft : Array Edge} (he : (ops[j]?).bind (·.dst) = some e) (hg : g e = .pv (.bool b)) (hb : (b == want) = false) (hd : d < n)
    (h2 : RD P pure F G n ops rest (upd g d undefA) hp nb fun fs => W ({ dst := some d, tmps := opTmps ops { dst := some d, op := op, type := ty, pos := pos, after := aft, guard := some (j, want) }, reads := [], chg := .no } :: fs)) :
    RD P pure F G n ops ({ dst := some d, op := op, type := ty, pos := pos, after := aft, guard := some (j, want) } :: rest) g hp nb W := by
  intro T h r
  have hw : wantA ops T { dst := some d, op := op, type := ty, pos := pos, after := aft, guard := some (j, want) } = some false := by
    rw [rel_want r]
    unfold wantF
    simp only [he, hg, hb]
  have hst : stepOp P pure F G ops { dst := some d, op := op, type := ty, pos := pos, after := aft, guard := some (j, want) } (T, h) = some (undefA, .no) := by
    unfold stepOp
    rw [hw]
  obtain ⟨fs, T', h', g', hp1, nb1, e1, e2, e3⟩ := h2 _ _ (rel_put r hd undefA r.hp r.nb)
  refine ⟨_, T', h', g', hp1, nb1, ?_, e2, e3⟩
  rw [traceD_cons, hst]
  show Option.map _ (traceD P pure F G ops rest (T.set d undefA, h)) = _
  rw [e1]
  show some (footOf _ _ _ _ :: fs, _) = _
  congr 3
  unfold footOf opReads
  rw [hw]
  rfl
theorem sh_ok {n len : Nat} {c c' : AV} (h : shA n len c = some c') : okC (n + len) c' := by
  cases c with
  | pv p => simp only [shA, Option.some.injEq] at h; subst h; exact okC_pv _ _
  | ptr id ver off =>
    simp only [shA] at h
    split at h
    · simp only [Option.some.injEq] at h; subst h; exact okC_ptr (by omega)
    · simp at h
  | slice id ver off l mc esz xc =>
    simp only [shA] at h
    split at h
    · simp only [Option.some.injEq] at h; subst h; exact okC_slice (by omega)
    · simp at h
  | _ => simp [shA] at h
theorem mapM_ok {n len : Nat} : ∀ {cs cs' : List AV}, cs.mapM (shA n len) = some cs' → ∀ c ∈ cs', okC (n + len) c
  | [], cs', h => by simp at h; subst h; simp
  | a :: l, cs', h => by
    simp only [List.mapM_cons, Option.bind_eq_bind, Option.bind_eq_some_iff, Option.pure_def, Option.some.injEq] at h
    obtain ⟨b, hb, r, hr, rfl⟩ := h
    intro c hc
    rcases List.mem_cons.1 hc with rfl | hc
    · exact sh_ok hb
    · exact mapM_ok hr c hc
theorem sh_pvs (n len : Nat) : ∀ l : List PV, (l.map AV.pv).mapM (shA n len) = some (l.map AV.pv)
  | [] => rfl
  | a :: l => by
    rw [List.map_cons, List.mapM_cons, sh_pvs n len l]
    rfl
/-- Tidy blocks told elsewhere: all that is needed of them. -/
theorem add_all {h' : List Blk} (ht : Tidy (hf h') h'.length) (hp : Hp) (nb : Nat) : ∃ bs, h'.mapM (shB nb h'.length) = some bs ∧ bs.length = h'.length ∧
    (∀ id, id < nb → addHp hp nb bs id = hp id) ∧ (Tidy hp nb → Tidy (addHp hp nb bs) (nb + bs.length)) ∧
    (∀ v l, Row (hf h') h'.length v l → ∃ v', shA nb h'.length v = some v' ∧ Row (addHp hp nb bs) (nb + bs.length) v' l ∧ (∀ id, ownOf v' = some id → nb ≤ id) ∧ (ownOf v = none → v' = v)) ∧
    (∀ v l, Grow (hf h') h'.length v l → ∃ v', shA nb h'.length v = some v' ∧ Grow (addHp hp nb bs) (nb + bs.length) v' l ∧ (∀ id, ownOf v' = some id → nb ≤ id)) := by
  obtain ⟨bs, h1, h2, h3, h4⟩ := tidy_add ht hp nb
  refine ⟨bs, h1, h2, h3, fun h0 => ?_, fun v l r => ?_, fun v l r => ?_⟩
  · intro id hid
    rcases Nat.lt_or_ge id nb with h | h
    · obtain ⟨ver, cs, e1, e2⟩ := h0 id h
      exact ⟨ver, cs, by rw [h3 id h]; exact e1, fun c hc => okC_mono (by omega) (e2 c hc)⟩
    · obtain ⟨ver, cs, e1, e2⟩ := ht (id - nb) (by omega)
      obtain ⟨cs', e3, e4⟩ := h4 (id - nb) ver cs (by omega) e1
      rw [Nat.sub_add_cancel h] at e4
      exact ⟨ver, cs', e4, fun c hc => by rw [h2]; exact mapM_ok e3 c hc⟩
  · cases r with
    | nil => exact ⟨_, rfl, .nil, fun id h => by simp [ownOf] at h, fun _ => rfl⟩
    | zcap => exact ⟨_, rfl, .zcap, fun id h => by simp [ownOf] at h, fun _ => rfl⟩
    | ros n l h => exact ⟨_, rfl, .ros n l h, fun id h => by simp [ownOf] at h, fun _ => rfl⟩
    | own id ver off n mc xc cs l hn hi hc ho hm hl =>
      obtain ⟨cs', e1, e2⟩ := h4 id ver cs hi hc
      have hlen : cs'.length = cs.length := by
        have key : ∀ {a b : List AV}, a.mapM (shA nb h'.length) = some b → b.length = a.length := by
          intro a
          induction a with
          | nil => intro b h; simp at h; subst h; rfl
          | cons x a ih =>
            intro b h
            simp only [List.mapM_cons, Option.bind_eq_bind, Option.bind_eq_some_iff, Option.pure_def, Option.some.injEq] at h
            obtain ⟨y, _, r, hr, rfl⟩ := h
            simp [ih hr]
        exact key e1
      have hsub : (cs'.drop off).take n = l.map AV.pv := by
        have key : ∀ {a b : List AV} (k : Nat), a.mapM (shA nb h'.length) = some b → (a.drop k).mapM (shA nb h'.length) = some (b.drop k) := by
          intro a
          induction a with
          | nil => intro b k h; simp at h; subst h; simp
          | cons x a ih =>
            intro b k h
            cases k with
            | zero => simpa using h
            | succ k =>
              simp only [List.mapM_cons, Option.bind_eq_bind, Option.bind_eq_some_iff, Option.pure_def, Option.some.injEq] at h
              obtain ⟨y, _, r, hr, rfl⟩ := h
              simpa using ih k hr
        have key2 : ∀ {a b : List AV} (k : Nat), a.mapM (shA nb h'.length) = some b → (a.take k).mapM (shA nb h'.length) = some (b.take k) := by
          intro a
          induction a with
          | nil => intro b k h; simp at h; subst h; simp
          | cons x a ih =>
            intro b k h
            cases k with
            | zero => simp
            | succ k =>
              simp only [List.mapM_cons, Option.bind_eq_bind, Option.bind_eq_some_iff, Option.pure_def, Option.some.injEq] at h
              obtain ⟨y, hy, r, hr, rfl⟩ := h
              simp only [List.take_succ_cons, List.mapM_cons, hy, ih k hr]
              rfl
        have := key2 n (key off e1)
        rw [hl, sh_pvs] at this
        exact (Option.some.inj this).symm
      exact ⟨.slice (id + nb) ver off n mc 1 xc, by simp [shA, hi], .own _ _ _ _ _ _ cs' _ hn (by omega) e2 (by omega) hm hsub, fun j hj => by simp only [ownOf, Option.some.injEq] at hj; omega, fun h => by simp [ownOf] at h⟩
  · cases r with
    | nil => exact ⟨_, rfl, .nil, fun id h => by simp [ownOf] at h⟩
    | own id ver n xc l hn hi hc =>
      obtain ⟨cs', e1, e2⟩ := h4 id ver _ hi hc
      rw [sh_pvs] at e1
      cases e1
      exact ⟨.slice (id + nb) ver 0 n n 1 xc, by simp [shA, hi], .own _ _ _ _ _ hn (by omega) e2, fun j hj => by simp only [ownOf, Option.some.injEq] at hj; omega⟩
mutual
theorem eqPV_refl : ∀ p : PV, eqPV p p = true
  | .bool a => by simp [eqPV]
  | .int k a => by simp [eqPV]
  | .str a => by simp [eqPV]
  | .nilPtr => rfl
  | .nilSlice => rfl
  | .nilMap => rfl
  | .nilFunc => rfl
  | .nilIface => rfl
  | .zcap => rfl
  | .ros a n c => by simp only [eqPV, decide_true, Bool.true_and]; exact eqPVs_refl c
  | .rop c o => by simp only [eqPV, decide_true, Bool.true_and]; exact eqPVs_refl c
  | .fn a => by simp [eqPV]
  | .sym a => by simp [eqPV]
theorem eqPVs_refl : ∀ p : List PV, eqPVs p p = true
  | [] => rfl
  | x :: xs => by simp only [eqPVs, eqPV_refl x, eqPVs_refl xs, Bool.and_self]
end
theorem sameCell_refl {nb : Nat} {c : AV} (h : okC nb c) : sameCell c c = true := by
  have := h 0 nb (Nat.le_refl _)
  cases c with
  | pv p => exact eqPV_refl p
  | ptr a b c => simp [sameCell]
  | slice a b c d e f g => simp [sameCell]
  | _ => simp [shA] at this
theorem eqBlk_refl {nb ver : Nat} : ∀ {cs : List AV}, (∀ c ∈ cs, okC nb c) → eqBlk (.cells ver cs) (.cells ver cs) = true := by
  intro cs h
  have key : ∀ {cs : List AV}, (∀ c ∈ cs, okC nb c) → eqCells' cs cs = true := by
    intro cs
    induction cs with
    | nil => intro _; rfl
    | cons a cs ih =>
      intro h
      simp only [eqCells', sameCell_refl (h a List.mem_cons_self), ih (fun c hc => h c (List.mem_cons_of_mem _ hc)), Bool.and_self]
  simp only [eqBlk, decide_true, Bool.true_and]
  exact key h
/-- A load of what a call leaves as it is. -/
theorem heapPart_load_all {a b : Foot} {h h' : List Blk} (ha : a.chg = .no) (hb : b.chg = .all h h') (hr : ∀ id ∈ a.reads, eqBlk (hf h id) (hf h' id) = true) : heapPart a b = true := by
  unfold heapPart
  rw [ha, hb]
  simp only [Chg.isAll, Bool.false_eq_true, if_false, if_true, Chg.ids, List.isEmpty_nil, Bool.true_and]
  unfold disjointL
  rw [List.all_eq_true]
  intro id hid
  simp only [List.mem_filter, Bool.not_eq_true'] at hid
  cases hc : a.reads.contains id with
  | false => rfl
  | true =>
    have := hr id (by simpa using hc)
    rw [this] at hid
    simp at hid
end
end Go.Proofs.Ytlinbbjobjnipaa.AI

set_option linter.unusedVariables false
set_option linter.unusedSimpArgs false
namespace Go.Proofs.Ytlinbbjobjnipaa
open Go
structure M where
  kind : Int
  node : Int
  pred : Int
  list : List Int
  done : Bool
  key : List Int
  data : List Int
  lease : Int
  err : Int
def u8 (z : Int) : Int := z % 256
def isNode (n : Int) : Bool := decide (0 ≤ n) && decide (n < 10)
/-- Fields of a row, by kind. -/
def rowOf (k : Int) : Option (List Nat) :=
  if k = 1 then some []
  else if k = 2 then some [0, 2]
  else if k = 3 then some [1]
  else if k = 4 then some [4]
  else if k = 5 then some [5]
  else if k = 6 then some [3, 2]
  else if k = 7 then some [5]
  else if k = 8 then some [4, 6]
  else if k = 9 then some [5, 6, 1, 7]
  else if k = 10 then some [5, 6]
  else if k = 11 then some [5]
  else if k = 12 then some [6, 1, 7]
  else none
/-- A field's bytes, or what is wrong. -/
def fieldE (m : M) (f : Nat) : Except Int (List Int) :=
  match f with
  | 0 => if m.pred ≠ -1 ∧ isNode m.pred = false then .error 1 else .ok [u8 m.pred]
  | 1 => if isNode m.node = false then .error 1 else .ok [u8 m.node]
  | 2 => if m.list.length > 10 then .error 4 else if m.list.all isNode then .ok (u8 m.list.length :: m.list.map u8) else .error 1
  | 3 => .ok [if m.done then 1 else 0]
  | 4 => if m.err < 0 ∨ m.err > 20 then .error 1 else .ok [u8 m.err]
  | 5 => .ok m.key
  | 6 => if m.data.length > 6000 then .error 5 else .ok (u8 ((m.data.length : Int) / 256) :: u8 m.data.length :: m.data)
  | _ => if m.lease < 1 ∨ m.lease > 1000 then .error 1 else .ok [u8 (m.lease / 16777216), u8 (m.lease / 65536), u8 (m.lease / 256), u8 m.lease]
def fieldsE (m : M) : List Nat → List Int → Except Int (List Int)
  | [], b => .ok b
  | f :: fs, b =>
    match fieldE m f with
    | .ok r => fieldsE m fs (b ++ r)
    | .error e => .error e
/-- A message's bytes, or what is wrong. -/
def enc (m : M) : Except Int (List Int) :=
  match rowOf m.kind with
  | none => .error 3
  | some fs => fieldsE m fs [u8 m.kind]
/-- A message such as may be written. -/
def goodM (m : M) : M :=
  { kind := 1 + m.kind % 12, node := m.node % 10, pred := m.pred % 11 - 1, lease := 1 + m.lease % 1000, err := m.err % 21,
    list := (m.list.take 10).map (· % 10), done := m.done, key := m.key, data := m.data.take 6000 }
def lenOf (m : M) : Int :=
  if m.kind = 2 ∨ m.kind = 6 then 3 + m.list.length
  else if m.kind = 3 ∨ m.kind = 4 then 2
  else if m.kind = 5 ∨ m.kind = 7 ∨ m.kind = 11 then 33
  else if m.kind = 8 then 4 + m.data.length
  else if m.kind = 9 then 40 + m.data.length
  else if m.kind = 10 then 35 + m.data.length
  else if m.kind = 12 then 8 + m.data.length
  else 1
theorem isNode_mod (n : Int) : isNode (n % 10) = true := by
  unfold isNode
  have := Int.emod_nonneg n (show (10 : Int) ≠ 0 by omega)
  have := Int.emod_lt_of_pos n (show (0 : Int) < 10 by omega)
  simp; omega
/-- What is good is written, in just as many bytes. -/
theorem enc_good (m : M) (hk : m.key.length = 32) : ∃ r, enc (goodM m) = .ok ((goodM m).kind :: r) ∧ ((r.length : Int) + 1 = lenOf (goodM m)) := by
  have k0 := Int.emod_nonneg m.kind (show (12 : Int) ≠ 0 by omega)
  have k1 := Int.emod_lt_of_pos m.kind (show (0 : Int) < 12 by omega)
  have f0 : ∃ r, fieldE (goodM m) 0 = .ok r ∧ r.length = 1 := by
    have p0 := Int.emod_nonneg m.pred (show (11 : Int) ≠ 0 by omega)
    have p1 := Int.emod_lt_of_pos m.pred (show (0 : Int) < 11 by omega)
    refine ⟨[u8 (goodM m).pred], ?_, rfl⟩
    unfold fieldE
    simp only
    rw [if_neg]
    intro ⟨h1, h2⟩
    simp [goodM, isNode] at h1 h2
    omega
  have f1 : ∃ r, fieldE (goodM m) 1 = .ok r ∧ r.length = 1 := by
    refine ⟨[u8 (goodM m).node], ?_, rfl⟩
    unfold fieldE
    simp only
    rw [if_neg]
    rw [show (goodM m).node = m.node % 10 from rfl, isNode_mod]
    simp
  have f2 : ∃ r, fieldE (goodM m) 2 = .ok r ∧ r.length = 1 + (goodM m).list.length := by
    refine ⟨u8 (goodM m).list.length :: (goodM m).list.map u8, ?_, by simp; omega⟩
    unfold fieldE
    simp only
    rw [if_neg (by simp [goodM]; omega), if_pos]
    rw [List.all_eq_true]
    intro x hx
    obtain ⟨y, _, rfl⟩ := List.mem_map.1 hx
    exact isNode_mod y
  have f3 : ∃ r, fieldE (goodM m) 3 = .ok r ∧ r.length = 1 := ⟨_, rfl, rfl⟩
  have f4 : ∃ r, fieldE (goodM m) 4 = .ok r ∧ r.length = 1 := by
    have p0 := Int.emod_nonneg m.err (show (21 : Int) ≠ 0 by omega)
    have p1 := Int.emod_lt_of_pos m.err (show (0 : Int) < 21 by omega)
    refine ⟨[u8 (goodM m).err], ?_, rfl⟩
    unfold fieldE
    simp only
    rw [if_neg (by simp [goodM]; omega)]
  have f5 : ∃ r, fieldE (goodM m) 5 = .ok r ∧ r.length = 32 := ⟨_, rfl, hk⟩
  have f6 : ∃ r, fieldE (goodM m) 6 = .ok r ∧ r.length = 2 + (goodM m).data.length := by
    refine ⟨u8 (((goodM m).data.length : Int) / 256) :: u8 (goodM m).data.length :: (goodM m).data, ?_, by simp; omega⟩
    unfold fieldE
    simp only
    rw [if_neg (by simp [goodM]; omega)]
  have f7 : ∃ r, fieldE (goodM m) 7 = .ok r ∧ r.length = 4 := by
    have p0 := Int.emod_nonneg m.lease (show (1000 : Int) ≠ 0 by omega)
    have p1 := Int.emod_lt_of_pos m.lease (show (0 : Int) < 1000 by omega)
    refine ⟨[u8 ((goodM m).lease / 16777216), u8 ((goodM m).lease / 65536), u8 ((goodM m).lease / 256), u8 (goodM m).lease], ?_, rfl⟩
    unfold fieldE
    simp only
    rw [if_neg (by simp [goodM]; omega)]
  obtain ⟨r0, e0, l0⟩ := f0
  obtain ⟨r1, e1, l1⟩ := f1
  obtain ⟨r2, e2, l2⟩ := f2
  obtain ⟨r3, e3, l3⟩ := f3
  obtain ⟨r4, e4, l4⟩ := f4
  obtain ⟨r5, e5, l5⟩ := f5
  obtain ⟨r6, e6, l6⟩ := f6
  obtain ⟨r7, e7, l7⟩ := f7
  have hkind : (goodM m).kind = 1 + m.kind % 12 := rfl
  have hu : u8 (goodM m).kind = (goodM m).kind := by unfold u8; omega
  have hcase : m.kind % 12 = 0 ∨ m.kind % 12 = 1 ∨ m.kind % 12 = 2 ∨ m.kind % 12 = 3 ∨ m.kind % 12 = 4 ∨ m.kind % 12 = 5 ∨ m.kind % 12 = 6 ∨ m.kind % 12 = 7 ∨ m.kind % 12 = 8 ∨ m.kind % 12 = 9 ∨ m.kind % 12 = 10 ∨ m.kind % 12 = 11 := by omega
  unfold enc
  rw [hu]
  rcases hcase with h | h | h | h | h | h | h | h | h | h | h | h <;> rw [h] at hkind <;> simp only [hkind] <;>
    simp [rowOf, fieldsE, lenOf, hkind, e0, e1, e2, e3, e4, e5, e6, e7, l0, l1, l2, l3, l4, l5, l6, l7] <;> omega
end Go.Proofs.Ytlinbbjobjnipaa

set_option linter.unusedVariables false
set_option linter.unusedSimpArgs false
namespace Go.Proofs.Ytlinbbjobjnipaa
open Go
def zeroM : M := { kind := 0, node := 0, pred := 0, list := [], done := false, key := List.replicate 32 0, data := [], lease := 0, err := 0 }
def readList : Nat → List Int → List Int → Except Int (List Int × List Int)
  | 0, b, acc => .ok (acc, b)
  | n + 1, [], acc => .error 8
  | n + 1, x :: r, acc => if x > 9 then .error 11 else readList n r (acc ++ [x])
/-- A field is read out of bytes. -/
def readE (f : Nat) (m : M) (b : List Int) : Except Int (M × List Int) :=
  match f with
  | 0 => match b with
    | [] => .error 8
    | x :: r => if x = 255 then .ok ({ m with pred := -1 }, r) else if x > 9 then .error 11 else .ok ({ m with pred := x }, r)
  | 1 => match b with
    | [] => .error 8
    | x :: r => if x > 9 then .error 11 else .ok ({ m with node := x }, r)
  | 2 => match b with
    | [] => .error 8
    | x :: r => if x > 10 then .error 11 else match readList x.toNat r [] with
      | .ok (l, r) => .ok ({ m with list := l }, r)
      | .error e => .error e
  | 3 => match b with
    | [] => .error 8
    | x :: r => if x > 1 then .error 11 else .ok ({ m with done := decide (x = 1) }, r)
  | 4 => match b with
    | [] => .error 8
    | x :: r => if x > 20 then .error 11 else .ok ({ m with err := x }, r)
  | 5 => if b.length < 32 then .error 8 else .ok ({ m with key := b.take 32 }, b.drop 32)
  | 6 => match b with
    | x :: y :: r => if x * 256 + y > 6000 then .error 11 else if r.length < (x * 256 + y).toNat then .error 8 else .ok ({ m with data := r.take (x * 256 + y).toNat }, r.drop (x * 256 + y).toNat)
    | _ => .error 8
  | _ => match b with
    | x :: y :: z :: w :: r => if x * 16777216 + y * 65536 + z * 256 + w < 1 ∨ x * 16777216 + y * 65536 + z * 256 + w > 1000 then .error 11 else .ok ({ m with lease := x * 16777216 + y * 65536 + z * 256 + w }, r)
    | _ => .error 8
def fieldsR : List Nat → M → List Int → Except Int (M × List Int)
  | [], m, b => .ok (m, b)
  | f :: fs, m, b => match readE f m b with
    | .ok (m, b) => fieldsR fs m b
    | .error e => .error e
/-- A message out of bytes. -/
def dec (b : List Int) : Except Int M :=
  match b with
  | [] => .error 8
  | k :: r => match rowOf k with
    | none => .error 3
    | some fs => match fieldsR fs { zeroM with kind := k } r with
      | .ok (m, []) => .ok m
      | .ok (_, _ :: _) => .error 9
      | .error e => .error e
/-- A field is taken over. -/
def setF (f : Nat) (m x : M) : M :=
  match f with
  | 0 => { x with pred := m.pred }
  | 1 => { x with node := m.node }
  | 2 => { x with list := m.list }
  | 3 => { x with done := m.done }
  | 4 => { x with err := m.err }
  | 5 => { x with key := m.key }
  | 6 => { x with data := m.data }
  | _ => { x with lease := m.lease }
theorem row_u8 {k : Int} {fs : List Nat} (h : rowOf k = some fs) : u8 k = k := by
  have : 1 ≤ k ∧ k ≤ 12 := by
    by_cases hk : 1 ≤ k ∧ k ≤ 12
    · exact hk
    · exfalso
      unfold rowOf at h
      rw [if_neg (by omega), if_neg (by omega), if_neg (by omega), if_neg (by omega), if_neg (by omega), if_neg (by omega), if_neg (by omega), if_neg (by omega), if_neg (by omega), if_neg (by omega), if_neg (by omega), if_neg (by omega)] at h
      simp at h
  unfold u8; omega
end Go.Proofs.Ytlinbbjobjnipaa
