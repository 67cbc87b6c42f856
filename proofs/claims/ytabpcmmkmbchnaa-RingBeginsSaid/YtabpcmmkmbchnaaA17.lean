/- A second way to run: temporaries in a tree, all worked out at once. What it gives, the plain interpreter gives. -/
import Derived.Test.YtabpcmmkmbchnaaA1
set_option linter.unusedVariables false
namespace Go.Proofs.Ytabpcmmkmbchnaa.AI
open Go

inductive Tre where
  | leaf (o : Option AV)
  | node (a b c d : Tre)

/-- By the rest of a number by four. -/
def four {γ : Type} (i : Nat) (a b c d : γ) : γ := Nat.casesOn (motive := fun _ => γ) i a fun m => Nat.casesOn (motive := fun _ => γ) m b fun m => Nat.casesOn (motive := fun _ => γ) m c fun _ => d

noncomputable def getT (t : Tre) : Nat → Option AV :=
  Tre.rec (motive := fun _ => Nat → Option AV)
    (fun o i => Nat.casesOn (motive := fun _ => Option AV) i o fun _ => none)
    (fun _ _ _ _ ga gb gc gd i => four (i % 4) (ga (i / 4)) (gb (i / 4)) (gc (i / 4)) (gd (i / 4))) t

/-- Set and go on; what lies beyond stays as it is. -/
noncomputable def setK {β : Type} (v : AV) (t : Tre) : Nat → (Tre → β) → β :=
  Tre.rec (motive := fun _ => Nat → (Tre → β) → β)
    (fun o i k => Nat.casesOn (motive := fun _ => β) i (Option.casesOn (motive := fun _ => β) o (k (.leaf none)) fun _ => k (.leaf (some v))) fun _ => k (.leaf o))
    (fun a b c d sa sb sc sd i k => four (i % 4) (sa (i / 4) fun a' => k (.node a' b c d)) (sb (i / 4) fun b' => k (.node a b' c d)) (sc (i / 4) fun c' => k (.node a b c' d)) (sd (i / 4) fun d' => k (.node a b c d'))) t

noncomputable def setT (v : AV) (t : Tre) (i : Nat) : Tre := setK v t i fun t => t

theorem four_lt {γ : Type} (i : Nat) (hi : i < 4) (a b c d : γ) : four i a b c d = if i = 0 then a else if i = 1 then b else if i = 2 then c else d := by
  rcases i with _ | _ | _ | _ | i <;> first | rfl | omega

theorem getT_node (a b c d : Tre) (i : Nat) : getT (.node a b c d) i = four (i % 4) (getT a (i / 4)) (getT b (i / 4)) (getT c (i / 4)) (getT d (i / 4)) := rfl

theorem setK_node {β : Type} (v : AV) (a b c d : Tre) (i : Nat) (k : Tre → β) : setK v (.node a b c d) i k =
    four (i % 4) (setK v a (i / 4) fun a' => k (.node a' b c d)) (setK v b (i / 4) fun b' => k (.node a b' c d)) (setK v c (i / 4) fun c' => k (.node a b c' d)) (setK v d (i / 4) fun d' => k (.node a b c d')) := rfl

theorem setK_eq (v : AV) : ∀ (t : Tre) (β : Type) (i : Nat) (k : Tre → β), setK v t i k = k (setT v t i) := by
  intro t
  induction t with
  | leaf o => intro β i k; cases i <;> cases o <;> rfl
  | node a b c d ha hb hc hd =>
    intro β i k
    unfold setT
    rw [setK_node, setK_node, four_lt _ (by omega), four_lt _ (by omega), ha, hb, hc, hd, ha Tre, hb Tre, hc Tre, hd Tre]
    split
    · rfl
    split
    · rfl
    split <;> rfl

theorem setT_node (v : AV) (a b c d : Tre) (i : Nat) : setT v (.node a b c d) i =
    four (i % 4) (.node (setT v a (i / 4)) b c d) (.node a (setT v b (i / 4)) c d) (.node a b (setT v c (i / 4)) d) (.node a b c (setT v d (i / 4))) := by
  show setK v _ i (fun t => t) = _
  rw [setK_node, setK_eq, setK_eq, setK_eq, setK_eq]

theorem getT_setT (v : AV) : ∀ (t : Tre) (i j : Nat), getT (setT v t i) j = if j = i then (getT t i).map fun _ => v else getT t j := by
  intro t
  induction t with
  | leaf o => intro i j; rcases i with _ | i <;> rcases j with _ | j <;> rcases o with _ | o <;> (split <;> first | rfl | (exfalso; omega))
  | node a b c d ha hb hc hd =>
    intro i j
    rw [setT_node, four_lt _ (by omega)]
    have hij : j = i ↔ j % 4 = i % 4 ∧ j / 4 = i / 4 := by omega
    have hj : j % 4 < 4 := by omega
    have hi : i % 4 < 4 := by omega
    rw [getT_node a b c d i, getT_node a b c d j, four_lt _ hi, four_lt _ hj]
    split
    · rename_i e
      rw [getT_node, four_lt _ hj, ha]
      by_cases h1 : j % 4 = 0
      · rw [if_pos h1, if_pos h1]
        simp only [show (j / 4 = i / 4) = (j = i) from propext (by omega)]
      · rw [if_neg h1, if_neg (show ¬ j = i by omega), if_neg h1]
    split
    · rename_i e0 e
      rw [getT_node, four_lt _ hj, hb]
      by_cases h1 : j % 4 = 1
      · rw [if_neg (show ¬ j % 4 = 0 by omega), if_pos h1, if_neg (show ¬ j % 4 = 0 by omega), if_pos h1]
        simp only [show (j / 4 = i / 4) = (j = i) from propext (by omega)]
      · rw [if_neg (show ¬ j = i by omega)]
        simp [h1]
    split
    · rename_i e0 e1 e
      rw [getT_node, four_lt _ hj, hc]
      by_cases h1 : j % 4 = 2
      · rw [if_neg (show ¬ j % 4 = 0 by omega), if_neg (show ¬ j % 4 = 1 by omega), if_pos h1, if_neg (show ¬ j % 4 = 0 by omega), if_neg (show ¬ j % 4 = 1 by omega), if_pos h1]
        simp only [show (j / 4 = i / 4) = (j = i) from propext (by omega)]
      · rw [if_neg (show ¬ j = i by omega)]
        simp [h1]
    · rename_i e0 e1 e
      rw [getT_node, four_lt _ hj, hd]
      by_cases h1 : j % 4 = 3
      · rw [if_neg (show ¬ j % 4 = 0 by omega), if_neg (show ¬ j % 4 = 1 by omega), if_neg (show ¬ j % 4 = 2 by omega), if_neg (show ¬ j % 4 = 0 by omega), if_neg (show ¬ j % 4 = 1 by omega), if_neg (show ¬ j % 4 = 2 by omega)]
        simp only [show (j / 4 = i / 4) = (j = i) from propext (by omega)]
      · rw [if_neg (show ¬ j = i by omega)]
        by_cases h5 : j % 4 = 0
        · simp [h5]
        · by_cases h6 : j % 4 = 1
          · simp [h6]
          · have h7 : j % 4 = 2 := by omega
            simp [h7]

/-- So many empty temporaries. -/
noncomputable def mkU : Nat → Nat → Tre
  | 0, n => .leaf (Nat.casesOn (motive := fun _ => Option AV) n none fun _ => some undefA)
  | d + 1, n => .node (mkU d ((n + 3) / 4)) (mkU d ((n + 2) / 4)) (mkU d ((n + 1) / 4)) (mkU d (n / 4))

theorem getT_mkU : ∀ (d n i : Nat), n ≤ 4 ^ d → getT (mkU d n) i = if i < n then some undefA else none
  | 0, n, i, h => by
    have h1 : n ≤ 1 := by simpa using h
    rcases n with _ | n <;> rcases i with _ | i
    · rfl
    · rfl
    · rfl
    · rw [if_neg (by omega)]
      rfl
  | d + 1, n, i, h => by
    have hp : 4 ^ (d + 1) = 4 ^ d * 4 := Nat.pow_succ 4 d
    rw [mkU, getT_node, getT_mkU d _ _ (by omega), getT_mkU d _ _ (by omega), getT_mkU d _ _ (by omega), getT_mkU d _ _ (by omega), four_lt _ (by omega)]
    have h4 : i % 4 = 0 ∨ i % 4 = 1 ∨ i % 4 = 2 ∨ i % 4 = 3 := by omega
    rcases h4 with h4 | h4 | h4 | h4
    · simp only [h4, if_true, show (i / 4 < (n + 3) / 4) = (i < n) from propext (by omega)]
    · simp [h4, show (i / 4 < (n + 2) / 4) = (i < n) from propext (by omega)]
    · simp [h4, show (i / 4 < (n + 1) / 4) = (i < n) from propext (by omega)]
    · simp [h4, show (i / 4 < n / 4) = (i < n) from propext (by omega)]

/-- Temporaries in a tree are those of a list. -/
def RT (t : Tre) (T : List AV) : Prop := ∀ i, getT t i = T[i]?

theorem RT.set {t : Tre} {T : List AV} (h : RT t T) (i : Nat) (v : AV) : RT (setT v t i) (T.set i v) := by
  intro j
  rw [getT_setT, h i, h j, List.getElem?_set]
  by_cases hij : j = i
  · subst hij
    by_cases hl : j < T.length
    · simp [hl]
    · simp [hl]
  · rw [if_neg hij, if_neg (fun h => hij h.symm)]

noncomputable def putsK {β : Type} : List AV → Tre → Nat → (Tre → β) → β
  | [], t, _, k => k t
  | a :: as, t, i, k => forceA a fun a => setK a t i fun t => forceN (i + 1) fun i => putsK as t i k

theorem putsK_ok {β : Type} : ∀ (as : List AV) (t : Tre) (i : Nat) (k : Tre → β) (pre : List AV) (n : Nat), as.length ≤ n → RT t (pre ++ List.replicate n undefA) → pre.length = i →
    ∃ t', putsK as t i k = k t' ∧ RT t' (pre ++ as ++ List.replicate (n - as.length) undefA)
  | [], t, i, k, pre, n, hn, h, hi => ⟨t, rfl, by simpa using h⟩
  | a :: as, t, i, k, pre, n, hn, h, hi => by
    rw [putsK, forceA_eq, setK_eq, forceN_eq]
    have h' := h.set i a
    obtain ⟨n, rfl⟩ : ∃ m, n = m + 1 := ⟨n - 1, by simp at hn; omega⟩
    have e : (pre ++ List.replicate (n + 1) undefA).set i a = (pre ++ [a]) ++ List.replicate n undefA := by
      subst hi
      rw [List.replicate_succ, List.set_append_right _ _ (Nat.le_refl _)]
      simp
    rw [e] at h'
    obtain ⟨t', h1, h2⟩ := putsK_ok as _ (i + 1) k (pre ++ [a]) n (by simpa using hn) h' (by simp [hi])
    exact ⟨t', h1, by simpa using h2⟩

/-! The run. -/

noncomputable def evalG (g : Nat → Option AV) : Operand → AV
  | .tmp t => (g t).getD undefA
  | .const v => ofConst v
  | .func f => .pv (.fn f)
  | .global _ => .dead

theorem evalG_eq {t : Tre} {T : List AV} (h : RT t T) : evalG (getT t) = evalA T := by
  funext o
  cases o with
  | tmp i => simp [evalG, evalA, h i, List.getD_eq_getElem?_getD]
  | _ => rfl

noncomputable def wantG (ops : List Oper) (g : Nat → Option AV) (o : Oper) : Option Bool :=
  match o.guard with
  | none => some true
  | some (j, want) =>
    match (ops[j]?).bind (·.dst) with
    | none => some false
    | some d => match g d with
      | some (.pv (.bool b)) => some (b == want)
      | some .dead => none
      | some (.pv (.sym _)) => none
      | _ => some false

theorem wantG_eq {t : Tre} {T : List AV} (h : RT t T) (ops : List Oper) (o : Oper) : wantG ops (getT t) o = wantA ops T o := by
  have : getT t = fun i => T[i]? := funext h
  rw [this]
  rfl

def runR (P : Program) (pure : Nat → Bool) (F : CallF) (G : CallG) (ρ : Operand → AV) (h : List Blk) (op : Op) : Option (AV × Chg) :=
  match calleeA ρ op with
  | some (f, args) => if pure f then (G (hf h) f args).map fun v => (v, .no) else (F f args h).map fun (v, h') => (v, .all h')
  | none => (primA P ρ (hf h) h.length op).map fun e => (e.v, e.chg h.length)

def Less (FT F : CallF) : Prop := ∀ f args h r, FT f args h = some r → F f args h = some r
def LessG (GT G : CallG) : Prop := ∀ hp f args r, GT hp f args = some r → G hp f args = some r

theorem runR_less {P : Program} {pure : Nat → Bool} {FT F : CallF} {GT G : CallG} (hF : Less FT F) (hG : LessG GT G) {T : List AV} {h : List Blk} {op : Op} {r : AV × Chg}
    (hr : runR P pure FT GT (evalA T) h op = some r) : runOp P pure F G T h op = some r := by
  unfold runR at hr
  unfold runOp
  split at hr
  · rename_i f args hc
    rw [hc]
    simp only
    split at hr
    · rename_i hp
      rw [if_pos hp]
      simp only [Option.map_eq_some_iff] at hr ⊢
      obtain ⟨v, h1, h2⟩ := hr
      exact ⟨v, hG _ _ _ _ h1, h2⟩
    · rename_i hp
      rw [if_neg hp]
      simp only [Option.map_eq_some_iff] at hr ⊢
      obtain ⟨v, h1, h2⟩ := hr
      exact ⟨v, hF _ _ _ _ h1, h2⟩
  · rename_i hc
    rw [hc]
    exact hr

noncomputable def stepT (P : Program) (pure : Nat → Bool) (F : CallF) (G : CallG) (ops : List Oper) (o : Oper) (t : Tre) (h : List Blk) : Option (AV × Chg) :=
  match wantG ops (getT t) o with
  | none => none
  | some false => some (undefA, .no)
  | some true => runR P pure F G (evalG (getT t)) h o.op

theorem stepT_less {P : Program} {pure : Nat → Bool} {FT F : CallF} {GT G : CallG} (hF : Less FT F) (hG : LessG GT G) {ops : List Oper} {o : Oper} {t : Tre} {T : List AV} {h : List Blk} {r : AV × Chg}
    (hT : RT t T) (hr : stepT P pure FT GT ops o t h = some r) : stepOp P pure F G ops o (T, h) = some r := by
  unfold stepT at hr
  unfold stepOp
  rw [wantG_eq hT, evalG_eq hT] at hr
  simp only
  split at hr
  · simp at hr
  · rename_i hw; rw [hw]; exact hr
  · rename_i hw; rw [hw]; exact runR_less hF hG hr

abbrev StT := Tre × List Blk

noncomputable def putK {β : Type} (t : Tre) (dst : Option Nat) (v : AV) (k : Tre → β) : β :=
  match dst with
  | some d => setK v t d k
  | none => k t

theorem putK_ok {β : Type} {t : Tre} {T : List AV} (h : RT t T) (dst : Option Nat) (v : AV) (k : Tre → β) : ∃ t', putK t dst v k = k t' ∧ RT t' (putA T dst v) := by
  cases dst with
  | none => exact ⟨t, rfl, h⟩
  | some d => exact ⟨_, setK_eq v t β d k, h.set d v⟩

def forceH {β : Type} (h : List Blk) (c : Chg) (k : List Blk → β) : β :=
  match c with
  | .no => k h
  | .one id b => forceL (fun b k => k b) (setL h id b) k
  | .all h' => forceL (fun b k => k b) h' k

theorem forceH_eq {β : Type} (h : List Blk) (c : Chg) (k : List Blk → β) : forceH h c k = k (c.st h) := by
  cases c with
  | no => rfl
  | one id b => exact forceL_eq (fun _ _ => rfl) _ _
  | all h' => exact forceL_eq (fun _ _ => rfl) _ _

noncomputable def nextT {β : Type} (o : Oper) (t : Tre) (h : List Blk) (r : AV × Chg) (k : StT → β) : β :=
  forceA r.1 fun v => forceC r.2 fun c => putK t o.dst v fun t => forceH h c fun h => k (t, h)

theorem nextT_ok {β : Type} {t : Tre} {T : List AV} (hT : RT t T) (o : Oper) (h : List Blk) (r : AV × Chg) (k : StT → β) :
    ∃ t', nextT o t h r k = k (t', (nextSt o (T, h) r).2) ∧ RT t' (nextSt o (T, h) r).1 := by
  unfold nextT
  rw [forceA_eq, forceC_eq]
  obtain ⟨t', h1, h2⟩ := putK_ok hT o.dst r.1 (fun t => forceH h r.2 fun h => k (t, h))
  refine ⟨t', ?_, h2⟩
  rw [h1, forceH_eq]
  rfl

noncomputable def runT (P : Program) (pure : Nat → Bool) (F : CallF) (G : CallG) (ops : List Oper) : List Oper → StT → Option StT
  | [], s => some s
  | o :: rest, s => match stepT P pure F G ops o s.1 s.2 with
    | some r => nextT o s.1 s.2 r fun s' => runT P pure F G ops rest s'
    | none => none

theorem runT_less {P : Program} {pure : Nat → Bool} {FT F : CallF} {GT G : CallG} (hF : Less FT F) (hG : LessG GT G) {ops : List Oper} : ∀ (l : List Oper) {t : Tre} {T : List AV} {h : List Blk} {s' : StT},
    RT t T → runT P pure FT GT ops l (t, h) = some s' → ∃ T', RT s'.1 T' ∧ runOps P pure F G ops l (T, h) = some (T', s'.2)
  | [], t, T, h, s', hT, hr => by
    simp only [runT, Option.some.injEq] at hr
    subst hr
    exact ⟨T, hT, rfl⟩
  | o :: l, t, T, h, s', hT, hr => by
    rw [runT] at hr
    split at hr
    · rename_i r hs
      obtain ⟨t1, h1, h2⟩ := nextT_ok hT o h r (fun s' => runT P pure FT GT ops l s')
      rw [h1] at hr
      obtain ⟨T', h3, h4⟩ := runT_less hF hG l h2 hr
      refine ⟨T', h3, ?_⟩
      rw [runOps_cons, stepT_less hF hG hT hs]
      exact h4
    · simp at hr

def footR (ops : List Oper) (o : Oper) (ρ : Operand → AV) (w : Option Bool) (r : AV × Chg) : Foot :=
  { dst := o.dst, tmps := opTmps ops o, reads := (if (w == some true) && looksIn o.op then o.op.operands.toList.flatMap fun x => idOf (ρ x) else []), chg := r.2 }

noncomputable def traceT (P : Program) (pure : Nat → Bool) (F : CallF) (G : CallG) (ops : List Oper) : List Oper → StT → Option (List Foot × StT)
  | [], s => some ([], s)
  | o :: rest, s => match stepT P pure F G ops o s.1 s.2 with
    | some r => nextT o s.1 s.2 r fun s' => match traceT P pure F G ops rest s' with
      | some (fs, s'') => some (footR ops o (evalG (getT s.1)) (wantG ops (getT s.1) o) r :: fs, s'')
      | none => none
    | none => none

theorem traceT_less {P : Program} {pure : Nat → Bool} {FT F : CallF} {GT G : CallG} (hF : Less FT F) (hG : LessG GT G) {ops : List Oper} : ∀ (l : List Oper) {t : Tre} {T : List AV} {h : List Blk} {fs : List Foot} {s' : StT},
    RT t T → traceT P pure FT GT ops l (t, h) = some (fs, s') → ∃ T', RT s'.1 T' ∧ traceD P pure F G ops l (T, h) = some (fs, (T', s'.2))
  | [], t, T, h, fs, s', hT, hr => by
    simp only [traceT, Option.some.injEq, Prod.mk.injEq] at hr
    obtain ⟨rfl, rfl⟩ := hr
    exact ⟨T, hT, rfl⟩
  | o :: l, t, T, h, fs, s', hT, hr => by
    rw [traceT] at hr
    split at hr
    · rename_i r hs
      obtain ⟨t1, h1, h2⟩ := nextT_ok hT o h r (fun s' => match traceT P pure FT GT ops l s' with
        | some (fs, s'') => some (footR ops o (evalG (getT t)) (wantG ops (getT t) o) r :: fs, s'')
        | none => none)
      simp only at hr
      rw [h1] at hr
      split at hr
      · rename_i fs1 s1 htr
        simp only [Option.some.injEq, Prod.mk.injEq] at hr
        obtain ⟨rfl, rfl⟩ := hr
        obtain ⟨T', h3, h4⟩ := traceT_less hF hG l h2 htr
        refine ⟨T', h3, ?_⟩
        rw [traceD_cons, stepT_less hF hG hT hs, evalG_eq hT, wantG_eq hT]
        show Option.map _ (traceD P pure F G ops l (nextSt o (T, h) r)) = _
        rw [h4]
        rfl
      · simp at hr
    · simp at hr

/-! Whether the operations of a region may come in another order: what is told by the region alone is asked apart from what the run tells. -/

def tmpPart (a b : Option Nat × List Nat) : Bool := disjointL a.1.toList b.2 && disjointL b.1.toList a.2 && disjointL a.1.toList b.1.toList

def heapPart (a b : Foot) : Bool :=
  if a.chg.isAll then !heapful b else if b.chg.isAll then !heapful a
  else disjointL a.chg.ids b.reads && disjointL b.chg.ids a.reads && disjointL a.chg.ids b.chg.ids

theorem apartF_parts (a b : Foot) : apartF a b = (tmpPart (a.dst, a.tmps) (b.dst, b.tmps) && heapPart a b) := rfl

def isNo : Chg → Bool
  | .no => true
  | _ => false

def tLater (bef : Nat → Nat) (i : Nat) (a : Option Nat × List Nat) : Nat → List (Option Nat × List Nat) → Bool
  | _, [] => true
  | k, b :: r => ((bef k).testBit i || tmpPart a b) && tLater bef i a (k + 1) r

def tmpsOk (bef : Nat → Nat) : Nat → List (Option Nat × List Nat) → Bool
  | _, [] => true
  | i, a :: r => tLater bef i a (i + 1) r && tmpsOk bef (i + 1) r

def hLater (bef : Nat → Nat) (i : Nat) (a : Foot) : Nat → List Foot → Bool
  | _, [] => true
  | k, b :: r => (!heapful b || (bef k).testBit i || heapPart a b) && hLater bef i a (k + 1) r

def heapsOk (bef : Nat → Nat) : Nat → List Foot → Bool
  | _, [] => true
  | i, a :: r => (!heapful a || hLater bef i a (i + 1) r) && heapsOk bef (i + 1) r

theorem tLater_ok {bef : Nat → Nat} {i : Nat} {a : Option Nat × List Nat} : ∀ {k : Nat} {l : List (Option Nat × List Nat)}, tLater bef i a k l = true → ∀ j b, l[j]? = some b → ((bef (k + j)).testBit i || tmpPart a b) = true
  | k, [], h, j, b, hb => by simp at hb
  | k, b' :: r, h, 0, b, hb => by
    simp only [List.getElem?_cons_zero, Option.some.injEq] at hb; subst hb
    simp only [tLater, Bool.and_eq_true] at h
    exact h.1
  | k, b' :: r, h, j + 1, b, hb => by
    simp only [List.getElem?_cons_succ] at hb
    simp only [tLater, Bool.and_eq_true] at h
    have := tLater_ok h.2 j b hb
    rwa [show k + 1 + j = k + (j + 1) by omega] at this

theorem tmpsOk_ok {bef : Nat → Nat} : ∀ {n : Nat} {l : List (Option Nat × List Nat)}, tmpsOk bef n l = true → ∀ i k a b, i < k → l[i]? = some a → l[k]? = some b → ((bef (n + k)).testBit (n + i) || tmpPart a b) = true
  | n, [], h, i, k, a, b, hik, ha, hb => by simp at ha
  | n, c :: r, h, 0, k, a, b, hik, ha, hb => by
    simp only [List.getElem?_cons_zero, Option.some.injEq] at ha; subst ha
    simp only [tmpsOk, Bool.and_eq_true] at h
    obtain ⟨k, rfl⟩ : ∃ m, k = m + 1 := ⟨k - 1, by omega⟩
    simp only [List.getElem?_cons_succ] at hb
    have := tLater_ok h.1 k b hb
    rwa [show n + 1 + k = n + (k + 1) by omega] at this
  | n, c :: r, h, i + 1, k, a, b, hik, ha, hb => by
    simp only [tmpsOk, Bool.and_eq_true] at h
    obtain ⟨k, rfl⟩ : ∃ m, k = m + 1 := ⟨k - 1, by omega⟩
    simp only [List.getElem?_cons_succ] at ha hb
    have := tmpsOk_ok h.2 i k a b (by omega) ha hb
    rwa [show n + 1 + k = n + (k + 1) by omega, show n + 1 + i = n + (i + 1) by omega] at this

theorem hLater_ok {bef : Nat → Nat} {i : Nat} {a : Foot} : ∀ {k : Nat} {l : List Foot}, hLater bef i a k l = true → ∀ j b, l[j]? = some b → (!heapful b || (bef (k + j)).testBit i || heapPart a b) = true
  | k, [], h, j, b, hb => by simp at hb
  | k, b' :: r, h, 0, b, hb => by
    simp only [List.getElem?_cons_zero, Option.some.injEq] at hb; subst hb
    simp only [hLater, Bool.and_eq_true] at h
    exact h.1
  | k, b' :: r, h, j + 1, b, hb => by
    simp only [List.getElem?_cons_succ] at hb
    simp only [hLater, Bool.and_eq_true] at h
    have := hLater_ok h.2 j b hb
    rwa [show k + 1 + j = k + (j + 1) by omega] at this

theorem disjoint_nil (a : List Nat) : disjointL a [] = true := by simp [disjointL]

theorem heapPart_left {a b : Foot} (h : heapful a = false) : heapPart a b = true := by
  have h' := h
  simp only [heapful, Bool.or_eq_false_iff, Bool.not_eq_false', List.isEmpty_iff] at h
  obtain ⟨⟨h1, h2⟩, h3⟩ := h
  unfold heapPart
  rw [h3, h2, h1, h']
  simp [disjointL]

theorem heapPart_right {a b : Foot} (h : heapful b = false) : heapPart a b = true := by
  have h' := h
  simp only [heapful, Bool.or_eq_false_iff, Bool.not_eq_false', List.isEmpty_iff] at h
  obtain ⟨⟨h1, h2⟩, h3⟩ := h
  unfold heapPart
  rw [h3, h2, h1, h']
  simp [disjointL]

theorem heapPart_no {a b : Foot} (ha : isNo a.chg = true) (hb : isNo b.chg = true) : heapPart a b = true := by
  unfold heapPart
  cases h : a.chg <;> rw [h] at ha <;> simp [isNo] at ha
  cases h : b.chg <;> rw [h] at hb <;> simp [isNo] at hb
  simp [Chg.isAll, Chg.ids, disjointL]

theorem heapsOk_ok {bef : Nat → Nat} : ∀ {n : Nat} {l : List Foot}, heapsOk bef n l = true → ∀ i k a b, i < k → l[i]? = some a → l[k]? = some b → ((bef (n + k)).testBit (n + i) || heapPart a b) = true
  | n, [], h, i, k, a, b, hik, ha, hb => by simp at ha
  | n, c :: r, h, 0, k, a, b, hik, ha, hb => by
    simp only [List.getElem?_cons_zero, Option.some.injEq] at ha; subst ha
    simp only [heapsOk, Bool.and_eq_true] at h
    obtain ⟨k, rfl⟩ : ∃ m, k = m + 1 := ⟨k - 1, by omega⟩
    simp only [List.getElem?_cons_succ] at hb
    cases hc : heapful c with
    | false => rw [heapPart_left hc, Bool.or_true]
    | true =>
      have h1 := h.1
      rw [hc] at h1
      have := hLater_ok (by simpa using h1) k b hb
      rw [show n + 1 + k = n + (k + 1) by omega] at this
      cases hbf : heapful b with
      | false => rw [heapPart_right hbf, Bool.or_true]
      | true => rw [hbf] at this; simpa using this
  | n, c :: r, h, i + 1, k, a, b, hik, ha, hb => by
    simp only [heapsOk, Bool.and_eq_true] at h
    obtain ⟨k, rfl⟩ : ∃ m, k = m + 1 := ⟨k - 1, by omega⟩
    simp only [List.getElem?_cons_succ] at ha hb
    have := heapsOk_ok h.2 i k a b (by omega) ha hb
    rwa [show n + 1 + k = n + (k + 1) by omega, show n + 1 + i = n + (i + 1) by omega] at this

def befF (ops : List Oper) (k : Nat) : Nat := (befL ops []).getD k 0

def statOk (ops : List Oper) : Bool := edgesDown ops && tmpsOk (befF ops) 0 (ops.map fun o => (o.dst, opTmps ops o))

def dynOk (ops : List Oper) (fs : List Foot) : Bool := (fs.all fun f => isNo f.chg) || heapsOk (befF ops) 0 fs

theorem apart_parts {ops : List Oper} {fs : List Foot} (hfs : fs.map (fun f => (f.dst, f.tmps)) = ops.map fun o => (o.dst, opTmps ops o)) (h1 : statOk ops = true) (h2 : dynOk ops fs = true) :
    (edgesDown ops && apartAll (befL ops []) fs) = true := by
  simp only [statOk, Bool.and_eq_true] at h1
  rw [h1.1, Bool.true_and]
  unfold apartAll
  rw [List.all_eq_true]
  intro k hk
  rw [List.all_eq_true]
  intro i hi
  rw [List.mem_range] at hk hi
  have ha : fs[i]? = some fs[i] := List.getElem?_eq_getElem (by omega)
  have hb : fs[k]? = some fs[k] := List.getElem?_eq_getElem hk
  rw [ha, hb]
  simp only
  have e1 := tmpsOk_ok h1.2 i k (fs[i].dst, fs[i].tmps) (fs[k].dst, fs[k].tmps) hi (by rw [← hfs, List.getElem?_map, ha]; rfl) (by rw [← hfs, List.getElem?_map, hb]; rfl)
  have e2 : ((befF ops (0 + k)).testBit (0 + i) || heapPart fs[i] fs[k]) = true := by
    simp only [dynOk, Bool.or_eq_true] at h2
    rcases h2 with h2 | h2
    · rw [List.all_eq_true] at h2
      rw [heapPart_no (h2 _ (List.getElem_mem _)) (h2 _ (List.getElem_mem _)), Bool.or_true]
    · exact heapsOk_ok h2 i k _ _ hi ha hb
  rw [apartF_parts]
  simp only [Nat.zero_add, befF] at e1 e2
  cases hbit : ((befL ops []).getD k 0).testBit i with
  | true => rfl
  | false =>
    rw [hbit] at e1 e2
    simp only [Bool.false_or] at e1 e2 ⊢
    rw [e1, e2]
    rfl

theorem traceT_feet {P : Program} {pure : Nat → Bool} {F : CallF} {G : CallG} {ops : List Oper} : ∀ (l : List Oper) {t : Tre} {T : List AV} {h : List Blk} {fs : List Foot} {s' : StT}, RT t T →
    traceT P pure F G ops l (t, h) = some (fs, s') → fs.map (fun f => (f.dst, f.tmps)) = l.map fun o => (o.dst, opTmps ops o)
  | [], t, T, h, fs, s', hT, hr => by
    simp only [traceT, Option.some.injEq, Prod.mk.injEq] at hr
    obtain ⟨rfl, rfl⟩ := hr
    rfl
  | o :: l, t, T, h, fs, s', hT, hr => by
    rw [traceT] at hr
    split at hr
    · rename_i r hs
      obtain ⟨t1, h1, h2⟩ := nextT_ok hT o h r (fun s' => match traceT P pure F G ops l s' with
        | some (fs, s'') => some (footR ops o (evalG (getT t)) (wantG ops (getT t) o) r :: fs, s'')
        | none => none)
      simp only at hr
      rw [h1] at hr
      split at hr
      · rename_i fs1 s1 htr
        simp only [Option.some.injEq, Prod.mk.injEq] at hr
        obtain ⟨rfl, rfl⟩ := hr
        rw [List.map_cons, List.map_cons, traceT_feet l h2 htr]
        rfl
      · simp at hr
    · simp at hr

noncomputable def drawT (P : Program) (pure : Nat → Bool) (F : CallF) (G : CallG) (ops : List Oper) (s : StT) : Option StT :=
  match traceT P pure F G ops ops s with
  | some (fs, s') => if statOk ops && dynOk ops fs then some s' else none
  | none => none

theorem drawT_less {P : Program} {pure : Nat → Bool} {FT F : CallF} {GT G : CallG} (hF : Less FT F) (hG : LessG GT G) {ops : List Oper} {t : Tre} {T : List AV} {h : List Blk} {s' : StT}
    (hT : RT t T) (hr : drawT P pure FT GT ops (t, h) = some s') : ∃ T', RT s'.1 T' ∧ drawOps P pure F G ops (T, h) = some (T', s'.2) := by
  unfold drawT at hr
  split at hr
  · rename_i fs s1 htr
    split at hr
    · rename_i hc
      simp only [Option.some.injEq] at hr
      subst hr
      rw [Bool.and_eq_true] at hc
      have hc' := apart_parts (traceT_feet ops hT htr) hc.1 hc.2
      obtain ⟨T', h3, h4⟩ := traceT_less hF hG ops hT htr
      refine ⟨T', h3, ?_⟩
      unfold drawOps
      rw [h4]
      show (if _ then _ else _) = _
      rw [if_pos hc']
    · simp at hr
  · simp at hr

def loopT (body : StT → Option (XA × StT)) : Nat → StT → Option (XA × StT)
  | 0, _ => none
  | n + 1, s => match body s with
    | some (.normal, s') => loopT body n s'
    | r => r

noncomputable def execT (P : Program) (pure : Nat → Bool) (F : CallF) (G : CallG) (lim : Nat) : Code → StT → Option (XA × StT)
  | .skip, s => some (.normal, s)
  | .label _, s => some (.normal, s)
  | .region _ ops draw, s => match (if draw then drawT P pure F G ops.toList s else runT P pure F G ops.toList ops.toList s) with
    | some s' => some (.normal, s')
    | none => none
  | .seq a b, s => match execT P pure F G lim a s with
    | some (.normal, s') => execT P pure F G lim b s'
    | r => r
  | .cond c x y, s => match evalG (getT s.1) c with
    | .pv (.bool true) => execT P pure F G lim x s
    | .pv (.bool false) => execT P pure F G lim y s
    | _ => none
  | .block id b, s => match execT P pure F G lim b s with
    | some (.exit j, s') => if j = id then some (.normal, s') else some (.exit j, s')
    | r => r
  | .loop b, s => loopT (execT P pure F G lim b) lim s
  | .exit id, s => some (.exit id, s)
  | .ret, s => some (.ret, s)
  | _, _ => none

/-- What a run in trees gives, a run in lists gives. -/
def Goes (x : Option (XA × StT)) (y : Option (XA × St)) : Prop := ∀ c s', x = some (c, s') → ∃ T', RT s'.1 T' ∧ y = some (c, (T', s'.2))

theorem loopT_less {bT : StT → Option (XA × StT)} {b : St → Option (XA × St)} (hb : ∀ t T h, RT t T → Goes (bT (t, h)) (b (T, h))) : ∀ n t T h, RT t T → Goes (loopT bT n (t, h)) (loopN b n (T, h))
  | 0, t, T, h, hT => fun c s' hr => by simp [loopT] at hr
  | n + 1, t, T, h, hT => fun c s' hr => by
    rw [loopT] at hr
    rw [loopN]
    split at hr
    · rename_i s1 h1
      obtain ⟨T1, h2, h3⟩ := hb t T h hT _ _ h1
      rw [h3]
      exact loopT_less hb n _ T1 _ h2 _ _ hr
    · rename_i hn
      obtain ⟨T1, h2, h3⟩ := hb t T h hT _ _ hr
      rw [h3]
      cases c with
      | normal => exact absurd hr (hn _)
      | _ => exact ⟨T1, h2, rfl⟩

theorem execT_less {P : Program} {pure : Nat → Bool} {FT F : CallF} {GT G : CallG} (hF : Less FT F) (hG : LessG GT G) (lim : Nat) : ∀ (c : Code) (t : Tre) (T : List AV) (h : List Blk), RT t T →
    Goes (execT P pure FT GT lim c (t, h)) (execC P pure F G lim c (T, h)) := by
  intro c
  induction c with
  | skip => intro t T h hT x s' hr; simp only [execT, Option.some.injEq, Prod.mk.injEq] at hr; obtain ⟨rfl, rfl⟩ := hr; exact ⟨T, hT, rfl⟩
  | label _ => intro t T h hT x s' hr; simp only [execT, Option.some.injEq, Prod.mk.injEq] at hr; obtain ⟨rfl, rfl⟩ := hr; exact ⟨T, hT, rfl⟩
  | region _ ops draw =>
    intro t T h hT x s' hr
    rw [execT] at hr
    rw [execC]
    split at hr
    · rename_i s1 h1
      simp only [Option.some.injEq, Prod.mk.injEq] at hr
      obtain ⟨rfl, rfl⟩ := hr
      split at h1
      · rename_i hd
        obtain ⟨T1, h2, h3⟩ := drawT_less hF hG hT h1
        rw [if_pos hd, h3]
        exact ⟨T1, h2, rfl⟩
      · rename_i hd
        obtain ⟨T1, h2, h3⟩ := runT_less hF hG _ hT h1
        rw [if_neg hd, h3]
        exact ⟨T1, h2, rfl⟩
    · simp at hr
  | seq a b ha hb =>
    intro t T h hT x s' hr
    rw [execT] at hr
    rw [execC]
    split at hr
    · rename_i s1 h1
      obtain ⟨T1, h2, h3⟩ := ha t T h hT _ _ h1
      rw [h3]
      exact hb _ T1 _ h2 _ _ hr
    · rename_i hn
      obtain ⟨T1, h2, h3⟩ := ha t T h hT _ _ hr
      rw [h3]
      cases x with
      | normal => exact absurd hr (hn _)
      | _ => exact ⟨T1, h2, rfl⟩
  | cond c a b ha hb =>
    intro t T h hT x s' hr
    rw [execT, evalG_eq hT] at hr
    rw [execC]
    split at hr
    · rename_i h1; simp only [h1]; exact ha t T h hT _ _ hr
    · rename_i h1; simp only [h1]; exact hb t T h hT _ _ hr
    · simp at hr
  | block id b hb =>
    intro t T h hT x s' hr
    rw [execT] at hr
    rw [execC]
    split at hr
    · rename_i j s1 h1
      obtain ⟨T1, h2, h3⟩ := hb t T h hT _ _ h1
      rw [h3]
      simp only
      split at hr
      · rename_i hj
        simp only [Option.some.injEq, Prod.mk.injEq] at hr
        obtain ⟨rfl, rfl⟩ := hr
        rw [if_pos hj]
        exact ⟨T1, h2, rfl⟩
      · rename_i hj
        simp only [Option.some.injEq, Prod.mk.injEq] at hr
        obtain ⟨rfl, rfl⟩ := hr
        rw [if_neg hj]
        exact ⟨T1, h2, rfl⟩
    · rename_i hn
      obtain ⟨T1, h2, h3⟩ := hb t T h hT _ _ hr
      rw [h3]
      cases x with
      | exit j => exact absurd hr (hn _ _)
      | _ => exact ⟨T1, h2, rfl⟩
  | loop b hb =>
    intro t T h hT x s' hr
    rw [execT] at hr
    rw [execC]
    exact loopT_less (fun t T h hT => hb t T h hT) lim t T h hT _ _ hr
  | exit id => intro t T h hT x s' hr; simp only [execT, Option.some.injEq, Prod.mk.injEq] at hr; obtain ⟨rfl, rfl⟩ := hr; exact ⟨T, hT, rfl⟩
  | ret => intro t T h hT x s' hr; simp only [execT, Option.some.injEq, Prod.mk.injEq] at hr; obtain ⟨rfl, rfl⟩ := hr; exact ⟨T, hT, rfl⟩
  | _ => intro t T h hT x s' hr; simp [execT] at hr

noncomputable def resOneT (P : Program) (t : Tre) (hp : Hp) : ResultVar → Option AV
  | .tmp i => some ((getT t i).getD undefA)
  | .cell a ty => loadA P hp ty ((getT t a).getD undefA)

theorem resOneT_eq {t : Tre} {T : List AV} (h : RT t T) (P : Program) (hp : Hp) : resOneT P t hp = resOne P T hp := by
  funext r
  cases r with
  | tmp i => simp [resOneT, resOne, h i, List.getD_eq_getElem?_getD]
  | cell a ty => simp [resOneT, resOne, h a, List.getD_eq_getElem?_getD]

noncomputable def resT (P : Program) (fn : Func) (t : Tre) (hp : Hp) : Option AV :=
  match fn.results.toList with
  | [r] => resOneT P t hp r
  | rs => (rs.mapM (resOneT P t hp)).map .tuple

theorem resT_eq {t : Tre} {T : List AV} (h : RT t T) (P : Program) (fn : Func) (hp : Hp) : resT P fn t hp = resA P fn T hp := by
  unfold resT resA
  rw [resOneT_eq h]
  cases fn.results.toList with
  | nil => rfl
  | cons a l => cases l <;> rfl

def depT (n : Nat) : Nat := if n ≤ 4 then 1 else if n ≤ 16 then 2 else if n ≤ 64 then 3 else if n ≤ 256 then 4 else if n ≤ 1024 then 5 else 6

noncomputable def bodyT (P : Program) (pure : Nat → Bool) (F : CallF) (G : CallG) (lim : Nat) (f : Nat) (args : List AV) (h : List Blk) : Option (AV × List Blk) :=
  match P.funcs[f]? with
  | some fn =>
    match fn.body with
    | some c =>
      if fn.ntmps ≤ 4 ^ depT fn.ntmps ∧ args.length ≤ fn.ntmps then
        putsK args (mkU (depT fn.ntmps) fn.ntmps) 0 fun t =>
        match execT P pure F G lim c (t, h) with
        | some (.normal, (t, h')) | some (.ret, (t, h')) => (resT P fn t (hf h')).map fun v => (v, h')
        | _ => none
      else none
    | none => (extA fn (hf h) args).map fun v => (v, h)
  | none => none

theorem bodyT_less {P : Program} {pure : Nat → Bool} {FT F : CallF} {GT G : CallG} (hF : Less FT F) (hG : LessG GT G) (lim : Nat) : Less (bodyT P pure FT GT lim) (bodyA P pure F G lim) := by
  intro f args h r hr
  unfold bodyT at hr
  unfold bodyA
  split at hr
  · rename_i fn hfn
    simp only [hfn]
    split at hr
    · rename_i c hc
      simp only [hc]
      split at hr
      · rename_i hg
        obtain ⟨t0, h0, hT0⟩ := putsK_ok args (mkU (depT fn.ntmps) fn.ntmps) 0 (fun t =>
          match execT P pure FT GT lim c (t, h) with
          | some (.normal, (t, h')) | some (.ret, (t, h')) => (resT P fn t (hf h')).map fun v => (v, h')
          | _ => none) [] fn.ntmps hg.2 (fun i => by
            rw [getT_mkU _ _ _ hg.1, List.nil_append, List.getElem?_replicate]) rfl
        rw [h0] at hr
        have he := execT_less (P := P) (pure := pure) hF hG lim c t0 _ h hT0
        simp only [List.nil_append] at he
        split at hr
        · rename_i t1 h1 hx
          obtain ⟨T1, h2, h3⟩ := he _ _ hx
          rw [h3]
          show Option.map _ (resA P fn T1 _) = _
          rw [← resT_eq h2]
          exact hr
        · rename_i t1 h1 hx
          obtain ⟨T1, h2, h3⟩ := he _ _ hx
          rw [h3]
          show Option.map _ (resA P fn T1 _) = _
          rw [← resT_eq h2]
          exact hr
        · simp at hr
      · simp at hr
    · rename_i hc
      simp only [hc]
      exact hr
  · simp at hr

theorem pureOf_less {FT F : CallF} (hF : Less FT F) : LessG (pureOf FT) (pureOf F) := by
  intro hp f args r hr
  unfold pureOf at hr ⊢
  split at hr
  · rename_i hall
    rw [if_pos hall]
    simp only [Option.bind_eq_some_iff] at hr ⊢
    obtain ⟨x, h1, h2⟩ := hr
    exact ⟨x, hF _ _ _ _ h1, h2⟩
  · rename_i hall
    rw [if_neg hall]
    simp only [Option.bind_eq_some_iff] at hr ⊢
    obtain ⟨as, h0, x, h1, h2⟩ := hr
    exact ⟨as, h0, x, hF _ _ _ _ h1, h2⟩

theorem orS_less (S : CallG) {GT G : CallG} (hG : LessG GT G) : LessG (orS S GT) (orS S G) := by
  intro hp f args r hr
  unfold orS at hr ⊢
  split at hr
  · exact hr
  · exact hG _ _ _ _ hr

/-- A call, run in trees. -/
noncomputable def callT (P : Program) (S : CallG) (pure : Nat → Bool) (lim : Nat) : Nat → CallF
  | 0 => fun _ _ _ => none
  | d + 1 => bodyT P pure (callT P S pure lim d) (orS S (pureOf (callT P S pure lim d))) lim

theorem callT_less (P : Program) (S : CallG) (pure : Nat → Bool) (lim : Nat) : ∀ d, Less (callT P S pure lim d) (callA P S pure lim d)
  | 0 => fun f args h r hr => by simp [callT] at hr
  | d + 1 => bodyT_less (callT_less P S pure lim d) (orS_less S (pureOf_less (callT_less P S pure lim d))) lim

end Go.Proofs.Ytabpcmmkmbchnaa.AI
