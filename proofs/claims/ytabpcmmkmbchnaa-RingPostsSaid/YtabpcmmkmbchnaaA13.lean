/- A region whose operations come in any order that its edges allow: all orders end as the text's order does. -/
import Derived.Test.YtabpcmmkmbchnaaA12
set_option linter.unusedVariables false
set_option linter.unusedSectionVars false
set_option linter.unusedSimpArgs false
namespace Go.Proofs.Ytabpcmmkmbchnaa.AI
open Go
variable [Val]

variable {X : Nat → Prop} {P : Program} {pure : Nat → Bool} {F : CallF} {G : CallG}

/-! What an operation gives hangs on what it looks at. -/

theorem look_congr {hp1 hp2 : Hp} {id ver : Nat} (h : hp1 id = hp2 id) : look hp1 id ver = look hp2 id ver := by simp [look, h]

theorem sliceCells_congr {hp1 hp2 : Hp} {x : AV} (h : ∀ id ∈ idOf x, hp1 id = hp2 id) : sliceCells hp1 x = sliceCells hp2 x := by
  cases x with
  | pv p => cases p <;> rfl
  | slice id ver off len mc esz xc => simp only [sliceCells, look_congr (h id (by simp [idOf]))]
  | _ => rfl

theorem readAt_congr {hp1 hp2 : Hp} {x : AV} (h : ∀ id ∈ idOf x, hp1 id = hp2 id) (n : Nat) : readAt hp1 x n = readAt hp2 x n := by
  cases x with
  | pv p => cases p <;> rfl
  | ptr id ver off => simp only [readAt, look_congr (h id (by simp [idOf]))]
  | _ => rfl

theorem loadA_congr {hp1 hp2 : Hp} {x : AV} (h : ∀ id ∈ idOf x, hp1 id = hp2 id) (t : TypeId) : loadA P hp1 t x = loadA P hp2 t x := by
  unfold loadA
  cases isAggA P t with
  | none => rfl
  | some b =>
    cases b with
    | true => simp only [readAt_congr h]
    | false =>
      cases x with
      | pv p => cases p <;> rfl
      | ptr id ver off => simp only [look_congr (h id (by simp [idOf]))]
      | _ => rfl

theorem storeA_congr {hp1 hp2 : Hp} {x : AV} (h : ∀ id ∈ idOf x, hp1 id = hp2 id) (t : TypeId) (y : AV) : storeA P hp1 t x y = storeA P hp2 t x y := by
  cases x with
  | pv p => cases p <;> rfl
  | ptr id ver off => simp only [storeA, look_congr (h id (by simp [idOf]))]
  | _ => rfl

theorem srcA_congr {hp1 hp2 : Hp} {x : AV} (h : ∀ id ∈ idOf x, hp1 id = hp2 id) (n : Nat) : srcA hp1 n x = srcA hp2 n x := by
  cases x with
  | pv p => cases p <;> rfl
  | slice id ver off len mc esz xc => simp only [srcA, sliceCells_congr h]
  | _ => rfl

theorem sourceA_congr {hp1 hp2 : Hp} {x : AV} (h : ∀ id ∈ idOf x, hp1 id = hp2 id) (e : TypeId) (i : TypeInfo) (t : TypeId) : sourceA P hp1 e i t x = sourceA P hp2 e i t x := by
  simp only [sourceA, srcA_congr h]

theorem convertA_congr {hp1 hp2 : Hp} {x : AV} (h : ∀ id ∈ idOf x, hp1 id = hp2 id) (nb : Nat) (s d : TypeId) : convertA P hp1 nb s d x = convertA P hp2 nb s d x := by
  unfold convertA
  rw [srcA_congr h]

theorem appendA_congr {hp1 hp2 : Hp} {s x : AV} (hs : ∀ id ∈ idOf s, hp1 id = hp2 id) (h : ∀ id ∈ idOf x, hp1 id = hp2 id) (nb : Nat) (ts : Array TypeId) : appendA P hp1 nb ts s x = appendA P hp2 nb ts s x := by
  unfold appendA
  simp only [sourceA_congr h]
  cases s with
  | pv p => cases p <;> rfl
  | slice id ver off len mc esz xc => simp only [look_congr (hs id (by simp [idOf]))]
  | _ => rfl

theorem copyA_congr {hp1 hp2 : Hp} {s x : AV} (hs : ∀ id ∈ idOf s, hp1 id = hp2 id) (h : ∀ id ∈ idOf x, hp1 id = hp2 id) (ts : Array TypeId) : copyA P hp1 ts s x = copyA P hp2 ts s x := by
  unfold copyA
  simp only [srcA_congr h]
  cases s with
  | pv p => cases p <;> rfl
  | slice id ver off len mc esz xc => simp only [look_congr (hs id (by simp [idOf]))]
  | _ => rfl

theorem builtinA_congr {hp1 hp2 : Hp} {args : List AV} (h : ∀ x ∈ args, ∀ id ∈ idOf x, hp1 id = hp2 id) (nb : Nat) (b : Builtin) (ts : Array TypeId) : builtinA P hp1 nb b ts args = builtinA P hp2 nb b ts args := by
  unfold builtinA
  split <;> try rfl
  · rename_i s x
    exact appendA_congr (h s (by simp)) (h x (by simp)) nb ts
  · rename_i s x
    exact copyA_congr (h s (by simp)) (h x (by simp)) ts

theorem map_congr_ops {ρ1 ρ2 : Operand → AV} {l : List Operand} (h : ∀ x ∈ l, ρ1 x = ρ2 x) : l.map ρ1 = l.map ρ2 := List.map_congr_left h

theorem parts_congr {ρ1 ρ2 : Operand → AV} (ps : Array (Nat × Operand)) (h : ∀ x ∈ (ps.toList.map (·.2)), ρ1 x = ρ2 x) : (ps.toList.map fun (i, x) => (i, ρ1 x)) = ps.toList.map fun (i, x) => (i, ρ2 x) := by
  apply List.map_congr_left
  rintro ⟨i, x⟩ hx
  simp only [h x (List.mem_map.2 ⟨(i, x), hx, rfl⟩)]

theorem primA_congr {ρ1 ρ2 : Operand → AV} {hp1 hp2 : Hp} {nb : Nat} {op : Op} (hρ : ∀ x ∈ op.operands.toList, ρ1 x = ρ2 x)
    (hh : looksIn op = true → ∀ x ∈ op.operands.toList, ∀ id ∈ idOf (ρ2 x), hp1 id = hp2 id) : primA P ρ1 hp1 nb op = primA P ρ2 hp2 nb op := by
  cases op <;> try rfl
  case move x => simp only [primA, hρ x (by simp [Op.operands])]
  case assign x => simp only [primA, hρ x (by simp [Op.operands])]
  case pick c a b => simp only [primA, hρ c (by simp [Op.operands]), hρ a (by simp [Op.operands]), hρ b (by simp [Op.operands])]
  case box t x => simp only [primA, hρ x (by simp [Op.operands])]
  case build t ps => simp only [primA, parts_congr ps (by simpa [Op.operands] using hρ)]
  case buildSlice t n ps => simp only [primA, parts_congr ps (by simpa [Op.operands] using hρ)]
  case load t a =>
    have e := hρ a (by simp [Op.operands])
    simp only [primA, e, loadA_congr (P := P) (fun id hid => hh rfl a (by simp [Op.operands]) id hid)]
  case store t a x =>
    simp only [primA, hρ a (by simp [Op.operands]), hρ x (by simp [Op.operands]), storeA_congr (P := P) (fun id hid => hh rfl a (by simp [Op.operands]) id hid)]
  case nilCheck x => simp only [primA, hρ x (by simp [Op.operands])]
  case binOp op t x y yt => simp only [primA, hρ x (by simp [Op.operands]), hρ y (by simp [Op.operands])]
  case unOp op t x => simp only [primA, hρ x (by simp [Op.operands])]
  case convert s d x => simp only [primA, hρ x (by simp [Op.operands]), convertA_congr (P := P) (fun id hid => hh rfl x (by simp [Op.operands]) id hid)]
  case makeFunc fn first captured =>
    cases fn <;> try rfl
    simp only [primA, map_congr_ops (l := captured.toList) (fun x hx => hρ x (by simp [Op.operands]; right; simpa using hx))]
  case makeSlice t l c => simp only [primA, hρ l (by simp [Op.operands]), hρ c (by simp [Op.operands])]
  case slice t x lo hi mx =>
    have e1 : lo.map ρ1 = lo.map ρ2 := by cases lo with | none => rfl | some y => simp [hρ y (by simp [Op.operands])]
    have e2 : hi.map ρ1 = hi.map ρ2 := by cases hi with | none => rfl | some y => simp [hρ y (by simp [Op.operands])]
    have e3 : mx.map ρ1 = mx.map ρ2 := by cases mx with | none => rfl | some y => simp [hρ y (by simp [Op.operands])]
    simp only [primA, hρ x (by simp [Op.operands]), e1, e2, e3]
  case fieldAddr s x f => simp only [primA, hρ x (by simp [Op.operands])]
  case field s x f => simp only [primA, hρ x (by simp [Op.operands])]
  case indexAddr t x i => simp only [primA, hρ x (by simp [Op.operands]), hρ i (by simp [Op.operands])]
  case index t x i => simp only [primA, hρ x (by simp [Op.operands]), hρ i (by simp [Op.operands])]
  case extract t i => simp only [primA, hρ t (by simp [Op.operands])]
  case call c =>
    obtain ⟨callee, args, ts⟩ := c
    cases callee <;> try rfl
    rename_i b
    have e : args.toList.map ρ1 = args.toList.map ρ2 := map_congr_ops (fun x hx => hρ x (by simpa [Op.operands, Call.operands] using hx))
    simp only [primA, e]
    exact builtinA_congr (fun y hy => by
      obtain ⟨x, hx, rfl⟩ := List.mem_map.1 hy
      exact hh rfl x (by simpa [Op.operands, Call.operands] using hx)) nb b ts

theorem calleeA_congr {ρ1 ρ2 : Operand → AV} {op : Op} (hρ : ∀ x ∈ op.operands.toList, ρ1 x = ρ2 x) : calleeA ρ1 op = calleeA ρ2 op := by
  cases op <;> try rfl
  rename_i c
  obtain ⟨callee, args, ts⟩ := c
  cases callee <;> try rfl
  rename_i f
  have e : args.toList.map ρ1 = args.toList.map ρ2 := map_congr_ops (fun x hx => hρ x (by simp [Op.operands, Call.operands]; right; simpa using hx))
  simp only [calleeA, hρ f (by simp [Op.operands, Call.operands]), e]

/-! The run in the text's order, operation by operation. -/

structure Tr (P : Program) (pure : Nat → Bool) (F : CallF) (G : CallG) (ops : List Oper) (o : Nat → Oper) (v : Nat → AV) (c : Nat → Chg) (sts : Nat → St) (n : Nat) : Prop where
  op : ∀ i, i < n → ops[i]? = some (o i)
  step : ∀ i, i < n → stepOp P pure F G ops (o i) (sts i) = some (v i, c i)
  next : ∀ i, i < n → sts (i + 1) = nextSt (o i) (sts i) (v i, c i)

theorem trace_some (ops : List Oper) : ∀ (l : List Oper) (s s' : St) (fs : List Foot), traceD P pure F G ops l s = some (fs, s') →
    fs.length = l.length ∧ ∃ (v : Nat → AV) (c : Nat → Chg) (sts : Nat → St), sts 0 = s ∧ sts l.length = s' ∧
      ∀ i o, l[i]? = some o → stepOp P pure F G ops o (sts i) = some (v i, c i) ∧ sts (i + 1) = nextSt o (sts i) (v i, c i) ∧ fs[i]? = some (footOf ops o (sts i) (v i, c i))
  | [], s, s', fs, h => by
    simp only [traceD, Option.some.injEq, Prod.mk.injEq] at h
    obtain ⟨rfl, rfl⟩ := h
    exact ⟨rfl, fun _ => default, fun _ => .no, fun _ => s, rfl, rfl, by simp⟩
  | o :: l, s, s', fs, h => by
    rw [traceD_cons] at h
    simp only [Option.bind_eq_some_iff, Option.map_eq_some_iff] at h
    obtain ⟨⟨v0, c0⟩, hst, ⟨fs', s2⟩, hr, he⟩ := h
    simp only [Prod.mk.injEq] at he
    obtain ⟨rfl, rfl⟩ := he
    obtain ⟨hl, v, c, sts, h0, hn, hall⟩ := trace_some ops l _ s2 fs' hr
    refine ⟨by simp [hl], fun i => match i with | 0 => v0 | i + 1 => v i, fun i => match i with | 0 => c0 | i + 1 => c i, fun i => match i with | 0 => s | i + 1 => sts i, rfl, by simpa using hn, fun i o' hi => ?_⟩
    cases i with
    | zero =>
      simp only [List.getElem?_cons_zero, Option.some.injEq] at hi; subst hi
      exact ⟨hst, h0, by simp⟩
    | succ i =>
      obtain ⟨a1, a2, a3⟩ := hall i o' (by simpa using hi)
      exact ⟨a1, a2, by simpa using a3⟩

section
variable (o : Nat → Oper) (v : Nat → AV) (c : Nat → Chg) (s0 : St) (S : Nat → Bool)

/-- The temporaries and the heap where those operations have been carried out that S says. -/
def TS : Nat → List AV
  | 0 => s0.1
  | k + 1 => if S k then putA (TS k) (o k).dst (v k) else TS k

def HS : Nat → Hp
  | 0 => hf s0.2
  | k + 1 => if S k then (c k).hp (HS k) else HS k
end

variable {o : Nat → Oper} {v : Nat → AV} {c : Nat → Chg} {s0 : St}

theorem putA_length (T : List AV) (d : Option Nat) (x : AV) : (putA T d x).length = T.length := by cases d <;> simp [putA]

theorem TS_length (S : Nat → Bool) : ∀ k, (TS o v s0 S k).length = s0.1.length
  | 0 => rfl
  | k + 1 => by
    unfold TS; split
    · rw [putA_length, TS_length S k]
    · exact TS_length S k

theorem putA_get (T : List AV) (d : Option Nat) (x : AV) (t : Nat) : (putA T d x)[t]? = if d = some t then (if t < T.length then some x else none) else T[t]? := by
  cases d with
  | none => simp [putA]
  | some d =>
    simp only [putA, List.getElem?_set, Option.some.injEq]
    by_cases h : d = t
    · subst h; rfl
    · rw [if_neg h, if_neg h]

theorem TS_agree (S S' : Nat → Bool) (t : Nat) : ∀ k, (∀ j, j < k → (o j).dst = some t → S j = S' j) → (TS o v s0 S k)[t]? = (TS o v s0 S' k)[t]?
  | 0, _ => rfl
  | k + 1, h => by
    have ih := TS_agree S S' t k (fun j hj => h j (by omega))
    have hl : (TS o v s0 S k).length = (TS o v s0 S' k).length := by rw [TS_length, TS_length]
    unfold TS
    by_cases hd : (o k).dst = some t
    · rw [h k (by omega) hd]
      split
      · rw [putA_get, putA_get, hl]; simp [hd]
      · exact ih
    · split <;> split <;> (try rw [putA_get, if_neg hd]) <;> (try rw [putA_get, if_neg hd]) <;> exact ih

def touches (c : Chg) (id : Nat) : Bool := c.isAll || c.ids.contains id

theorem chg_hp_ne (x : Chg) (hp : Hp) (id : Nat) (h : touches x id = false) : x.hp hp id = hp id := by
  cases x with
  | no => rfl
  | one j b =>
    simp only [touches, Chg.isAll, Chg.ids, Bool.false_or] at h
    have hne : id ≠ j := by intro e; subst e; simp at h
    simp [Chg.hp, setHp, hne]
  | all h' => simp [touches, Chg.isAll] at h
  | add nb bs =>
    simp only [touches, Chg.isAll, Chg.ids, Bool.false_or] at h
    refine addHp_out ?_
    intro hc
    have : id ∈ List.range' nb bs.length := by simp only [List.mem_range'_1]; omega
    simp [this] at h

theorem chg_hp_eq (x : Chg) (hp hp' : Hp) (id : Nat) (h : touches x id = true) : x.hp hp id = x.hp hp' id := by
  cases x with
  | no => simp [touches, Chg.isAll, Chg.ids] at h
  | one j b =>
    simp only [touches, Chg.isAll, Chg.ids, Bool.false_or] at h
    have he : id = j := by simpa using h
    simp [Chg.hp, setHp, he]
  | all h' => rfl
  | add nb bs =>
    simp only [touches, Chg.isAll, Chg.ids, Bool.false_or] at h
    have he : id ∈ List.range' nb bs.length := by simpa using h
    simp only [List.mem_range'_1] at he
    simp only [Chg.hp, addHp]
    rw [if_pos (by omega), if_pos (by omega)]

theorem HS_agree (S S' : Nat → Bool) (id : Nat) : ∀ k, (∀ j, j < k → touches (c j) id = true → S j = S' j) → HS c s0 S k id = HS c s0 S' k id
  | 0, _ => rfl
  | k + 1, h => by
    have ih := HS_agree S S' id k (fun j hj => h j (by omega))
    unfold HS
    cases ht : touches (c k) id with
    | true =>
      rw [h k (by omega) ht]
      split
      · exact chg_hp_eq _ _ _ _ ht
      · exact ih
    | false =>
      split <;> split <;> (try rw [chg_hp_ne _ _ _ ht]) <;> (try rw [chg_hp_ne _ _ _ ht]) <;> exact ih

/-- The first i operations: the text's order. -/
theorem TS_first {ops : List Oper} {sts : Nat → St} {n : Nat} (tr : Tr P pure F G ops o v c sts n) (h0 : sts 0 = s0) (i : Nat) : ∀ k, k ≤ n → TS o v s0 (fun j => decide (j < i)) k = (sts (min k i)).1
  | 0, _ => by simp [TS, h0]
  | k + 1, hk => by
    have ih := TS_first tr h0 i k (by omega)
    unfold TS
    by_cases h : k < i
    · rw [if_pos (by simpa using h), ih, show min k i = k by omega, show min (k + 1) i = k + 1 by omega, tr.next k (by omega)]
      rfl
    · rw [if_neg (by simpa using h), ih, show min k i = i by omega, show min (k + 1) i = i by omega]

theorem HS_first {ops : List Oper} {sts : Nat → St} {n : Nat} (tr : Tr P pure F G ops o v c sts n) (h0 : sts 0 = s0) (i : Nat) : ∀ k, k ≤ n → HS c s0 (fun j => decide (j < i)) k = hf (sts (min k i)).2
  | 0, _ => by simp [HS, h0]
  | k + 1, hk => by
    have ih := HS_first tr h0 i k (by omega)
    unfold HS
    by_cases h : k < i
    · rw [if_pos (by simpa using h), ih, show min k i = k by omega, show min (k + 1) i = k + 1 by omega, tr.next k (by omega)]
      exact (chg_st _ _).symm
    · rw [if_neg (by simpa using h), ih, show min k i = i by omega, show min (k + 1) i = i by omega]

theorem TS_succ (S : Nat → Bool) (k : Nat) : TS o v s0 S (k + 1) = if S k then putA (TS o v s0 S k) (o k).dst (v k) else TS o v s0 S k := rfl
theorem HS_succ (S : Nat → Bool) (k : Nat) : HS c s0 S (k + 1) = if S k then (c k).hp (HS c s0 S k) else HS c s0 S k := rfl

/-- One more is carried out. -/
theorem TS_more (S : Nat → Bool) (i : Nat) (hi : S i = false) : ∀ k, (∀ j, i < j → j < k → S j = true → ∀ d, (o j).dst = some d → (o i).dst ≠ some d) →
    TS o v s0 (fun j => S j || j == i) k = if i < k then putA (TS o v s0 S k) (o i).dst (v i) else TS o v s0 S k
  | 0, _ => by simp [TS]
  | k + 1, h => by
    have ih := TS_more S i hi k (fun j h1 h2 => h j h1 (by omega))
    rw [TS_succ, TS_succ]
    by_cases hk : k = i
    · subst hk
      rw [if_neg (Nat.lt_irrefl _)] at ih
      rw [ih]
      simp [hi]
    · have hne : (k == i) = false := by simpa using hk
      simp only [hne, Bool.or_false]
      by_cases hlt : i < k
      · rw [if_pos hlt] at ih
        rw [if_pos (show i < k + 1 by omega), ih]
        cases hs : S k with
        | false => simp
        | true =>
          simp only [if_true]
          cases hd : (o i).dst with
          | none => rfl
          | some d =>
            cases hd' : (o k).dst with
            | none => rfl
            | some d' =>
              have hdd : d' ≠ d := by
                intro e; subst e
                exact h k hlt (by omega) hs d' hd' hd
              simp only [putA]
              exact List.set_comm _ _ (Ne.symm hdd)
      · rw [if_neg hlt] at ih
        rw [if_neg (show ¬ i < k + 1 by omega), ih]

def commutes (a b : Chg) : Prop := ∀ hp, a.hp (b.hp hp) = b.hp (a.hp hp)

theorem HS_more (S : Nat → Bool) (i : Nat) (hi : S i = false) : ∀ k, (∀ j, i < j → j < k → S j = true → commutes (c j) (c i)) →
    HS c s0 (fun j => S j || j == i) k = if i < k then (c i).hp (HS c s0 S k) else HS c s0 S k
  | 0, _ => by simp [HS]
  | k + 1, h => by
    have ih := HS_more S i hi k (fun j h1 h2 => h j h1 (by omega))
    rw [HS_succ, HS_succ]
    by_cases hk : k = i
    · subst hk
      rw [if_neg (Nat.lt_irrefl _)] at ih
      rw [ih]
      simp [hi]
    · have hne : (k == i) = false := by simpa using hk
      simp only [hne, Bool.or_false]
      by_cases hlt : i < k
      · rw [if_pos hlt] at ih
        rw [if_pos (show i < k + 1 by omega), ih]
        cases hs : S k with
        | false => simp
        | true =>
          simp only [if_true]
          exact h k hlt (by omega) hs _
      · rw [if_neg hlt] at ih
        rw [if_neg (show ¬ i < k + 1 by omega), ih]

/-! Apart. -/

structure Apart (a b : Foot) : Prop where
  t1 : ∀ d, a.dst = some d → d ∉ b.tmps
  t2 : ∀ d, b.dst = some d → d ∉ a.tmps
  t3 : ∀ d, a.dst = some d → b.dst ≠ some d
  h1 : a.chg.isAll = true → heapful b = false
  h2 : b.chg.isAll = true → heapful a = false
  h3 : ∀ id ∈ a.chg.ids, id ∉ b.reads
  h4 : ∀ id ∈ b.chg.ids, id ∉ a.reads
  h5 : ∀ id ∈ a.chg.ids, id ∉ b.chg.ids

theorem Apart.symm {a b : Foot} (h : Apart a b) : Apart b a :=
  ⟨h.t2, h.t1, fun d h1 h2 => h.t3 d h2 h1, h.h2, h.h1, h.h4, h.h3, fun id h1 h2 => h.h5 id h2 h1⟩

theorem disjointL_spec {a b : List Nat} (h : disjointL a b = true) : ∀ x ∈ a, x ∉ b := by
  intro x hx
  have := List.all_eq_true.1 h x hx
  simpa using this

theorem heapful_false {f : Foot} (h : heapful f = false) : f.reads = [] ∧ f.chg.ids = [] ∧ f.chg.isAll = false := by
  simp only [heapful, Bool.or_eq_false_iff, Bool.not_eq_false', List.isEmpty_iff] at h
  exact ⟨h.1.1, h.1.2, h.2⟩

theorem apart_of {a b : Foot} (h : apartF a b = true) : Apart a b := by
  simp only [apartF, Bool.and_eq_true] at h
  obtain ⟨⟨⟨q1, q2⟩, q3⟩, q4⟩ := h
  have p1 := disjointL_spec q1
  have p2 := disjointL_spec q2
  have p3 := disjointL_spec q3
  have base : (a.chg.isAll = true → heapful b = false) ∧ (b.chg.isAll = true → heapful a = false) ∧ (∀ id ∈ a.chg.ids, id ∉ b.reads) ∧ (∀ id ∈ b.chg.ids, id ∉ a.reads) ∧ (∀ id ∈ a.chg.ids, id ∉ b.chg.ids) := by
    split at q4
    · rename_i ha
      have hb : heapful b = false := by simpa using q4
      obtain ⟨z1, z2, z3⟩ := heapful_false hb
      exact ⟨fun _ => hb, fun h => by rw [z3] at h; simp at h, by simp [z1], by simp [z2], by simp [z2]⟩
    · rename_i ha
      split at q4
      · rename_i hb
        have ha' : heapful a = false := by simpa using q4
        obtain ⟨z1, z2, z3⟩ := heapful_false ha'
        exact ⟨fun h => absurd h ha, fun _ => ha', by simp [z2], by simp [z1], by simp [z2]⟩
      · rename_i hb
        simp only [Bool.and_eq_true] at q4
        exact ⟨fun h => absurd h ha, fun h => absurd h hb, disjointL_spec q4.1.1, disjointL_spec q4.1.2, disjointL_spec q4.2⟩
  exact ⟨fun d hd => p1 d (by simp [hd]), fun d hd => p2 d (by simp [hd]), fun d hd hd' => p3 d (by simp [hd]) (by simp [hd']), base.1, base.2.1, base.2.2.1, base.2.2.2.1, base.2.2.2.2⟩

theorem apart_commutes {a b : Foot} (h : Apart a b) : commutes a.chg b.chg := by
  intro hp
  have key : ∀ {x y : Foot}, Apart x y → x.chg.isAll = true → x.chg.hp (y.chg.hp hp) = y.chg.hp (x.chg.hp hp) := by
    intro x y hxy hx
    obtain ⟨z1, z2, z3⟩ := heapful_false (hxy.h1 hx)
    cases hy : y.chg with
    | no => rfl
    | one id b => rw [hy] at z2; simp [Chg.ids] at z2
    | all h' => rw [hy] at z3; simp [Chg.isAll] at z3
    | add nb bs =>
      rw [hy] at z2
      have hb : bs = [] := by
        cases bs with
        | nil => rfl
        | cons x l => simp [Chg.ids] at z2
      subst hb
      have hid : ∀ h : Hp, Chg.hp h (.add nb []) = h := fun h => by funext id; exact addHp_out (by simp)
      rw [hid, hid]
  have two : ∀ {x y : Foot}, Apart x y → x.chg.isAll = false → y.chg.isAll = false → x.chg.hp (y.chg.hp hp) = y.chg.hp (x.chg.hp hp) := by
    intro x y hxy hx hy
    funext id
    have ht : ∀ z : Chg, z.isAll = false → touches z id = true → id ∈ z.ids := by
      intro z hz h
      simp only [touches, hz, Bool.false_or] at h
      simpa using h
    cases h1 : touches x.chg id with
    | true =>
      have hny : touches y.chg id = false := by
        cases h2 : touches y.chg id with
        | false => rfl
        | true => exact absurd (ht _ hy h2) (hxy.h5 id (ht _ hx h1))
      rw [chg_hp_ne _ _ _ hny, chg_hp_eq x.chg _ hp id h1]
    | false => 
      rw [chg_hp_ne _ _ _ h1]
      cases h2 : touches y.chg id with
      | true => exact chg_hp_eq y.chg _ _ id h2
      | false => rw [chg_hp_ne _ _ _ h2, chg_hp_ne _ _ _ h2, chg_hp_ne _ _ _ h1]
  cases hxa : a.chg.isAll with
  | true => exact key h hxa
  | false =>
    cases hya : b.chg.isAll with
    | true => exact (key h.symm hya).symm
    | false => exact two h hxa hya

/-! Which are ordered ahead of which. -/

def mask (o : Oper) (acc : List Nat) : Nat := (direct o).foldl (fun s j => s ||| 2 ^ j ||| acc.getD j 0) 0

theorem befL_spec : ∀ (l : List Oper) (acc : List Nat) (k : Nat), (befL l acc).length = acc.length + l.length ∧ (k < acc.length → (befL l acc)[k]? = acc[k]?) ∧
    (∀ o, acc.length ≤ k → l[k - acc.length]? = some o → (befL l acc)[k]? = some (mask o ((befL l acc).take k)))
  | [], acc, k => by simp [befL]
  | o :: l, acc, k => by
    obtain ⟨h1, h2, h3⟩ := befL_spec l (acc ++ [mask o acc]) k
    have hu : befL (o :: l) acc = befL l (acc ++ [mask o acc]) := rfl
    rw [hu]
    simp only [List.length_append, List.length_cons, List.length_nil] at h1 h2 h3
    refine ⟨by rw [h1]; simp; omega, fun hk => ?_, fun o' hk ho => ?_⟩
    · rw [h2 (by omega), List.getElem?_append_left hk]
    · by_cases he : k = acc.length
      · subst he
        simp at ho; subst ho
        rw [h2 (by omega)]
        have hall : ∀ j, j < acc.length → (befL l (acc ++ [mask o acc]))[j]? = acc[j]? := by
          intro j hj
          have := (befL_spec l (acc ++ [mask o acc]) j).2.1 (by simp; omega)
          rw [this, List.getElem?_append_left hj]
        have htake : (befL l (acc ++ [mask o acc])).take acc.length = acc := by
          apply List.ext_getElem?
          intro j
          rw [List.getElem?_take]
          split
          · rename_i hj; exact hall j hj
          · rename_i hj; rw [List.getElem?_eq_none (by omega)]
        rw [htake]
        simp
      · refine h3 o' (by omega) ?_
        have : k - acc.length = (k - (acc.length + 1)) + 1 := by omega
        rw [this, List.getElem?_cons_succ] at ho
        exact ho

theorem foldl_bits (acc : List Nat) (i : Nat) : ∀ (l : List Nat) (s : Nat), (l.foldl (fun s j => s ||| 2 ^ j ||| acc.getD j 0) s).testBit i = true → s.testBit i = true ∨ ∃ j ∈ l, i = j ∨ (acc.getD j 0).testBit i = true
  | [], s, h => .inl h
  | j :: l, s, h => by
    rcases foldl_bits acc i l _ h with h1 | ⟨k, hk, h1⟩
    · simp only [Nat.testBit_or, Bool.or_eq_true] at h1
      rcases h1 with (h1 | h1) | h1
      · exact .inl h1
      · rw [Nat.testBit_two_pow] at h1
        exact .inr ⟨j, by simp, .inl (by simpa using (of_decide_eq_true h1).symm)⟩
      · exact .inr ⟨j, by simp, .inr h1⟩
    · exact .inr ⟨k, by simp [hk], h1⟩

/-- A set that holds with each what is ordered directly ahead of it, holds all that is. -/
theorem bef_closed {ops : List Oper} (S : Nat → Bool) (hS : ∀ k op, ops[k]? = some op → S k = true → ∀ j ∈ direct op, S j = true) :
    ∀ (k : Nat) (op : Oper), ops[k]? = some op → (∀ j ∈ direct op, S j = true) → (∀ j ∈ direct op, j < k) → edgesDown ops = true → ∀ i, ((befL ops []).getD k 0).testBit i = true → S i = true := by
  intro k
  induction k using Nat.strongRecOn with
  | _ k ih =>
    intro op hop hd hlt hed i hi
    have hsp := (befL_spec ops [] k).2.2 op (by simp) (by simpa using hop)
    rw [List.getD_eq_getElem?_getD, hsp] at hi
    simp only [Option.getD_some, mask] at hi
    rcases foldl_bits _ i _ _ hi with h | ⟨j, hj, h⟩
    · simp at h
    · rcases h with rfl | h
      · exact hd _ hj
      · have hjk := hlt j hj
        have hjl : j < ops.length := by
          have := (List.getElem?_eq_some_iff.1 hop).1; omega
        have hop' : ops[j]? = some ops[j] := by simp [hjl]
        have htk : ((befL ops []).take k).getD j 0 = (befL ops []).getD j 0 := by
          rw [List.getD_eq_getElem?_getD, List.getElem?_take, if_pos hjk, ← List.getD_eq_getElem?_getD]
        rw [htk] at h
        have hlt' : ∀ q ∈ direct ops[j], q < j := by
          have h1 := List.all_eq_true.1 hed j (by simpa using hjl)
          rw [hop'] at h1
          intro q hq
          exact of_decide_eq_true (List.all_eq_true.1 h1 q hq)
        exact ih j hjk ops[j] hop' (hS j _ hop' (hd j hj)) hlt' hed i h

end Go.Proofs.Ytabpcmmkmbchnaa.AI
