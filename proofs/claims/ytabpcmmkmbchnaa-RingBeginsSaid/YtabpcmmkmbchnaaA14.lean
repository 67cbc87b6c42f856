/- A region in any order; code; calls: the plain interpreter against the machine. -/
import Derived.Test.YtabpcmmkmbchnaaA13
set_option linter.unusedVariables false
set_option linter.unusedSectionVars false
set_option linter.unusedSimpArgs false
namespace Go.Proofs.Ytabpcmmkmbchnaa.AI
open Go
variable [Val]

variable {X : Nat → Prop} {P : Program} {pure : Nat → Bool} {F : CallF} {G : CallG}
variable {o : Nat → Oper} {v : Nat → AV} {c : Nat → Chg} {s0 : St}

def Sof (listed : Array Bool) : Nat → Bool := fun j => listed.getD j false

theorem count_more (S : Nat → Bool) (i : Nat) (hi : S i = false) : ∀ n, ((List.range n).countP fun j => !S j) = ((List.range n).countP fun j => !(S j || j == i)) + if i < n then 1 else 0
  | 0 => by simp
  | n + 1 => by
    have ih := count_more S i hi n
    rw [List.range_succ, List.countP_append, List.countP_append, ih]
    simp only [List.countP_cons, List.countP_nil]
    by_cases h : n = i
    · subst h; simp [hi]
    · have hne : (n == i) = false := by simpa using h
      simp only [hne, Bool.or_false]
      by_cases hlt : i < n
      · rw [if_pos hlt, if_pos (show i < n + 1 by omega)]; omega
      · rw [if_neg hlt, if_neg (show ¬ i < n + 1 by omega)]; omega

theorem Sof_set (listed : Array Bool) (i : Nat) (hi : i < listed.size) : Sof (listed.setIfInBounds i true) = fun j => Sof listed j || j == i := by
  funext j
  simp only [Sof, Array.getD_eq_getD_getElem?, Array.getElem?_setIfInBounds]
  by_cases h : i = j
  · subst h; simp [hi]
  · have hne : (j == i) = false := by simpa using fun e => h e.symm
    simp [h, hne]

theorem ready_mem {ops : Array Oper} {listed : Array Bool} {i : Nat} (h : i ∈ Region.ready .any ops listed) (hs : listed.size = ops.size) :
    ∃ op, ops[i]? = some op ∧ i < ops.size ∧ Sof listed i = false ∧ ∀ j ∈ direct op, Sof listed j = true := by
  simp only [Region.ready, List.mem_filter, List.mem_range, Bool.and_eq_true, Bool.not_eq_true'] at h
  obtain ⟨h1, h2, h3⟩ := h
  refine ⟨ops[i], by simp [h1], h1, ?_, fun j hj => ?_⟩
  · have hl : i < listed.size := by omega
    simp only [Sof, Array.getD_eq_getD_getElem?, hl, Array.getElem?_eq_getElem, Option.getD_some] at h2 ⊢
    exact h2
  · simp only [h1, Array.getElem?_eq_getElem, Option.map_some, Option.getD_some] at h3
    simp only [direct, List.mem_map, List.mem_filter, Array.mem_toList_iff] at hj
    obtain ⟨e, ⟨he1, he2⟩, rfl⟩ := hj
    have := (Array.all_eq_true'.1 h3) e he1
    simp only [he2, Bool.not_true, Bool.false_or] at this
    exact this

theorem ready_of {ops : Array Oper} {listed : Array Bool} {i : Nat} {op : Oper} (hop : ops[i]? = some op) (hS : Sof listed i = false) (hs : listed.size = ops.size) (hd : ∀ j ∈ direct op, Sof listed j = true) :
    i ∈ Region.ready .any ops listed := by
  obtain ⟨h1, rfl⟩ := Array.getElem?_eq_some_iff.1 hop
  simp only [Region.ready, List.mem_filter, List.mem_range, Bool.and_eq_true, Bool.not_eq_true']
  refine ⟨h1, ?_, ?_⟩
  · have hl : i < listed.size := by omega
    simp only [Sof, Array.getD_eq_getD_getElem?, hl, Array.getElem?_eq_getElem, Option.getD_some] at hS ⊢
    exact hS
  · simp only [h1, Array.getElem?_eq_getElem, Option.map_some, Option.getD_some]
    refine Array.all_eq_true'.2 fun e he => ?_
    cases hb : Region.binds .any e with
    | false => simp
    | true =>
      simp only [Bool.not_true, Bool.false_or]
      exact hd e.on (by simp only [direct, List.mem_map, List.mem_filter, Array.mem_toList_iff]; exact ⟨e, ⟨he, hb⟩, rfl⟩)

theorem touches_ids {x : Chg} {id : Nat} (h : touches x id = true) : x.isAll = true ∨ id ∈ x.ids := by
  simp only [touches, Bool.or_eq_true] at h
  exact h.imp (fun h => h) (fun h => by simpa using h)

theorem callee_reads {ops : List Oper} {s : St} {o : Oper} {r : AV × Chg} {f : Nat} {args : List AV} (hc : calleeA (evalA s.1) o.op = some (f, args)) (hw : wantA ops s.1 o = some true) {id : Nat} (hid : id ∈ args.flatMap idOf0) :
    id ∈ (footOf ops o s r).reads := by
  have sub : ∀ (v : AV) (id : Nat), id ∈ idOf0 v → id ∈ idOf v := by
    intro v id h
    cases v <;> first | exact h | simp [idOf0] at h
  unfold calleeA at hc
  split at hc
  · rename_i fo as ts hop
    have hr : ∀ (x : Operand) (id : Nat), (x = fo ∨ x ∈ as) → id ∈ idOf (evalA s.1 x) → id ∈ (footOf ops o s r).reads := by
      intro x id hx hi
      have hin : x ∈ o.op.operands.toList := by
        rw [hop]
        rcases hx with rfl | hx
        · simp [Op.operands, Call.operands]
        · simp [Op.operands, Call.operands, hx]
      simp only [footOf, opReads, hw, hop, looksIn, beq_self_eq_true, Bool.and_self, if_true, List.mem_flatMap]
      rw [hop] at hin
      exact ⟨x, hin, hi⟩
    split at hc
    · rename_i g hg
      simp only [Option.some.injEq, Prod.mk.injEq] at hc
      obtain ⟨rfl, rfl⟩ := hc
      simp only [List.mem_flatMap, List.mem_map, Array.mem_toList_iff] at hid
      obtain ⟨v, ⟨x, hx, rfl⟩, hi⟩ := hid
      exact hr x id (.inr hx) (sub _ _ hi)
    · rename_i g cs hg
      simp only [Option.some.injEq, Prod.mk.injEq] at hc
      obtain ⟨rfl, rfl⟩ := hc
      rw [List.flatMap_append, List.mem_append] at hid
      rcases hid with hid | hid
      · simp only [List.mem_flatMap, List.mem_map, Array.mem_toList_iff] at hid
        obtain ⟨v, ⟨x, hx, rfl⟩, hi⟩ := hid
        exact hr x id (.inr hx) (sub _ _ hi)
      · refine hr fo id (.inl rfl) ?_
        rw [hg]
        exact hid
    · simp at hc
  · simp at hc

theorem any_sound (hF : WholeOk P F) (hG : PureOk P G) (hC : CongG G) {ops : Array Oper} {sts : Nat → St} (tr : Tr P pure F G ops.toList o v c sts ops.size) (h0 : sts 0 = s0)
    (hap : ∀ i k, i < k → k < ops.size → ((befL ops.toList []).getD k 0).testBit i = true ∨ Apart (footOf ops.toList (o i) (sts i) (v i, c i)) (footOf ops.toList (o k) (sts k) (v k, c k)))
    (hed : edgesDown ops.toList = true) {Q : Exit → Act → World → Prop} {φ0 : Emb} {w0 : World}
    (hQ : ∀ φ' w' a', RelH X (hf (sts ops.size).2) φ' w' → RepL X (hf (sts ops.size).2) φ' w' (sts ops.size).1 a'.tmps.toList → a'.defers = [] → Evo (hf s0.2) φ0 w0 (hf (sts ops.size).2) φ' w' → Q .normal a' w') :
    ∀ (fuel : Nat) (listed : Array Bool) (a : Act) (w : World) (φ : Emb), listed.size = ops.size → ((List.range ops.size).countP fun j => !Sof listed j) = fuel →
      (∀ k op, ops.toList[k]? = some op → Sof listed k = true → ∀ j ∈ direct op, Sof listed j = true) →
      RelH X (HS c s0 (Sof listed) ops.size) φ w → RepL X (HS c s0 (Sof listed) ops.size) φ w (TS o v s0 (Sof listed) ops.size) a.tmps.toList → a.defers = [] →
      Evo (hf s0.2) φ0 w0 (HS c s0 (Sof listed) ops.size) φ w → wpAny P .any ops Q fuel listed a w := by
  have hlt : ∀ k op, ops.toList[k]? = some op → ∀ j ∈ direct op, j < k := by
    intro k op hop j hj
    have hk := (List.getElem?_eq_some_iff.1 hop).1
    have h1 := List.all_eq_true.1 hed k (by simpa using hk)
    rw [hop] at h1
    exact of_decide_eq_true (List.all_eq_true.1 h1 j hj)
  intro fuel
  induction fuel with
  | zero =>
    intro listed a w φ hs hc hcl R hT hd ev
    have hall : ∀ j, j < ops.size → Sof listed j = true := by
      intro j hj
      have := List.countP_eq_zero.1 hc j (by simpa using hj)
      simpa using this
    refine ⟨?_, ?_⟩
    · by_cases hne : Region.ready .any ops listed = []
      · exact hne
      · obtain ⟨i, hi⟩ := List.exists_mem_of_ne_nil _ hne
        obtain ⟨op, _, h1, h2, _⟩ := ready_mem hi hs
        rw [hall i h1] at h2; simp at h2
    · have e1 : TS o v s0 (Sof listed) ops.size = (sts ops.size).1 := by
        have := TS_first tr h0 ops.size ops.size (Nat.le_refl _)
        rw [Nat.min_self] at this
        rw [← this]
        apply List.ext_getElem?
        intro t
        exact TS_agree _ _ t _ (fun j hj _ => by rw [hall j hj]; simp [hj])
      have e2 : HS c s0 (Sof listed) ops.size = hf (sts ops.size).2 := by
        have := HS_first tr h0 ops.size ops.size (Nat.le_refl _)
        rw [Nat.min_self] at this
        rw [← this]
        funext id
        exact HS_agree _ _ id _ (fun j hj _ => by rw [hall j hj]; simp [hj])
      rw [e2] at R ev
      rw [e1, e2] at hT
      exact hQ φ w a R hT hd ev
  | succ fuel ih =>
    intro listed a w φ hs hc hcl R hT hd ev
    refine ⟨fun hr => ?_, fun i hi => ?_⟩
    · -- somebody is ready
      exfalso
      have hex : ∃ j, j < ops.size ∧ Sof listed j = false := by
        have hpos : 0 < (List.range ops.size).countP fun j => !Sof listed j := by omega
        obtain ⟨j, hj, hj2⟩ := List.countP_pos_iff.1 hpos
        exact ⟨j, by simpa using hj, by simpa using hj2⟩
      have key : ∀ m, m < ops.size → Sof listed m = false → False := by
        intro m
        induction m using Nat.strongRecOn with
        | _ m ihm =>
          intro hm hSm
          have hop : ops[m]? = some ops[m] := by simp [hm]
          by_cases hd' : ∀ j ∈ direct ops[m], Sof listed j = true
          · have := ready_of hop hSm hs hd'
            rw [hr] at this; simp at this
          · simp only [Classical.not_forall] at hd'
            obtain ⟨j, hj, hjS⟩ := hd'
            have hjm := hlt m ops[m] (by simp [hm]) j hj
            exact ihm j hjm (by omega) (by simpa using hjS)
      obtain ⟨j, h1, h2⟩ := hex
      exact key j h1 h2
    · obtain ⟨op, hop, hin, hSi, hdir⟩ := ready_mem hi hs
      have hopL : ops.toList[i]? = some op := by simpa using hop
      obtain rfl : op = o i := by have := tr.op i hin; rw [hopL] at this; exact Option.some.inj this
      have hst := tr.step i hin
      have hilt := hlt i (o i) hopL
      -- who is ordered, or apart
      have ord : ∀ j, j < ops.size → j ≠ i → (Sof listed j = decide (j < i)) ∨ Apart (footOf ops.toList (o j) (sts j) (v j, c j)) (footOf ops.toList (o i) (sts i) (v i, c i)) := by
        intro j hj hne
        rcases Nat.lt_or_gt_of_ne hne with h | h
        · rcases hap j i h hin with hb | hA
          · left
            rw [bef_closed (Sof listed) hcl i (o i) hopL hdir hilt hed j hb]
            simp [h]
          · exact .inr hA
        · rcases hap i j h hj with hb | hA
          · left
            have hn : Sof listed j = false := by
              cases hSj : Sof listed j with
              | false => rfl
              | true =>
                exfalso
                have hopj := tr.op j hj
                have := bef_closed (Sof listed) hcl j (o j) hopj (hcl j (o j) hopj hSj) (hlt j (o j) hopj) hed i hb
                rw [hSi] at this; simp at this
            rw [hn]; simp; omega
          · exact .inr hA.symm
      -- the temporaries that it looks at
      have tmpEq : ∀ t ∈ opTmps ops.toList (o i), (TS o v s0 (Sof listed) ops.size)[t]? = (sts i).1[t]? := by
        intro t ht
        have h1 : (TS o v s0 (Sof listed) ops.size)[t]? = (TS o v s0 (fun j => decide (j < i)) ops.size)[t]? :=
          TS_agree _ _ t _ (fun j hj hjd => by
            by_cases hji : j = i
            · subst hji; rw [hSi]; simp
            · rcases ord j hj hji with h | h
              · exact h
              · exact absurd ht (h.t1 t hjd))
        rw [h1, TS_first tr h0 i ops.size (Nat.le_refl _), show min ops.size i = i by omega]
      have heapEq : ∀ id, (id ∈ (footOf ops.toList (o i) (sts i) (v i, c i)).reads ∨ id ∈ (c i).ids ∨ (c i).isAll = true) → HS c s0 (Sof listed) ops.size id = hf (sts i).2 id := by
        intro id hid
        have h1 : HS c s0 (Sof listed) ops.size id = HS c s0 (fun j => decide (j < i)) ops.size id :=
          HS_agree _ _ id _ (fun j hj hjt => by
            by_cases hji : j = i
            · subst hji; rw [hSi]; simp
            · rcases ord j hj hji with h | h
              · exact h
              · exfalso
                have hjt' := touches_ids hjt
                rcases hid with hid | hid | hid
                · rcases hjt' with hall | hjid
                  · have := (heapful_false (h.h1 hall)).1
                    rw [this] at hid; simp at hid
                  · exact h.h3 id hjid hid
                · rcases hjt' with hall | hjid
                  · have := (heapful_false (h.h1 hall)).2.1
                    simp only [footOf] at this
                    rw [this] at hid; simp at hid
                  · exact h.h5 id hjid hid
                · obtain ⟨z1, z2, z3⟩ := heapful_false (h.h2 hid)
                  simp only [footOf] at z2 z3
                  rcases hjt' with hall | hjid
                  · rw [z3] at hall; simp at hall
                  · rw [z2] at hjid; simp at hjid)
        rw [h1, HS_first tr h0 i ops.size (Nat.le_refl _), show min ops.size i = i by omega]
      -- one more
      have hTm : TS o v s0 (Sof (listed.setIfInBounds i true)) ops.size = putA (TS o v s0 (Sof listed) ops.size) (o i).dst (v i) := by
        rw [Sof_set listed i (by omega)]
        have := TS_more (o := o) (v := v) (s0 := s0) (Sof listed) i hSi ops.size (fun j h1 h2 hSj d hjd => by
          rcases ord j h2 (by omega) with h | h
          · rw [hSj] at h; simp at h; omega
          · exact h.t3 d hjd)
        rw [if_pos hin] at this
        exact this
      have hHm : HS c s0 (Sof (listed.setIfInBounds i true)) ops.size = (c i).hp (HS c s0 (Sof listed) ops.size) := by
        rw [Sof_set listed i (by omega)]
        have := HS_more (c := c) (s0 := s0) (Sof listed) i hSi ops.size (fun j h1 h2 hSj => by
          rcases ord j h2 (by omega) with h | h
          · rw [hSj] at h; simp at h; omega
          · exact apart_commutes h)
        rw [if_pos hin] at this
        exact this
      have hcl' : ∀ k op, ops.toList[k]? = some op → Sof (listed.setIfInBounds i true) k = true → ∀ j ∈ direct op, Sof (listed.setIfInBounds i true) j = true := by
        intro k op hk hSk j hj
        rw [Sof_set listed i (by omega)] at hSk ⊢
        simp only [Bool.or_eq_true] at hSk ⊢
        rcases hSk with h | h
        · exact .inl (hcl k op hk h j hj)
        · have : k = i := by simpa using h
          subst this
          rw [hopL] at hk; cases hk
          exact .inl (hdir j hj)
      have hcnt : ((List.range ops.size).countP fun j => !Sof (listed.setIfInBounds i true) j) = fuel := by
        rw [Sof_set listed i (by omega)]
        have := count_more (Sof listed) i hSi ops.size
        rw [if_pos hin] at this
        show ((List.range ops.size).countP fun j => !(Sof listed j || j == i)) = fuel
        omega
      have goOn : ∀ (a' : Act) (w' : World) (φ' : Emb), RelH X ((c i).hp (HS c s0 (Sof listed) ops.size)) φ' w' → RepL X ((c i).hp (HS c s0 (Sof listed) ops.size)) φ' w' (putA (TS o v s0 (Sof listed) ops.size) (o i).dst (v i)) a'.tmps.toList →
          a'.defers = [] → Evo (HS c s0 (Sof listed) ops.size) φ w ((c i).hp (HS c s0 (Sof listed) ops.size)) φ' w' → wpAny P .any ops Q fuel (listed.setIfInBounds i true) a' w' := by
        intro a' w' φ' R' hT' hd' ev'
        exact ih _ a' w' φ' (by simpa using hs) hcnt hcl' (by rw [hHm]; exact R') (by rw [hHm, hTm]; exact hT') hd' (by rw [hHm]; exact ev.trans ev')
      -- is it wanted?
      have wantEq : wantA ops.toList (TS o v s0 (Sof listed) ops.size) (o i) = wantA ops.toList (sts i).1 (o i) := by
        unfold wantA
        split
        · rfl
        · rename_i j want hg
          split
          · rfl
          · rename_i d hdj
            rw [tmpEq d (by unfold opTmps; rw [hg]; simp only [List.mem_append]; right; rw [hdj]; simp)]
      unfold wpOp
      rw [hop]
      simp only
      unfold stepOp at hst
      split at hst
      · simp at hst
      · rename_i hw
        rw [← wantEq] at hw
        simp only [Option.some.injEq, Prod.mk.injEq] at hst
        obtain ⟨hv, hcc⟩ := hst
        rw [want_sound hT hw, if_neg (by simp)]
        refine goOn _ w φ (by rw [← hcc]; exact R) (by rw [← hcc, ← hv]; exact put_sound hT _ repA_undef) ?_ (by rw [← hcc]; exact Evo.refl _ _ _)
        cases hdst : (o i).dst <;> simpa [Act.put] using hd
      · rename_i hw
        have hw0 := hw
        rw [← wantEq] at hw
        rw [want_sound hT hw, if_pos rfl]
        refine .inl ?_
        have hρeq : ∀ x ∈ (o i).op.operands.toList, evalA (TS o v s0 (Sof listed) ops.size) x = evalA (sts i).1 x := by
          intro x hx
          cases x with
          | tmp t =>
            simp only [evalA, List.getD_eq_getElem?_getD]
            rw [tmpEq t (by simp only [opTmps, List.mem_append, List.mem_filterMap]; exact .inl ⟨.tmp t, hx, rfl⟩)]
          | const v => rfl
          | global g => rfl
          | func f => rfl
        have hsem := runOp_sem hst
        have hsem' : OpSem P pure F G (evalA (TS o v s0 (Sof listed) ops.size)) (HS c s0 (Sof listed) ops.size) (sts i).2.length (o i).op (v i) (c i) := by
          unfold OpSem at hsem ⊢
          rw [calleeA_congr hρeq]
          split
          · rename_i f args hcal
            rw [hcal] at hsem
            rcases hsem with ⟨hp', hGr, hca⟩ | ⟨hp', h, h', hFr, hca, hhf⟩
            · refine .inl ⟨hp', ?_, hca⟩
              rw [← hGr]
              exact hC _ _ f args (fun id hid => heapEq id (.inl (callee_reads hcal hw0 hid)))
            · refine .inr ⟨hp', h, h', hFr, hca, ?_⟩
              rw [← hhf]
              funext id
              exact heapEq id (.inr (.inr (by rw [hca]; rfl)))
          · rename_i hcal
            rw [hcal] at hsem
            obtain ⟨e, he, h1, h2⟩ := hsem
            refine ⟨e, ?_, h1, h2⟩
            rw [← he]
            refine primA_congr hρeq (fun hl x hx id hid => heapEq id (.inl ?_))
            simp only [footOf, opReads, hw0, hl, beq_self_eq_true, Bool.and_self, if_true, List.mem_flatMap]
            exact ⟨x, hx, hid⟩
        refine oper_sound hF hG R (eval_sound hT) (fun hnb => ?_) hsem' (fun y w' φ' r1 r2 r3 => ?_)
        · rw [heapEq _ (.inr (.inl hnb))]; exact hf_new _
        · refine goOn _ w' φ' r2 (put_sound (hT.evo r3) _ r1) ?_ r3
          cases hdst : (o i).dst <;> simpa [Act.put] using hd

theorem Evo.drew {hp : Hp} {φ : Emb} {w : World} : Evo hp φ w hp φ { w with drawn := w.drawn + 1 } :=
  ⟨⟨rfl, rfl, rfl, Nat.le_refl _, fun _ _ _ => rfl, fun _ c _ fr h => ⟨c, fr, h, rfl⟩⟩, fun _ => Nat.le_refl _, fun _ h _ => ⟨h, rfl⟩, fun _ h => .inl h⟩

theorem RelH.drew {hp : Hp} {φ : Emb} {w : World} (R : RelH X hp φ w) : RelH X hp φ { w with drawn := w.drawn + 1 } := R.evo Evo.drew (fun _ _ => rfl)

theorem draw_sound (hF : WholeOk P F) (hG : PureOk P G) (hC : CongG G) (hm : P.follows .mixedOrders = true) {id : Nat} {ops : Array Oper} {Q : Exit → Act → World → Prop} {s s' : St} (h : drawOps P pure F G ops.toList s = some s')
    {φ : Emb} {w : World} {a : Act} (R : RelH X (hf s.2) φ w) (hT : RepL X (hf s.2) φ w s.1 a.tmps.toList) (hd : a.defers = [])
    (hk : ∀ φ' w' a', RelH X (hf s'.2) φ' w' → RepL X (hf s'.2) φ' w' s'.1 a'.tmps.toList → a'.defers = [] → Evo (hf s.2) φ w (hf s'.2) φ' w' → Q .normal a' w') :
    (Code.region id ops true).wp P Q a w := by
  unfold drawOps at h
  simp only [Option.bind_eq_some_iff] at h
  obtain ⟨⟨fs, s2⟩, htr, h⟩ := h
  split at h
  · rename_i hchk
    simp only [Bool.and_eq_true] at hchk
    obtain ⟨hed, hap⟩ := hchk
    simp only [Option.some.injEq] at h; subst h
    obtain ⟨hfl, v, c, sts, h0, hn, hall⟩ := trace_some ops.toList ops.toList s s2 fs htr
    rw [Array.length_toList] at hfl hn
    let o : Nat → Oper := fun i => ops.getD i default
    have hoi : ∀ i, i < ops.size → ops.toList[i]? = some (o i) := by
      intro i hi; simp [o, hi, Array.getD]
    have tr : Tr P pure F G ops.toList o v c sts ops.size :=
      ⟨hoi, fun i hi => (hall i (o i) (hoi i hi)).1, fun i hi => (hall i (o i) (hoi i hi)).2.1⟩
    have hS0 : Sof (Array.replicate ops.size false) = fun _ => false := by
      funext j; simp only [Sof, Array.getD_eq_getD_getElem?, Array.getElem?_replicate]; split <;> rfl
    have hT0 : ∀ k, TS o v s (fun _ => false) k = s.1 := by intro k; induction k with | zero => rfl | succ k ih => rw [TS_succ]; simpa using ih
    have hH0 : ∀ k, HS c s (fun _ => false) k = hf s.2 := by intro k; induction k with | zero => rfl | succ k ih => rw [HS_succ]; simpa using ih
    refine wp_region_any hm (any_sound (X := X) hF hG hC tr h0 (fun i k hik hkn => ?_) hed (φ0 := φ) (w0 := w) (fun φ' w' a' r1 r2 r3 r4 => ?_) ops.size _ a _ φ (by simp) ?_ ?_ ?_ ?_ hd ?_)
    · have hfl' : fs.length = ops.size := by simpa using hfl
      have h1 := List.all_eq_true.1 hap k (by rw [List.mem_range, hfl']; exact hkn)
      have h2 := List.all_eq_true.1 h1 i (by simpa using hik)
      rw [(hall i (o i) (hoi i (by omega))).2.2, (hall k (o k) (hoi k hkn)).2.2] at h2
      simp only [Bool.or_eq_true] at h2
      exact h2.imp (fun h => h) apart_of
    · rw [hn] at r1 r2 r4; exact hk φ' w' a' r1 r2 r3 r4
    · rw [hS0]; simp
    · rw [hS0]; simp
    · rw [hS0, hH0]; exact R.drew
    · rw [hS0, hH0, hT0]; exact hT.evo Evo.drew
    · rw [hS0, hH0]; exact Evo.drew
  · simp at h

/-! Code. -/

def XA.exit' : XA → Exit
  | .normal => .normal
  | .exit id => .exit id
  | .ret => .ret

theorem exec_sound (hF : WholeOk P F) (hG : PureOk P G) (hC : CongG G) (hm : P.follows .mixedOrders = true) (lim : Nat) : ∀ (code : Code) (s s' : St) (e : XA), execC P pure F G lim code s = some (e, s') →
    ∀ (X : Nat → Prop) (φ : Emb) (w : World) (a : Act) (Q : Exit → Act → World → Prop), RelH X (hf s.2) φ w → RepL X (hf s.2) φ w s.1 a.tmps.toList → a.defers = [] →
    (∀ φ' w' a', RelH X (hf s'.2) φ' w' → RepL X (hf s'.2) φ' w' s'.1 a'.tmps.toList → a'.defers = [] → Evo (hf s.2) φ w (hf s'.2) φ' w' → Q e.exit' a' w') → code.wp P Q a w := by
  intro code
  induction code with
  | skip =>
    intro s s' e h X φ w a Q R hT hd hk
    simp only [execC, Option.some.injEq, Prod.mk.injEq] at h; obtain ⟨rfl, rfl⟩ := h
    exact wp_skip (hk φ w a R hT hd (Evo.refl _ _ _))
  | label l =>
    intro s s' e h X φ w a Q R hT hd hk
    simp only [execC, Option.some.injEq, Prod.mk.injEq] at h; obtain ⟨rfl, rfl⟩ := h
    exact wp_label (hk φ w a R hT hd (Evo.refl _ _ _))
  | region id ops draw =>
    intro s s' e h X φ w a Q R hT hd hk
    simp only [execC, Option.map_eq_some_iff, Prod.mk.injEq] at h
    obtain ⟨s2, h, rfl, rfl⟩ := h
    cases draw with
    | false =>
      rw [if_neg (by simp)] at h
      exact wp_region_list (ops_sound hF hG ops.toList s s2 h X φ w a R hT hd hk)
    | true =>
      rw [if_pos rfl] at h
      exact draw_sound hF hG hC hm h R hT hd hk
  | seq x y ihx ihy =>
    intro s s' e h X φ w a Q R hT hd hk
    simp only [execC] at h
    refine wp_seq ?_
    split at h
    · rename_i s1 hx
      refine ihx s s1 .normal hx X φ w a _ R hT hd (fun φ' w' a' R' T' d' e' => ?_)
      exact ihy s1 s' e h X φ' w' a' Q R' T' d' (fun φ2 w2 a2 R2 T2 d2 e2 => hk φ2 w2 a2 R2 T2 d2 (e'.trans e2))
    · rename_i r hne
      refine ihx s s' e h X φ w a _ R hT hd (fun φ' w' a' R' T' d' e' => ?_)
      have := hk φ' w' a' R' T' d' e'
      cases e with
      | normal => exact absurd h (by rw [h] at hne; exact fun _ => hne s' rfl)
      | exit id => exact this
      | ret => exact this
  | cond cnd x y ihx ihy =>
    intro s s' e h X φ w a Q R hT hd hk
    simp only [execC] at h
    have hcv := eval_sound hT cnd
    split at h
    · rename_i hc
      rw [hc] at hcv
      exact wp_cond_true (repA_bool hcv) (ihx s s' e h X φ w a Q R hT hd hk)
    · rename_i hc
      rw [hc] at hcv
      exact wp_cond_false (repA_bool hcv) (ihy s s' e h X φ w a Q R hT hd hk)
    · simp at h
  | block id b ih =>
    intro s s' e h X φ w a Q R hT hd hk
    simp only [execC] at h
    refine wp_block ?_
    split at h
    · rename_i j s1 hb
      refine ih s s1 (.exit j) hb X φ w a _ R hT hd (fun φ' w' a' R' T' d' e' => ?_)
      split at h
      · rename_i hj
        simp only [Option.some.injEq, Prod.mk.injEq] at h; obtain ⟨rfl, rfl⟩ := h
        simp only [XA.exit', Exit.inBlock, hj, if_true]
        exact hk φ' w' a' R' T' d' e'
      · rename_i hj
        simp only [Option.some.injEq, Prod.mk.injEq] at h; obtain ⟨rfl, rfl⟩ := h
        simp only [XA.exit', Exit.inBlock, hj, if_false]
        exact hk φ' w' a' R' T' d' e'
    · rename_i r hne
      refine ih s s' e h X φ w a _ R hT hd (fun φ' w' a' R' T' d' e' => ?_)
      have := hk φ' w' a' R' T' d' e'
      cases e with
      | normal => exact this
      | exit j => exact absurd h (by rw [h] at hne; exact fun _ => hne j s' rfl)
      | ret => exact this
  | loop b ih =>
    intro s s' e h X φ w a Q R hT hd hk
    simp only [execC] at h
    have key : ∀ (n : Nat) (s : St), loopN (execC P pure F G lim b) n s = some (e, s') → ∀ (φ : Emb) (w : World) (a : Act), RelH X (hf s.2) φ w → RepL X (hf s.2) φ w s.1 a.tmps.toList → a.defers = [] →
        (∀ φ' w' a', RelH X (hf s'.2) φ' w' → RepL X (hf s'.2) φ' w' s'.1 a'.tmps.toList → a'.defers = [] → Evo (hf s.2) φ w (hf s'.2) φ' w' → Q e.exit' a' w') → Code.rounds P b Q n a w := by
      intro n
      induction n with
      | zero => intro s h; simp [loopN] at h
      | succ n ihn =>
        intro s h φ w a R hT hd hk
        rw [rounds_succ]
        simp only [loopN] at h
        split at h
        · rename_i s1 hb
          refine ih s s1 .normal hb X φ w a _ R hT hd (fun φ' w' a' R' T' d' e' => ?_)
          exact ihn s1 h φ' w' a' R' T' d' (fun φ2 w2 a2 R2 T2 d2 e2 => hk φ2 w2 a2 R2 T2 d2 (e'.trans e2))
        · rename_i r hne
          refine ih s s' e h X φ w a _ R hT hd (fun φ' w' a' R' T' d' e' => ?_)
          have := hk φ' w' a' R' T' d' e'
          cases e with
          | normal => exact absurd h (by rw [h] at hne; exact fun _ => hne s' rfl)
          | exit id => exact this
          | ret => exact this
    exact wp_loop_rounds lim (key lim s h φ w a R hT hd hk)
  | exit id =>
    intro s s' e h X φ w a Q R hT hd hk
    simp only [execC, Option.some.injEq, Prod.mk.injEq] at h; obtain ⟨rfl, rfl⟩ := h
    exact wp_exit (hk φ w a R hT hd (Evo.refl _ _ _))
  | ret =>
    intro s s' e h X φ w a Q R hT hd hk
    simp only [execC, Option.some.injEq, Prod.mk.injEq] at h; obtain ⟨rfl, rfl⟩ := h
    exact wp_ret (hk φ w a R hT hd (Evo.refl _ _ _))
  | rangeFunc f ps x y ihx ihy => intro s s' e h; simp [execC] at h
  | scope b ih => intro s s' e h; simp [execC] at h
  | goto l => intro s s' e h; simp [execC] at h
  | refuse why => intro s s' e h; simp [execC] at h

end Go.Proofs.Ytabpcmmkmbchnaa.AI
