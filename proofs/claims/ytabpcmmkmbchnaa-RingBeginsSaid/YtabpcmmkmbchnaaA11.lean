/- Copy, the least and greatest; all operations that enter no function: the plain step against the machine's. -/
import Derived.Test.YtabpcmmkmbchnaaA10
set_option linter.unusedVariables false
set_option linter.unusedSectionVars false
set_option linter.unusedSimpArgs false
namespace Go.Proofs.Ytabpcmmkmbchnaa.AI
open Go
variable [Val]

variable {X : Nat → Prop} {hp : Hp} {φ : Emb} {w : World} {P : Program}

theorem copy_sound (R : RelH X hp φ w) {nb : Nat} {ts : Array TypeId} {ty : TypeId} {d x : AV} {dv xv : Value} {e : Eff} (hd : RepA X hp φ w d dv) (hx : RepA X hp φ w x xv)
    (h : copyA P hp ts d x = some e) : EffOk P X hp φ w nb (Builtin.copy_ ts ty #[dv, xv]) e := by
  unfold copyA at h
  split at h
  · rename_i dt h0
    split at h
    · rename_i elem hu
      simp only [Option.bind_eq_some_iff] at h
      obtain ⟨size, hs, ⟨n, cs⟩, hsrc, h⟩ := h
      obtain ⟨vs, r1, r2, r3, r4⟩ := src_sound (P := P) R hx hsrc
      have run : ∀ {base : Option Addr} {dLen dCap : Nat}, dv = .slice base dLen dCap →
          (Builtin.copy_ ts ty #[dv, xv]).run P w = ((match base with | some a => storeCells a (vs.take (Nat.min n dLen * size)) | none => pure () : Sem Unit).run P w).andThen fun _ w' => .ok (goInt (Nat.min n dLen : Nat)) w' := by
        intro base dLen dCap hdv
        subst hdv
        have l1 := r3 w rfl
        have l2 := r4 (Nat.min n dLen) (Nat.min_le_left _ _) w rfl
        cases base <;> simp [Builtin.copy_, h0, run_und hu, run_szA hs, l1, l2, goInt]
      simp only at h
      split at h
      · simp only [Option.some.injEq] at h; subst h
        have := repA_nilSlice hd; subst this
        refine ValOk.eff R ⟨.int .i64 0, ?_, mk_int _ _⟩
        rw [run rfl]; simp [goInt]
      · simp only [Option.some.injEq] at h; subst h
        obtain ⟨a, rfl⟩ := repA_zcap hd
        refine ValOk.eff R ⟨.int .i64 0, ?_, mk_int _ _⟩
        rw [run rfl]; simp [goInt, storeCells]
      · rename_i id ver off len mc esz xc
        split at h
        · simp at h
        · rename_i hes
          simp only [ne_eq, Decidable.not_not] at hes
          subst hes
          simp only [Option.bind_eq_some_iff] at h
          obtain ⟨row, hrow, h⟩ := h
          split at h
          · rename_i hc
            obtain ⟨c1, c2⟩ := hc
            simp only [Option.some.injEq] at h; subst h
            have hid := look_some hrow
            have hk : Nat.min n len ≤ len := Nat.min_le_right _ _
            have hk2 : Nat.min n len ≤ n := Nat.min_le_left _ _
            have e1 := mul_le_of (s := esz) hk
            have e2 := mul_le_of (s := esz) hk2
            have hcl : cs.length = n * esz := by rw [r1.1, r2]
            have htl : (cs.take (Nat.min n len * esz)).length = Nat.min n len * esz := by rw [List.length_take]; omega
            have hrt := r1.take (Nat.min n len * esz)
            have hcell : ∀ c ∈ cs.take (Nat.min n len * esz), c.isCell = true := List.all_eq_true.1 c2
            have hone : ∀ v ∈ vs.take (Nat.min n len * esz), v.oneCell' = true := by
              intro v hv
              obtain ⟨i, hi', rfl⟩ := List.getElem_of_mem hv
              have hi2 : i < (cs.take (Nat.min n len * esz)).length := by rw [hrt.1]; exact hi'
              have hcc := hcell _ (List.getElem_mem hi2)
              obtain ⟨u, hu', hr⟩ := hrt.2 i _ (List.getElem?_eq_getElem hi2)
              have : (vs.take (Nat.min n len * esz))[i] = u := (List.getElem?_eq_some_iff.1 hu').2
              rw [this]
              have k := (repA_cells (a := .agg [(cs.take (Nat.min n len * esz))[i]]) (v := .agg #[u]) (RepL.agg (.cons hr .nil)) (by simp only [AV.cells, List.all_cons, List.all_nil, Bool.and_true]; exact hcc)).2
              exact k u (by simp [Value.cells])
            cases hd with
            | slice _ _ _ _ _ _ _ a cap hvle hln ha =>
              obtain ⟨g1, g2, g3⟩ := hln
              rcases ha (by rw [hid]; rfl) (by rw [hid]; rfl) with h00 | ⟨had, _⟩
              · -- nothing to be written
                have hk0 : Nat.min n len = 0 := by omega
                rw [hk0] at htl hrt hcell hone ⊢
                have hnil : cs.take (0 * esz) = [] := by simp
                obtain ⟨c, T, lo, hi, a1, a2, a3, a4, a5, a6⟩ := R.row hid
                have hsp : splice row off (cs.take (0 * esz)) = row := by rw [hnil]; simp [splice]
                rw [hsp]
                have hself : setHp hp id (.cells ver row) = hp := by
                  funext j; unfold setHp; split
                  · rename_i hj; rw [hj, hid]
                  · rfl
                refine ⟨.int .i64 (0 : Nat), w, φ, ?_, mk_int _ _, by simp only [Eff.hp, hself]; exact R, by simp only [Eff.hp, hself]; exact Evo.refl _ _ _⟩
                rw [run rfl, hk0]
                simp [goInt, storeCells]
              · subst had
                obtain ⟨w', hw, ev, R'⟩ := R.store (P := P) hid off (by omega) hrt hcell hone
                refine ⟨.int .i64 (Nat.min n len : Nat), w', φ, ?_, mk_int _ _, R', ev⟩
                rw [run rfl]
                simp only [hw]
                rfl
          · simp at h
      · simp at h
    · simp at h
  · simp at h

theorem min_sound (mx : Bool) (k : IntKind) : ∀ (rest : List AV) (restV : List Value) (x : Int) (n : Int), RepL X hp φ w rest restV → minA mx x rest k = some n →
    (restV.foldlM (if mx then Builtin.max2 else Builtin.min2) (.int k x)).run P w = .ok (.int k n) w
  | [], restV, x, n, hr, h => by rw [hr.of_nil]; simp [minA] at h; subst h; simp
  | c :: rest, restV, x, n, hr, h => by
    obtain ⟨v, vs, rfl, hv, hr'⟩ := hr.head
    unfold minA at h
    split at h
    · simp_all
    · rename_i k' y rest' e1
      split at h
      · rename_i hk
        cases e1
        subst hk
        have := repA_int hv; subst this
        have ih := min_sound mx k' rest vs _ n hr' h
        cases mx
        · simp only [Bool.false_eq_true, if_false] at ih ⊢
          simp only [List.foldlM_cons, Sem.run_bind, Builtin.min2, Sem.run_pure, Result.andThen_ok]
          exact ih
        · simp only [if_true] at ih ⊢
          simp only [List.foldlM_cons, Sem.run_bind, Builtin.max2, Sem.run_pure, Result.andThen_ok]
          exact ih
      · simp at h
    · simp at h

theorem builtin_sound (R : RelH X hp φ w) {nb : Nat} {b : Builtin} {ts : Array TypeId} {ty : TypeId} {cn : Array Bool} {args : List AV} {argsV : Array Value} {e : Eff} (hg : (∃ v b, e = .new v b) → hp nb = .gone 0)
    (ha : RepL X hp φ w args argsV.toList) (h : builtinA P hp nb b ts args = some e) :
    ∃ y w' φ', (builtin b ts ty cn argsV).run P w = .ok (.value y) w' ∧ RepA X (e.hp hp nb) φ' w' e.v y ∧ RelH X (e.hp hp nb) φ' w' ∧ Evo hp φ w (e.hp hp nb) φ' w' := by
  have fin : ∀ {s : Sem Value}, EffOk P X hp φ w nb s e → (∀ w1, (builtin b ts ty cn argsV).run P w1 = (s.run P w1).andThen fun y w' => .ok (.value y) w') →
      ∃ y w' φ', (builtin b ts ty cn argsV).run P w = .ok (.value y) w' ∧ RepA X (e.hp hp nb) φ' w' e.v y ∧ RelH X (e.hp hp nb) φ' w' ∧ Evo hp φ w (e.hp hp nb) φ' w' := by
    intro s ⟨y, w', φ', hy, r1, r2, r3⟩ hrun
    exact ⟨y, w', φ', by rw [hrun w, hy]; rfl, r1, r2, r3⟩
  obtain ⟨l⟩ := argsV
  simp only at ha
  unfold builtinA at h
  split at h
  · rename_i x rest
    obtain ⟨v, vs, rfl, hv, hr⟩ := ha.head
    split at h
    · rename_i t ht
      simp only [Option.map_eq_some_iff] at h
      obtain ⟨n, hn, rfl⟩ := h
      exact fin (ValOk.eff R (len_sound ty ts ht ⟨v :: vs⟩ rfl hv hn)) (fun w1 => by simp [builtin])
    · simp at h
  · rename_i id ver off len mc esz
    obtain ⟨v, vs, rfl, hv, hr⟩ := ha.head
    split at h
    · rename_i t ht
      split at h
      · rename_i el hu
        simp only [Option.some.injEq] at h; subst h
        cases hv with
        | slice _ _ _ _ _ _ _ a cap hvle hln ha' =>
          obtain ⟨g1, g2, g3⟩ := hln
          have := g3 rfl
          subst this
          exact fin (s := Builtin.cap_ ts ty ⟨.slice (some a) len cap :: vs⟩) (ValOk.eff R ⟨.int .i64 cap, by simp [Builtin.cap_, ht, run_und hu, goInt], mk_int _ _⟩) (fun w1 => by simp [builtin])
      · simp at h
    · simp at h
  · obtain ⟨v, vs, rfl, hv, hr⟩ := ha.head
    obtain rfl := repA_nilSlice hv
    split at h
    · rename_i t ht
      split at h
      · rename_i el hu
        simp only [Option.some.injEq] at h; subst h
        exact fin (s := Builtin.cap_ ts ty ⟨.slice none 0 0 :: vs⟩) (ValOk.eff R ⟨.int .i64 (0 : Nat), by simp [Builtin.cap_, ht, run_und hu, goInt], mk_int _ _⟩) (fun w1 => by simp [builtin])
      · simp at h
    · simp at h
  · obtain ⟨v, vs, rfl, hv, hr⟩ := ha.head
    obtain ⟨a, rfl⟩ := repA_zcap hv
    split at h
    · rename_i t ht
      split at h
      · rename_i el hu
        simp only [Option.some.injEq] at h; subst h
        exact fin (s := Builtin.cap_ ts ty ⟨.slice (some a) 0 0 :: vs⟩) (ValOk.eff R ⟨.int .i64 (0 : Nat), by simp [Builtin.cap_, ht, run_und hu, goInt], mk_int _ _⟩) (fun w1 => by simp [builtin])
      · simp at h
    · simp at h
  · rename_i s x
    obtain ⟨v, vs, rfl, hv, hr⟩ := ha.head
    obtain ⟨u, us, rfl, hu, hr'⟩ := hr.head
    obtain rfl := hr'.of_nil
    exact fin (append_sound (ty := ty) R hg hv hu h) (fun w1 => by simp [builtin])
  · rename_i d x
    obtain ⟨v, vs, rfl, hv, hr⟩ := ha.head
    obtain ⟨u, us, rfl, hu, hr'⟩ := hr.head
    obtain rfl := hr'.of_nil
    exact fin (copy_sound (ty := ty) R hv hu h) (fun w1 => by simp [builtin])
  · rename_i k x rest
    obtain ⟨v, vs, rfl, hv, hr⟩ := ha.head
    have := repA_int hv; subst this
    simp only [Option.map_eq_some_iff] at h
    obtain ⟨n, hn, rfl⟩ := h
    have hm := min_sound (P := P) false k rest vs x n hr hn
    simp only [Bool.false_eq_true, if_false] at hm
    exact fin (s := Builtin.min_ ts ty ⟨.int k x :: vs⟩) (ValOk.eff R ⟨.int k n, by simp only [Builtin.min_]; exact hm, mk_int _ _⟩) (fun w1 => by simp [builtin])
  · rename_i k x rest
    obtain ⟨v, vs, rfl, hv, hr⟩ := ha.head
    have := repA_int hv; subst this
    simp only [Option.map_eq_some_iff] at h
    obtain ⟨n, hn, rfl⟩ := h
    have hm := min_sound (P := P) true k rest vs x n hr hn
    simp only [if_true] at hm
    exact fin (s := Builtin.max_ ts ty ⟨.int k x :: vs⟩) (ValOk.eff R ⟨.int k n, by simp only [Builtin.max_]; exact hm, mk_int _ _⟩) (fun w1 => by simp [builtin])
  · simp at h

theorem repL_map {ρA : Operand → AV} {ρ : Operand → Value} (hρ : ∀ x, RepA X hp φ w (ρA x) (ρ x)) (l : List Operand) : RepL X hp φ w (l.map ρA) (l.map ρ) :=
  ⟨by simp, fun i c hc => by
    simp only [List.getElem?_map, Option.map_eq_some_iff] at hc
    obtain ⟨x, hx, rfl⟩ := hc
    exact ⟨ρ x, by simp [hx], hρ x⟩⟩

/-- ONE OPERATION THAT ENTERS NO FUNCTION. -/
theorem prim_sound (R : RelH X hp φ w) {nb : Nat} {ρA : Operand → AV} {ρ : Operand → Value} (hρ : ∀ x, RepA X hp φ w (ρA x) (ρ x)) (o : Oper) {e : Eff}
    (hg : (∃ v b, e = .new v b) → hp nb = .gone 0) (h : primA P ρA hp nb o.op = some e) :
    ∃ r y w' φ', (execOp ρ o).run P w = .ok r w' ∧ (r = .value y ∨ (r = .skip ∧ y = undef)) ∧ RepA X (e.hp hp nb) φ' w' e.v y ∧ RelH X (e.hp hp nb) φ' w' ∧ Evo hp φ w (e.hp hp nb) φ' w' := by
  have viaEff : ∀ {s : Sem Value}, EffOk P X hp φ w nb s e → (execOp ρ o).run P w = (s.run P w).andThen (fun y w' => .ok (.value y) w') →
      ∃ r y w' φ', (execOp ρ o).run P w = .ok r w' ∧ (r = .value y ∨ (r = .skip ∧ y = undef)) ∧ RepA X (e.hp hp nb) φ' w' e.v y ∧ RelH X (e.hp hp nb) φ' w' ∧ Evo hp φ w (e.hp hp nb) φ' w' := by
    intro s ⟨y, w', φ', hy, r1, r2, r3⟩ hrun
    exact ⟨.value y, y, w', φ', by rw [hrun, hy]; rfl, .inl rfl, r1, r2, r3⟩
  have parts : ∀ (ps : Array (Nat × Operand)), (ps.toList.map fun (i, x) => (i, ρA x)).length = (ps.map fun (i, x) => (i, ρ x)).size ∧
      ∀ (j i : Nat) (a : AV), (ps.toList.map fun (i, x) => (i, ρA x))[j]? = some (i, a) → ∃ v, (ps.map fun (i, x) => (i, ρ x)).toList[j]? = some (i, v) ∧ RepA X hp φ w a v := by
    intro ps
    refine ⟨by simp, fun j i a hj => ?_⟩
    simp only [List.getElem?_map, Option.map_eq_some_iff] at hj
    obtain ⟨⟨i', x⟩, hx, he⟩ := hj
    simp only [Prod.mk.injEq] at he
    obtain ⟨rfl, rfl⟩ := he
    exact ⟨ρ x, by simp only [Array.toList_map, List.getElem?_map, hx, Option.map_some], hρ x⟩
  have opt : ∀ (x : Option Operand), OptRep X hp φ w (x.map ρA) (x.map ρ) := by
    intro x; cases x with
    | none => trivial
    | some x => exact hρ x
  obtain ⟨dst, op, type, pos, after, guard⟩ := o
  simp only at h
  unfold primA at h
  split at h
  · rename_i x
    simp only [Option.some.injEq] at h; subst h
    exact viaEff (s := pure (ρ x)) (ValOk.eff R ⟨_, rfl, hρ x⟩) rfl
  · rename_i x
    simp only [Option.some.injEq] at h; subst h
    exact viaEff (s := pure (ρ x)) (ValOk.eff R ⟨_, rfl, hρ x⟩) rfl
  · rename_i c a b
    split at h
    · rename_i hc
      simp only [Option.some.injEq] at h; subst h
      have := hρ c; rw [hc] at this
      have hcv := repA_bool this
      exact viaEff (s := pure (ρ a)) (ValOk.eff R ⟨_, rfl, hρ a⟩) (by simp [execOp, hcv, asBool])
    · rename_i hc
      simp only [Option.some.injEq] at h; subst h
      have := hρ c; rw [hc] at this
      have hcv := repA_bool this
      exact viaEff (s := pure (ρ b)) (ValOk.eff R ⟨_, rfl, hρ b⟩) (by simp [execOp, hcv, asBool])
    · simp at h
  · rename_i t
    simp only [Option.bind_eq_some_iff] at h
    obtain ⟨z, hz, h⟩ := h
    split at h
    · rename_i hok
      simp only [Option.some.injEq] at h; subst h
      exact viaEff (alloc_sound R (hg ⟨_, _, rfl⟩) hz hok) (by simp [execOp])
    · simp at h
  · rename_i t x
    split at h
    · rename_i hc
      simp only [Option.some.injEq] at h; subst h
      exact viaEff (box_sound (t := t) R (hg ⟨_, _, rfl⟩) (hρ x) hc) (by simp [execOp])
    · simp at h
  · rename_i t ps
    simp only [Option.map_eq_some_iff] at h
    obtain ⟨r, hr, rfl⟩ := h
    obtain ⟨p1, p2⟩ := parts ps
    exact viaEff (ValOk.eff R (build_sound p1 p2 hr)) (by simp [execOp])
  · rename_i t len ps
    obtain ⟨p1, p2⟩ := parts ps
    exact viaEff (buildSlice_sound R hg p1 p2 h) (by simp [execOp])
  · rename_i t a
    simp only [Option.map_eq_some_iff] at h
    obtain ⟨r, hr, rfl⟩ := h
    obtain ⟨y, hy, hr'⟩ := load_sound (P := P) R (hρ a) hr
    exact viaEff (ValOk.eff R ⟨y, hy, hr'⟩) (by simp [execOp])
  · rename_i t a x
    obtain ⟨w', φ', hy, hv, r1, r2⟩ := store_sound (nb := nb) R (hρ a) (hρ x) h
    refine ⟨.skip, undef, w', φ', by simp [execOp, hy], .inr ⟨rfl, rfl⟩, ?_, r1, r2⟩
    rw [hv]; exact repA_undef
  · rename_i x
    split at h
    · rename_i id ver off hc
      simp only [Option.some.injEq] at h; subst h
      have := hρ x; rw [hc] at this
      refine viaEff (s := pure (ρ x)) (ValOk.eff R ⟨_, rfl, this⟩) ?_
      cases hv : ρ x <;> rw [hv] at this <;> cases this
      simp [execOp, hv]
    · rename_i cs off hc
      simp only [Option.some.injEq] at h; subst h
      have := hρ x; rw [hc] at this
      refine viaEff (s := pure (ρ x)) (ValOk.eff R ⟨_, rfl, this⟩) ?_
      have h2 := repA_pv this
      cases hv : ρ x <;> rw [hv] at h2 <;> cases h2
      simp [execOp, hv]
    · rename_i f hc
      simp only [Option.some.injEq] at h; subst h
      have := hρ x; rw [hc] at this
      refine viaEff (s := pure (ρ x)) (ValOk.eff R ⟨_, rfl, this⟩) ?_
      have h2 := repA_fn this
      simp [execOp, h2]
    · rename_i f cs hc
      simp only [Option.some.injEq] at h; subst h
      have := hρ x; rw [hc] at this
      refine viaEff (s := pure (ρ x)) (ValOk.eff R ⟨_, rfl, this⟩) ?_
      obtain ⟨vs, h2, _⟩ := repA_clo this
      simp [execOp, h2]
    · simp at h
  · rename_i op t x y yt
    simp only [Option.map_eq_some_iff] at h
    obtain ⟨r, hr, rfl⟩ := h
    exact viaEff (ValOk.eff R (binOp_sound (U := x) (V := y) (hρ x) (hρ y) hr)) (by
      simp only [execOp, Sem.run_bind, Sem.run_pure]
      try (cases (eqGuard op t x y (ρ x) (ρ y)).run P w <;> rfl))
  · rename_i op t x
    simp only [Option.map_eq_some_iff] at h
    obtain ⟨r, hr, rfl⟩ := h
    exact viaEff (ValOk.eff R (unOp_sound (hρ x) hr)) (by simp [execOp])
  · rename_i src dst' x
    exact viaEff (convert_sound R hg (hρ x) h) (by simp [execOp])
  · rename_i f first captured
    split at h
    · rename_i hf
      simp only [Option.some.injEq] at h; subst h
      have hf' : first = #[] := by simpa using hf
      subst hf'
      have := repL_map hρ captured.toList
      refine viaEff (s := pure (.func (.func f) #[] (captured.map ρ))) (ValOk.eff R ⟨_, rfl, RepL.clo (by simpa using this)⟩) (by simp [execOp, Instr.makeFunc])
    · simp at h
  · rename_i t l c
    exact viaEff (makeSlice_sound R hg (hρ l) (hρ c) h) (by simp [execOp])
  · rename_i t x lo hi mx
    simp only [Option.map_eq_some_iff] at h
    obtain ⟨r, hr, rfl⟩ := h
    exact viaEff (ValOk.eff R (slice_sound (hρ x) (opt lo) (opt hi) (opt mx) hr)) (by simp [execOp])
  · rename_i s x f
    simp only [Option.map_eq_some_iff] at h
    obtain ⟨r, hr, rfl⟩ := h
    exact viaEff (ValOk.eff R (fieldAddr_sound (hρ x) hr)) (by simp [execOp])
  · rename_i t x f
    simp only [Option.map_eq_some_iff] at h
    obtain ⟨r, hr, rfl⟩ := h
    exact viaEff (ValOk.eff R (field_sound (hρ x) hr)) (by simp [execOp])
  · rename_i t x ix
    simp only [Option.map_eq_some_iff] at h
    obtain ⟨r, hr, rfl⟩ := h
    exact viaEff (ValOk.eff R (indexAddr_sound (hρ x) (hρ ix) hr)) (by simp [execOp])
  · rename_i t x ix
    simp only [Option.map_eq_some_iff] at h
    obtain ⟨r, hr, rfl⟩ := h
    exact viaEff (ValOk.eff R (index_sound (hρ x) (hρ ix) hr)) (by simp [execOp])
  · rename_i t ix
    split at h
    · rename_i vs hv
      simp only [Option.map_eq_some_iff] at h
      obtain ⟨r, hr, rfl⟩ := h
      have := hρ t; rw [hv] at this
      exact viaEff (ValOk.eff R (extract_sound this hr)) (by simp [execOp])
    · simp at h
  · rename_i b args ts
    have hl := repL_map hρ args.toList
    have key := fun cn => builtin_sound (P := P) (nb := nb) (ty := type) (cn := cn) (argsV := args.map ρ) R hg (by simpa using hl) h
    simp only [execOp, Sem.run_bind, resolve, Sem.run_pure, Result.andThen_ok, invoke]
    exact (key _).elim fun y hy => hy.elim fun w' hw => hw.elim fun φ' hφ => ⟨.value y, y, w', φ', hφ.1, .inl rfl, hφ.2.1, hφ.2.2.1, hφ.2.2.2⟩
  · simp at h

end Go.Proofs.Ytabpcmmkmbchnaa.AI
