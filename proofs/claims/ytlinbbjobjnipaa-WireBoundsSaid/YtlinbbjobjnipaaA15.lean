/- A whole call: results, what is read out of own memory, and calls of every depth. -/
import Derived.Test.YtlinbbjobjnipaaA14
set_option linter.unusedVariables false
set_option linter.unusedSectionVars false
set_option linter.unusedSimpArgs false
namespace Go.Proofs.Ytlinbbjobjnipaa.AI
open Go
variable [Val]

variable {X : Nat → Prop} {hp : Hp} {φ : Emb} {w : World} {P : Program} {pure : Nat → Bool} {F : CallF} {G : CallG}

theorem loadVar_sound (R : RelH X hp φ w) {t : TypeId} {a x : AV} {v : Value} (h : RepA X hp φ w a v) (hl : loadA P hp t a = some x) :
    ∃ y, (do loadVar t (← asAddr v) : Sem Value).run P w = .ok y w ∧ RepA X hp φ w x y := by
  obtain ⟨y, hy, hr⟩ := load_sound R h hl
  have hp' : ∃ ad, v = .pointer (some ad) := by
    unfold loadA at hl
    split at hl
    · simp only [Option.bind_eq_some_iff, Option.map_eq_some_iff] at hl
      obtain ⟨n, hn, cs, hcs, _⟩ := hl
      obtain ⟨b, o, vs, hv, _⟩ := read_row R h hcs
      exact ⟨_, hv⟩
    · split at hl
      · cases h with | ptr _ _ _ ad => exact ⟨ad, rfl⟩
      · cases h with | pv _ _ h => cases h with | rop => exact ⟨_, rfl⟩
      · simp at hl
    · simp at hl
  obtain ⟨ad, rfl⟩ := hp'
  refine ⟨y, ?_, hr⟩
  simpa [Instr.loadAt, Instr.sureAddr, asAddr] using hy

def resVal (tmps : Array Value) : ResultVar → Sem Value
  | .tmp t => Pure.pure (tmps.getD t undef)
  | .cell a t => do loadVar t (← asAddr (tmps.getD a undef))

theorem results_eq (fn : Func) (tmps : Array Value) : results fn tmps = (do
    let vs ← fn.results.mapM (resVal tmps)
    Pure.pure (if h : vs.size = 1 then vs[0] else .tuple vs)) := by
  unfold results
  congr 1

theorem resOne_sound (R : RelH X hp φ w) {T : List AV} {tmps : Array Value} (hT : RepL X hp φ w T tmps.toList) {r : ResultVar} {x : AV} (h : resOne P T hp r = some x) :
    ∃ y, (resVal tmps r).run P w = .ok y w ∧ RepA X hp φ w x y := by
  have ev : ∀ t, RepA X hp φ w (T.getD t undefA) (tmps.getD t undef) := fun t => eval_sound (a := ⟨tmps, []⟩) hT (.tmp t)
  cases r with
  | tmp t =>
    simp only [resOne, Option.some.injEq] at h; subst h
    exact ⟨_, rfl, ev t⟩
  | cell a t => exact loadVar_sound R (ev a) h

theorem results_mapM (R : RelH X hp φ w) {T : List AV} {tmps : Array Value} (hT : RepL X hp φ w T tmps.toList) : ∀ {r : List ResultVar} {xs : List AV}, r.mapM (resOne P T hp) = some xs →
    ∃ ys : List Value, (r.mapM (resVal tmps)).run P w = .ok ys w ∧ RepL X hp φ w xs ys
  | [], xs, h => by simp at h; subst h; exact ⟨[], by simp, .nil⟩
  | a :: r, xs, h => by
    simp only [List.mapM_cons, Option.bind_eq_bind, Option.bind_eq_some_iff, Option.pure_def, Option.some.injEq] at h
    obtain ⟨x, hx, xs', hxs, rfl⟩ := h
    obtain ⟨y, hy, hr⟩ := resOne_sound R hT hx
    obtain ⟨ys, hys, hrs⟩ := results_mapM R hT hxs
    refine ⟨y :: ys, ?_, .cons hr hrs⟩
    rw [List.mapM_cons, Sem.run_bind, hy, Result.andThen_ok, Sem.run_bind, hys, Result.andThen_ok, Sem.run_pure]

theorem results_run {fn : Func} {tmps : Array Value} {ys : List Value} (h : (fn.results.toList.mapM (resVal tmps)).run P w = .ok ys w) :
    (results fn tmps).run P w = .ok (if h : ys.length = 1 then ys[0] else .tuple ys.toArray) w := by
  rw [results_eq]
  have e : fn.results.mapM (resVal tmps) = List.toArray <$> fn.results.toList.mapM (resVal tmps) := by
    rw [← List.mapM_toArray, Array.toArray_toList]
  rw [e, map_eq_pure_bind, Sem.run_bind, Sem.run_bind, h, Result.andThen_ok, Sem.run_pure, Result.andThen_ok, Sem.run_pure]
  simp

theorem res_sound {fn : Func} (R : RelH X hp φ w) {T : List AV} {tmps : Array Value} (hT : RepL X hp φ w T tmps.toList) {x : AV} (h : resA P fn T hp = some x) :
    ∃ y, (results fn tmps).run P w = .ok y w ∧ RepA X hp φ w x y := by
  unfold resA at h
  split at h
  · rename_i r hrs
    obtain ⟨y, hy, hr⟩ := resOne_sound R hT h
    refine ⟨y, ?_, hr⟩
    rw [results_run (ys := [y])]
    · simp
    · rw [hrs, List.mapM_cons, Sem.run_bind, hy, Result.andThen_ok, Sem.run_bind, List.mapM_nil, Sem.run_pure, Result.andThen_ok, Sem.run_pure]
  · rename_i hne
    simp only [Option.map_eq_some_iff] at h
    obtain ⟨xs, hxs, rfl⟩ := h
    obtain ⟨ys, hys, hrs⟩ := results_mapM R hT hxs
    refine ⟨.tuple ys.toArray, ?_, RepL.tuple (by simpa using hrs)⟩
    rw [results_run hys]
    rw [dif_neg]
    intro h1
    have h2 : xs.length = 1 := by rw [hrs.1, h1]
    have h3 : fn.results.toList.length = 1 := by
      have : ∀ (l : List ResultVar) (xs : List AV), l.mapM (resOne P T hp) = some xs → xs.length = l.length := by
        intro l; induction l with
        | nil => intro xs h; simp at h; subst h; rfl
        | cons a l ih =>
          intro xs h
          simp only [List.mapM_cons, Option.bind_eq_bind, Option.bind_eq_some_iff, Option.pure_def, Option.some.injEq] at h
          obtain ⟨x, _, xs', h', rfl⟩ := h
          simp [ih xs' h']
      rw [← this _ _ hxs, h2]
    obtain ⟨r, hr⟩ := List.length_eq_one_iff.1 h3
    exact hne r hr

/-! A body. -/

theorem body_sound (hnm : ∀ (f : Nat) (fn : Func), P.funcs[f]? = some fn → (fn.name == "runtime.NumGoroutine") = false) (hm : P.follows .mixedOrders = true) (hF : WholeOk P F) (hG : PureOk P G) (lim : Nat) : WholeOk P (bodyA P pure F G lim) := by
  intro f args h r h' hr
  unfold bodyA at hr
  split at hr
  · rename_i fn hfn
    split at hr
    · rename_i c hc
      refine ⟨⟨fn, hfn, hnm f fn hfn, by simp [hc]⟩, fun X φ w vs R hvs => ?_⟩
      refine calls_of_wp hfn hc ?_
      have hT : RepL X (hf h) φ w (args ++ List.replicate (fn.ntmps - args.length) undefA) (vs ++ Array.replicate (fn.ntmps - vs.size) undef).toList := by
        rw [Array.toList_append]
        refine hvs.append ?_
        have : vs.size = args.length := by simpa using hvs.1.symm
        rw [this]
        refine ⟨by simp, fun i x hx => ?_⟩
        rw [List.getElem?_replicate] at hx
        split at hx
        · simp only [Option.some.injEq] at hx; subst hx
          rename_i hi
          exact ⟨undef, by simp [Array.toList_replicate, hi], repA_undef⟩
        · simp at hx
      have fin : ∀ T, resA P fn T (hf h') = some r → ∀ (e : XA), execC P pure F G lim c (args ++ List.replicate (fn.ntmps - args.length) undefA, h) = some (e, (T, h')) → (e = .normal ∨ e = .ret) →
          c.wp P (bodyPost P fn fun e w' => ∃ y φ', e = .returned y ∧ RepA X (hf h') φ' w' r y ∧ RelH X (hf h') φ' w' ∧ Evo (hf h) φ w (hf h') φ' w') { tmps := vs ++ Array.replicate (fn.ntmps - vs.size) undef, defers := [] } w := by
        intro T hres e hex he
        refine exec_sound hF hG hm lim c _ _ e hex X φ w _ _ R hT rfl (fun φ' w' a' R' T' d' e' => ?_)
        obtain ⟨y, hy, hry⟩ := res_sound R' T' hres
        rcases he with rfl | rfl
        · exact ⟨d', y, hy, y, φ', rfl, hry, R', e'⟩
        · exact ⟨d', y, hy, y, φ', rfl, hry, R', e'⟩
      split at hr
      · rename_i T h1 hex
        simp only [Option.map_eq_some_iff, Prod.mk.injEq] at hr
        obtain ⟨v, hv, rfl, rfl⟩ := hr
        exact fin T hv .normal hex (.inl rfl)
      · rename_i T h1 hex
        simp only [Option.map_eq_some_iff, Prod.mk.injEq] at hr
        obtain ⟨v, hv, rfl, rfl⟩ := hr
        exact fin T hv .ret hex (.inr rfl)
      · simp at hr
    · simp at hr
  · simp at hr

/-! Values out of own memory. -/

theorem RepP.imp {O O' : Nat → Prop} (hO : ∀ b, O' b → O b) {p : PV} {v : Value} (h : RepP O w p v) : RepP O' w p v := by
  induction h with
  | bool b => exact .bool b
  | int k n => exact .int k n
  | str s B h => exact .str s B h
  | nilPtr => exact .nilPtr
  | nilSlice => exact .nilSlice
  | nilMap => exact .nilMap
  | nilFunc => exact .nilFunc
  | nilIface => exact .nilIface
  | zcap a => exact .zcap a
  | fn f => exact .fn f
  | sym i v h => exact .sym i v h
  | ros esz len cells b off cap vals hl hc hN hv hr ih => exact .ros esz len cells b off cap vals hl hc (fun h0 h => hN h0 (hO _ h)) hv ih
  | rop cells o b base vals hN hv hr ih => exact .rop cells o b base vals (fun h0 h => hN h0 (hO _ h)) hv ih

theorem freezeP_sound {O : Nat → Prop} (hO : ∀ b, O b → X b) (hfar : ∀ b, Own hp φ b → ¬ O b) (R : RelH X hp φ w) : ∀ (d : Nat) {v : AV} {y : Value} {p : PV}, freezeP hp d v = some p → RepA X hp φ w v y → RepP O w p y
  | 0, v, y, p, h, hv => by
    cases v with
    | pv q =>
      simp only [freezeP, Option.some.injEq] at h; subst h
      cases hv with | pv _ _ hv => exact hv.imp fun b hb => .inr (hO b hb)
    | _ => simp [freezeP] at h
  | d + 1, v, y, p, h, hv => by
    cases v with
    | pv q =>
      simp only [freezeP, Option.some.injEq] at h; subst h
      cases hv with | pv _ _ hv => exact hv.imp fun b hb => .inr (hO b hb)
    | slice id ver off len mc esz xc =>
      cases hv with
      | slice _ _ _ _ _ _ _ a cap hver hlen ha =>
      simp only [freezeP] at h
      split at h
      · rename_i hmc
        split at h
        · rename_i hxc
          simp only [Option.some.injEq] at h; subst h
          have h1 := hlen.2.2 hxc
          have h2 : len = 0 := by omega
          have h3 : cap = 0 := by omega
          subst h2; subst h3
          exact .zcap a
        · simp at h
      · rename_i hmc
        simp only [Option.bind_eq_some_iff] at h
        obtain ⟨row, hrow, h⟩ := h
        split at h
        · rename_i hle
          simp only [Option.map_eq_some_iff] at h
          obtain ⟨ps, hps, rfl⟩ := h
          have hid := look_some hrow
          obtain ⟨c, T, lo, hi, a1, a2, a3, a4, a5, a6⟩ := R.row hid
          have hl : (hp id).live = true := by rw [hid]; rfl
          have ha' := (ha hl (by rw [hid]; rfl)).resolve_left (by omega)
          obtain ⟨rfl, _⟩ := ha'
          have hsub := (a4.drop off).take (len * esz)
          have hlies := a6.sub off (len * esz)
          have hml : ∀ (l : List AV) (ps : List PV), l.mapM (freezeP hp d) = some ps → ps.length = l.length ∧ ∀ i (hi : i < ps.length), ∃ c, l[i]? = some c ∧ freezeP hp d c = some ps[i] := by
            intro l; induction l with
            | nil => intro ps h; simp at h; subst h; simp
            | cons x l ih =>
              intro ps h
              simp only [List.mapM_cons, Option.bind_eq_bind, Option.bind_eq_some_iff, Option.pure_def, Option.some.injEq] at h
              obtain ⟨p, hp', ps', h', rfl⟩ := h
              obtain ⟨e1, e2⟩ := ih ps' h'
              refine ⟨by simp [e1], fun i hi => ?_⟩
              cases i with
              | zero => exact ⟨x, rfl, hp'⟩
              | succ i => simpa using e2 i (by simpa using hi)
          obtain ⟨m1, m2⟩ := hml _ _ hps
          have hpl : ps.length = len * esz := by rw [m1]; simp; omega
          have get : ∀ i (hi : i < ps.length), ∃ v, w.cell? ⟨(φ id).1, (φ id).2 + off + i, none⟩ = some v ∧ RepP O w ps[i] v := by
            intro i hi
            obtain ⟨c, hc, hcf⟩ := m2 i hi
            obtain ⟨v, hv, hr⟩ := hsub.2 i c hc
            exact ⟨v, hlies i v hv, freezeP_sound hO hfar R d hcf hr⟩
          refine .ros esz len ps (φ id).1 ((φ id).2 + off) cap (fun i => (w.cell? ⟨(φ id).1, (φ id).2 + off + i, none⟩).getD undef) hpl (by omega) (fun _ => hfar _ ⟨id, hl, rfl⟩) (fun i hi => ?_) (fun i hi => ?_)
          · obtain ⟨v, hv, _⟩ := get i hi
            rw [hv]; rfl
          · obtain ⟨v, hv, hr⟩ := get i hi
            rw [hv]; exact hr
        · simp at h
    | _ => simp [freezeP] at h

theorem mapM_some {α β : Type} {f : α → Option β} : ∀ {l : List α} {ps : List β}, l.mapM f = some ps → ps.length = l.length ∧ ∀ (i : Nat) (b : β), ps[i]? = some b → ∃ a, l[i]? = some a ∧ f a = some b
  | [], ps, h => by simp at h; subst h; simp
  | x :: l, ps, h => by
    simp only [List.mapM_cons, Option.bind_eq_bind, Option.bind_eq_some_iff, Option.pure_def, Option.some.injEq] at h
    obtain ⟨p, hp', ps', h', rfl⟩ := h
    obtain ⟨e1, e2⟩ := mapM_some h'
    refine ⟨by simp [e1], fun i b hb => ?_⟩
    cases i with
    | zero => simp at hb; subst hb; exact ⟨x, rfl, hp'⟩
    | succ i => simpa using e2 i b (by simpa using hb)

theorem freezeV_sound {hp' : Hp} {φ' : Emb} {X' : Nat → Prop} (hO : ∀ b, Avoid X' hp' φ' b → X b) (hfar : ∀ b, Own hp φ b → ¬ Avoid X' hp' φ' b) (R : RelH X hp φ w) {v r : AV} {y : Value}
    (h : freezeV hp v = some r) (hv : RepA X hp φ w v y) : RepA X' hp' φ' w r y := by
  unfold freezeV at h
  split at h
  · rename_i cs
    simp only [Option.map_eq_some_iff] at h
    obtain ⟨ps, hps, rfl⟩ := h
    obtain ⟨vs, rfl, hl⟩ := repA_agg hv
    obtain ⟨m1, m2⟩ := mapM_some hps
    refine RepL.agg ⟨by simp [m1, hl.1], fun i x hx => ?_⟩
    simp only [List.getElem?_map, Option.map_eq_some_iff] at hx
    obtain ⟨p, hp', rfl⟩ := hx
    obtain ⟨a, ha, haf⟩ := m2 i p hp'
    obtain ⟨u, hu, hr⟩ := hl.2 i a ha
    exact ⟨u, hu, .pv _ _ (freezeP_sound hO hfar R 3 haf hr)⟩
  · simp only [Option.map_eq_some_iff] at h
    obtain ⟨p, hp', rfl⟩ := h
    exact .pv _ _ (freezeP_sound hO hfar R 3 hp' hv)

theorem freezeR_sound {hp' : Hp} {φ' : Emb} {X' : Nat → Prop} (hO : ∀ b, Avoid X' hp' φ' b → X b) (hfar : ∀ b, Own hp φ b → ¬ Avoid X' hp' φ' b) (R : RelH X hp φ w) {v r : AV} {y : Value}
    (h : freezeR hp v = some r) (hv : RepA X hp φ w v y) : RepA X' hp' φ' w r y := by
  unfold freezeR at h
  split at h
  · rename_i cs
    simp only [Option.map_eq_some_iff] at h
    obtain ⟨ps, hps, rfl⟩ := h
    obtain ⟨vs, rfl, hl⟩ := repA_tuple hv
    obtain ⟨m1, m2⟩ := mapM_some hps
    refine RepL.tuple ⟨by simp [m1, hl.1], fun i x hx => ?_⟩
    obtain ⟨a, ha, haf⟩ := m2 i x hx
    obtain ⟨u, hu, hr⟩ := hl.2 i a ha
    exact ⟨u, hu, freezeV_sound hO hfar R haf hr⟩
  · exact freezeV_sound hO hfar R h hv

theorem hf_nil (i : Nat) : hf [] i = .gone 0 := by simp [hf]

theorem own_nil {φ : Emb} {b : Nat} : ¬ Own (hf []) φ b := by
  rintro ⟨id, hl, _⟩
  rw [hf_nil] at hl; simp [Blk.live] at hl

theorem plain_moves {hp' : Hp} {φ' : Emb} {X' : Nat → Prop} (hO : ∀ b, Avoid X' hp' φ' b → Avoid X hp φ b) {v : AV} {y : Value} (hpl : plainV v = true) (hv : RepA X hp φ w v y) : RepA X' hp' φ' w v y := by
  cases v with
  | pv p => cases hv with | pv _ _ hv => exact .pv _ _ (hv.imp hO)
  | agg cs =>
    obtain ⟨vs, rfl, hl⟩ := repA_agg hv
    refine RepL.agg ⟨hl.1, fun i x hx => ?_⟩
    obtain ⟨u, hu, hr⟩ := hl.2 i x hx
    refine ⟨u, hu, ?_⟩
    have := List.all_eq_true.1 hpl x (List.mem_of_getElem? hx)
    cases x with
    | pv p => cases hr with | pv _ _ hr => exact .pv _ _ (hr.imp hO)
    | _ => simp [toPV] at this
  | _ => simp [plainV] at hpl

theorem pure_sound (hF : WholeOk P F) : PureOk P (pureOf F) := by
  intro f args r hr
  unfold pureOf at hr
  split at hr
  · rename_i hall
    simp only [Option.bind_eq_some_iff] at hr
    obtain ⟨⟨v, h⟩, hfa, hfr⟩ := hr
    obtain ⟨hb, hcall⟩ := hF f args [] v h hfa
    refine ⟨hb, fun X hp φ w vs R hvs => ?_⟩
    have R0 : RelH (Avoid X hp φ) (hf []) φ w :=
      { far := fun b hb => hb.elim (fun h => Own.lt R h) (fun h => R.far b h)
        inj := fun i j hi => by rw [hf_nil] at hi; simp [Blk.live] at hi
        cells := fun id ver cs hc => by rw [hf_nil] at hc; simp at hc }
    have hvs0 : RepL (Avoid X hp φ) (hf []) φ w args vs.toList := by
      refine ⟨hvs.1, fun i c hc => ?_⟩
      obtain ⟨u, hu, hr⟩ := hvs.2 i c hc
      exact ⟨u, hu, plain_moves (fun b hb => hb.elim (fun h => absurd h own_nil) id) (List.all_eq_true.1 hall c (List.mem_of_getElem? hc)) hr⟩
    refine (hcall (Avoid X hp φ) φ w vs R0 hvs0).mono ?_
    rintro e w' ⟨y, φ', rfl, r1, r2, r3⟩
    have hkeep : ∀ b : Nat, b < w.heap.size → w'.heap[b]? = w.heap[b]? := fun b hb => r3.ext.keep b hb own_nil
    have ev : Evo hp φ w hp φ w' :=
      ⟨⟨r3.ext.os, r3.ext.tape, r3.ext.output, r3.ext.size, fun b hb _ => hkeep b hb, r3.ext.shape⟩, fun _ => Nat.le_refl _, fun _ h _ => ⟨h, rfl⟩, fun _ h => .inl h⟩
    have hlt : ∀ b, Avoid X hp φ b → b < w.heap.size := fun b hb => hb.elim (fun h => Own.lt R h) (fun h => R.far b h)
    refine ⟨y, rfl, freezeR_sound (fun b hb => hb) (fun b hb ho => ?_) r2 hfr r1, R.evo ev (fun j hj => hkeep _ (Own.lt R ⟨j, hj, rfl⟩)), ev⟩
    rcases r3.own b hb with h | h
    · exact own_nil h
    · have := hlt b ho; omega
  · simp at hr

theorem orS_sound {S : CallG} (hS : PureOk P S) (hG : PureOk P G) : PureOk P (orS S G) := by
  intro f args r hr
  unfold orS at hr
  split at hr
  · rename_i r' hr'
    simp only [Option.some.injEq] at hr; subst hr
    exact hS f args _ hr'
  · exact hG f args r hr

theorem noS_sound : PureOk P noS := fun f args r h => by simp [noS] at h

theorem call_sound {S : CallG} (hS : PureOk P S) (hnm : ∀ (f : Nat) (fn : Func), P.funcs[f]? = some fn → (fn.name == "runtime.NumGoroutine") = false) (hm : P.follows .mixedOrders = true) (pure : Nat → Bool) (lim : Nat) : ∀ d, WholeOk P (callA P S pure lim d)
  | 0 => fun f args h r h' hr => by simp [callA] at hr
  | d + 1 => body_sound hnm hm (call_sound hS hnm hm pure lim d) (orS_sound hS (pure_sound (call_sound hS hnm hm pure lim d))) lim

/-- A call of plain values: what the interpreter gives is what the machine returns, and nothing else has changed. -/
theorem call_plain {S : CallG} (hS : PureOk P S) (hnm : ∀ (f : Nat) (fn : Func), P.funcs[f]? = some fn → (fn.name == "runtime.NumGoroutine") = false) (hm : P.follows .mixedOrders = true) {pure : Nat → Bool} {lim d f : Nat} {args : List AV} {r : AV} {h : List Blk}
    (hc : callA P S pure lim d f args [] = some (r, h)) {vs : Array Value} {w : World} (hvs : RepL (fun _ => False) (hf []) (fun _ => (0, 0)) w args vs.toList) :
    Calls P f vs w fun e w' => ∃ y φ', e = .returned y ∧ RepA (fun _ => False) (hf h) φ' w' r y ∧ RelH (fun _ => False) (hf h) φ' w' ∧ Evo (hf []) (fun _ => (0, 0)) w (hf h) φ' w' :=
  (call_sound hS hnm hm pure lim d f args [] r h hc).2 _ _ w vs
    { far := fun b hb => hb.elim
      inj := fun i j hi => by rw [hf_nil] at hi; simp [Blk.live] at hi
      cells := fun id ver cs hc => by rw [hf_nil] at hc; simp at hc } hvs

end Go.Proofs.Ytlinbbjobjnipaa.AI
