/- A whole call: results, what is read out of own memory, and calls of every depth. -/
import Derived.Test.YtabpcmmkmbchnaaA14
import Derived.Laws.Externs
set_option linter.unusedVariables false
set_option linter.unusedSectionVars false
set_option linter.unusedSimpArgs false
namespace Go.Proofs.Ytabpcmmkmbchnaa.AI
open Go
variable [Val]

variable {X : Nat → Prop} {hp : Hp} {φ : Emb} {w : World} {P : Program} {pure : Nat → Bool} {F : CallF} {G : CallG}

theorem loadVar_sound (R : RelH X hp φ w) {t : TypeId} {a x : AV} {v : Value} (h : RepA X hp φ w a v) (hl : loadA P hp t a = some x) :
    ∃ y, (do loadVar t (← asAddr v) : Sem Value).run P w = .ok y w ∧ RepA X hp φ w x y := by
  obtain ⟨y, hy, hr⟩ := load_sound R h hl
  have hp' : ∃ ad, v = .pointer (some ad) := by
    unfold loadA at hl
    split at hl
    · simp only [Option.bind_eq_some_iff, Option.map_eq_some_iff] at hl
      obtain ⟨n, hn, cs, hcs, _⟩ := hl
      obtain ⟨b, o, vs, hv, _⟩ := read_row R h hcs
      exact ⟨_, hv⟩
    · split at hl
      · cases h with | ptr _ _ _ ad => exact ⟨ad, rfl⟩
      · cases h with | pv _ _ h => cases h with | rop => exact ⟨_, rfl⟩
      · simp at hl
    · simp at hl
  obtain ⟨ad, rfl⟩ := hp'
  refine ⟨y, ?_, hr⟩
  simpa [Instr.loadAt, Instr.sureAddr, asAddr] using hy

def resVal (tmps : Array Value) : ResultVar → Sem Value
  | .tmp t => Pure.pure (tmps.getD t undef)
  | .cell a t => do loadVar t (← asAddr (tmps.getD a undef))

theorem results_eq (fn : Func) (tmps : Array Value) : results fn tmps = (do
    let vs ← fn.results.mapM (resVal tmps)
    Pure.pure (if h : vs.size = 1 then vs[0] else .tuple vs)) := by
  unfold results
  congr 1

theorem resOne_sound (R : RelH X hp φ w) {T : List AV} {tmps : Array Value} (hT : RepL X hp φ w T tmps.toList) {r : ResultVar} {x : AV} (h : resOne P T hp r = some x) :
    ∃ y, (resVal tmps r).run P w = .ok y w ∧ RepA X hp φ w x y := by
  have ev : ∀ t, RepA X hp φ w (T.getD t undefA) (tmps.getD t undef) := fun t => eval_sound (a := ⟨tmps, []⟩) hT (.tmp t)
  cases r with
  | tmp t =>
    simp only [resOne, Option.some.injEq] at h; subst h
    exact ⟨_, rfl, ev t⟩
  | cell a t => exact loadVar_sound R (ev a) h

theorem results_mapM (R : RelH X hp φ w) {T : List AV} {tmps : Array Value} (hT : RepL X hp φ w T tmps.toList) : ∀ {r : List ResultVar} {xs : List AV}, r.mapM (resOne P T hp) = some xs →
    ∃ ys : List Value, (r.mapM (resVal tmps)).run P w = .ok ys w ∧ RepL X hp φ w xs ys
  | [], xs, h => by simp at h; subst h; exact ⟨[], by simp, .nil⟩
  | a :: r, xs, h => by
    simp only [List.mapM_cons, Option.bind_eq_bind, Option.bind_eq_some_iff, Option.pure_def, Option.some.injEq] at h
    obtain ⟨x, hx, xs', hxs, rfl⟩ := h
    obtain ⟨y, hy, hr⟩ := resOne_sound R hT hx
    obtain ⟨ys, hys, hrs⟩ := results_mapM R hT hxs
    refine ⟨y :: ys, ?_, .cons hr hrs⟩
    rw [List.mapM_cons, Sem.run_bind, hy, Result.andThen_ok, Sem.run_bind, hys, Result.andThen_ok, Sem.run_pure]

theorem results_run {fn : Func} {tmps : Array Value} {ys : List Value} (h : (fn.results.toList.mapM (resVal tmps)).run P w = .ok ys w) :
    (results fn tmps).run P w = .ok (if h : ys.length = 1 then ys[0] else .tuple ys.toArray) w := by
  rw [results_eq]
  have e : fn.results.mapM (resVal tmps) = List.toArray <$> fn.results.toList.mapM (resVal tmps) := by
    rw [← List.mapM_toArray, Array.toArray_toList]
  rw [e, map_eq_pure_bind, Sem.run_bind, Sem.run_bind, h, Result.andThen_ok, Sem.run_pure, Result.andThen_ok, Sem.run_pure]
  simp

theorem res_sound {fn : Func} (R : RelH X hp φ w) {T : List AV} {tmps : Array Value} (hT : RepL X hp φ w T tmps.toList) {x : AV} (h : resA P fn T hp = some x) :
    ∃ y, (results fn tmps).run P w = .ok y w ∧ RepA X hp φ w x y := by
  unfold resA at h
  split at h
  · rename_i r hrs
    obtain ⟨y, hy, hr⟩ := resOne_sound R hT h
    refine ⟨y, ?_, hr⟩
    rw [results_run (ys := [y])]
    · simp
    · rw [hrs, List.mapM_cons, Sem.run_bind, hy, Result.andThen_ok, Sem.run_bind, List.mapM_nil, Sem.run_pure, Result.andThen_ok, Sem.run_pure]
  · rename_i hne
    simp only [Option.map_eq_some_iff] at h
    obtain ⟨xs, hxs, rfl⟩ := h
    obtain ⟨ys, hys, hrs⟩ := results_mapM R hT hxs
    refine ⟨.tuple ys.toArray, ?_, RepL.tuple (by simpa using hrs)⟩
    rw [results_run hys]
    rw [dif_neg]
    intro h1
    have h2 : xs.length = 1 := by rw [hrs.1, h1]
    have h3 : fn.results.toList.length = 1 := by
      have : ∀ (l : List ResultVar) (xs : List AV), l.mapM (resOne P T hp) = some xs → xs.length = l.length := by
        intro l; induction l with
        | nil => intro xs h; simp at h; subst h; rfl
        | cons a l ih =>
          intro xs h
          simp only [List.mapM_cons, Option.bind_eq_bind, Option.bind_eq_some_iff, Option.pure_def, Option.some.injEq] at h
          obtain ⟨x, _, xs', h', rfl⟩ := h
          simp [ih xs' h']
      rw [← this _ _ hxs, h2]
    obtain ⟨r, hr⟩ := List.length_eq_one_iff.1 h3
    exact hne r hr

/-! What has no body. -/

/-- Where a slice of bytes lies. -/
theorem src_lies (R : RelH X hp φ w) {x : AV} {v : Value} {m : Nat} {cs : List AV} (hx : RepA X hp φ w x v) (hc : srcA hp 1 x = some (m, cs)) (hne : ∀ s, x ≠ .pv (.str s)) :
    (v = .slice none 0 0 ∧ cs = []) ∨ (∃ a cap, v = .slice (some a) 0 cap ∧ cs = []) ∨ ∃ b o cap vs, v = .slice (some ⟨b, o, none⟩) vs.length cap ∧ RepL X hp φ w cs vs ∧ Lies w b o vs := by
  unfold srcA at hc
  split at hc
  · simp only [Option.some.injEq, Prod.mk.injEq] at hc; obtain ⟨rfl, rfl⟩ := hc
    exact .inl ⟨repA_nilSlice hx, rfl⟩
  · simp only [Option.some.injEq, Prod.mk.injEq] at hc; obtain ⟨rfl, rfl⟩ := hc
    obtain ⟨a, rfl⟩ := repA_zcap hx
    exact .inr (.inl ⟨a, 0, rfl, rfl⟩)
  · rename_i esz n l
    split at hc
    · rename_i he; subst he
      simp only [Option.some.injEq, Prod.mk.injEq] at hc; obtain ⟨rfl, rfl⟩ := hc
      have hx := repA_pv hx
      cases hx with
      | ros _ _ _ b off cap vals hl hcap hO hv hr =>
        obtain ⟨r1, r2⟩ := ro_row hv hr
        refine .inr (.inr ⟨b, off, cap, _, ?_, r1, r2⟩)
        simp [hl]
    · simp at hc
  · rename_i s; exact absurd rfl (hne s)
  · rename_i id ver off n mc esz xc
    split at hc
    · rename_i he; subst he
      simp only [sliceCells, Option.map_eq_some_iff, Option.bind_eq_some_iff, Prod.mk.injEq] at hc
      obtain ⟨cs', ⟨row, hrow, hc⟩, rfl, rfl⟩ := hc
      split at hc
      · rename_i hle
        simp only [Option.some.injEq] at hc; subst hc
        have hid := look_some hrow
        obtain ⟨c, T, lo, hi, a1, a2, a3, a4, a5, a6⟩ := R.row hid
        cases hx with
        | slice _ _ _ _ _ _ _ a cap hver hln ha =>
          obtain ⟨g1, g2, g3⟩ := hln
          rcases ha (by rw [hid]; rfl) (by rw [hid]; rfl) with g4 | ⟨g4, g5⟩
          · obtain rfl : n = 0 := by omega
            exact .inr (.inl ⟨a, cap, rfl, by simp⟩)
          · refine .inr (.inr ⟨_, _, cap, _, ?_, (a4.drop off).take (n * 1), a6.sub off (n * 1)⟩)
            rw [g4]
            congr 1
            have := a4.1
            simp only [List.length_take, List.length_drop, Array.length_toList] at this ⊢
            omega
      · simp at hc
    · simp at hc
  · simp at hc

theorem run_loadBytes {b : Nat} : ∀ (ns : List Int) (o : Nat) (acc : ByteArray), Lies w b o (ns.map fun n => .int .u8 n) →
    (Extern.Bytes.loadBytes ⟨b, o, none⟩ ns.length acc).run P w = .ok (ns.foldl (fun r n => r.push (UInt8.ofNat n.toNat)) acc) w
  | [], o, acc, _ => rfl
  | n :: ns, o, acc, h => by
    have h0 := h 0 (.int .u8 n) rfl
    have ht : Lies w b (o + 1) (ns.map fun n => Value.int .u8 n) := by
      intro j v hv
      have := h (j + 1) v (by simpa using hv)
      rwa [show o + 1 + j = o + (j + 1) by omega]
    have ih := run_loadBytes ns (o + 1) (acc.push (UInt8.ofNat n.toNat)) ht
    have hld : (load ⟨b, o, none⟩).run P w = .ok (.int .u8 n) w := by simp [show w.cell? ⟨b, o, none⟩ = some (Value.int .u8 n) from h0]
    simp only [List.length_cons, Extern.Bytes.loadBytes, Sem.run_bind, hld, Result.andThen_ok, add_none, List.foldl_cons]
    exact ih

theorem bytes_sound (R : RelH X hp φ w) {x : AV} {v : Value} {s : List Nat} (hx : RepA X hp φ w x v) (h : bytesA hp x = some s) :
    ∃ B : ByteArray, (Extern.Bytes.bytesOf v).run P w = .ok B w ∧ B.data.toList.map UInt8.toNat = s := by
  unfold bytesA at h
  split at h
  · simp at h
  · rename_i hne
    simp only [Option.bind_eq_some_iff] at h
    obtain ⟨⟨m, cs⟩, hc, hs⟩ := h
    rcases src_lies R hx hc (fun s hs' => hne s hs') with ⟨rfl, rfl⟩ | ⟨a, cap, rfl, rfl⟩ | ⟨b, o, cap, vs, rfl, hr, hl⟩
    · simp at hs; subst hs
      exact ⟨.empty, rfl, rfl⟩
    · simp at hs; subst hs
      exact ⟨.empty, rfl, rfl⟩
    · obtain ⟨ns, rfl, rfl⟩ := mapM_bytes cs vs s hr hs
      refine ⟨ns.foldl (fun r n => r.push (UInt8.ofNat n.toNat)) .empty, ?_, by rw [foldl_push_data]; simp⟩
      have := run_loadBytes (P := P) ns o .empty hl
      simpa [Extern.Bytes.bytesOf] using this

theorem ba_get (a : ByteArray) (i : Nat) (h : i < a.size) : a[i]! = a.data.toList.getD i 0 := by
  rw [getElem!_pos a i h]
  have h' : i < a.data.size := h
  show a.data[i] = _
  rw [List.getD, Array.getElem?_toList, Array.getElem?_eq_getElem h']
  rfl

theorem find_congr {α : Type} {p q : α → Bool} : ∀ {l : List α}, (∀ x ∈ l, p x = q x) → l.find? p = l.find? q
  | [], _ => rfl
  | x :: l, h => by
    rw [List.find?_cons, List.find?_cons, h x (by simp), find_congr (fun y hy => h y (by simp [hy]))]

def cmpU (x y : List UInt8) : Int :=
  match (List.range (min x.length y.length)).find? fun i => x.getD i 0 != y.getD i 0 with
  | some i => if x.getD i 0 < y.getD i 0 then -1 else 1
  | none => if x.length < y.length then -1 else if x.length > y.length then 1 else 0

theorem cmpU_is : ∀ (x y : List UInt8), cmpU x y = cmpL (x.map UInt8.toNat) (y.map UInt8.toNat)
  | [], [] => rfl
  | [], b :: y => by simp [cmpU, cmpL]
  | a :: x, [] => by simp [cmpU, cmpL]
  | a :: x, b :: y => by
    have ih := cmpU_is x y
    simp only [List.map_cons, cmpL]
    rw [← ih]
    unfold cmpU
    rw [show min (a :: x).length (b :: y).length = min x.length y.length + 1 by simp [Nat.add_min_add_right], List.range_succ_eq_map, List.find?_cons]
    by_cases h : a = b
    · subst h
      simp only [List.getD_cons_zero, bne_self_eq_false, if_true, List.find?_map, Function.comp_def, List.getD_cons_succ]
      cases (List.range (min x.length y.length)).find? fun i => x.getD i 0 != y.getD i 0 with
      | none => simp
      | some i => simp
    · have hne : (a != b) = true := by simpa using h
      have hnn : ¬ a.toNat = b.toNat := fun e => h (UInt8.toNat_inj.1 e)
      simp only [List.getD_cons_zero, hne, if_neg hnn]
      by_cases hl : a < b
      · rw [if_pos hl, if_pos (UInt8.lt_iff_toNat_lt.1 hl)]
      · rw [if_neg hl, if_neg (fun h => hl (UInt8.lt_iff_toNat_lt.2 h))]

theorem cmp_is (a b : ByteArray) : Extern.BytealgCompare.cmp a b = cmpL (a.data.toList.map UInt8.toNat) (b.data.toList.map UInt8.toNat) := by
  rw [← cmpU_is]
  have ha : a.size = a.data.toList.length := by rw [Array.length_toList]; rfl
  have hb : b.size = b.data.toList.length := by rw [Array.length_toList]; rfl
  unfold Extern.BytealgCompare.cmp cmpU
  have e : ((List.range (min a.size b.size)).find? fun i => a[i]! != b[i]!) = (List.range (min a.data.toList.length b.data.toList.length)).find? fun i => a.data.toList.getD i 0 != b.data.toList.getD i 0 := by
    rw [ha, hb]
    refine find_congr fun i hi => ?_
    have hi := List.mem_range.1 hi
    rw [ba_get a i (by omega), ba_get b i (by omega)]
  rw [e]
  cases hf : (List.range (min a.data.toList.length b.data.toList.length)).find? fun i => a.data.toList.getD i 0 != b.data.toList.getD i 0 with
  | none => simp only [ha, hb]
  | some i =>
    have hi := List.mem_range.1 (List.mem_of_find?_eq_some hf)
    simp only [ba_get a i (by omega), ba_get b i (by omega)]

/-- What the machine stands in for, it stands in for as is said here. -/
def ExtOk (P : Program) : Prop := ∀ (f : Nat) (fn : Func), P.funcs[f]? = some fn → (fn.name == "internal/bytealg.Compare") = true → fn.body = none →
  Extern.findNext fn = none ∧ Extern.find fn = some Extern.BytealgCompare.compare

theorem ext_sound (hx : ExtOk P) {f : Nat} {fn : Func} (hfn : P.funcs[f]? = some fn) (hnm : (fn.name == "runtime.NumGoroutine") = false) (hb : fn.body = none) {args : List AV} {h : List Blk} {v : AV} (hv : extA fn (hf h) args = some v) :
    ∀ (X : Nat → Prop) (φ : Emb) (w : World) (vs : Array Value), RelH X (hf h) φ w → RepL X (hf h) φ w args vs.toList →
    Good P f vs w fun y w' => ∃ φ', RepA X (hf h) φ' w' v y ∧ RelH X (hf h) φ' w' ∧ Evo (hf h) φ w (hf h) φ' w' := by
  intro X φ w vs R hvs
  unfold extA at hv
  split at hv
  · rename_i hname
    obtain ⟨h1, h2⟩ := hx f fn hfn hname hb
    split at hv
    · rename_i a b
      simp only [Option.bind_eq_some_iff, Option.map_eq_some_iff] at hv
      obtain ⟨x, hxa, y, hyb, rfl⟩ := hv
      obtain ⟨va, vs', e1, r1, r2⟩ := hvs.head
      obtain ⟨vb, vs'', e2, r3, r4⟩ := r2.head
      obtain rfl := r4.of_nil
      subst e2
      obtain rfl : vs = #[va, vb] := by cases vs; simpa using e1
      obtain ⟨A, hA, rfl⟩ := bytes_sound (P := P) R r1 hxa
      obtain ⟨B, hB, rfl⟩ := bytes_sound (P := P) R r3 hyb
      refine .inr ⟨.int .i64 (cmpL (A.data.toList.map UInt8.toNat) (B.data.toList.map UInt8.toNat)), w, ?_, φ, .pv _ _ (.int _ _), R, Evo.refl _ _ _⟩
      rw [run_callFunc_extern hfn hnm (by simp [hb]) h1 h2]
      change ((Extern.Bytes.bytesOf va >>= fun A => Extern.Bytes.bytesOf vb >>= fun B => Pure.pure (goInt (Extern.BytealgCompare.cmp A B)) : Sem Value).run P w).andThen _ = _
      rw [Sem.run_bind, hA, Result.andThen_ok, Sem.run_bind, hB, Result.andThen_ok, Sem.run_pure, Result.andThen_ok, cmp_is]
      rfl
    · simp at hv
  · simp at hv

/-! A body. -/

theorem body_sound (hx : ExtOk P) (hnm : ∀ (f : Nat) (fn : Func), P.funcs[f]? = some fn → (fn.name == "runtime.NumGoroutine") = false) (hm : P.follows .mixedOrders = true) (hF : WholeOk P F) (hG : PureOk P G) (hC : CongG G) (lim : Nat) : WholeOk P (bodyA P pure F G lim) := by
  intro f args h r h' hr
  unfold bodyA at hr
  split at hr
  · rename_i fn hfn
    split at hr
    · rename_i c hc
      intro X φ w vs R hvs
      refine .inl ⟨⟨fn, hfn, hnm f fn hfn, by simp [hc]⟩, calls_of_wp hfn hc ?_⟩
      have hT : RepL X (hf h) φ w (args ++ List.replicate (fn.ntmps - args.length) undefA) (vs ++ Array.replicate (fn.ntmps - vs.size) undef).toList := by
        rw [Array.toList_append]
        refine hvs.append ?_
        have : vs.size = args.length := by simpa using hvs.1.symm
        rw [this]
        refine ⟨by simp, fun i x hx => ?_⟩
        rw [List.getElem?_replicate] at hx
        split at hx
        · simp only [Option.some.injEq] at hx; subst hx
          rename_i hi
          exact ⟨undef, by simp [Array.toList_replicate, hi], repA_undef⟩
        · simp at hx
      have fin : ∀ T, resA P fn T (hf h') = some r → ∀ (e : XA), execC P pure F G lim c (args ++ List.replicate (fn.ntmps - args.length) undefA, h) = some (e, (T, h')) → (e = .normal ∨ e = .ret) →
          c.wp P (bodyPost P fn fun e w' => ∃ y, e = .returned y ∧ ∃ φ', RepA X (hf h') φ' w' r y ∧ RelH X (hf h') φ' w' ∧ Evo (hf h) φ w (hf h') φ' w') { tmps := vs ++ Array.replicate (fn.ntmps - vs.size) undef, defers := [] } w := by
        intro T hres e hex he
        refine exec_sound hF hG hC hm lim c _ _ e hex X φ w _ _ R hT rfl (fun φ' w' a' R' T' d' e' => ?_)
        obtain ⟨y, hy, hry⟩ := res_sound R' T' hres
        rcases he with rfl | rfl
        · exact ⟨d', y, hy, y, rfl, φ', hry, R', e'⟩
        · exact ⟨d', y, hy, y, rfl, φ', hry, R', e'⟩
      split at hr
      · rename_i T h1 hex
        simp only [Option.map_eq_some_iff, Prod.mk.injEq] at hr
        obtain ⟨v, hv, rfl, rfl⟩ := hr
        exact fin T hv .normal hex (.inl rfl)
      · rename_i T h1 hex
        simp only [Option.map_eq_some_iff, Prod.mk.injEq] at hr
        obtain ⟨v, hv, rfl, rfl⟩ := hr
        exact fin T hv .ret hex (.inr rfl)
      · simp at hr
    · rename_i hc
      simp only [Option.map_eq_some_iff, Prod.mk.injEq] at hr
      obtain ⟨v, hv, rfl, rfl⟩ := hr
      exact ext_sound hx hfn (hnm f fn hfn) hc hv
  · simp at hr

/-! Values out of own memory. -/

theorem RepP.imp {O O' : Nat → Prop} (hO : ∀ b, O' b → O b) {p : PV} {v : Value} (h : RepP O w p v) : RepP O' w p v := by
  induction h with
  | bool b => exact .bool b
  | int k n => exact .int k n
  | str s B h => exact .str s B h
  | nilPtr => exact .nilPtr
  | nilSlice => exact .nilSlice
  | nilMap => exact .nilMap
  | nilFunc => exact .nilFunc
  | nilIface => exact .nilIface
  | zcap a => exact .zcap a
  | fn f => exact .fn f
  | sym i v h => exact .sym i v h
  | ros esz len cells b off cap vals hl hc hN hv hr ih => exact .ros esz len cells b off cap vals hl hc (fun h0 h => hN h0 (hO _ h)) hv ih
  | rop cells o b base vals hN hv hr ih => exact .rop cells o b base vals (fun h0 h => hN h0 (hO _ h)) hv ih

theorem freezeP_sound {O : Nat → Prop} (hO : ∀ b, O b → X b) (hfar : ∀ b, Own hp φ b → ¬ O b) (R : RelH X hp φ w) : ∀ (d : Nat) {v : AV} {y : Value} {p : PV}, freezeP hp d v = some p → RepA X hp φ w v y → RepP O w p y
  | 0, v, y, p, h, hv => by
    cases v with
    | pv q =>
      simp only [freezeP, Option.some.injEq] at h; subst h
      cases hv with | pv _ _ hv => exact hv.imp fun b hb => .inr (hO b hb)
    | _ => simp [freezeP] at h
  | d + 1, v, y, p, h, hv => by
    cases v with
    | pv q =>
      simp only [freezeP, Option.some.injEq] at h; subst h
      cases hv with | pv _ _ hv => exact hv.imp fun b hb => .inr (hO b hb)
    | slice id ver off len mc esz xc =>
      cases hv with
      | slice _ _ _ _ _ _ _ a cap hver hlen ha =>
      simp only [freezeP] at h
      split at h
      · rename_i hmc
        split at h
        · rename_i hxc
          simp only [Option.some.injEq] at h; subst h
          have h1 := hlen.2.2 hxc
          have h2 : len = 0 := by omega
          have h3 : cap = 0 := by omega
          subst h2; subst h3
          exact .zcap a
        · simp at h
      · rename_i hmc
        simp only [Option.bind_eq_some_iff] at h
        obtain ⟨row, hrow, h⟩ := h
        split at h
        · rename_i hle
          simp only [Option.map_eq_some_iff] at h
          obtain ⟨ps, hps, rfl⟩ := h
          have hid := look_some hrow
          obtain ⟨c, T, lo, hi, a1, a2, a3, a4, a5, a6⟩ := R.row hid
          have hl : (hp id).live = true := by rw [hid]; rfl
          have ha' := (ha hl (by rw [hid]; rfl)).resolve_left (by omega)
          obtain ⟨rfl, _⟩ := ha'
          have hsub := (a4.drop off).take (len * esz)
          have hlies := a6.sub off (len * esz)
          have hml : ∀ (l : List AV) (ps : List PV), l.mapM (freezeP hp d) = some ps → ps.length = l.length ∧ ∀ i (hi : i < ps.length), ∃ c, l[i]? = some c ∧ freezeP hp d c = some ps[i] := by
            intro l; induction l with
            | nil => intro ps h; simp at h; subst h; simp
            | cons x l ih =>
              intro ps h
              simp only [List.mapM_cons, Option.bind_eq_bind, Option.bind_eq_some_iff, Option.pure_def, Option.some.injEq] at h
              obtain ⟨p, hp', ps', h', rfl⟩ := h
              obtain ⟨e1, e2⟩ := ih ps' h'
              refine ⟨by simp [e1], fun i hi => ?_⟩
              cases i with
              | zero => exact ⟨x, rfl, hp'⟩
              | succ i => simpa using e2 i (by simpa using hi)
          obtain ⟨m1, m2⟩ := hml _ _ hps
          have hpl : ps.length = len * esz := by rw [m1]; simp; omega
          have get : ∀ i (hi : i < ps.length), ∃ v, w.cell? ⟨(φ id).1, (φ id).2 + off + i, none⟩ = some v ∧ RepP O w ps[i] v := by
            intro i hi
            obtain ⟨c, hc, hcf⟩ := m2 i hi
            obtain ⟨v, hv, hr⟩ := hsub.2 i c hc
            exact ⟨v, hlies i v hv, freezeP_sound hO hfar R d hcf hr⟩
          refine .ros esz len ps (φ id).1 ((φ id).2 + off) cap (fun i => (w.cell? ⟨(φ id).1, (φ id).2 + off + i, none⟩).getD undef) hpl (by omega) (fun _ => hfar _ ⟨id, hl, rfl⟩) (fun i hi => ?_) (fun i hi => ?_)
          · obtain ⟨v, hv, _⟩ := get i hi
            rw [hv]; rfl
          · obtain ⟨v, hv, hr⟩ := get i hi
            rw [hv]; exact hr
        · simp at h
    | _ => simp [freezeP] at h

theorem mapM_some {α β : Type} {f : α → Option β} : ∀ {l : List α} {ps : List β}, l.mapM f = some ps → ps.length = l.length ∧ ∀ (i : Nat) (b : β), ps[i]? = some b → ∃ a, l[i]? = some a ∧ f a = some b
  | [], ps, h => by simp at h; subst h; simp
  | x :: l, ps, h => by
    simp only [List.mapM_cons, Option.bind_eq_bind, Option.bind_eq_some_iff, Option.pure_def, Option.some.injEq] at h
    obtain ⟨p, hp', ps', h', rfl⟩ := h
    obtain ⟨e1, e2⟩ := mapM_some h'
    refine ⟨by simp [e1], fun i b hb => ?_⟩
    cases i with
    | zero => simp at hb; subst hb; exact ⟨x, rfl, hp'⟩
    | succ i => simpa using e2 i b (by simpa using hb)

theorem freezeV_sound {hp' : Hp} {φ' : Emb} {X' : Nat → Prop} (hO : ∀ b, Avoid X' hp' φ' b → X b) (hfar : ∀ b, Own hp φ b → ¬ Avoid X' hp' φ' b) (R : RelH X hp φ w) {v r : AV} {y : Value}
    (h : freezeV hp v = some r) (hv : RepA X hp φ w v y) : RepA X' hp' φ' w r y := by
  unfold freezeV at h
  split at h
  · rename_i cs
    simp only [Option.map_eq_some_iff] at h
    obtain ⟨ps, hps, rfl⟩ := h
    obtain ⟨vs, rfl, hl⟩ := repA_agg hv
    obtain ⟨m1, m2⟩ := mapM_some hps
    refine RepL.agg ⟨by simp [m1, hl.1], fun i x hx => ?_⟩
    simp only [List.getElem?_map, Option.map_eq_some_iff] at hx
    obtain ⟨p, hp', rfl⟩ := hx
    obtain ⟨a, ha, haf⟩ := m2 i p hp'
    obtain ⟨u, hu, hr⟩ := hl.2 i a ha
    exact ⟨u, hu, .pv _ _ (freezeP_sound hO hfar R 3 haf hr)⟩
  · simp only [Option.map_eq_some_iff] at h
    obtain ⟨p, hp', rfl⟩ := h
    exact .pv _ _ (freezeP_sound hO hfar R 3 hp' hv)

theorem freezeR_sound {hp' : Hp} {φ' : Emb} {X' : Nat → Prop} (hO : ∀ b, Avoid X' hp' φ' b → X b) (hfar : ∀ b, Own hp φ b → ¬ Avoid X' hp' φ' b) (R : RelH X hp φ w) {v r : AV} {y : Value}
    (h : freezeR hp v = some r) (hv : RepA X hp φ w v y) : RepA X' hp' φ' w r y := by
  unfold freezeR at h
  split at h
  · rename_i cs
    simp only [Option.map_eq_some_iff] at h
    obtain ⟨ps, hps, rfl⟩ := h
    obtain ⟨vs, rfl, hl⟩ := repA_tuple hv
    obtain ⟨m1, m2⟩ := mapM_some hps
    refine RepL.tuple ⟨by simp [m1, hl.1], fun i x hx => ?_⟩
    obtain ⟨a, ha, haf⟩ := m2 i x hx
    obtain ⟨u, hu, hr⟩ := hl.2 i a ha
    exact ⟨u, hu, freezeV_sound hO hfar R haf hr⟩
  · exact freezeV_sound hO hfar R h hv

theorem hf_nil (i : Nat) : hf [] i = .gone 0 := by simp [hf]

theorem own_nil {φ : Emb} {b : Nat} : ¬ Own (hf []) φ b := by
  rintro ⟨id, hl, _⟩
  rw [hf_nil] at hl; simp [Blk.live] at hl

theorem plain_moves {hp' : Hp} {φ' : Emb} {X' : Nat → Prop} (hO : ∀ b, Avoid X' hp' φ' b → Avoid X hp φ b) {v : AV} {y : Value} (hpl : plainV v = true) (hv : RepA X hp φ w v y) : RepA X' hp' φ' w v y := by
  cases v with
  | pv p => cases hv with | pv _ _ hv => exact .pv _ _ (hv.imp hO)
  | agg cs =>
    obtain ⟨vs, rfl, hl⟩ := repA_agg hv
    refine RepL.agg ⟨hl.1, fun i x hx => ?_⟩
    obtain ⟨u, hu, hr⟩ := hl.2 i x hx
    refine ⟨u, hu, ?_⟩
    have := List.all_eq_true.1 hpl x (List.mem_of_getElem? hx)
    cases x with
    | pv p => cases hr with | pv _ _ hr => exact .pv _ _ (hr.imp hO)
    | _ => simp [toPV] at this
  | _ => simp [plainV] at hpl

/-! What is lent. -/

theorem flat_any {O O' : Nat → Prop} {w' : World} {p : PV} {v : Value} (hf' : flatP p = true) (h : RepP O w p v) : RepP O' w' p v := by
  cases h with
  | bool b => exact .bool b
  | int k n => exact .int k n
  | str s B h => exact .str s B h
  | nilPtr => exact .nilPtr
  | nilSlice => exact .nilSlice
  | nilMap => exact .nilMap
  | nilFunc => exact .nilFunc
  | nilIface => exact .nilIface
  | zcap a => exact .zcap a
  | fn f => exact .fn f
  | sym i v h => simp [flatP] at hf'
  | ros => simp [flatP] at hf'
  | rop => simp [flatP] at hf'

/-- A row of own cells, each of them read out. -/
theorem row_out {O : Nat → Prop} {g : AV → Option PV} {b o : Nat} {cs : List AV} {vs : List Value} {ps : List PV} (hr : RepL X hp φ w cs vs) (hl : Lies w b o vs) (hps : cs.mapM g = some ps)
    (hg : ∀ (c : AV) (v : Value) (p : PV), g c = some p → RepA X hp φ w c v → RepP O w p v) :
    ps.length = cs.length ∧ ∃ vals : Nat → Value, (∀ i, i < ps.length → w.cell? ⟨b, o + i, none⟩ = some (vals i)) ∧ ∀ i (hi : i < ps.length), RepP O w ps[i] (vals i) := by
  obtain ⟨m1, m2⟩ := mapM_some hps
  have get : ∀ i (hi : i < ps.length), ∃ v, w.cell? ⟨b, o + i, none⟩ = some v ∧ RepP O w ps[i] v := by
    intro i hi
    obtain ⟨c, hc, hcf⟩ := m2 i ps[i] (by simp [hi])
    obtain ⟨v, hv, hr'⟩ := hr.2 i c hc
    exact ⟨v, hl i v hv, hg c v _ hcf hr'⟩
  refine ⟨m1, fun i => (w.cell? ⟨b, o + i, none⟩).getD undef, fun i hi => ?_, fun i hi => ?_⟩
  · obtain ⟨v, hv, _⟩ := get i hi
    simp only [hv, Option.getD_some]
  · obtain ⟨v, hv, hr'⟩ := get i hi
    simp only [hv, Option.getD_some]
    exact hr'

theorem newP_sound {O : Nat → Prop} (hfar : ∀ b, Own hp φ b → ¬ O b) (R : RelH X hp φ w) : ∀ (d : Nat) {v : AV} {y : Value} {p : PV}, newP hp d v = some p → RepA X hp φ w v y → RepP O w p y
  | 0, v, y, p, h, hv => by
    cases v with
    | pv q =>
      simp only [newP] at h
      split at h
      · rename_i hq
        simp only [Option.some.injEq] at h; subst h
        cases hv with | pv _ _ hv => exact flat_any hq hv
      · simp at h
    | _ => simp [newP] at h
  | d + 1, v, y, p, h, hv => by
    cases v with
    | pv q =>
      simp only [newP] at h
      split at h
      · rename_i hq
        simp only [Option.some.injEq] at h; subst h
        cases hv with | pv _ _ hv => exact flat_any hq hv
      · simp at h
    | slice id ver off len mc esz xc =>
      cases hv with
      | slice _ _ _ _ _ _ _ a cap hver hlen ha =>
      simp only [newP] at h
      split at h
      · rename_i hmc
        split at h
        · rename_i hxc
          simp only [Option.some.injEq] at h; subst h
          have h1 := hlen.2.2 hxc
          have h2 : len = 0 := by omega
          have h3 : cap = 0 := by omega
          subst h2; subst h3
          exact .zcap a
        · simp at h
      · rename_i hmc
        simp only [Option.bind_eq_some_iff] at h
        obtain ⟨row, hrow, h⟩ := h
        split at h
        · rename_i hle
          simp only [Option.map_eq_some_iff] at h
          obtain ⟨ps, hps, rfl⟩ := h
          have hid := look_some hrow
          obtain ⟨c, T, lo, hi, a1, a2, a3, a4, a5, a6⟩ := R.row hid
          have hl : (hp id).live = true := by rw [hid]; rfl
          obtain ⟨rfl, _⟩ := (ha hl (by rw [hid]; rfl)).resolve_left (by omega)
          obtain ⟨m1, vals, m2, m3⟩ := row_out (O := O) ((a4.drop off).take (len * esz)) (a6.sub off (len * esz)) hps (fun c v p hc hr => newP_sound hfar R d hc hr)
          have hpl : ps.length = len * esz := by rw [m1]; simp; omega
          exact .ros esz len ps (φ id).1 ((φ id).2 + off) cap vals hpl (by omega) (fun _ => hfar _ ⟨id, hl, rfl⟩) m2 m3
        · simp at h
    | ptr id ver off =>
      cases hv with
      | ptr _ _ _ a hver ha =>
      simp only [newP, Option.bind_eq_some_iff] at h
      obtain ⟨row, hrow, h⟩ := h
      split at h
      · simp at h
      · simp only [Option.map_eq_some_iff] at h
        obtain ⟨ps, hps, rfl⟩ := h
        have hid := look_some hrow
        obtain ⟨c, T, lo, hi, a1, a2, a3, a4, a5, a6⟩ := R.row hid
        have hl : (hp id).live = true := by rw [hid]; rfl
        obtain rfl := ha hl (by rw [hid]; rfl)
        obtain ⟨m1, vals, m2, m3⟩ := row_out (O := O) a4 a6 hps (fun c v p hc hr => newP_sound hfar R d hc hr)
        exact .rop ps off (φ id).1 (φ id).2 vals (fun _ => hfar _ ⟨id, hl, rfl⟩) m2 m3
    | _ => simp [newP] at h

theorem newV_sound {hp' : Hp} {φ' : Emb} {X' : Nat → Prop} (hfar : ∀ b, Own hp φ b → ¬ Avoid X' hp' φ' b) (R : RelH X hp φ w) {v r : AV} {y : Value}
    (h : newV hp v = some r) (hv : RepA X hp φ w v y) : RepA X' hp' φ' w r y := by
  unfold newV at h
  split at h
  · rename_i cs
    simp only [Option.map_eq_some_iff] at h
    obtain ⟨ps, hps, rfl⟩ := h
    obtain ⟨vs, rfl, hl⟩ := repA_agg hv
    obtain ⟨m1, m2⟩ := mapM_some hps
    refine RepL.agg ⟨by simp [m1, hl.1], fun i x hx => ?_⟩
    simp only [List.getElem?_map, Option.map_eq_some_iff] at hx
    obtain ⟨p, hp', rfl⟩ := hx
    obtain ⟨a, ha, haf⟩ := m2 i p hp'
    obtain ⟨u, hu, hr⟩ := hl.2 i a ha
    exact ⟨u, hu, .pv _ _ (newP_sound hfar R 3 haf hr)⟩
  · simp only [Option.map_eq_some_iff] at h
    obtain ⟨p, hp', rfl⟩ := h
    exact .pv _ _ (newP_sound hfar R 3 hp' hv)

theorem newR_sound {hp' : Hp} {φ' : Emb} {X' : Nat → Prop} (hfar : ∀ b, Own hp φ b → ¬ Avoid X' hp' φ' b) (R : RelH X hp φ w) {v r : AV} {y : Value}
    (h : newR hp v = some r) (hv : RepA X hp φ w v y) : RepA X' hp' φ' w r y := by
  unfold newR at h
  split at h
  · rename_i cs
    simp only [Option.map_eq_some_iff] at h
    obtain ⟨ps, hps, rfl⟩ := h
    obtain ⟨vs, rfl, hl⟩ := repA_tuple hv
    obtain ⟨m1, m2⟩ := mapM_some hps
    refine RepL.tuple ⟨by simp [m1, hl.1], fun i x hx => ?_⟩
    obtain ⟨a, ha, haf⟩ := m2 i x hx
    obtain ⟨u, hu, hr⟩ := hl.2 i a ha
    exact ⟨u, hu, newV_sound hfar R haf hr⟩
  · exact newV_sound hfar R h hv

/-- A value that is lent, in a heap of which nothing is own. -/
theorem lend_sound {φ' : Emb} (R : RelH X hp φ w) {v r : AV} {y : Value} (h : lendV hp v = some r) (hv : RepA X hp φ w v y) : RepA (fun _ => False) (hf []) φ' w r y := by
  unfold lendV at h
  split at h
  · rename_i hpl
    simp only [Option.some.injEq] at h; subst h
    exact plain_moves (fun b hb => hb.elim (fun h => absurd h own_nil) False.elim) hpl hv
  · split at h
    · rename_i id ver off len mc esz xc
      simp only [Option.map_eq_some_iff] at h
      obtain ⟨p, hp', rfl⟩ := h
      exact .pv _ _ (freezeP_sound (O := Avoid (fun _ => False) (hf []) φ') (X := X) (fun b hb => hb.elim (fun h => absurd h own_nil) False.elim) (fun b _ hb => hb.elim own_nil (fun h => h)) R 1 hp' hv)
    · simp at h

theorem pure_sound (hF : WholeOk P F) : PureOk P (pureOf F) := by
  intro hp f args r hr X φ w vs R hvs
  have hlt : ∀ b, Avoid X hp φ b → b < w.heap.size := fun b hb => hb.elim (fun h => Own.lt R h) (fun h => R.far b h)
  have go : ∀ {h : List Blk} {φ' : Emb} {w' : World} {X0 : Nat → Prop}, Evo (hf []) φ w (hf h) φ' w' → (∀ b : Nat, b < w.heap.size → w'.heap[b]? = w.heap[b]?) ∧ Evo hp φ w hp φ w' ∧ RelH X hp φ w' := by
    intro h φ' w' X0 r3
    have hkeep : ∀ b : Nat, b < w.heap.size → w'.heap[b]? = w.heap[b]? := fun b hb => r3.ext.keep b hb own_nil
    have ev : Evo hp φ w hp φ w' :=
      ⟨⟨r3.ext.os, r3.ext.tape, r3.ext.output, r3.ext.size, fun b hb _ => hkeep b hb, r3.ext.shape⟩, fun _ => Nat.le_refl _, fun _ h _ => ⟨h, rfl⟩, fun _ h => .inl h⟩
    exact ⟨hkeep, ev, R.evo ev (fun j hj => hkeep _ (Own.lt R ⟨j, hj, rfl⟩))⟩
  have far : ∀ {h : List Blk} {φ' : Emb} {w' : World}, Evo (hf []) φ w (hf h) φ' w' → ∀ b, Own (hf h) φ' b → ¬ Avoid X hp φ b := by
    intro h φ' w' r3 b hb ho
    rcases r3.own b hb with h | h
    · exact own_nil h
    · have := hlt b ho; omega
  unfold pureOf at hr
  split at hr
  · rename_i hall
    simp only [Option.bind_eq_some_iff] at hr
    obtain ⟨⟨v, h⟩, hfa, hfr⟩ := hr
    have hcall := hF f args [] v h hfa
    have R0 : RelH (Avoid X hp φ) (hf []) φ w :=
      { far := hlt
        inj := fun i j hi => by rw [hf_nil] at hi; simp [Blk.live] at hi
        cells := fun id ver cs hc => by rw [hf_nil] at hc; simp at hc }
    have hvs0 : RepL (Avoid X hp φ) (hf []) φ w args vs.toList := by
      refine ⟨hvs.1, fun i c hc => ?_⟩
      obtain ⟨u, hu, hr⟩ := hvs.2 i c hc
      exact ⟨u, hu, plain_moves (fun b hb => hb.elim (fun h => absurd h own_nil) id) (List.all_eq_true.1 hall c (List.mem_of_getElem? hc)) hr⟩
    refine (hcall (Avoid X hp φ) φ w vs R0 hvs0).mono ?_
    rintro y w' ⟨φ', r1, r2, r3⟩
    obtain ⟨_, ev, R'⟩ := go (X0 := X) r3
    exact ⟨freezeR_sound (fun b hb => hb) (far r3) r2 hfr r1, R', ev⟩
  · simp only [Option.bind_eq_some_iff] at hr
    obtain ⟨as, has, ⟨v, h⟩, hfa, hfr⟩ := hr
    have hcall := hF f as [] v h hfa
    have R0 : RelH (fun _ => False) (hf []) φ w :=
      { far := fun b hb => hb.elim
        inj := fun i j hi => by rw [hf_nil] at hi; simp [Blk.live] at hi
        cells := fun id ver cs hc => by rw [hf_nil] at hc; simp at hc }
    have hvs0 : RepL (fun _ => False) (hf []) φ w as vs.toList := by
      obtain ⟨m1, m2⟩ := mapM_some has
      refine ⟨by rw [m1]; exact hvs.1, fun i c hc => ?_⟩
      obtain ⟨a, ha, hal⟩ := m2 i c hc
      obtain ⟨u, hu, hr⟩ := hvs.2 i a ha
      exact ⟨u, hu, lend_sound R hal hr⟩
    refine (hcall _ φ w vs R0 hvs0).mono ?_
    rintro y w' ⟨φ', r1, r2, r3⟩
    obtain ⟨_, ev, R'⟩ := go (X0 := X) r3
    exact ⟨newR_sound (far r3) r2 hfr r1, R', ev⟩

theorem mapM_congr {α β : Type} {f g : α → Option β} : ∀ {l : List α}, (∀ x ∈ l, f x = g x) → l.mapM f = l.mapM g
  | [], _ => rfl
  | x :: l, h => by
    simp only [List.mapM_cons]
    rw [h x (by simp), mapM_congr (fun y hy => h y (by simp [hy]))]

theorem pure_cong : CongG (pureOf F) := by
  intro hp1 hp2 f args h
  unfold pureOf
  have key : ∀ v ∈ args, lendV hp1 v = lendV hp2 v := by
    intro v hv
    have hid : ∀ id ∈ idOf0 v, hp1 id = hp2 id := fun id hi => h id (List.mem_flatMap.2 ⟨v, hv, hi⟩)
    unfold lendV
    split
    · rfl
    · cases v with
      | slice id ver off len mc esz xc =>
        have e := look_congr (ver := ver) (hid id (by simp [idOf0]))
        have z : ∀ c, freezeP hp1 0 c = freezeP hp2 0 c := by intro c; cases c <;> rfl
        simp only [freezeP, e, funext z]
      | _ => rfl
  rw [mapM_congr key]

theorem orS_sound {S : CallG} (hS : PureOk P S) (hG : PureOk P G) : PureOk P (orS S G) := by
  intro hp f args r hr
  unfold orS at hr
  split at hr
  · rename_i r' hr'
    simp only [Option.some.injEq] at hr; subst hr
    exact hS hp f args _ hr'
  · exact hG hp f args r hr

theorem orS_cong {S : CallG} (hS : CongG S) (hG : CongG G) : CongG (orS S G) := by
  intro hp1 hp2 f args h
  unfold orS
  rw [hS hp1 hp2 f args h, hG hp1 hp2 f args h]

theorem noS_sound : PureOk P noS := fun hp f args r h => by simp [noS] at h

theorem noS_cong : CongG noS := fun _ _ _ _ _ => rfl

theorem call_sound (hx : ExtOk P) {S : CallG} (hS : PureOk P S) (hSc : CongG S) (hnm : ∀ (f : Nat) (fn : Func), P.funcs[f]? = some fn → (fn.name == "runtime.NumGoroutine") = false) (hm : P.follows .mixedOrders = true) (pure : Nat → Bool) (lim : Nat) : ∀ d, WholeOk P (callA P S pure lim d)
  | 0 => fun f args h r h' hr => by simp [callA] at hr
  | d + 1 => body_sound hx hnm hm (call_sound hx hS hSc hnm hm pure lim d) (orS_sound hS (pure_sound (call_sound hx hS hSc hnm hm pure lim d))) (orS_cong hSc pure_cong) lim

/-- A call of plain values: what the interpreter gives is what the machine returns, and nothing else has changed. -/
theorem call_plain (hx : ExtOk P) {S : CallG} (hS : PureOk P S) (hSc : CongG S) (hnm : ∀ (f : Nat) (fn : Func), P.funcs[f]? = some fn → (fn.name == "runtime.NumGoroutine") = false) (hm : P.follows .mixedOrders = true) {pure : Nat → Bool} {lim d f : Nat} {args : List AV} {r : AV} {h : List Blk}
    (hb : ((P.funcs[f]?).bind (·.body)).isSome = true) (hc : callA P S pure lim d f args [] = some (r, h)) {vs : Array Value} {w : World} (hvs : RepL (fun _ => False) (hf []) (fun _ => (0, 0)) w args vs.toList) :
    Calls P f vs w fun e w' => ∃ y, e = .returned y ∧ ∃ φ', RepA (fun _ => False) (hf h) φ' w' r y ∧ RelH (fun _ => False) (hf h) φ' w' ∧ Evo (hf []) (fun _ => (0, 0)) w (hf h) φ' w' := by
  rcases call_sound hx hS hSc hnm hm pure lim d f args [] r h hc _ _ w vs
    { far := fun b hb => hb.elim
      inj := fun i j hi => by rw [hf_nil] at hi; simp [Blk.live] at hi
      cells := fun id ver cs hc => by rw [hf_nil] at hc; simp at hc } hvs with ⟨_, h⟩ | ⟨y, w', hrun, _⟩
  · exact h
  · exfalso
    cases hfn : P.funcs[f]? with
    | none => rw [hfn] at hb; simp at hb
    | some fn =>
      rw [hfn] at hb
      rw [callFunc_run ⟨fn, hfn, hnm f fn hfn, by simpa using hb⟩] at hrun
      cases hrun

end Go.Proofs.Ytabpcmmkmbchnaa.AI
