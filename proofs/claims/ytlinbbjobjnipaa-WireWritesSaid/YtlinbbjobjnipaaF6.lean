/- How the laws use 'few', 'good', 'Encode'. -/
import Derived.Test.YtlinbbjobjnipaaF5
set_option linter.unusedVariables false
set_option linter.unusedSimpArgs false
set_option linter.unusedSectionVars false
namespace Go.Proofs.Ytlinbbjobjnipaa
open Go AI

set_option maxHeartbeats 4000000
set_option maxRecDepth 10000

theorem shA_pv (n len : Nat) (p : PV) : shA n len (.pv p) = some (.pv p) := rfl
theorem shV_pv (n len : Nat) (p : PV) : shV n len (.pv p) = some (.pv p) := rfl

section
variable {lim n : Nat} {ops rest : List Oper} {g : Gm} {hp : Hp} {nb : Nat} {Q : Gm → Hp → Nat → Prop}

theorem plain_pvs : ∀ l : List PV, ((l.map AV.pv).all fun c => (toPV c).isSome) = true
  | [] => rfl
  | a :: l => by rw [List.map_cons, List.all_cons, plain_pvs l]; rfl

theorem row_plain {hp : Hp} {nb : Nat} {v : AV} {l : List PV} (r : Row hp nb v l) : (toPV v).isSome = true ↔ ownOf v = none := by
  cases r <;> simp [toPV, ownOf]

theorem plain_msg {hp : Hp} {nb : Nat} {m : M} {L D : AV} (hL : Row hp nb L (ints m.list)) (hD : Row hp nb D (u8s m.data)) : ([.agg (mcells m L D)] : List AV).all plainV = ((toPV L).isSome && (toPV D).isSome) := by
  simp only [List.all_cons, List.all_nil, Bool.and_true, plainV, mcells, List.all_append, plain_pvs]
  cases (toPV L).isSome <;> cases (toPV D).isSome <;> simp [toPV]

theorem row_any {hp hp' : Hp} {nb nb' : Nat} {v : AV} {l : List PV} (r : Row hp nb v l) (ho : ownOf v = none) : Row hp' nb' v l := by
  cases r with
  | nil => exact .nil
  | zcap => exact .zcap
  | ros n l h => exact .ros n l h
  | own => simp [ownOf] at ho

/-- A call of 'Encode', whatever memory the message has. -/
theorem ro_encode (d0 : Nat) {d : Nat} {x : Operand} {ats : Array TypeId} {ty : TypeId} {pos : String} {aft : Array Edge} {m : M} {L D : AV} (hf : Fit m) (hL : Row hp nb L (ints m.list)) (hD : Row hp nb D (u8s m.data)) (hlim : 10 < lim)
    (hx : evalF g x = .agg (mcells m L D)) (hd : d < n)
    (h2 : ∀ v hp' nb', EncOk m hp nb v hp' nb' → RO Try.prog plains (callA Try.prog facts plains lim (d0 + 4)) (orS facts (pureOf (callA Try.prog facts plains lim (d0 + 4)))) n ops rest (upd g d v) hp' nb' Q) :
    RO Try.prog plains (callA Try.prog facts plains lim (d0 + 4)) (orS facts (pureOf (callA Try.prog facts plains lim (d0 + 4)))) n ops ({ dst := some d, op := .call { callee := .value (.func 11), args := #[x], argTypes := ats }, type := ty, pos := pos, after := aft, guard := none } :: rest) g hp nb Q := by
  have hxs : (#[x] : Array Operand).toList.map (evalF g) = [.agg (mcells m L D)] := by simp [hx]
  cases hpl : ([.agg (mcells m L D)] : List AV).all plainV with
  | false => exact ro_call rfl hxs rfl hpl (encode_calls lim d0 hf hL hD hlim) hd h2
  | true =>
    have hpl' := hpl
    rw [plain_msg hL hD, Bool.and_eq_true] at hpl'
    have hLo := (row_plain hL).1 hpl'.1
    have hDo := (row_plain hD).1 hpl'.2
    refine ro_add hxs rfl hpl (encode_calls lim d0 hf (row_any hL hLo) (row_any hD hDo) hlim) hd ?_
    rintro v0 h' ⟨ha, hres⟩
    obtain ⟨bs, e1, e2, e3, e4, e5, e6⟩ := add_all (ha.2.2 tidy_nil) hp nb
    have haf : After hp nb (.pv .nilSlice) (addHp hp nb bs) (nb + bs.length) := ⟨by omega, fun id hid _ => e3 id hid, e4⟩
    cases hE : enc m with
    | ok r =>
      rw [hE] at hres
      obtain ⟨b', rfl, hgb, _⟩ := hres
      obtain ⟨b2, f1, f2, f3⟩ := e6 _ _ hgb
      refine ⟨.tuple [b2, .pv (.int .i64 0)], bs, ?_, e1, h2 _ _ _ ⟨haf, ?_⟩⟩
      · have : shV nb h'.length b' = some b2 := by
          cases b' with
          | agg cs => simp [shA] at f1
          | _ => exact f1
        simp only [shR, List.mapM_cons, List.mapM_nil, this, shV_pv]
        rfl
      · rw [hE]; exact ⟨b2, rfl, f2, f3⟩
    | error e =>
      rw [hE] at hres
      subst hres
      refine ⟨.tuple [.pv .nilSlice, .pv (.int .i64 e)], bs, by simp [shR, List.mapM_cons, shV, shA], e1, h2 _ _ _ ⟨haf, ?_⟩⟩
      rw [hE]

/-- A call of 'good' by a message of the caller's. -/
theorem ro_good (d0 : Nat) {d : Nat} {x : Operand} {ats : Array TypeId} {ty : TypeId} {pos : String} {aft : Array Edge} {m : M} {L D : AV} (hf : Fit m) (hL : Row hp nb L (ints m.list)) (hD : Row hp nb D (u8s m.data)) (hLo : ownOf L = none) (hDo : ownOf D = none) (hln : m.list.length < 1000) (hdn : m.data.length < 100000) (hlim : 1000 ≤ lim)
    (hx : evalF g x = .agg (mcells m L D)) (hd : d < n)
    (h2 : ∀ L' D' hp' nb', Row hp' nb' L' (ints (goodM m).list) → Row hp' nb' D' (u8s (goodM m).data) → ownOf D' = none → (∀ id, ownOf L' = some id → nb ≤ id) → After hp nb (.pv .nilSlice) hp' nb' →
      RO Try.prog plains (callA Try.prog facts plains lim (d0 + 1)) (orS facts (pureOf (callA Try.prog facts plains lim (d0 + 1)))) n ops rest (upd g d (.agg (mcells (goodM m) L' D'))) hp' nb' Q) :
    RO Try.prog plains (callA Try.prog facts plains lim (d0 + 1)) (orS facts (pureOf (callA Try.prog facts plains lim (d0 + 1)))) n ops ({ dst := some d, op := .call { callee := .value (.func 13), args := #[x], argTypes := ats }, type := ty, pos := pos, after := aft, guard := none } :: rest) g hp nb Q := by
  have hxs : (#[x] : Array Operand).toList.map (evalF g) = [.agg (mcells m L D)] := by simp [hx]
  have hpl : ([.agg (mcells m L D)] : List AV).all plainV = true := by
    rw [plain_msg hL hD, (row_plain hL).2 hLo, (row_plain hD).2 hDo]
    rfl
  refine ro_add hxs rfl hpl (good_calls lim d0 hf (row_any (hp' := hp) (nb' := nb) hL hLo) (row_any (hp' := hp) (nb' := nb) hD hDo) hLo hDo (by omega) hln hdn) hd ?_
  rintro v0 h' ⟨L', D', rfl, r1, r2, ho, ht⟩
  obtain ⟨bs, e1, e2, e3, e4, e5, e6⟩ := add_all ht hp nb
  obtain ⟨L2, f1, f2, f3, _⟩ := e5 _ _ r1
  obtain ⟨D2, g1, g2, g3, g4⟩ := e5 _ _ r2
  have hD2 := g4 ho
  subst hD2
  refine ⟨.agg (mcells (goodM m) L2 D2), bs, ?_, e1, h2 L2 D2 _ _ f2 g2 ho f3 ⟨by omega, fun id hid _ => e3 id hid, e4⟩⟩
  have happ : ∀ {a b a' b' : List AV}, a.mapM (shA nb h'.length) = some a' → b.mapM (shA nb h'.length) = some b' → (a ++ b).mapM (shA nb h'.length) = some (a' ++ b') := by
    intro a
    induction a with
    | nil => intro b a' b' h1 h2; simp at h1; subst h1; simpa using h2
    | cons y a ih =>
      intro b a' b' h1 h2
      simp only [List.mapM_cons, Option.bind_eq_bind, Option.bind_eq_some_iff, Option.pure_def, Option.some.injEq] at h1
      obtain ⟨z, hz, r, hr, rfl⟩ := h1
      simp only [List.cons_append, List.mapM_cons, hz, ih hr h2]
      rfl
  have hcs : (mcells (goodM m) L' D2).mapM (shA nb h'.length) = some (mcells (goodM m) L2 D2) := by
    unfold mcells
    refine happ ?_ (happ (sh_pvs _ _ _) ?_)
    · simp only [List.mapM_cons, List.mapM_nil, f1, shA_pv]
      rfl
    · simp only [List.mapM_cons, List.mapM_nil, g1, shA_pv]
      rfl
  show Option.map AV.agg _ = _
  rw [hcs]
  rfl
end

end Go.Proofs.Ytlinbbjobjnipaa
