/- How the laws use 'Parse'; the bytes of a message. -/
import Derived.Test.YtlinbbjobjnipaaP9
set_option linter.unusedVariables false
set_option linter.unusedSimpArgs false
set_option linter.unusedSectionVars false
namespace Go.Proofs.Ytlinbbjobjnipaa
open Go AI

set_option maxHeartbeats 4000000
set_option maxRecDepth 10000

theorem sh_app {n len : Nat} : ∀ {a b a' b' : List AV}, a.mapM (shA n len) = some a' → b.mapM (shA n len) = some b' → (a ++ b).mapM (shA n len) = some (a' ++ b')
  | [], b, a', b', h1, h2 => by simp at h1; subst h1; simpa using h2
  | y :: a, b, a', b', h1, h2 => by
    simp only [List.mapM_cons, Option.bind_eq_bind, Option.bind_eq_some_iff, Option.pure_def, Option.some.injEq] at h1
    obtain ⟨z, hz, r, hr, rfl⟩ := h1
    simp only [List.cons_append, List.mapM_cons, hz, sh_app hr h2]
    rfl

theorem sh_msg {n len : Nat} {m : M} {L D L2 D2 : AV} (f1 : shA n len L = some L2) (g1 : shA n len D = some D2) : (mcells m L D).mapM (shA n len) = some (mcells m L2 D2) := by
  unfold mcells
  refine sh_app ?_ (sh_app (sh_pvs _ _ _) ?_)
  · simp only [List.mapM_cons, List.mapM_nil, f1, shA_pv]
    rfl
  · simp only [List.mapM_cons, List.mapM_nil, g1, shA_pv]
    rfl

theorem row_pl {hp : Hp} {nb : Nat} {v : AV} {l : List PV} (r : Row hp nb v l) : ([v] : List AV).all plainV = (ownOf v).isNone := by
  cases r <;> rfl

section
variable {n : Nat} {ops rest : List Oper} {g : Gm} {hp : Hp} {nb : Nat} {Q : Gm → Hp → Nat → Prop}

theorem ro_parse (d0 : Nat) {d : Nat} {x : Operand} {ats : Array TypeId} {ty : TypeId} {pos : String} {aft : Array Edge} {v : AV} {b : List Int} (hb : ∀ x ∈ b, 0 ≤ x ∧ x ≤ 255) (hr : Row hp nb v (u8s b))
    (hx : evalF g x = v) (hd : d < n)
    (h2 : ∀ v' hp' nb', ParseOk b hp nb v' hp' nb' → RO Try.prog plains (callA Try.prog facts plains 10000 (d0 + 6)) (orS facts (pureOf (callA Try.prog facts plains 10000 (d0 + 6)))) n ops rest (upd g d v') hp' nb' Q) :
    RO Try.prog plains (callA Try.prog facts plains 10000 (d0 + 6)) (orS facts (pureOf (callA Try.prog facts plains 10000 (d0 + 6)))) n ops ({ dst := some d, op := .call { callee := .value (.func 15), args := #[x], argTypes := ats }, type := ty, pos := pos, after := aft, guard := none } :: rest) g hp nb Q := by
  have hxs : (#[x] : Array Operand).toList.map (evalF g) = [v] := by simp [hx]
  cases ho : ownOf v with
  | some id =>
    have hpl : ([v] : List AV).all plainV = false := by rw [row_pl hr, ho]; rfl
    exact ro_call rfl hxs rfl hpl (parse_calls d0 hb hr) hd h2
  | none =>
    have hpl : ([v] : List AV).all plainV = true := by rw [row_pl hr, ho]; rfl
    refine ro_add hxs rfl hpl (parse_calls d0 hb (row_any hr ho)) hd ?_
    rintro v0 h' ⟨ha, hres⟩
    obtain ⟨bs, e1, e2, e3, e4, e5, e6⟩ := add_all (ha.2.2 tidy_nil) hp nb
    have haf : After hp nb (.pv .nilSlice) (addHp hp nb bs) (nb + bs.length) := ⟨by omega, fun id hid _ => e3 id hid, e4⟩
    have hsh : ∀ {m : M} {L D L2 D2 : AV} (e : Int), shA nb h'.length L = some L2 → shA nb h'.length D = some D2 → shR nb h'.length (.tuple [.agg (mcells m L D), .pv (.int .i64 e)]) = some (.tuple [.agg (mcells m L2 D2), .pv (.int .i64 e)]) := by
      intro m L D L2 D2 e f1 g1
      have : shV nb h'.length (.agg (mcells m L D)) = some (.agg (mcells m L2 D2)) := by
        show Option.map AV.agg _ = _
        rw [sh_msg f1 g1]
        rfl
      simp only [shR, List.mapM_cons, List.mapM_nil, this, shV_pv]
      rfl
    cases hE : dec b with
    | ok m =>
      rw [hE] at hres
      obtain ⟨hk, L, D, rfl, hL, hD, _, _⟩ := hres
      obtain ⟨L2, f1, f2, f3, _⟩ := e5 _ _ hL
      obtain ⟨D2, g1, g2, g3, _⟩ := e5 _ _ hD
      refine ⟨_, bs, hsh 0 f1 g1, e1, h2 _ _ _ ⟨haf, ?_⟩⟩
      rw [hE]
      exact ⟨hk, L2, D2, rfl, f2, g2, f3, g3⟩
    | error e =>
      rw [hE] at hres
      subst hres
      refine ⟨_, bs, hsh e (shA_pv _ _ _) (shA_pv _ _ _), e1, h2 _ _ _ ⟨haf, ?_⟩⟩
      rw [hE]
      rfl
end

theorem u8_byte (z : Int) : 0 ≤ u8 z ∧ u8 z ≤ 255 := by unfold u8; omega

/-- What is written is bytes. -/
theorem field_bytes {m : M} (hk : ∀ z ∈ m.key, 0 ≤ z ∧ z ≤ 255) (hd : ∀ z ∈ m.data, 0 ≤ z ∧ z ≤ 255) {f : Nat} {r : List Int} (h : fieldE m f = .ok r) : ∀ z ∈ r, 0 ≤ z ∧ z ≤ 255 := by
  have one : ∀ (a z : Int), z ∈ [u8 a] → 0 ≤ z ∧ z ≤ 255 := fun a z hz => by
    rw [List.mem_singleton] at hz
    subst hz; exact u8_byte a
  unfold fieldE at h
  split at h
  · split at h
    · simp at h
    · simp only [Except.ok.injEq] at h; subst h; exact one _
  · split at h
    · simp at h
    · simp only [Except.ok.injEq] at h; subst h; exact one _
  · split at h
    · simp at h
    · split at h
      · simp only [Except.ok.injEq] at h; subst h
        intro z hz
        rcases List.mem_cons.1 hz with rfl | hz
        · exact u8_byte _
        · obtain ⟨y, _, rfl⟩ := List.mem_map.1 hz
          exact u8_byte _
      · simp at h
  · simp only [Except.ok.injEq] at h; subst h
    intro z hz
    rw [List.mem_singleton] at hz
    subst hz
    split <;> omega
  · split at h
    · simp at h
    · simp only [Except.ok.injEq] at h; subst h; exact one _
  · simp only [Except.ok.injEq] at h; subst h; exact hk
  · split at h
    · simp at h
    · simp only [Except.ok.injEq] at h; subst h
      intro z hz
      rcases List.mem_cons.1 hz with rfl | hz
      · exact u8_byte _
      rcases List.mem_cons.1 hz with rfl | hz
      · exact u8_byte _
      · exact hd z hz
  · split at h
    · simp at h
    · simp only [Except.ok.injEq] at h; subst h
      intro z hz
      simp only [List.mem_cons, List.not_mem_nil, or_false] at hz
      rcases hz with rfl | rfl | rfl | rfl <;> exact u8_byte _

theorem fields_bytes {m : M} (hk : ∀ z ∈ m.key, 0 ≤ z ∧ z ≤ 255) (hd : ∀ z ∈ m.data, 0 ≤ z ∧ z ≤ 255) : ∀ (fs : List Nat) {b r : List Int}, (∀ z ∈ b, 0 ≤ z ∧ z ≤ 255) → fieldsE m fs b = .ok r → ∀ z ∈ r, 0 ≤ z ∧ z ≤ 255
  | [], b, r, hb, h => by
    simp only [fieldsE, Except.ok.injEq] at h
    subst h; exact hb
  | f :: fs, b, r, hb, h => by
    rw [fieldsE] at h
    split at h
    · rename_i r1 h1
      refine fields_bytes hk hd fs (fun z hz => ?_) h
      rcases List.mem_append.1 hz with hz | hz
      · exact hb z hz
      · exact field_bytes hk hd h1 z hz
    · simp at h

theorem enc_bytes {m : M} (hk : ∀ z ∈ m.key, 0 ≤ z ∧ z ≤ 255) (hd : ∀ z ∈ m.data, 0 ≤ z ∧ z ≤ 255) {r : List Int} (h : enc m = .ok r) : ∀ z ∈ r, 0 ≤ z ∧ z ≤ 255 := by
  unfold enc at h
  split at h
  · simp at h
  · refine fields_bytes hk hd _ (fun z hz => ?_) h
    rw [List.mem_singleton] at hz
    subst hz; exact u8_byte _
end Go.Proofs.Ytlinbbjobjnipaa
