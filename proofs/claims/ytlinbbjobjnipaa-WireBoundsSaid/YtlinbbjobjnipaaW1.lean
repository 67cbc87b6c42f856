/- The law of bounds holds: whatever the two numbers are, the call returns true. -/
import Derived.Test.YtlinbbjobjnipaaW1a
set_option linter.unusedVariables false
namespace Go.Proofs.Ytlinbbjobjnipaa.wireBounds
open Go AI Go.ChangeShapes Go.WideShapes Go.ChangeAt Go.RowKit

abbrev stand (a b : Int) : Val where
  V i := if i = 0 then .int .i64 a else .int .i64 b
  one i := by split <;> rfl

theorem known_ok (a b : Int) (ha : (Lit.int .i64 a).wf = true) (hb : (Lit.int .i64 b).wf = true) : @PureOk (stand a b) Try.prog (known (a % 6) (b % 4)) := by
  letI : Val := stand a b
  have key : ∀ (i : Nat) (x n : Int), (Lit.int .i64 x).wf = true → 0 < n ∧ n ≤ 100000 → (stand a b).V i = .int .i64 x → Bodied Try.prog 10 ∧
      ∀ (X : Nat → Prop) (hp : Hp) (φ : Emb) (w : World) (vs : Array Value), RelH X hp φ w → RepL X hp φ w [.pv (.sym i), .pv (.int .i64 n)] vs.toList →
      Calls Try.prog 10 vs w fun e w' => ∃ y, e = .returned y ∧ RepA X hp φ w' (.pv (.int .i64 (x % n))) y ∧ RelH X hp φ w' ∧ Evo hp φ w hp φ w' := by
    intro i x n hx hn hV
    refine ⟨bodied 10 (by kernel_rfl), fun X hp φ w vs R hvs => ?_⟩
    obtain ⟨v, vs', hv, h1, h2⟩ := hvs.head
    obtain ⟨u, vs'', hu, h3, h4⟩ := h2.head
    have h5 := h4.of_nil
    subst h5; subst hu
    have : vs = #[.int .i64 x, .int .i64 n] := by
      have e1 : v = .int .i64 x := by cases h1 with | pv _ _ h => cases h with | sym _ _ h => rw [h]; exact hV
      have e2 : u = .int .i64 n := by cases h3 with | pv _ _ h => cases h; rfl
      subst e1; subst e2
      cases vs; simpa using hv
    subst this
    refine (within_calls x n hx hn w).mono ?_
    rintro e w' ⟨rfl, rfl⟩
    exact ⟨_, rfl, .pv _ _ (.int _ _), R, Evo.refl _ _ _⟩
  intro f args r h
  unfold known at h
  split at h
  · simp only [Option.some.injEq] at h; subst h
    exact key 0 a 6 ha (by omega) rfl
  · simp only [Option.some.injEq] at h; subst h
    exact key 1 b 4 hb (by omega) rfl
  · simp at h

theorem walk (a0 : Int) (a1 : Int) (w0 : (Lit.int .i64 a0).wf = true) (w1 : (Lit.int .i64 a1).wf = true) (w : World) :
    Calls Try.prog 3 #[.int .i64 a0, .int .i64 a1] w fun e w' => e = .returned (.bool true) ∧ Below w.heap.size w w' := by
  letI : Val := stand a0 a1
  have hr := runs (a0 % 6) (a1 % 4) ⟨Int.emod_nonneg _ (by omega), Int.emod_lt_of_pos _ (by omega)⟩ ⟨Int.emod_nonneg _ (by omega), Int.emod_lt_of_pos _ (by omega)⟩
  refine law_calls (known_ok a0 a1 w0 w1) hr ?_
  exact .cons (.pv _ _ (.sym 0 _ rfl)) (.cons (.pv _ _ (.sym 1 _ rfl)) .nil)

set_option maxRecDepth 100000 in
theorem lifted (os : Os) (started : os.Started) (H : Type) (enc : TypeId × Value → H) :
    ReturnsInHanded {} Try.checked os 3 .any (Rows.wireBoundsSpec.pre6 enc Try.prog Try.f3 Rows.wireBoundsRow.domain false) (Rows.wireBoundsSpec.post enc Try.prog Try.f3 false true false false) := by
  refine returnsInHanded_of_change (C := Try.checked) own started (by kernel_rfl) Try.func3
    (ChangeSpec.witness6 (enc := enc) (C := Try.checked) false ⟨#[], #[.int .i64 0, .int .i64 0], []⟩ 8 (by kernel_rfl) (by kernel_rfl) (by kernel_rfl) (by kernel_rfl)) ?_
  intro W base args ds gs before hval0 hW hcnd _
  have hval : ∀ (j : Nat) t v, Try.f3.params[j]? = some t → args[j]? = some v → Value.okWide Try.prog W .any base t v := hval0
  have hW' := hW
  obtain ⟨p, q, hA0, hV, rfl, hfz, hnd⟩ := hW
  have hA : DataW.TrodAll enc Try.prog W 0 (fun _ => true) true Try.f3.params.toList args.toList ds p := hA0
  rw [Try.params3] at hA hval
  obtain ⟨v0, vs0, d0, ds0, p0, q0, hargs, rfl, rfl, h0, r0⟩ := trodAll_cons hA
  obtain ⟨v1, vs1, d1, ds1, p1, q1, rfl, rfl, rfl, h1, r1⟩ := trodAll_cons r0
  obtain ⟨rfl, rfl, rfl⟩ := trodAll_nil r1
  obtain rfl : args = #[v0, v1] := by cases args; simp_all
  obtain ⟨rfl, rfl⟩ := trodVars_none hV
  obtain ⟨a0, rfl, rfl, rfl, w0⟩ := open_int Try.underlying3 (hval 0 3 v0 rfl rfl) h0
  obtain ⟨a1, rfl, rfl, rfl, w1⟩ := open_int Try.underlying3 (hval 1 3 v1 rfl rfl) h1
  clear hA0 hval0
  refine (walk a0 a1 w0 w1 W).mono fun e W' ⟨he, hg⟩ => ?_
  subst he
  exact ⟨_, rfl, law_post laid rowed full (by rw [Try.params3]; decide +kernel) rfl rfl hW' rfl Try.underlying4 hg⟩

theorem over : Rows.wireBoundsRow.holds Try.pinned (OpenSpec.ofChange Rows.wireBoundsSpec) :=
  OpenClaim.holds_of_wide 3 Try.f3 rfl rfl rfl rfl rfl rfl rfl ⟨rfl, rfl, rfl, rfl, rfl⟩ rfl rfl rfl rfl rfl (by kernel_rfl) Try.func3 (by kernel_rfl)
    (of_decide_eq_true (by kernel_rfl)) (by unfold Func.isWrapper; first | (rw [if_pos (by decide +kernel)]; kernel_rfl) | (rw [if_neg (by decide +kernel)]; exact ⟨rfl, rfl⟩))
    (fun os started H enc _ => lifted os started H enc)

theorem proved : Rows.WireBoundsSaid :=
  over
#print axioms proved
end Go.Proofs.Ytlinbbjobjnipaa.wireBounds
