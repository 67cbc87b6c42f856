/- The law of a new ring holds: whatever the number is, the call returns true. -/
import Derived.Test.YtabpcmmkmbchnaaR1b
set_option linter.unusedVariables false
namespace Go.Proofs.Ytabpcmmkmbchnaa.ringBegins
open Go AI Go.ChangeShapes Go.WideShapes Go.ChangeAt Go.RowKit

abbrev stand (a : Int) : Val where
  V i := .int .i64 a
  one i := rfl

theorem sha_ok [Val] (i : Int) (l : List Int) (h : isId (callT Try.prog noS plains 100 20 13 [.pv (.int .i64 i)] []) l = true) (hp : Hp) :
    pureOf (callA Try.prog noS plains 100 20) hp 13 [.pv (.int .i64 i)] = some (bytesV l) := by
  obtain ⟨h', hr⟩ := isId_eq h
  have hc := callT_less _ _ _ _ _ _ _ _ _ hr
  unfold pureOf
  rw [if_pos (by rfl), hc]
  show freezeR (hf h') (bytesV l) = _
  unfold freezeR bytesV
  simp only [freezeV]
  have key : ∀ l : List Int, (l.map fun n => AV.pv (.int .u8 n)).mapM (freezeP (hf h') 3) = some (l.map fun n => PV.int .u8 n) := by
    intro l
    induction l with
    | nil => rfl
    | cons a l ih => simp [List.mapM_cons, ih, freezeP]
  rw [key]
  simp

theorem known_cong (j : Int) : CongG (known j) := by
  intro hp1 hp2 f args h
  rfl

theorem known_ok (a : Int) (ha : (Lit.int .i64 a).wf = true) : @PureOk (stand a) Try.prog (known (a % 7)) := by
  letI : Val := stand a
  have key : ∀ (i : Nat) (x n : Int), (Lit.int .i64 x).wf = true → 0 < n ∧ n ≤ 100000 → (stand a).V i = .int .i64 x →
      ∀ (X : Nat → Prop) (hp : Hp) (φ : Emb) (w : World) (vs : Array Value), RelH X hp φ w → RepL X hp φ w [.pv (.sym i), .pv (.int .i64 n)] vs.toList →
      AI.Good Try.prog 6 vs w fun y w' => RepA X hp φ w' (.pv (.int .i64 (x % n))) y ∧ RelH X hp φ w' ∧ Evo hp φ w hp φ w' := by
    intro i x n hx hn hV X hp φ w vs R hvs
    obtain ⟨v, vs', hv, h1, h2⟩ := hvs.head
    obtain ⟨u, vs'', hu, h3, h4⟩ := h2.head
    have h5 := h4.of_nil
    subst h5; subst hu
    have : vs = #[.int .i64 x, .int .i64 n] := by
      have e1 : v = .int .i64 x := by cases h1 with | pv _ _ h => cases h with | sym _ _ h => rw [h]; exact hV
      have e2 : u = .int .i64 n := by cases h3 with | pv _ _ h => cases h; rfl
      subst e1; subst e2
      cases vs; simpa using hv
    subst this
    refine .inl ⟨bodied 6 (by kernel_rfl), (within_calls x n hx hn w).mono ?_⟩
    rintro e w' ⟨rfl, rfl⟩
    exact ⟨_, rfl, .pv _ _ (.int _ _), R, Evo.refl _ _ _⟩
  have sha : ∀ (i : Int) (l : List Int), isId (callT Try.prog noS plains 100 20 13 [.pv (.int .i64 i)] []) l = true →
      ∀ hp : Hp, ∀ (X : Nat → Prop) (φ : Emb) (w : World) (vs : Array Value), RelH X hp φ w → RepL X hp φ w [.pv (.int .i64 i)] vs.toList →
      AI.Good Try.prog 13 vs w fun y w' => RepA X hp φ w' (bytesV l) y ∧ RelH X hp φ w' ∧ Evo hp φ w hp φ w' := by
    intro i l h hp
    exact pure_sound (call_sound ext noS_sound noS_cong names orders plains 100 20) hp 13 _ _ (sha_ok i l h hp)
  intro hp f args r h
  unfold known at h
  split at h
  · simp only [Option.some.injEq] at h; subst h
    exact fun X φ w vs R hvs => key 0 a 7 ha (by omega) rfl X hp φ w vs R hvs
  · simp only [Option.some.injEq] at h; subst h
    exact sha 0 id0 sha0 hp
  · simp only [Option.some.injEq] at h; subst h
    exact sha 1 id1 sha1 hp
  · simp only [Option.some.injEq] at h; subst h
    exact sha 2 id2 sha2 hp
  · simp only [Option.some.injEq] at h; subst h
    exact sha 3 id3 sha3 hp
  · simp at h

theorem runs (j : Int) (hj : 0 ≤ j ∧ j < 7) : run j = true := by
  obtain ⟨h0, h1⟩ := hj
  have : j = 0 ∨ j = 1 ∨ j = 2 ∨ j = 3 ∨ j = 4 ∨ j = 5 ∨ j = 6 := by omega
  rcases this with h | h | h | h | h | h | h <;> rw [h]
  · exact run0
  · exact run1
  · exact run2
  · exact run3
  · exact run4
  · exact run5
  · exact run6

theorem walk (a0 : Int) (w0 : (Lit.int .i64 a0).wf = true) (w : World) :
    Calls Try.prog 3 #[.int .i64 a0] w fun e w' => e = .returned (.bool true) ∧ Below w.heap.size w w' := by
  letI : Val := stand a0
  have hr := runs (a0 % 7) ⟨Int.emod_nonneg _ (by omega), Int.emod_lt_of_pos _ (by omega)⟩
  refine law_calls (known_ok a0 w0) (known_cong _) (by kernel_rfl) hr ?_
  exact .cons (.pv _ _ (.sym 0 _ rfl)) .nil

set_option maxRecDepth 100000 in
theorem lifted (os : Os) (started : os.Started) (H : Type) (enc : TypeId × Value → H) :
    ReturnsInHanded {} Try.checked os 3 .any (Rows.ringBeginsSpec.pre6 enc Try.prog Try.f3 Rows.ringBeginsRow.domain false) (Rows.ringBeginsSpec.post enc Try.prog Try.f3 false true false false) := by
  refine returnsInHanded_of_change (C := Try.checked) own started (by kernel_rfl) Try.func3
    (ChangeSpec.witness6 (enc := enc) (C := Try.checked) false ⟨#[], #[.int .i64 0], []⟩ 8 (by kernel_rfl) (by kernel_rfl) (by kernel_rfl) (by kernel_rfl)) ?_
  intro W base args ds gs before hval0 hW hcnd _
  have hval : ∀ (j : Nat) t v, Try.f3.params[j]? = some t → args[j]? = some v → Value.okWide Try.prog W .any base t v := hval0
  have hW' := hW
  obtain ⟨p, q, hA0, hV, rfl, hfz, hnd⟩ := hW
  have hA : DataW.TrodAll enc Try.prog W 0 (fun _ => true) true Try.f3.params.toList args.toList ds p := hA0
  rw [Try.params3] at hA hval
  obtain ⟨v0, vs0, d0, ds0, p0, q0, hargs, rfl, rfl, h0, r0⟩ := trodAll_cons hA
  obtain ⟨rfl, rfl, rfl⟩ := trodAll_nil r0
  obtain rfl : args = #[v0] := by cases args; simp_all
  obtain ⟨rfl, rfl⟩ := trodVars_none hV
  obtain ⟨a0, rfl, rfl, rfl, w0⟩ := open_int Try.underlying3 (hval 0 3 v0 rfl rfl) h0
  clear hA0 hval0
  refine (walk a0 w0 W).mono fun e W' ⟨he, hg⟩ => ?_
  subst he
  exact ⟨_, rfl, law_post laid rowed full (by rw [Try.params3]; decide +kernel) rfl rfl hW' rfl Try.underlying4 hg⟩

theorem over : Rows.ringBeginsRow.holds Try.pinned (OpenSpec.ofChange Rows.ringBeginsSpec) :=
  OpenClaim.holds_of_wide 3 Try.f3 rfl rfl rfl rfl rfl rfl rfl ⟨rfl, rfl, rfl, rfl, rfl⟩ rfl rfl rfl rfl rfl (by kernel_rfl) Try.func3 (by kernel_rfl)
    (of_decide_eq_true (by kernel_rfl)) (by unfold Func.isWrapper; first | (rw [if_pos (by decide +kernel)]; kernel_rfl) | (rw [if_neg (by decide +kernel)]; exact ⟨rfl, rfl⟩))
    (fun os started H enc _ => lifted os started H enc)

theorem proved : Rows.RingBeginsSaid :=
  over
#print axioms proved
end Go.Proofs.Ytabpcmmkmbchnaa.ringBegins
