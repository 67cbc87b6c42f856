/- The law of posts holds: whatever the fate and the number are, the call returns true. -/
import Derived.Test.YtabpcmmkmbchnaaR7a
set_option linter.unusedVariables false
set_option linter.unusedSimpArgs false
set_option linter.unusedSectionVars false
namespace Go.Proofs.Ytabpcmmkmbchnaa.ringPosts
open Go AI Go.ChangeShapes Go.WideShapes Go.ChangeAt Go.RowKit

abbrev stand : Val where
  V i := .bool true
  one i := rfl

theorem facts_cong : CongG facts := fun hp1 hp2 f args h => rfl

theorem facts_ok : @PureOk stand Try.prog facts := by
  letI : Val := stand
  intro hp f args r h
  unfold facts at h
  split at h
  · simp only [Option.some.injEq] at h; subst h
    obtain ⟨h', hr⟩ := isT_some known_run
    refine pure_sound (call_sound ext noS_sound noS_cong names orders plains0 100 20) hp 5 [] _ ?_
    unfold pureOf
    rw [if_pos (show (([] : List AV).all plainV) = true from rfl), callT_less _ _ _ _ _ _ _ _ _ hr]
    rfl
  · rename_i a m
    split at h
    · rename_i hc
      simp only [Option.some.injEq] at h; subst h
      intro X φ w vs R hvs
      obtain ⟨v, vs', hv, h1, h2⟩ := hvs.head
      obtain ⟨u, vs'', hu, h3, h4⟩ := h2.head
      have h5 := h4.of_nil
      subst h5; subst hu
      have : vs = #[.int .i64 a, .int .i64 m] := by
        have e1 : v = .int .i64 a := by cases h1 with | pv _ _ h => cases h; rfl
        have e2 : u = .int .i64 m := by cases h3 with | pv _ _ h => cases h; rfl
        subst e1; subst e2
        cases vs; simpa using hv
      subst this
      refine .inl ⟨bodied 6 (by kernel_rfl), (within_calls a m hc.1 hc.2 w).mono ?_⟩
      rintro e w' ⟨rfl, rfl⟩
      exact ⟨_, rfl, .pv _ _ (.int _ _), R, Evo.refl _ _ _⟩
    · simp at h
  · simp at h

theorem walk (x n : Int) (u : Value) (p : PV) (cs : List (Int × PV)) (hn : (Lit.int .i64 n).wf = true) (hp : LiesP p cs) (hb : ∀ q ∈ cs, ∃ m : Nat, BytesP q.2 m) (w : World) (hr : ∀ O : Nat → Prop, (∀ b, ¬ O b) → @RepP stand O w p u) :
    Calls Try.prog 4 #[.agg #[.int .u64 x, u], .int .i64 n] w fun e w' => e = .returned (.bool true) ∧ Below w.heap.size w w' := by
  letI : Val := stand
  obtain ⟨v, h', hc, rfl⟩ := law_runs x n hn hp hb [] rfl rfl
  refine (call_plain ext facts_ok facts_cong names orders (f := 4) (by kernel_rfl) hc (vs := #[.agg #[.int .u64 x, u], .int .i64 n]) (w := w) ?_).mono ?_
  · refine .cons (RepL.agg (vs := #[.int .u64 x, u]) (.cons (.pv _ _ (.int _ _)) (.cons (.pv _ _ (hr _ ?_)) .nil))) (.cons (.pv _ _ (.int _ _)) .nil)
    rintro b (h | h)
    · exact own_nil h
    · exact h
  · rintro e w' ⟨y, rfl, φ', hy, hR, hE⟩
    rw [repA_bool hy]
    exact ⟨rfl, evo_below hE⟩

set_option maxRecDepth 100000 in
theorem lifted (os : Os) (started : os.Started) (H : Type) (enc : TypeId × Value → H) :
    ReturnsInHanded {} Try.checked os 4 .any (Rows.ringPostsSpec.pre6 enc Try.prog Try.f4 Rows.ringPostsRow.domain false) (Rows.ringPostsSpec.post enc Try.prog Try.f4 false true false false) := by
  refine returnsInHanded_of_change (C := Try.checked) own started (by kernel_rfl) Try.func4
    (ChangeSpec.witness6 (enc := enc) (C := Try.checked) false ⟨#[], #[.agg #[.int .u64 0, .slice none 0 0], .int .i64 0], []⟩ 8 (by kernel_rfl) (by kernel_rfl) (by kernel_rfl) (by kernel_rfl)) ?_
  intro W base args ds gs before hval0 hW hcnd _
  have hval : ∀ (j : Nat) t v, Try.f4.params[j]? = some t → args[j]? = some v → Value.okWide Try.prog W .any base t v := hval0
  have hW' := hW
  obtain ⟨p, q, hA0, hV, rfl, hfz, hnd⟩ := hW
  have hA : DataW.TrodAll enc Try.prog W 0 (fun _ => true) true Try.f4.params.toList args.toList ds p := hA0
  rw [Try.params4] at hA hval
  obtain ⟨v0, vs0, d0, ds0, p0, q0, hargs, rfl, rfl, h0, r0⟩ := trodAll_cons hA
  obtain ⟨v1, vs1, d1, ds1, p1, q1, rfl, rfl, rfl, h1, r1⟩ := trodAll_cons r0
  obtain ⟨rfl, rfl, rfl⟩ := trodAll_nil r1
  obtain rfl : args = #[v0, v1] := by cases args; simp_all
  obtain ⟨rfl, rfl⟩ := trodVars_none hV
  obtain ⟨x, u, lp, cs, rfl, hlp, hb, hrep⟩ := @read_fate stand H enc W base v0 d0 p0 (hval 0 47 v0 rfl rfl) h0
  obtain ⟨a1, rfl, rfl, rfl, w1⟩ := open_int Try.underlying3 (hval 1 3 v1 rfl rfl) h1
  clear hA0 hval0
  refine (walk x a1 u lp cs w1 hlp hb W hrep).mono fun e W' ⟨he, hg⟩ => ?_
  subst he
  exact ⟨_, rfl, law_post laid rowed full (by rw [Try.params4]; decide +kernel) rfl rfl hW' rfl Try.underlying4 hg⟩

theorem over : Rows.ringPostsRow.holds Try.pinned (OpenSpec.ofChange Rows.ringPostsSpec) :=
  OpenClaim.holds_of_wide 4 Try.f4 rfl rfl rfl rfl rfl rfl rfl ⟨rfl, rfl, rfl, rfl, rfl⟩ rfl rfl rfl rfl rfl (by kernel_rfl) Try.func4 (by kernel_rfl)
    (of_decide_eq_true (by kernel_rfl)) (by unfold Func.isWrapper; first | (rw [if_pos (by decide +kernel)]; kernel_rfl) | (rw [if_neg (by decide +kernel)]; exact ⟨rfl, rfl⟩))
    (fun os started H enc _ => lifted os started H enc)

theorem proved : Rows.RingPostsSaid :=
  over
#print axioms proved
end Go.Proofs.Ytabpcmmkmbchnaa.ringPosts
