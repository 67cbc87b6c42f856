/- The law of writing holds: whatever the two messages are, the call returns true. -/
import Derived.Test.YtlinbbjobjnipaaG7
set_option linter.unusedVariables false
namespace Go.Proofs.Ytlinbbjobjnipaa.wireWrites
open Go AI Go.ChangeShapes Go.WideShapes Go.ChangeAt Go.RowKit

set_option maxRecDepth 100000 in
theorem lifted (os : Os) (started : os.Started) (H : Type) (enc : TypeId × Value → H) :
    ReturnsInHanded {} Try.checked os 8 .any (Rows.wireWritesSpec.pre6 enc Try.prog Try.f8 Rows.wireWritesRow.domain false) (Rows.wireWritesSpec.post enc Try.prog Try.f8 false true false false) := by
  refine returnsInHanded_of_change (C := Try.checked) own started (by kernel_rfl) Try.func8
    (ChangeSpec.witness6 (enc := enc) (C := Try.checked) false ⟨#[], #[.agg (#[.int .i64 0, .int .i64 0, .int .i64 0, .slice none 0 0, .bool false] ++ Array.replicate 32 (.int .u8 0) ++ #[.slice none 0 0, .int .i64 0, .int .i64 0]), .agg (#[.int .i64 0, .int .i64 0, .int .i64 0, .slice none 0 0, .bool false] ++ Array.replicate 32 (.int .u8 0) ++ #[.slice none 0 0, .int .i64 0, .int .i64 0])], []⟩ 8 (by kernel_rfl) (by kernel_rfl) (by kernel_rfl) (by kernel_rfl)) ?_
  intro W base args ds gs before hval0 hW hcnd _
  have hval : ∀ (j : Nat) t v, Try.f8.params[j]? = some t → args[j]? = some v → Value.okWide Try.prog W .any base t v := hval0
  have hW' := hW
  obtain ⟨p, q, hA0, hV, rfl, hfz, hnd⟩ := hW
  have hA : DataW.TrodAll enc Try.prog W 0 (fun _ => true) true Try.f8.params.toList args.toList ds p := hA0
  rw [Try.params8] at hA hval
  obtain ⟨v0, vs0, d0, ds0, p0, q0, hargs, rfl, rfl, h0, r0⟩ := trodAll_cons hA
  obtain ⟨v1, vs1, d1, ds1, p1', q1', hargs1, rfl, rfl, h1, r1⟩ := trodAll_cons r0
  obtain ⟨rfl, rfl, rfl⟩ := trodAll_nil r1
  obtain rfl : args = #[v0, v1] := by cases args; simp_all
  obtain ⟨rfl, rfl⟩ := trodVars_none hV
  obtain ⟨m, p1, p2, hf, hk8, hd8, hL, hD, hrep⟩ := @read_msg8 stand H enc W base v0 d0 p0 (hval 0 30 v0 rfl rfl) h0
  obtain ⟨o, p3, p4, hfo, hk8o, hd8o, hLo, hDo, hrepo⟩ := @read_msg8 stand H enc W base v1 d1 p1' (hval 1 30 v1 rfl rfl) h1
  clear hA0 hval0
  letI : Val := stand
  refine (law_of (by kernel_rfl) (writes_run hf (hL _ _) (hD _ _) hk8 hd8 rfl rfl hfo (hLo _ _) (hDo _ _) hd8o rfl rfl) (.cons hrep (.cons hrepo .nil))).mono fun e W' ⟨he, hg⟩ => ?_
  subst he
  exact ⟨_, rfl, law_post laid rowed full (by rw [Try.params8]; decide +kernel) rfl rfl hW' rfl Try.underlying4 hg⟩

theorem over : Rows.wireWritesRow.holds Try.pinned (OpenSpec.ofChange Rows.wireWritesSpec) :=
  OpenClaim.holds_of_wide 8 Try.f8 rfl rfl rfl rfl rfl rfl rfl ⟨rfl, rfl, rfl, rfl, rfl⟩ rfl rfl rfl rfl rfl (by kernel_rfl) Try.func8 (by kernel_rfl)
    (of_decide_eq_true (by kernel_rfl)) (by unfold Func.isWrapper; first | (rw [if_pos (by decide +kernel)]; kernel_rfl) | (rw [if_neg (by decide +kernel)]; exact ⟨rfl, rfl⟩))
    (fun os started H enc _ => lifted os started H enc)

theorem proved : Rows.WireWritesSaid :=
  over
#print axioms proved
end Go.Proofs.Ytlinbbjobjnipaa.wireWrites
