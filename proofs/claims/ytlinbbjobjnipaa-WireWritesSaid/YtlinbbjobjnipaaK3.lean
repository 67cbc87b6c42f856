/- What is known ahead holds; a law of one message. -/
import Derived.Test.YtlinbbjobjnipaaK2
set_option linter.unusedVariables false
set_option linter.unusedSimpArgs false
set_option linter.unusedSectionVars false
namespace Go.Proofs.Ytlinbbjobjnipaa
open Go AI Go.ChangeShapes Go.WideShapes Go.ChangeAt Go.RowKit

def plains0 (f : Nat) : Bool := [9,10,12,13,14,15,16,17,18,19,35,36,38,39,45,47,48,49].contains f

set_option maxRecDepth 100000 in
theorem known_run : isT (callT Try.prog noS plains0 100 20 9 [] []) = true := by kernel_rfl

abbrev stand : Val where
  V i := .bool true
  one i := rfl

theorem facts_cong : CongG facts := fun hp1 hp2 f args h => rfl

theorem facts_ok : @PureOk stand Try.prog facts := by
  letI : Val := stand
  intro hp f args r h
  unfold facts at h
  split at h
  · simp only [Option.some.injEq] at h; subst h
    obtain ⟨h', hr⟩ := isT_some known_run
    refine pure_sound (call_sound ext noS_sound noS_cong names orders plains0 100 20) hp 9 [] _ ?_
    unfold pureOf
    rw [if_pos (show (([] : List AV).all plainV) = true from rfl), callT_less _ _ _ _ _ _ _ _ _ hr]
    rfl
  · rename_i a m
    split at h
    · rename_i hc
      simp only [Option.some.injEq] at h; subst h
      intro X φ w vs R hvs
      obtain ⟨v, vs', hv, h1, h2⟩ := hvs.head
      obtain ⟨u, vs'', hu, h3, h4⟩ := h2.head
      have h5 := h4.of_nil
      subst h5; subst hu
      have : vs = #[.int .i64 a, .int .i64 m] := by
        have e1 : v = .int .i64 a := by cases h1 with | pv _ _ h => cases h; rfl
        have e2 : u = .int .i64 m := by cases h3 with | pv _ _ h => cases h; rfl
        subst e1; subst e2
        cases vs; simpa using hv
      subst this
      refine .inl ⟨bodied 10 (by kernel_rfl), (within_calls a m hc.1 hc.2 w).mono ?_⟩
      rintro e w' ⟨rfl, rfl⟩
      exact ⟨_, rfl, .pv _ _ (.int _ _), R, Evo.refl _ _ _⟩
    · simp at h
  · simp at h

/-- A law whose run by rules gives true. -/
theorem law_of {f lim d : Nat} {args : List AV} (hb : ((Try.prog.funcs[f]?).bind (·.body)).isSome = true) (hc : CA (callA Try.prog facts plains lim d) f args (AI.hf []) 0 fun v hp' nb' => v = .pv (.bool true)) {vs : Array Value} {w : World}
    (hvs : @RepL stand (fun _ => False) (AI.hf []) (fun _ => (0, 0)) w args vs.toList) : Calls Try.prog f vs w fun e w' => e = .returned (.bool true) ∧ Below w.heap.size w w' := by
  letI : Val := stand
  obtain ⟨v, h', hr, rfl⟩ := hc [] rfl rfl
  refine (call_plain ext facts_ok facts_cong names orders hb hr hvs).mono ?_
  rintro e w' ⟨y, rfl, φ', hy, hR, hE⟩
  rw [repA_bool hy]
  exact ⟨rfl, evo_below hE⟩

end Go.Proofs.Ytlinbbjobjnipaa
