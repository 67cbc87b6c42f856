/- Facts of the program of these rows: names, orders, types, the machine's own function; the number within. -/
import Derived.Test.YtabpcmmkmbchnaaRows
import Derived.Test.YtabpcmmkmbchnaaA16
import Derived.Test.YtabpcmmkmbchnaaA17
set_option linter.unusedVariables false
namespace Go.Proofs.Ytabpcmmkmbchnaa
open Go AI Go.ChangeShapes Go.WideShapes Go.ChangeAt Go.RowKit

theorem own : ownKnob Try.prog.godebug = none := by kernel_rfl

theorem orders : Try.prog.follows .mixedOrders = true := by kernel_rfl

theorem names (f : Nat) (fn : Func) (h : Try.prog.funcs[f]? = some fn) : (fn.name == "runtime.NumGoroutine") = false := by
  have hall : (Try.prog.funcs.all fun fn => !(fn.name == "runtime.NumGoroutine")) = true := by kernel_rfl
  have := Array.all_eq_true'.1 hall fn (Array.mem_of_getElem? h)
  simpa using this

theorem laid : laidOutB Try.prog = true := by kernel_rfl
theorem rowed : mapsRowed Try.prog = true := by kernel_rfl
theorem full : ((List.range Try.prog.types.size).all fun t => match Try.prog.underlying t with | some (.slice e) => decide (0 < Try.prog.cellsOf e) | _ => true) = true := by kernel_rfl

theorem other : (Try.prog.funcs.toList.zipIdx.all fun p => p.2 == 49 || !(p.1.name == "internal/bytealg.Compare")) = true := by kernel_rfl

theorem ext : ExtOk Try.prog := by
  intro f fn h hn hb
  have h1 := List.all_eq_true.1 other (fn, f) (by
    rw [List.mem_zipIdx_iff_getElem?]
    simpa using h)
  rw [hn] at h1
  have hf : f = 49 := by simpa using h1
  subst hf
  rw [Try.func49] at h
  cases h
  exact ⟨by rfl, by rfl⟩

def isT : Option (AV × List Blk) → Bool
  | some (.pv (.bool true), _) => true
  | _ => false

theorem isT_some {x : Option (AV × List Blk)} (h : isT x = true) : ∃ hp, x = some (.pv (.bool true), hp) := by
  unfold isT at h
  split at h
  · exact ⟨_, rfl⟩
  · simp at h

theorem bodied (f : Nat) (h : ((Try.prog.funcs[f]?).bind (·.body)).isSome = true) : Bodied Try.prog f := by
  cases hf : Try.prog.funcs[f]? with
  | none => rw [hf] at h; simp at h
  | some fn =>
    rw [hf] at h
    refine ⟨fn, hf, names f fn hf, ?_⟩
    simpa using h

theorem within_calls (a n : Int) (ha : (Lit.int .i64 a).wf = true) (hn : 0 < n ∧ n ≤ 100000) (w : World) :
    Calls Try.prog 6 #[.int .i64 a, .int .i64 n] w fun e w' => e = .returned (.int .i64 (a % n)) ∧ w' = w := by
  have hx : IntKind.i64.min ≤ a ∧ a ≤ IntKind.i64.max := by simpa [Lit.wf] using ha
  simp only [IntKind.min, IntKind.max, IntKind.signed, IntKind.bits, if_true] at hx
  go_enter Try.func6, Try.ntmps6
  go_wp2
  all_goals go_ret
  all_goals
    have h1 := Int.emod_nonneg a (show n ≠ 0 by omega)
    have h2 := Int.emod_lt_of_pos a hn.1
    have h3 := Int.tmod_eq_emod (a := a) (b := n)
    have h4 : ((n.natAbs : Nat) : Int) = n := by omega
    refine ⟨?_, rfl⟩
  · have h5 : a.tmod n + n = a % n := by split at h3 <;> omega
    show Ending.returned (.int .i64 (wrap64 (a.tmod n + n))) = _
    rw [h5, show wrap64 (a % n) = a % n by unfold wrap64; omega]
  · have h5 : a.tmod n = a % n := by split at h3 <;> omega
    show Ending.returned (.int .i64 (a.tmod n)) = _
    rw [h5]

/-- A law whose run in trees gives true. -/
theorem law_calls [Val] {S : CallG} (hS : PureOk Try.prog S) (hSc : CongG S) {pure : Nat → Bool} {lim d f : Nat} {args : List AV} (hb : ((Try.prog.funcs[f]?).bind (·.body)).isSome = true)
    (hrun : isT (callT Try.prog S pure lim d f args []) = true) {vs : Array Value} {w : World}
    (hvs : RepL (fun _ => False) (hf []) (fun _ => (0, 0)) w args vs.toList) :
    Calls Try.prog f vs w fun e w' => e = .returned (.bool true) ∧ Below w.heap.size w w' := by
  obtain ⟨hp, hr⟩ := isT_some hrun
  refine (call_plain ext hS hSc names orders hb (callT_less _ _ _ _ _ _ _ _ _ hr) hvs).mono ?_
  rintro e w' ⟨y, rfl, φ', hy, hR, hE⟩
  rw [repA_bool hy]
  exact ⟨rfl, evo_below hE⟩

end Go.Proofs.Ytabpcmmkmbchnaa
