/- The law of bounds: each of its 24 cases, run by the plain interpreter, gives true. -/
import Derived.Test.YtlinbbjobjnipaaW0
set_option linter.unusedVariables false
namespace Go.Proofs.Ytlinbbjobjnipaa.wireBounds
open Go AI Go.ChangeShapes Go.WideShapes Go.ChangeAt Go.RowKit

def plains (f : Nat) : Bool := [9,10,12,13,14,15,16,17,18,19,35,36,38,39,45,47,48,49].contains f

def known (j k : Int) : CallG := fun f args =>
  match f, args with
  | 10, [.pv (.sym 0), .pv (.int .i64 6)] => some (.pv (.int .i64 j))
  | 10, [.pv (.sym 1), .pv (.int .i64 4)] => some (.pv (.int .i64 k))
  | _, _ => none

noncomputable def run (j k : Int) : Bool := isT (callA Try.prog (known j k) plains 100 20 3 [.pv (.sym 0), .pv (.sym 1)] [])

set_option maxRecDepth 100000
theorem run00 : run 0 0 = true := by kernel_rfl
theorem run01 : run 0 1 = true := by kernel_rfl
theorem run02 : run 0 2 = true := by kernel_rfl
theorem run03 : run 0 3 = true := by kernel_rfl
theorem run10 : run 1 0 = true := by kernel_rfl
theorem run11 : run 1 1 = true := by kernel_rfl
theorem run12 : run 1 2 = true := by kernel_rfl
theorem run13 : run 1 3 = true := by kernel_rfl
theorem run20 : run 2 0 = true := by kernel_rfl
theorem run21 : run 2 1 = true := by kernel_rfl
theorem run22 : run 2 2 = true := by kernel_rfl
theorem run23 : run 2 3 = true := by kernel_rfl
theorem run30 : run 3 0 = true := by kernel_rfl
theorem run31 : run 3 1 = true := by kernel_rfl
theorem run32 : run 3 2 = true := by kernel_rfl
theorem run33 : run 3 3 = true := by kernel_rfl
theorem run40 : run 4 0 = true := by kernel_rfl
theorem run41 : run 4 1 = true := by kernel_rfl
theorem run42 : run 4 2 = true := by kernel_rfl
theorem run43 : run 4 3 = true := by kernel_rfl
theorem run50 : run 5 0 = true := by kernel_rfl
theorem run51 : run 5 1 = true := by kernel_rfl
theorem run52 : run 5 2 = true := by kernel_rfl
theorem run53 : run 5 3 = true := by kernel_rfl

theorem runs (j k : Int) (hj : 0 ≤ j ∧ j < 6) (hk : 0 ≤ k ∧ k < 4) : run j k = true := by
  obtain rfl | rfl | rfl | rfl | rfl | rfl : j = 0 ∨ j = 1 ∨ j = 2 ∨ j = 3 ∨ j = 4 ∨ j = 5 := by omega
  all_goals obtain rfl | rfl | rfl | rfl : k = 0 ∨ k = 1 ∨ k = 2 ∨ k = 3 := by omega
  · exact run00
  · exact run01
  · exact run02
  · exact run03
  · exact run10
  · exact run11
  · exact run12
  · exact run13
  · exact run20
  · exact run21
  · exact run22
  · exact run23
  · exact run30
  · exact run31
  · exact run32
  · exact run33
  · exact run40
  · exact run41
  · exact run42
  · exact run43
  · exact run50
  · exact run51
  · exact run52
  · exact run53

end Go.Proofs.Ytlinbbjobjnipaa.wireBounds
