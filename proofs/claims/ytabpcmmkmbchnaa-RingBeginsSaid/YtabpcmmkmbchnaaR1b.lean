/- The law of a new ring: each of its seven cases, run in trees, gives true. -/
import Derived.Test.YtabpcmmkmbchnaaR1a
set_option linter.unusedVariables false
namespace Go.Proofs.Ytabpcmmkmbchnaa.ringBegins
open Go AI

/-- What is known ahead of a run: the number within, the places of the first nodes. -/
def known (j : Int) : CallG := fun _ f args =>
  match f, args with
  | 6, [.pv (.sym 0), .pv (.int .i64 7)] => some (.pv (.int .i64 j))
  | 13, [.pv (.int .i64 0)] => some (bytesV id0)
  | 13, [.pv (.int .i64 1)] => some (bytesV id1)
  | 13, [.pv (.int .i64 2)] => some (bytesV id2)
  | 13, [.pv (.int .i64 3)] => some (bytesV id3)
  | _, _ => none

noncomputable def run (j : Int) : Bool := isT (callT Try.prog (known j) plains 100 20 3 [.pv (.sym 0)] [])

set_option maxRecDepth 100000
theorem run0 : run 0 = true := by kernel_rfl
theorem run1 : run 1 = true := by kernel_rfl
theorem run2 : run 2 = true := by kernel_rfl
theorem run3 : run 3 = true := by kernel_rfl
theorem run4 : run 4 = true := by kernel_rfl
theorem run5 : run 5 = true := by kernel_rfl
theorem run6 : run 6 = true := by kernel_rfl

end Go.Proofs.Ytabpcmmkmbchnaa.ringBegins
