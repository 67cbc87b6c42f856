/- The places of the first nodes: what the document's sha gives, run in trees. -/
import Derived.Test.YtabpcmmkmbchnaaR0
set_option linter.unusedVariables false
namespace Go.Proofs.Ytabpcmmkmbchnaa.ringBegins
open Go AI

def plains (f : Nat) : Bool := [5,6,12,13,20,21,23,25,26,30,32,33,37,38,47,48].contains f

def bytesV (l : List Int) : AV := .agg (l.map fun n => .pv (.int .u8 n))

def id0 : List Int := [161, 123, 198, 120, 104, 166, 240, 113, 203, 168, 183, 250, 174, 188, 38, 234, 139, 106, 226, 245, 239, 157, 209, 215, 80, 38, 71, 213, 53, 30, 211, 41]
def id1 : List Int := [106, 239, 126, 131, 145, 120, 105, 85, 202, 253, 208, 98, 91, 190, 45, 154, 216, 119, 223, 141, 146, 246, 160, 181, 99, 112, 64, 195, 180, 215, 103, 245]
def id2 : List Int := [21, 26, 135, 191, 98, 125, 140, 181, 178, 228, 11, 124, 42, 150, 22, 48, 31, 191, 74, 51, 250, 107, 201, 161, 225, 14, 196, 252, 70, 153, 113, 33]
def id3 : List Int := [109, 172, 237, 207, 24, 42, 65, 15, 57, 254, 136, 163, 253, 252, 110, 140, 26, 140, 134, 17, 195, 196, 123, 22, 1, 140, 243, 151, 191, 148, 39, 49]

/-- Do cells bear these numbers? -/
def sameB : List AV → List Int → Bool
  | [], [] => true
  | .pv (.int .u8 a) :: x, b :: y => decide (a = b) && sameB x y
  | _, _ => false

def isId (x : Option (AV × List Blk)) (l : List Int) : Bool :=
  match x with
  | some (.agg cs, _) => sameB cs l
  | _ => false

theorem sameB_eq : ∀ {x : List AV} {l : List Int}, sameB x l = true → x = l.map fun n => .pv (.int .u8 n)
  | [], [], _ => rfl
  | .pv (.int .u8 a) :: x, b :: y, h => by
    simp only [sameB, Bool.and_eq_true, decide_eq_true_eq] at h
    rw [h.1, sameB_eq h.2]
    rfl
  | [], _ :: _, h => by simp [sameB] at h
  | a :: x, [], h => by unfold sameB at h; split at h <;> simp_all

theorem isId_eq {x : Option (AV × List Blk)} {l : List Int} (h : isId x l = true) : ∃ hp, x = some (bytesV l, hp) := by
  unfold isId at h
  split at h
  · rename_i cs hp
    exact ⟨hp, by rw [sameB_eq h]; rfl⟩
  · simp at h

set_option maxRecDepth 100000
theorem sha0 : isId (callT Try.prog noS plains 100 20 13 [.pv (.int .i64 0)] []) id0 = true := by kernel_rfl
theorem sha1 : isId (callT Try.prog noS plains 100 20 13 [.pv (.int .i64 1)] []) id1 = true := by kernel_rfl
theorem sha2 : isId (callT Try.prog noS plains 100 20 13 [.pv (.int .i64 2)] []) id2 = true := by kernel_rfl
theorem sha3 : isId (callT Try.prog noS plains 100 20 13 [.pv (.int .i64 3)] []) id3 = true := by kernel_rfl

end Go.Proofs.Ytabpcmmkmbchnaa.ringBegins
