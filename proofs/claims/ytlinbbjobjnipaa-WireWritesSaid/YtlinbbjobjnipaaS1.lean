/- Messages and their bytes, told plainly: what writing gives, for any message. -/
import Derived.Test.YtlinbbjobjnipaaA1
set_option linter.unusedVariables false
set_option linter.unusedSimpArgs false
namespace Go.Proofs.Ytlinbbjobjnipaa
open Go

structure M where
  kind : Int
  node : Int
  pred : Int
  list : List Int
  done : Bool
  key : List Int
  data : List Int
  lease : Int
  err : Int

def u8 (z : Int) : Int := z % 256

def isNode (n : Int) : Bool := decide (0 ≤ n) && decide (n < 10)

/-- Fields of a row, by kind. -/
def rowOf (k : Int) : Option (List Nat) :=
  if k = 1 then some []
  else if k = 2 then some [0, 2]
  else if k = 3 then some [1]
  else if k = 4 then some [4]
  else if k = 5 then some [5]
  else if k = 6 then some [3, 2]
  else if k = 7 then some [5]
  else if k = 8 then some [4, 6]
  else if k = 9 then some [5, 6, 1, 7]
  else if k = 10 then some [5, 6]
  else if k = 11 then some [5]
  else if k = 12 then some [6, 1, 7]
  else none

/-- A field's bytes, or what is wrong. -/
def fieldE (m : M) (f : Nat) : Except Int (List Int) :=
  match f with
  | 0 => if m.pred ≠ -1 ∧ isNode m.pred = false then .error 1 else .ok [u8 m.pred]
  | 1 => if isNode m.node = false then .error 1 else .ok [u8 m.node]
  | 2 => if m.list.length > 10 then .error 4 else if m.list.all isNode then .ok (u8 m.list.length :: m.list.map u8) else .error 1
  | 3 => .ok [if m.done then 1 else 0]
  | 4 => if m.err < 0 ∨ m.err > 20 then .error 1 else .ok [u8 m.err]
  | 5 => .ok m.key
  | 6 => if m.data.length > 6000 then .error 5 else .ok (u8 ((m.data.length : Int) / 256) :: u8 m.data.length :: m.data)
  | _ => if m.lease < 1 ∨ m.lease > 1000 then .error 1 else .ok [u8 (m.lease / 16777216), u8 (m.lease / 65536), u8 (m.lease / 256), u8 m.lease]

def fieldsE (m : M) : List Nat → List Int → Except Int (List Int)
  | [], b => .ok b
  | f :: fs, b =>
    match fieldE m f with
    | .ok r => fieldsE m fs (b ++ r)
    | .error e => .error e

/-- A message's bytes, or what is wrong. -/
def enc (m : M) : Except Int (List Int) :=
  match rowOf m.kind with
  | none => .error 3
  | some fs => fieldsE m fs [u8 m.kind]

/-- A message such as may be written. -/
def goodM (m : M) : M :=
  { kind := 1 + m.kind % 12, node := m.node % 10, pred := m.pred % 11 - 1, lease := 1 + m.lease % 1000, err := m.err % 21,
    list := (m.list.take 10).map (· % 10), done := m.done, key := m.key, data := m.data.take 6000 }

def lenOf (m : M) : Int :=
  if m.kind = 2 ∨ m.kind = 6 then 3 + m.list.length
  else if m.kind = 3 ∨ m.kind = 4 then 2
  else if m.kind = 5 ∨ m.kind = 7 ∨ m.kind = 11 then 33
  else if m.kind = 8 then 4 + m.data.length
  else if m.kind = 9 then 40 + m.data.length
  else if m.kind = 10 then 35 + m.data.length
  else if m.kind = 12 then 8 + m.data.length
  else 1

theorem isNode_mod (n : Int) : isNode (n % 10) = true := by
  unfold isNode
  have := Int.emod_nonneg n (show (10 : Int) ≠ 0 by omega)
  have := Int.emod_lt_of_pos n (show (0 : Int) < 10 by omega)
  simp; omega

/-- What is good is written, in just as many bytes. -/
theorem enc_good (m : M) (hk : m.key.length = 32) : ∃ r, enc (goodM m) = .ok ((goodM m).kind :: r) ∧ ((r.length : Int) + 1 = lenOf (goodM m)) := by
  have k0 := Int.emod_nonneg m.kind (show (12 : Int) ≠ 0 by omega)
  have k1 := Int.emod_lt_of_pos m.kind (show (0 : Int) < 12 by omega)
  have f0 : ∃ r, fieldE (goodM m) 0 = .ok r ∧ r.length = 1 := by
    have p0 := Int.emod_nonneg m.pred (show (11 : Int) ≠ 0 by omega)
    have p1 := Int.emod_lt_of_pos m.pred (show (0 : Int) < 11 by omega)
    refine ⟨[u8 (goodM m).pred], ?_, rfl⟩
    unfold fieldE
    simp only
    rw [if_neg]
    intro ⟨h1, h2⟩
    simp [goodM, isNode] at h1 h2
    omega
  have f1 : ∃ r, fieldE (goodM m) 1 = .ok r ∧ r.length = 1 := by
    refine ⟨[u8 (goodM m).node], ?_, rfl⟩
    unfold fieldE
    simp only
    rw [if_neg]
    rw [show (goodM m).node = m.node % 10 from rfl, isNode_mod]
    simp
  have f2 : ∃ r, fieldE (goodM m) 2 = .ok r ∧ r.length = 1 + (goodM m).list.length := by
    refine ⟨u8 (goodM m).list.length :: (goodM m).list.map u8, ?_, by simp; omega⟩
    unfold fieldE
    simp only
    rw [if_neg (by simp [goodM]; omega), if_pos]
    rw [List.all_eq_true]
    intro x hx
    obtain ⟨y, _, rfl⟩ := List.mem_map.1 hx
    exact isNode_mod y
  have f3 : ∃ r, fieldE (goodM m) 3 = .ok r ∧ r.length = 1 := ⟨_, rfl, rfl⟩
  have f4 : ∃ r, fieldE (goodM m) 4 = .ok r ∧ r.length = 1 := by
    have p0 := Int.emod_nonneg m.err (show (21 : Int) ≠ 0 by omega)
    have p1 := Int.emod_lt_of_pos m.err (show (0 : Int) < 21 by omega)
    refine ⟨[u8 (goodM m).err], ?_, rfl⟩
    unfold fieldE
    simp only
    rw [if_neg (by simp [goodM]; omega)]
  have f5 : ∃ r, fieldE (goodM m) 5 = .ok r ∧ r.length = 32 := ⟨_, rfl, hk⟩
  have f6 : ∃ r, fieldE (goodM m) 6 = .ok r ∧ r.length = 2 + (goodM m).data.length := by
    refine ⟨u8 (((goodM m).data.length : Int) / 256) :: u8 (goodM m).data.length :: (goodM m).data, ?_, by simp; omega⟩
    unfold fieldE
    simp only
    rw [if_neg (by simp [goodM]; omega)]
  have f7 : ∃ r, fieldE (goodM m) 7 = .ok r ∧ r.length = 4 := by
    have p0 := Int.emod_nonneg m.lease (show (1000 : Int) ≠ 0 by omega)
    have p1 := Int.emod_lt_of_pos m.lease (show (0 : Int) < 1000 by omega)
    refine ⟨[u8 ((goodM m).lease / 16777216), u8 ((goodM m).lease / 65536), u8 ((goodM m).lease / 256), u8 (goodM m).lease], ?_, rfl⟩
    unfold fieldE
    simp only
    rw [if_neg (by simp [goodM]; omega)]
  obtain ⟨r0, e0, l0⟩ := f0
  obtain ⟨r1, e1, l1⟩ := f1
  obtain ⟨r2, e2, l2⟩ := f2
  obtain ⟨r3, e3, l3⟩ := f3
  obtain ⟨r4, e4, l4⟩ := f4
  obtain ⟨r5, e5, l5⟩ := f5
  obtain ⟨r6, e6, l6⟩ := f6
  obtain ⟨r7, e7, l7⟩ := f7
  have hkind : (goodM m).kind = 1 + m.kind % 12 := rfl
  have hu : u8 (goodM m).kind = (goodM m).kind := by unfold u8; omega
  have hcase : m.kind % 12 = 0 ∨ m.kind % 12 = 1 ∨ m.kind % 12 = 2 ∨ m.kind % 12 = 3 ∨ m.kind % 12 = 4 ∨ m.kind % 12 = 5 ∨ m.kind % 12 = 6 ∨ m.kind % 12 = 7 ∨ m.kind % 12 = 8 ∨ m.kind % 12 = 9 ∨ m.kind % 12 = 10 ∨ m.kind % 12 = 11 := by omega
  unfold enc
  rw [hu]
  rcases hcase with h | h | h | h | h | h | h | h | h | h | h | h <;> rw [h] at hkind <;> simp only [hkind] <;>
    simp [rowOf, fieldsE, lenOf, hkind, e0, e1, e2, e3, e4, e5, e6, e7, l0, l1, l2, l3, l4, l5, l6, l7] <;> omega

end Go.Proofs.Ytlinbbjobjnipaa
