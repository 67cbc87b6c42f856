/- Reading: copies of bytes. -/
import Derived.Test.YtlinbbjobjnipaaP2
set_option linter.unusedVariables false
set_option linter.unusedSimpArgs false
set_option linter.unusedSectionVars false
namespace Go.Proofs.Ytlinbbjobjnipaa
open Go AI

set_option maxHeartbeats 4000000
set_option maxRecDepth 10000

theorem eq27_nil : binOpA Try.prog .eql 27 (.pv .nilSlice) (.pv .nilSlice) = some (.pv (.bool true)) := by kernel_rfl
theorem eq27_zcap : binOpA Try.prog .eql 27 (.pv .zcap) (.pv .nilSlice) = some (.pv (.bool false)) := by kernel_rfl
theorem eq27_ros (a b : Nat) (c : List PV) : binOpA Try.prog .eql 27 (.pv (.ros a b c)) (.pv .nilSlice) = some (.pv (.bool false)) := by kernel_rfl
theorem eq27_own (a b c d e f : Nat) (x : Bool) : binOpA Try.prog .eql 27 (.slice a b c d e f x) (.pv .nilSlice) = some (.pv (.bool false)) := by kernel_rfl
theorem bs27_0 (nb : Nat) : buildSliceA Try.prog nb 27 0 [] = some (.new (.slice nb 1 0 0 0 1 true) (.cells 1 [])) := by kernel_rfl

def CloneOk (l : List PV) (hp : Hp) (nb : Nat) (v : AV) (hp' : Hp) (nb' : Nat) : Prop :=
  Row hp' nb' v l ∧ (∀ id, ownOf v = some id → nb ≤ id) ∧ After hp nb (.pv .nilSlice) hp' nb'

theorem clone_calls (lim d : Nat) {hp : Hp} {nb : Nat} {v : AV} {l : List PV} (hr : Row hp nb v l) (hl : l.length ≤ 100000) : CA (callA Try.prog facts plains lim (d + 1)) 45 [v] hp nb (CloneOk l hp nb) := by
  refine ca_body (fn := Try.f45) (c := bodyOf Try.f45) Try.func45 rfl (by show 1 ≤ 8; omega) ?_
  show EX _ _ _ _ _ 8 _ _ _ _ _
  unfold bodyOf Try.f45
  refine ex_seq (ex_region ?_)
  refine ro_assign (by simp only [evalF, upd, arg0, argS, ofConst, ofCell, Nat.reduceEqDiff, reduceIte] <;> rfl) (by decide) ?_
  refine ro_nil ?_
  try simp only
  by_cases hn : v = .pv .nilSlice
  · subst hn
    obtain rfl : l = [] := by cases hr; rfl
    refine ex_seq (ex_seq (ex_region ?_))
    refine ro_move (by simp only [evalF, upd, arg0, argS, ofConst, ofCell, Nat.reduceEqDiff, reduceIte] <;> rfl) (by decide) ?_
    refine ro_bin (by simp only [evalF, upd, arg0, argS, ofConst, ofCell, Nat.reduceEqDiff, reduceIte] <;> rfl) (by simp only [evalF, upd, arg0, argS, ofConst, ofCell, Nat.reduceEqDiff, reduceIte] <;> rfl) (by exact (eq27_nil)) (by decide) ?_
    refine ro_nil ?_
    try simp only
    refine ex_cond (t := true) (by simp only [evalF, upd, arg0, argS, ofConst, ofCell, Nat.reduceEqDiff, reduceIte] <;> rfl) (fun _ => ?_) (fun h => by simp at h)
    refine ex_seq (ex_region ?_)
    refine ro_assign (by simp only [evalF, upd, arg0, argS, ofConst, ofCell, Nat.reduceEqDiff, reduceIte] <;> rfl) (by decide) ?_
    refine ro_nil ?_
    try simp only
    refine ex_ret ?_
    refine ⟨_, rfl, ?_⟩
    simp only [upd, Nat.reduceEqDiff, reduceIte]
    exact ⟨.nil, by simp [ownOf], after_refl _ _ _⟩
  · have heq : binOpA Try.prog .eql 27 v (.pv .nilSlice) = some (.pv (.bool false)) := by
      cases hr with
      | nil => exact absurd rfl hn
      | zcap => exact eq27_zcap
      | ros n l h => exact eq27_ros _ _ _
      | own => exact eq27_own _ _ _ _ _ _ _
    refine ex_seq (ex_seq (ex_region ?_))
    refine ro_move (by simp only [evalF, upd, arg0, argS, ofConst, ofCell, Nat.reduceEqDiff, reduceIte] <;> rfl) (by decide) ?_
    refine ro_bin (by simp only [evalF, upd, arg0, argS, ofConst, ofCell, Nat.reduceEqDiff, reduceIte] <;> rfl) (by simp only [evalF, upd, arg0, argS, ofConst, ofCell, Nat.reduceEqDiff, reduceIte] <;> rfl) (by exact (heq)) (by decide) ?_
    refine ro_nil ?_
    try simp only
    refine ex_cond (t := false) (by simp only [evalF, upd, arg0, argS, ofConst, ofCell, Nat.reduceEqDiff, reduceIte] <;> rfl) (fun h => by simp at h) (fun _ => ex_skip ?_)
    try simp only
    refine ex_seq (ex_region ?_)
    refine ro_buildSlice rfl (bs27_0 _) (by decide) ?_
    refine ro_move (by simp only [evalF, upd, arg0, argS, ofConst, ofCell, Nat.reduceEqDiff, reduceIte] <;> rfl) (by decide) ?_
    have ha0 : After hp nb (.pv .nilSlice) (setHp hp nb (.cells 1 [])) (nb + 1) := after_new hp nb _ _ (by simp)
    have hr1 : Row (setHp hp nb (.cells 1 [])) (nb + 1) v l := hr.keep (Nat.le_succ _) (fun id hid _ => by simp [setHp, show id ≠ nb by omega])
    refine ro_append (r := l) (l := []) st27 Try.underlying27 (by simp only [evalF, upd, arg0, argS, ofConst, ofCell, Nat.reduceEqDiff, reduceIte] <;> rfl) (by simp only [evalF, upd, arg0, argS, ofConst, ofCell, Nat.reduceEqDiff, reduceIte] <;> rfl) (.own nb 1 0 true [] rfl (by omega) (by simp [setHp])) (row_src hr1) (by simp; omega) (by decide) ?_
    intro v' hp' nb' hg' ha' ho'
    refine ro_assign (by simp only [evalF, upd, arg0, argS, ofConst, ofCell, Nat.reduceEqDiff, reduceIte] <;> rfl) (by decide) ?_
    refine ro_nil ?_
    try simp only
    refine ex_ret ?_
    refine ⟨v', by simp [resF, resOneF, upd], hg'.row, fun id h => ?_, after_trans ha0 ha' (fun id h => .inr (by simp [ownOf] at h; omega))⟩
    rcases ho' id h with h | h
    · simp [ownOf] at h; omega
    · omega

section
variable {lim n : Nat} {ops rest : List Oper} {g : Gm} {hp : Hp} {nb : Nat} {Q : Gm → Hp → Nat → Prop}

theorem ro_clone (d0 : Nat) {d : Nat} {x : Operand} {ats : Array TypeId} {ty : TypeId} {pos : String} {aft : Array Edge} {v : AV} {l : List PV} (hr : Row hp nb v l) (hl : l.length ≤ 100000)
    (hx : evalF g x = v) (hd : d < n)
    (h2 : ∀ v' hp' nb', CloneOk l hp nb v' hp' nb' → RO Try.prog plains (callA Try.prog facts plains lim (d0 + 1)) (orS facts (pureOf (callA Try.prog facts plains lim (d0 + 1)))) n ops rest (upd g d v') hp' nb' Q) :
    RO Try.prog plains (callA Try.prog facts plains lim (d0 + 1)) (orS facts (pureOf (callA Try.prog facts plains lim (d0 + 1)))) n ops ({ dst := some d, op := .call { callee := .value (.func 45), args := #[x], argTypes := ats }, type := ty, pos := pos, after := aft, guard := none } :: rest) g hp nb Q := by
  have hxs : (#[x] : Array Operand).toList.map (evalF g) = [v] := by simp [hx]
  cases ho : ownOf v with
  | some id =>
    have hpl : ([v] : List AV).all plainV = false := by
      cases hr with
      | own => rfl
      | _ => simp [ownOf] at ho
    exact ro_call rfl hxs rfl hpl (clone_calls lim d0 hr hl) hd h2
  | none =>
    have hpl : ([v] : List AV).all plainV = true := by
      cases hr with
      | own => simp [ownOf] at ho
      | _ => rfl
    refine ro_add hxs rfl hpl (clone_calls lim d0 (row_any hr ho) hl) hd ?_
    rintro v0 h' ⟨r1, _, ha⟩
    obtain ⟨bs, e1, e2, e3, e4, e5, e6⟩ := add_all (ha.2.2 tidy_nil) hp nb
    obtain ⟨v1, f1, f2, f3, _⟩ := e5 _ _ r1
    refine ⟨v1, bs, ?_, e1, h2 v1 _ _ ⟨f2, f3, by omega, fun id hid _ => e3 id hid, e4⟩⟩
    cases v0 with
    | agg cs => simp [shA] at f1
    | tuple cs => simp [shA] at f1
    | _ => exact f1
end
end Go.Proofs.Ytlinbbjobjnipaa
