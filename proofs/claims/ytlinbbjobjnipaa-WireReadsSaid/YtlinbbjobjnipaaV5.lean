/- What the proof needs, part 5. Joined by pack.py. -/
import Derived.Test.YtlinbbjobjnipaaV4
set_option linter.unusedVariables false
set_option linter.unusedSimpArgs false
set_option linter.unusedSectionVars false
namespace Go.Proofs.Ytlinbbjobjnipaa
open Go AI
set_option maxHeartbeats 4000000
set_option maxRecDepth 10000
/-- A part of a code, by the way to it. -/
def codeAt : Code → List Bool → Code
  | c, [] => c
  | .seq a b, t :: r => codeAt (if t then b else a) r
  | c, _ => c
section
variable {F : CallF} {G : CallG} {hp : Hp} {nb i1 i2 : Nat} {a b : M} {L D L2 D2 : AV} {g : Gm}
theorem rest17_2 (ka : a.key.length = 32) (kb : b.key.length = 32) (hk : a.kind = 2) (hkb : b.kind = 2) (h1 : AI.look hp i1 1 = some (mcells a L D)) (h2 : AI.look hp i2 1 = some (mcells b L2 D2)) (g2 : g 2 = .ptr i1 1 0) (g3 : g 3 = .ptr i2 1 0) (g5 : g 5 = .pv (.bool (a.key == b.key))) (g6 : g 6 = .pv (.bool (a.data == b.data))) (g7 : g 7 = .pv (.bool (a.list == b.list))) :
    EX Try.prog plains F G 10000 124 (codeAt (bodyOf Try.f17) [true, true, true]) g hp nb fun x g' hp' nb' => x = .ret ∧ g' 4 = .pv (.bool (sameM a b)) ∧ hp' = hp ∧ nb' = nb := by
  have hs : sameM a b = (sameF a b 0 && sameF a b 2) := by simp [sameM, rowOf, hk, hkb, Bool.and_assoc]
  show EX _ _ _ _ _ 124 _ _ _ _ _
  simp only [codeAt, bodyOf, Try.f17, if_true]
  refine ex_seq (ex_seq (ex_region ?_))
  refine ro_fieldAddr (by simp only [evalF, upd, arg0, argS, ofConst, ofCell, Nat.reduceEqDiff, reduceIte, g2, g3, g5, g6, g7] <;> rfl) (by exact (fa30_0 _ _ _)) (by decide) ?_
  refine ro_load (by simp only [evalF, upd, arg0, argS, ofConst, ofCell, Nat.reduceEqDiff, reduceIte, g2, g3, g5, g6, g7] <;> rfl) (by exact (load1 ag3 h1 mc0)) (by decide) ?_
  refine ro_nil ?_
  try simp only
  refine ex_block ?_
  refine ex_test_t (by simp only [evalF, upd, arg0, argS, ofConst, ofCell, Nat.reduceEqDiff, reduceIte, g2, g3, g5, g6, g7] <;> rfl) (by omega) (by decide) (by decide) ?_
  refine ex_seq (ex_region ?_)
  refine ro_fieldAddr (by simp only [evalF, upd, arg0, argS, ofConst, ofCell, Nat.reduceEqDiff, reduceIte, g2, g3, g5, g6, g7] <;> rfl) (by exact (fa30_2 _ _ _)) (by decide) ?_
  refine ro_load (by simp only [evalF, upd, arg0, argS, ofConst, ofCell, Nat.reduceEqDiff, reduceIte, g2, g3, g5, g6, g7] <;> rfl) (by exact (load1 ag3 h1 mc2)) (by decide) ?_
  refine ro_fieldAddr (by simp only [evalF, upd, arg0, argS, ofConst, ofCell, Nat.reduceEqDiff, reduceIte, g2, g3, g5, g6, g7] <;> rfl) (by exact (fa30_2 _ _ _)) (by decide) ?_
  refine ro_load (by simp only [evalF, upd, arg0, argS, ofConst, ofCell, Nat.reduceEqDiff, reduceIte, g2, g3, g5, g6, g7] <;> rfl) (by exact (load1 ag3 h2 mc2)) (by decide) ?_
  refine ro_bin (by simp only [evalF, upd, arg0, argS, ofConst, ofCell, Nat.reduceEqDiff, reduceIte, g2, g3, g5, g6, g7] <;> rfl) (by simp only [evalF, upd, arg0, argS, ofConst, ofCell, Nat.reduceEqDiff, reduceIte, g2, g3, g5, g6, g7] <;> rfl) (by exact (eql_v)) (by decide) ?_
  refine ro_move (by simp only [evalF, upd, arg0, argS, ofConst, ofCell, Nat.reduceEqDiff, reduceIte, g2, g3, g5, g6, g7] <;> rfl) (by decide) ?_
  refine ro_gsel (b := a.pred == b.pred) (want := true) (v := .pv (.bool (a.list == b.list))) rfl (by simp only [evalF, upd, arg0, argS, ofConst, ofCell, Nat.reduceEqDiff, reduceIte, g2, g3, g5, g6, g7] <;> rfl) rfl (fun hb => by simp only [primA, evalF, upd, ofConst, ofCell, Nat.reduceEqDiff, reduceIte, g2, g3, g5, g6, g7, selV_hit hb] <;> rfl) (by decide) ?_
  refine ro_pand (b := a.pred == b.pred) (z := a.list == b.list) (by simp only [evalF, upd, arg0, argS, ofConst, ofCell, Nat.reduceEqDiff, reduceIte, g2, g3, g5, g6, g7] <;> rfl) (by simp only [evalF, upd, ofConst, ofCell, Nat.reduceEqDiff, reduceIte, g2, g3, g5, g6, g7] <;> rfl) (by decide) ?_
  refine ro_assign (by simp only [evalF, upd, arg0, argS, ofConst, ofCell, Nat.reduceEqDiff, reduceIte, g2, g3, g5, g6, g7] <;> rfl) (by decide) ?_
  refine ro_nil ?_
  try simp only
  refine ex_ret ?_
  exact ⟨rfl, by rw [hs]; simp [upd, sameF, ofConst, ofCell, evalF, g5, g6, g7, Bool.and_assoc], rfl, rfl⟩
theorem rest17_3 (ka : a.key.length = 32) (kb : b.key.length = 32) (hk : a.kind = 3) (hkb : b.kind = 3) (h1 : AI.look hp i1 1 = some (mcells a L D)) (h2 : AI.look hp i2 1 = some (mcells b L2 D2)) (g2 : g 2 = .ptr i1 1 0) (g3 : g 3 = .ptr i2 1 0) (g5 : g 5 = .pv (.bool (a.key == b.key))) (g6 : g 6 = .pv (.bool (a.data == b.data))) (g7 : g 7 = .pv (.bool (a.list == b.list))) :
    EX Try.prog plains F G 10000 124 (codeAt (bodyOf Try.f17) [true, true, true]) g hp nb fun x g' hp' nb' => x = .ret ∧ g' 4 = .pv (.bool (sameM a b)) ∧ hp' = hp ∧ nb' = nb := by
  have hs : sameM a b = (sameF a b 1) := by simp [sameM, rowOf, hk, hkb, Bool.and_assoc]
  show EX _ _ _ _ _ 124 _ _ _ _ _
  simp only [codeAt, bodyOf, Try.f17, if_true]
  refine ex_seq (ex_seq (ex_region ?_))
  refine ro_fieldAddr (by simp only [evalF, upd, arg0, argS, ofConst, ofCell, Nat.reduceEqDiff, reduceIte, g2, g3, g5, g6, g7] <;> rfl) (by exact (fa30_0 _ _ _)) (by decide) ?_
  refine ro_load (by simp only [evalF, upd, arg0, argS, ofConst, ofCell, Nat.reduceEqDiff, reduceIte, g2, g3, g5, g6, g7] <;> rfl) (by exact (load1 ag3 h1 mc0)) (by decide) ?_
  refine ro_nil ?_
  try simp only
  refine ex_block ?_
  refine ex_test_f (by simp only [evalF, upd, arg0, argS, ofConst, ofCell, Nat.reduceEqDiff, reduceIte, g2, g3, g5, g6, g7] <;> rfl) (by omega) (by decide) (by decide) ?_
  refine ex_test_t (by simp only [evalF, upd, arg0, argS, ofConst, ofCell, Nat.reduceEqDiff, reduceIte, g2, g3, g5, g6, g7] <;> rfl) (by omega) (by decide) (by decide) ?_
  refine ex_seq (ex_region ?_)
  refine ro_fieldAddr (by simp only [evalF, upd, arg0, argS, ofConst, ofCell, Nat.reduceEqDiff, reduceIte, g2, g3, g5, g6, g7] <;> rfl) (by exact (fa30_1 _ _ _)) (by decide) ?_
  refine ro_load (by simp only [evalF, upd, arg0, argS, ofConst, ofCell, Nat.reduceEqDiff, reduceIte, g2, g3, g5, g6, g7] <;> rfl) (by exact (load1 ag3 h1 mc1)) (by decide) ?_
  refine ro_fieldAddr (by simp only [evalF, upd, arg0, argS, ofConst, ofCell, Nat.reduceEqDiff, reduceIte, g2, g3, g5, g6, g7] <;> rfl) (by exact (fa30_1 _ _ _)) (by decide) ?_
  refine ro_load (by simp only [evalF, upd, arg0, argS, ofConst, ofCell, Nat.reduceEqDiff, reduceIte, g2, g3, g5, g6, g7] <;> rfl) (by exact (load1 ag3 h2 mc1)) (by decide) ?_
  refine ro_bin (by simp only [evalF, upd, arg0, argS, ofConst, ofCell, Nat.reduceEqDiff, reduceIte, g2, g3, g5, g6, g7] <;> rfl) (by simp only [evalF, upd, arg0, argS, ofConst, ofCell, Nat.reduceEqDiff, reduceIte, g2, g3, g5, g6, g7] <;> rfl) (by exact (eql_v)) (by decide) ?_
  refine ro_assign (by simp only [evalF, upd, arg0, argS, ofConst, ofCell, Nat.reduceEqDiff, reduceIte, g2, g3, g5, g6, g7] <;> rfl) (by decide) ?_
  refine ro_nil ?_
  try simp only
  refine ex_ret ?_
  exact ⟨rfl, by rw [hs]; simp [upd, sameF, ofConst, ofCell, evalF, g5, g6, g7, Bool.and_assoc], rfl, rfl⟩
theorem rest17_4 (ka : a.key.length = 32) (kb : b.key.length = 32) (hk : a.kind = 4) (hkb : b.kind = 4) (h1 : AI.look hp i1 1 = some (mcells a L D)) (h2 : AI.look hp i2 1 = some (mcells b L2 D2)) (g2 : g 2 = .ptr i1 1 0) (g3 : g 3 = .ptr i2 1 0) (g5 : g 5 = .pv (.bool (a.key == b.key))) (g6 : g 6 = .pv (.bool (a.data == b.data))) (g7 : g 7 = .pv (.bool (a.list == b.list))) :
    EX Try.prog plains F G 10000 124 (codeAt (bodyOf Try.f17) [true, true, true]) g hp nb fun x g' hp' nb' => x = .ret ∧ g' 4 = .pv (.bool (sameM a b)) ∧ hp' = hp ∧ nb' = nb := by
  have hs : sameM a b = (sameF a b 4) := by simp [sameM, rowOf, hk, hkb, Bool.and_assoc]
  show EX _ _ _ _ _ 124 _ _ _ _ _
  simp only [codeAt, bodyOf, Try.f17, if_true]
  refine ex_seq (ex_seq (ex_region ?_))
  refine ro_fieldAddr (by simp only [evalF, upd, arg0, argS, ofConst, ofCell, Nat.reduceEqDiff, reduceIte, g2, g3, g5, g6, g7] <;> rfl) (by exact (fa30_0 _ _ _)) (by decide) ?_
  refine ro_load (by simp only [evalF, upd, arg0, argS, ofConst, ofCell, Nat.reduceEqDiff, reduceIte, g2, g3, g5, g6, g7] <;> rfl) (by exact (load1 ag3 h1 mc0)) (by decide) ?_
  refine ro_nil ?_
  try simp only
  refine ex_block ?_
  refine ex_test_f (by simp only [evalF, upd, arg0, argS, ofConst, ofCell, Nat.reduceEqDiff, reduceIte, g2, g3, g5, g6, g7] <;> rfl) (by omega) (by decide) (by decide) ?_
  refine ex_test_f (by simp only [evalF, upd, arg0, argS, ofConst, ofCell, Nat.reduceEqDiff, reduceIte, g2, g3, g5, g6, g7] <;> rfl) (by omega) (by decide) (by decide) ?_
  refine ex_test_t (by simp only [evalF, upd, arg0, argS, ofConst, ofCell, Nat.reduceEqDiff, reduceIte, g2, g3, g5, g6, g7] <;> rfl) (by omega) (by decide) (by decide) ?_
  refine ex_seq (ex_region ?_)
  refine ro_fieldAddr (by simp only [evalF, upd, arg0, argS, ofConst, ofCell, Nat.reduceEqDiff, reduceIte, g2, g3, g5, g6, g7] <;> rfl) (by exact (fa30_8 _ _ _)) (by decide) ?_
  refine ro_load (by simp only [evalF, upd, arg0, argS, ofConst, ofCell, Nat.reduceEqDiff, reduceIte, g2, g3, g5, g6, g7] <;> rfl) (by exact (load1 ag28 h1 (mc39 ka))) (by decide) ?_
  refine ro_fieldAddr (by simp only [evalF, upd, arg0, argS, ofConst, ofCell, Nat.reduceEqDiff, reduceIte, g2, g3, g5, g6, g7] <;> rfl) (by exact (fa30_8 _ _ _)) (by decide) ?_
  refine ro_load (by simp only [evalF, upd, arg0, argS, ofConst, ofCell, Nat.reduceEqDiff, reduceIte, g2, g3, g5, g6, g7] <;> rfl) (by exact (load1 ag28 h2 (mc39 kb))) (by decide) ?_
  refine ro_bin (by simp only [evalF, upd, arg0, argS, ofConst, ofCell, Nat.reduceEqDiff, reduceIte, g2, g3, g5, g6, g7] <;> rfl) (by simp only [evalF, upd, arg0, argS, ofConst, ofCell, Nat.reduceEqDiff, reduceIte, g2, g3, g5, g6, g7] <;> rfl) (by exact (eql_v)) (by decide) ?_
  refine ro_assign (by simp only [evalF, upd, arg0, argS, ofConst, ofCell, Nat.reduceEqDiff, reduceIte, g2, g3, g5, g6, g7] <;> rfl) (by decide) ?_
  refine ro_nil ?_
  try simp only
  refine ex_ret ?_
  exact ⟨rfl, by rw [hs]; simp [upd, sameF, ofConst, ofCell, evalF, g5, g6, g7, Bool.and_assoc], rfl, rfl⟩
theorem rest17_5 (ka : a.key.length = 32) (kb : b.key.length = 32) (hk : a.kind = 5) (hkb : b.kind = 5) (h1 : AI.look hp i1 1 = some (mcells a L D)) (h2 : AI.look hp i2 1 = some (mcells b L2 D2)) (g2 : g 2 = .ptr i1 1 0) (g3 : g 3 = .ptr i2 1 0) (g5 : g 5 = .pv (.bool (a.key == b.key))) (g6 : g 6 = .pv (.bool (a.data == b.data))) (g7 : g 7 = .pv (.bool (a.list == b.list))) :
    EX Try.prog plains F G 10000 124 (codeAt (bodyOf Try.f17) [true, true, true]) g hp nb fun x g' hp' nb' => x = .ret ∧ g' 4 = .pv (.bool (sameM a b)) ∧ hp' = hp ∧ nb' = nb := by
  have hs : sameM a b = (sameF a b 5) := by simp [sameM, rowOf, hk, hkb, Bool.and_assoc]
  show EX _ _ _ _ _ 124 _ _ _ _ _
  simp only [codeAt, bodyOf, Try.f17, if_true]
  refine ex_seq (ex_seq (ex_region ?_))
  refine ro_fieldAddr (by simp only [evalF, upd, arg0, argS, ofConst, ofCell, Nat.reduceEqDiff, reduceIte, g2, g3, g5, g6, g7] <;> rfl) (by exact (fa30_0 _ _ _)) (by decide) ?_
  refine ro_load (by simp only [evalF, upd, arg0, argS, ofConst, ofCell, Nat.reduceEqDiff, reduceIte, g2, g3, g5, g6, g7] <;> rfl) (by exact (load1 ag3 h1 mc0)) (by decide) ?_
  refine ro_nil ?_
  try simp only
  refine ex_block ?_
  refine ex_test_f (by simp only [evalF, upd, arg0, argS, ofConst, ofCell, Nat.reduceEqDiff, reduceIte, g2, g3, g5, g6, g7] <;> rfl) (by omega) (by decide) (by decide) ?_
  refine ex_test_f (by simp only [evalF, upd, arg0, argS, ofConst, ofCell, Nat.reduceEqDiff, reduceIte, g2, g3, g5, g6, g7] <;> rfl) (by omega) (by decide) (by decide) ?_
  refine ex_test_f (by simp only [evalF, upd, arg0, argS, ofConst, ofCell, Nat.reduceEqDiff, reduceIte, g2, g3, g5, g6, g7] <;> rfl) (by omega) (by decide) (by decide) ?_
  refine ex_seq (ex_test_t (by simp only [evalF, upd, arg0, argS, ofConst, ofCell, Nat.reduceEqDiff, reduceIte, g2, g3, g5, g6, g7] <;> rfl) (by omega) (by decide) (by decide) ?_)
  refine ex_skip ?_
  try simp only
  refine ex_cond (t := true) (by simp only [evalF, upd, arg0, argS, ofConst, ofCell, Nat.reduceEqDiff, reduceIte, g2, g3, g5, g6, g7] <;> rfl) (fun h => ?_) (fun h => by simp at h)
  refine ex_seq (ex_region ?_)
  refine ro_move (by simp only [evalF, upd, arg0, argS, ofConst, ofCell, Nat.reduceEqDiff, reduceIte, g2, g3, g5, g6, g7] <;> rfl) (by decide) ?_
  refine ro_assign (by simp only [evalF, upd, arg0, argS, ofConst, ofCell, Nat.reduceEqDiff, reduceIte, g2, g3, g5, g6, g7] <;> rfl) (by decide) ?_
  refine ro_nil ?_
  try simp only
  refine ex_ret ?_
  exact ⟨rfl, by rw [hs]; simp [upd, sameF, ofConst, ofCell, evalF, g5, g6, g7, Bool.and_assoc], rfl, rfl⟩
theorem rest17_7 (ka : a.key.length = 32) (kb : b.key.length = 32) (hk : a.kind = 7) (hkb : b.kind = 7) (h1 : AI.look hp i1 1 = some (mcells a L D)) (h2 : AI.look hp i2 1 = some (mcells b L2 D2)) (g2 : g 2 = .ptr i1 1 0) (g3 : g 3 = .ptr i2 1 0) (g5 : g 5 = .pv (.bool (a.key == b.key))) (g6 : g 6 = .pv (.bool (a.data == b.data))) (g7 : g 7 = .pv (.bool (a.list == b.list))) :
    EX Try.prog plains F G 10000 124 (codeAt (bodyOf Try.f17) [true, true, true]) g hp nb fun x g' hp' nb' => x = .ret ∧ g' 4 = .pv (.bool (sameM a b)) ∧ hp' = hp ∧ nb' = nb := by
  have hs : sameM a b = (sameF a b 5) := by simp [sameM, rowOf, hk, hkb, Bool.and_assoc]
  show EX _ _ _ _ _ 124 _ _ _ _ _
  simp only [codeAt, bodyOf, Try.f17, if_true]
  refine ex_seq (ex_seq (ex_region ?_))
  refine ro_fieldAddr (by simp only [evalF, upd, arg0, argS, ofConst, ofCell, Nat.reduceEqDiff, reduceIte, g2, g3, g5, g6, g7] <;> rfl) (by exact (fa30_0 _ _ _)) (by decide) ?_
  refine ro_load (by simp only [evalF, upd, arg0, argS, ofConst, ofCell, Nat.reduceEqDiff, reduceIte, g2, g3, g5, g6, g7] <;> rfl) (by exact (load1 ag3 h1 mc0)) (by decide) ?_
  refine ro_nil ?_
  try simp only
  refine ex_block ?_
  refine ex_test_f (by simp only [evalF, upd, arg0, argS, ofConst, ofCell, Nat.reduceEqDiff, reduceIte, g2, g3, g5, g6, g7] <;> rfl) (by omega) (by decide) (by decide) ?_
  refine ex_test_f (by simp only [evalF, upd, arg0, argS, ofConst, ofCell, Nat.reduceEqDiff, reduceIte, g2, g3, g5, g6, g7] <;> rfl) (by omega) (by decide) (by decide) ?_
  refine ex_test_f (by simp only [evalF, upd, arg0, argS, ofConst, ofCell, Nat.reduceEqDiff, reduceIte, g2, g3, g5, g6, g7] <;> rfl) (by omega) (by decide) (by decide) ?_
  refine ex_seq (ex_test_f (by simp only [evalF, upd, arg0, argS, ofConst, ofCell, Nat.reduceEqDiff, reduceIte, g2, g3, g5, g6, g7] <;> rfl) (by omega) (by decide) (by decide) ?_)
  refine ex_test_t (by simp only [evalF, upd, arg0, argS, ofConst, ofCell, Nat.reduceEqDiff, reduceIte, g2, g3, g5, g6, g7] <;> rfl) (by omega) (by decide) (by decide) ?_
  refine ex_skip ?_
  try simp only
  refine ex_cond (t := true) (by simp only [evalF, upd, arg0, argS, ofConst, ofCell, Nat.reduceEqDiff, reduceIte, g2, g3, g5, g6, g7] <;> rfl) (fun h => ?_) (fun h => by simp at h)
  refine ex_seq (ex_region ?_)
  refine ro_move (by simp only [evalF, upd, arg0, argS, ofConst, ofCell, Nat.reduceEqDiff, reduceIte, g2, g3, g5, g6, g7] <;> rfl) (by decide) ?_
  refine ro_assign (by simp only [evalF, upd, arg0, argS, ofConst, ofCell, Nat.reduceEqDiff, reduceIte, g2, g3, g5, g6, g7] <;> rfl) (by decide) ?_
  refine ro_nil ?_
  try simp only
  refine ex_ret ?_
  exact ⟨rfl, by rw [hs]; simp [upd, sameF, ofConst, ofCell, evalF, g5, g6, g7, Bool.and_assoc], rfl, rfl⟩
theorem rest17_11 (ka : a.key.length = 32) (kb : b.key.length = 32) (hk : a.kind = 11) (hkb : b.kind = 11) (h1 : AI.look hp i1 1 = some (mcells a L D)) (h2 : AI.look hp i2 1 = some (mcells b L2 D2)) (g2 : g 2 = .ptr i1 1 0) (g3 : g 3 = .ptr i2 1 0) (g5 : g 5 = .pv (.bool (a.key == b.key))) (g6 : g 6 = .pv (.bool (a.data == b.data))) (g7 : g 7 = .pv (.bool (a.list == b.list))) :
    EX Try.prog plains F G 10000 124 (codeAt (bodyOf Try.f17) [true, true, true]) g hp nb fun x g' hp' nb' => x = .ret ∧ g' 4 = .pv (.bool (sameM a b)) ∧ hp' = hp ∧ nb' = nb := by
  have hs : sameM a b = (sameF a b 5) := by simp [sameM, rowOf, hk, hkb, Bool.and_assoc]
  show EX _ _ _ _ _ 124 _ _ _ _ _
  simp only [codeAt, bodyOf, Try.f17, if_true]
  refine ex_seq (ex_seq (ex_region ?_))
  refine ro_fieldAddr (by simp only [evalF, upd, arg0, argS, ofConst, ofCell, Nat.reduceEqDiff, reduceIte, g2, g3, g5, g6, g7] <;> rfl) (by exact (fa30_0 _ _ _)) (by decide) ?_
  refine ro_load (by simp only [evalF, upd, arg0, argS, ofConst, ofCell, Nat.reduceEqDiff, reduceIte, g2, g3, g5, g6, g7] <;> rfl) (by exact (load1 ag3 h1 mc0)) (by decide) ?_
  refine ro_nil ?_
  try simp only
  refine ex_block ?_
  refine ex_test_f (by simp only [evalF, upd, arg0, argS, ofConst, ofCell, Nat.reduceEqDiff, reduceIte, g2, g3, g5, g6, g7] <;> rfl) (by omega) (by decide) (by decide) ?_
  refine ex_test_f (by simp only [evalF, upd, arg0, argS, ofConst, ofCell, Nat.reduceEqDiff, reduceIte, g2, g3, g5, g6, g7] <;> rfl) (by omega) (by decide) (by decide) ?_
  refine ex_test_f (by simp only [evalF, upd, arg0, argS, ofConst, ofCell, Nat.reduceEqDiff, reduceIte, g2, g3, g5, g6, g7] <;> rfl) (by omega) (by decide) (by decide) ?_
  refine ex_seq (ex_test_f (by simp only [evalF, upd, arg0, argS, ofConst, ofCell, Nat.reduceEqDiff, reduceIte, g2, g3, g5, g6, g7] <;> rfl) (by omega) (by decide) (by decide) ?_)
  refine ex_test_f (by simp only [evalF, upd, arg0, argS, ofConst, ofCell, Nat.reduceEqDiff, reduceIte, g2, g3, g5, g6, g7] <;> rfl) (by omega) (by decide) (by decide) ?_
  refine ex_region ?_
  refine ro_bin (by simp only [evalF, upd, arg0, argS, ofConst, ofCell, Nat.reduceEqDiff, reduceIte, g2, g3, g5, g6, g7] <;> rfl) (by simp only [evalF, upd, arg0, argS, ofConst, ofCell, Nat.reduceEqDiff, reduceIte, g2, g3, g5, g6, g7] <;> rfl) (by exact (eql_t (by omega))) (by decide) ?_
  refine ro_assign (by simp only [evalF, upd, arg0, argS, ofConst, ofCell, Nat.reduceEqDiff, reduceIte, g2, g3, g5, g6, g7] <;> rfl) (by decide) ?_
  refine ro_nil ?_
  try simp only
  refine ex_cond (t := true) (by simp only [evalF, upd, arg0, argS, ofConst, ofCell, Nat.reduceEqDiff, reduceIte, g2, g3, g5, g6, g7] <;> rfl) (fun h => ?_) (fun h => by simp at h)
  refine ex_seq (ex_region ?_)
  refine ro_move (by simp only [evalF, upd, arg0, argS, ofConst, ofCell, Nat.reduceEqDiff, reduceIte, g2, g3, g5, g6, g7] <;> rfl) (by decide) ?_
  refine ro_assign (by simp only [evalF, upd, arg0, argS, ofConst, ofCell, Nat.reduceEqDiff, reduceIte, g2, g3, g5, g6, g7] <;> rfl) (by decide) ?_
  refine ro_nil ?_
  try simp only
  refine ex_ret ?_
  exact ⟨rfl, by rw [hs]; simp [upd, sameF, ofConst, ofCell, evalF, g5, g6, g7, Bool.and_assoc], rfl, rfl⟩
theorem rest17_6 (ka : a.key.length = 32) (kb : b.key.length = 32) (hk : a.kind = 6) (hkb : b.kind = 6) (h1 : AI.look hp i1 1 = some (mcells a L D)) (h2 : AI.look hp i2 1 = some (mcells b L2 D2)) (g2 : g 2 = .ptr i1 1 0) (g3 : g 3 = .ptr i2 1 0) (g5 : g 5 = .pv (.bool (a.key == b.key))) (g6 : g 6 = .pv (.bool (a.data == b.data))) (g7 : g 7 = .pv (.bool (a.list == b.list))) :
    EX Try.prog plains F G 10000 124 (codeAt (bodyOf Try.f17) [true, true, true]) g hp nb fun x g' hp' nb' => x = .ret ∧ g' 4 = .pv (.bool (sameM a b)) ∧ hp' = hp ∧ nb' = nb := by
  have hs : sameM a b = (sameF a b 3 && sameF a b 2) := by simp [sameM, rowOf, hk, hkb, Bool.and_assoc]
  show EX _ _ _ _ _ 124 _ _ _ _ _
  simp only [codeAt, bodyOf, Try.f17, if_true]
  refine ex_seq (ex_seq (ex_region ?_))
  refine ro_fieldAddr (by simp only [evalF, upd, arg0, argS, ofConst, ofCell, Nat.reduceEqDiff, reduceIte, g2, g3, g5, g6, g7] <;> rfl) (by exact (fa30_0 _ _ _)) (by decide) ?_
  refine ro_load (by simp only [evalF, upd, arg0, argS, ofConst, ofCell, Nat.reduceEqDiff, reduceIte, g2, g3, g5, g6, g7] <;> rfl) (by exact (load1 ag3 h1 mc0)) (by decide) ?_
  refine ro_nil ?_
  try simp only
  refine ex_block ?_
  refine ex_test_f (by simp only [evalF, upd, arg0, argS, ofConst, ofCell, Nat.reduceEqDiff, reduceIte, g2, g3, g5, g6, g7] <;> rfl) (by omega) (by decide) (by decide) ?_
  refine ex_test_f (by simp only [evalF, upd, arg0, argS, ofConst, ofCell, Nat.reduceEqDiff, reduceIte, g2, g3, g5, g6, g7] <;> rfl) (by omega) (by decide) (by decide) ?_
  refine ex_test_f (by simp only [evalF, upd, arg0, argS, ofConst, ofCell, Nat.reduceEqDiff, reduceIte, g2, g3, g5, g6, g7] <;> rfl) (by omega) (by decide) (by decide) ?_
  refine ex_seq (ex_test_f (by simp only [evalF, upd, arg0, argS, ofConst, ofCell, Nat.reduceEqDiff, reduceIte, g2, g3, g5, g6, g7] <;> rfl) (by omega) (by decide) (by decide) ?_)
  refine ex_test_f (by simp only [evalF, upd, arg0, argS, ofConst, ofCell, Nat.reduceEqDiff, reduceIte, g2, g3, g5, g6, g7] <;> rfl) (by omega) (by decide) (by decide) ?_
  refine ex_region ?_
  refine ro_bin (by simp only [evalF, upd, arg0, argS, ofConst, ofCell, Nat.reduceEqDiff, reduceIte, g2, g3, g5, g6, g7] <;> rfl) (by simp only [evalF, upd, arg0, argS, ofConst, ofCell, Nat.reduceEqDiff, reduceIte, g2, g3, g5, g6, g7] <;> rfl) (by exact (eql_f (by omega))) (by decide) ?_
  refine ro_assign (by simp only [evalF, upd, arg0, argS, ofConst, ofCell, Nat.reduceEqDiff, reduceIte, g2, g3, g5, g6, g7] <;> rfl) (by decide) ?_
  refine ro_nil ?_
  try simp only
  refine ex_cond (t := false) (by simp only [evalF, upd, arg0, argS, ofConst, ofCell, Nat.reduceEqDiff, reduceIte, g2, g3, g5, g6, g7] <;> rfl) (fun h => by simp at h) (fun h => ?_)
  refine ex_test_t (by simp only [evalF, upd, arg0, argS, ofConst, ofCell, Nat.reduceEqDiff, reduceIte, g2, g3, g5, g6, g7] <;> rfl) (by omega) (by decide) (by decide) ?_
  refine ex_seq (ex_region ?_)
  refine ro_fieldAddr (by simp only [evalF, upd, arg0, argS, ofConst, ofCell, Nat.reduceEqDiff, reduceIte, g2, g3, g5, g6, g7] <;> rfl) (by exact (fa30_4 _ _ _)) (by decide) ?_
  refine ro_load (by simp only [evalF, upd, arg0, argS, ofConst, ofCell, Nat.reduceEqDiff, reduceIte, g2, g3, g5, g6, g7] <;> rfl) (by exact (load1 ag4 h1 mc4)) (by decide) ?_
  refine ro_fieldAddr (by simp only [evalF, upd, arg0, argS, ofConst, ofCell, Nat.reduceEqDiff, reduceIte, g2, g3, g5, g6, g7] <;> rfl) (by exact (fa30_4 _ _ _)) (by decide) ?_
  refine ro_load (by simp only [evalF, upd, arg0, argS, ofConst, ofCell, Nat.reduceEqDiff, reduceIte, g2, g3, g5, g6, g7] <;> rfl) (by exact (load1 ag4 h2 mc4)) (by decide) ?_
  refine ro_bin (by simp only [evalF, upd, arg0, argS, ofConst, ofCell, Nat.reduceEqDiff, reduceIte, g2, g3, g5, g6, g7] <;> rfl) (by simp only [evalF, upd, arg0, argS, ofConst, ofCell, Nat.reduceEqDiff, reduceIte, g2, g3, g5, g6, g7] <;> rfl) (by exact (eq4_v)) (by decide) ?_
  refine ro_move (by simp only [evalF, upd, arg0, argS, ofConst, ofCell, Nat.reduceEqDiff, reduceIte, g2, g3, g5, g6, g7] <;> rfl) (by decide) ?_
  refine ro_gsel (b := a.done == b.done) (want := true) (v := .pv (.bool (a.list == b.list))) rfl (by simp only [evalF, upd, arg0, argS, ofConst, ofCell, Nat.reduceEqDiff, reduceIte, g2, g3, g5, g6, g7] <;> rfl) rfl (fun hb => by simp only [primA, evalF, upd, ofConst, ofCell, Nat.reduceEqDiff, reduceIte, g2, g3, g5, g6, g7, selV_hit hb] <;> rfl) (by decide) ?_
  refine ro_pand (b := a.done == b.done) (z := a.list == b.list) (by simp only [evalF, upd, arg0, argS, ofConst, ofCell, Nat.reduceEqDiff, reduceIte, g2, g3, g5, g6, g7] <;> rfl) (by simp only [evalF, upd, ofConst, ofCell, Nat.reduceEqDiff, reduceIte, g2, g3, g5, g6, g7] <;> rfl) (by decide) ?_
  refine ro_assign (by simp only [evalF, upd, arg0, argS, ofConst, ofCell, Nat.reduceEqDiff, reduceIte, g2, g3, g5, g6, g7] <;> rfl) (by decide) ?_
  refine ro_nil ?_
  try simp only
  refine ex_ret ?_
  exact ⟨rfl, by rw [hs]; simp [upd, sameF, ofConst, ofCell, evalF, g5, g6, g7, Bool.and_assoc], rfl, rfl⟩
theorem rest17_8 (ka : a.key.length = 32) (kb : b.key.length = 32) (hk : a.kind = 8) (hkb : b.kind = 8) (h1 : AI.look hp i1 1 = some (mcells a L D)) (h2 : AI.look hp i2 1 = some (mcells b L2 D2)) (g2 : g 2 = .ptr i1 1 0) (g3 : g 3 = .ptr i2 1 0) (g5 : g 5 = .pv (.bool (a.key == b.key))) (g6 : g 6 = .pv (.bool (a.data == b.data))) (g7 : g 7 = .pv (.bool (a.list == b.list))) :
    EX Try.prog plains F G 10000 124 (codeAt (bodyOf Try.f17) [true, true, true]) g hp nb fun x g' hp' nb' => x = .ret ∧ g' 4 = .pv (.bool (sameM a b)) ∧ hp' = hp ∧ nb' = nb := by
  have hs : sameM a b = (sameF a b 4 && sameF a b 6) := by simp [sameM, rowOf, hk, hkb, Bool.and_assoc]
  show EX _ _ _ _ _ 124 _ _ _ _ _
  simp only [codeAt, bodyOf, Try.f17, if_true]
  refine ex_seq (ex_seq (ex_region ?_))
  refine ro_fieldAddr (by simp only [evalF, upd, arg0, argS, ofConst, ofCell, Nat.reduceEqDiff, reduceIte, g2, g3, g5, g6, g7] <;> rfl) (by exact (fa30_0 _ _ _)) (by decide) ?_
  refine ro_load (by simp only [evalF, upd, arg0, argS, ofConst, ofCell, Nat.reduceEqDiff, reduceIte, g2, g3, g5, g6, g7] <;> rfl) (by exact (load1 ag3 h1 mc0)) (by decide) ?_
  refine ro_nil ?_
  try simp only
  refine ex_block ?_
  refine ex_test_f (by simp only [evalF, upd, arg0, argS, ofConst, ofCell, Nat.reduceEqDiff, reduceIte, g2, g3, g5, g6, g7] <;> rfl) (by omega) (by decide) (by decide) ?_
  refine ex_test_f (by simp only [evalF, upd, arg0, argS, ofConst, ofCell, Nat.reduceEqDiff, reduceIte, g2, g3, g5, g6, g7] <;> rfl) (by omega) (by decide) (by decide) ?_
  refine ex_test_f (by simp only [evalF, upd, arg0, argS, ofConst, ofCell, Nat.reduceEqDiff, reduceIte, g2, g3, g5, g6, g7] <;> rfl) (by omega) (by decide) (by decide) ?_
  refine ex_seq (ex_test_f (by simp only [evalF, upd, arg0, argS, ofConst, ofCell, Nat.reduceEqDiff, reduceIte, g2, g3, g5, g6, g7] <;> rfl) (by omega) (by decide) (by decide) ?_)
  refine ex_test_f (by simp only [evalF, upd, arg0, argS, ofConst, ofCell, Nat.reduceEqDiff, reduceIte, g2, g3, g5, g6, g7] <;> rfl) (by omega) (by decide) (by decide) ?_
  refine ex_region ?_
  refine ro_bin (by simp only [evalF, upd, arg0, argS, ofConst, ofCell, Nat.reduceEqDiff, reduceIte, g2, g3, g5, g6, g7] <;> rfl) (by simp only [evalF, upd, arg0, argS, ofConst, ofCell, Nat.reduceEqDiff, reduceIte, g2, g3, g5, g6, g7] <;> rfl) (by exact (eql_f (by omega))) (by decide) ?_
  refine ro_assign (by simp only [evalF, upd, arg0, argS, ofConst, ofCell, Nat.reduceEqDiff, reduceIte, g2, g3, g5, g6, g7] <;> rfl) (by decide) ?_
  refine ro_nil ?_
  try simp only
  refine ex_cond (t := false) (by simp only [evalF, upd, arg0, argS, ofConst, ofCell, Nat.reduceEqDiff, reduceIte, g2, g3, g5, g6, g7] <;> rfl) (fun h => by simp at h) (fun h => ?_)
  refine ex_test_f (by simp only [evalF, upd, arg0, argS, ofConst, ofCell, Nat.reduceEqDiff, reduceIte, g2, g3, g5, g6, g7] <;> rfl) (by omega) (by decide) (by decide) ?_
  refine ex_test_t (by simp only [evalF, upd, arg0, argS, ofConst, ofCell, Nat.reduceEqDiff, reduceIte, g2, g3, g5, g6, g7] <;> rfl) (by omega) (by decide) (by decide) ?_
  refine ex_seq (ex_region ?_)
  refine ro_fieldAddr (by simp only [evalF, upd, arg0, argS, ofConst, ofCell, Nat.reduceEqDiff, reduceIte, g2, g3, g5, g6, g7] <;> rfl) (by exact (fa30_8 _ _ _)) (by decide) ?_
  refine ro_load (by simp only [evalF, upd, arg0, argS, ofConst, ofCell, Nat.reduceEqDiff, reduceIte, g2, g3, g5, g6, g7] <;> rfl) (by exact (load1 ag28 h1 (mc39 ka))) (by decide) ?_
  refine ro_fieldAddr (by simp only [evalF, upd, arg0, argS, ofConst, ofCell, Nat.reduceEqDiff, reduceIte, g2, g3, g5, g6, g7] <;> rfl) (by exact (fa30_8 _ _ _)) (by decide) ?_
  refine ro_load (by simp only [evalF, upd, arg0, argS, ofConst, ofCell, Nat.reduceEqDiff, reduceIte, g2, g3, g5, g6, g7] <;> rfl) (by exact (load1 ag28 h2 (mc39 kb))) (by decide) ?_
  refine ro_bin (by simp only [evalF, upd, arg0, argS, ofConst, ofCell, Nat.reduceEqDiff, reduceIte, g2, g3, g5, g6, g7] <;> rfl) (by simp only [evalF, upd, arg0, argS, ofConst, ofCell, Nat.reduceEqDiff, reduceIte, g2, g3, g5, g6, g7] <;> rfl) (by exact (eql_v)) (by decide) ?_
  refine ro_move (by simp only [evalF, upd, arg0, argS, ofConst, ofCell, Nat.reduceEqDiff, reduceIte, g2, g3, g5, g6, g7] <;> rfl) (by decide) ?_
  refine ro_gsel (b := a.err == b.err) (want := true) (v := .pv (.bool (a.data == b.data))) rfl (by simp only [evalF, upd, arg0, argS, ofConst, ofCell, Nat.reduceEqDiff, reduceIte, g2, g3, g5, g6, g7] <;> rfl) rfl (fun hb => by simp only [primA, evalF, upd, ofConst, ofCell, Nat.reduceEqDiff, reduceIte, g2, g3, g5, g6, g7, selV_hit hb] <;> rfl) (by decide) ?_
  refine ro_pand (b := a.err == b.err) (z := a.data == b.data) (by simp only [evalF, upd, arg0, argS, ofConst, ofCell, Nat.reduceEqDiff, reduceIte, g2, g3, g5, g6, g7] <;> rfl) (by simp only [evalF, upd, ofConst, ofCell, Nat.reduceEqDiff, reduceIte, g2, g3, g5, g6, g7] <;> rfl) (by decide) ?_
  refine ro_assign (by simp only [evalF, upd, arg0, argS, ofConst, ofCell, Nat.reduceEqDiff, reduceIte, g2, g3, g5, g6, g7] <;> rfl) (by decide) ?_
  refine ro_nil ?_
  try simp only
  refine ex_ret ?_
  exact ⟨rfl, by rw [hs]; simp [upd, sameF, ofConst, ofCell, evalF, g5, g6, g7, Bool.and_assoc], rfl, rfl⟩
theorem rest17_9 (ka : a.key.length = 32) (kb : b.key.length = 32) (hk : a.kind = 9) (hkb : b.kind = 9) (h1 : AI.look hp i1 1 = some (mcells a L D)) (h2 : AI.look hp i2 1 = some (mcells b L2 D2)) (g2 : g 2 = .ptr i1 1 0) (g3 : g 3 = .ptr i2 1 0) (g5 : g 5 = .pv (.bool (a.key == b.key))) (g6 : g 6 = .pv (.bool (a.data == b.data))) (g7 : g 7 = .pv (.bool (a.list == b.list))) :
    EX Try.prog plains F G 10000 124 (codeAt (bodyOf Try.f17) [true, true, true]) g hp nb fun x g' hp' nb' => x = .ret ∧ g' 4 = .pv (.bool (sameM a b)) ∧ hp' = hp ∧ nb' = nb := by
  have hs : sameM a b = (sameF a b 5 && (sameF a b 6 && (sameF a b 1 && sameF a b 7))) := by simp [sameM, rowOf, hk, hkb, Bool.and_assoc]
  show EX _ _ _ _ _ 124 _ _ _ _ _
  simp only [codeAt, bodyOf, Try.f17, if_true]
  refine ex_seq (ex_seq (ex_region ?_))
  refine ro_fieldAddr (by simp only [evalF, upd, arg0, argS, ofConst, ofCell, Nat.reduceEqDiff, reduceIte, g2, g3, g5, g6, g7] <;> rfl) (by exact (fa30_0 _ _ _)) (by decide) ?_
  refine ro_load (by simp only [evalF, upd, arg0, argS, ofConst, ofCell, Nat.reduceEqDiff, reduceIte, g2, g3, g5, g6, g7] <;> rfl) (by exact (load1 ag3 h1 mc0)) (by decide) ?_
  refine ro_nil ?_
  try simp only
  refine ex_block ?_
  refine ex_test_f (by simp only [evalF, upd, arg0, argS, ofConst, ofCell, Nat.reduceEqDiff, reduceIte, g2, g3, g5, g6, g7] <;> rfl) (by omega) (by decide) (by decide) ?_
  refine ex_test_f (by simp only [evalF, upd, arg0, argS, ofConst, ofCell, Nat.reduceEqDiff, reduceIte, g2, g3, g5, g6, g7] <;> rfl) (by omega) (by decide) (by decide) ?_
  refine ex_test_f (by simp only [evalF, upd, arg0, argS, ofConst, ofCell, Nat.reduceEqDiff, reduceIte, g2, g3, g5, g6, g7] <;> rfl) (by omega) (by decide) (by decide) ?_
  refine ex_seq (ex_test_f (by simp only [evalF, upd, arg0, argS, ofConst, ofCell, Nat.reduceEqDiff, reduceIte, g2, g3, g5, g6, g7] <;> rfl) (by omega) (by decide) (by decide) ?_)
  refine ex_test_f (by simp only [evalF, upd, arg0, argS, ofConst, ofCell, Nat.reduceEqDiff, reduceIte, g2, g3, g5, g6, g7] <;> rfl) (by omega) (by decide) (by decide) ?_
  refine ex_region ?_
  refine ro_bin (by simp only [evalF, upd, arg0, argS, ofConst, ofCell, Nat.reduceEqDiff, reduceIte, g2, g3, g5, g6, g7] <;> rfl) (by simp only [evalF, upd, arg0, argS, ofConst, ofCell, Nat.reduceEqDiff, reduceIte, g2, g3, g5, g6, g7] <;> rfl) (by exact (eql_f (by omega))) (by decide) ?_
  refine ro_assign (by simp only [evalF, upd, arg0, argS, ofConst, ofCell, Nat.reduceEqDiff, reduceIte, g2, g3, g5, g6, g7] <;> rfl) (by decide) ?_
  refine ro_nil ?_
  try simp only
  refine ex_cond (t := false) (by simp only [evalF, upd, arg0, argS, ofConst, ofCell, Nat.reduceEqDiff, reduceIte, g2, g3, g5, g6, g7] <;> rfl) (fun h => by simp at h) (fun h => ?_)
  refine ex_test_f (by simp only [evalF, upd, arg0, argS, ofConst, ofCell, Nat.reduceEqDiff, reduceIte, g2, g3, g5, g6, g7] <;> rfl) (by omega) (by decide) (by decide) ?_
  refine ex_test_f (by simp only [evalF, upd, arg0, argS, ofConst, ofCell, Nat.reduceEqDiff, reduceIte, g2, g3, g5, g6, g7] <;> rfl) (by omega) (by decide) (by decide) ?_
  refine ex_test_t (by simp only [evalF, upd, arg0, argS, ofConst, ofCell, Nat.reduceEqDiff, reduceIte, g2, g3, g5, g6, g7] <;> rfl) (by omega) (by decide) (by decide) ?_
  refine ex_seq (ex_region ?_)
  refine ro_move (by simp only [evalF, upd, arg0, argS, ofConst, ofCell, Nat.reduceEqDiff, reduceIte, g2, g3, g5, g6, g7] <;> rfl) (by decide) ?_
  refine ro_move (by simp only [evalF, upd, arg0, argS, ofConst, ofCell, Nat.reduceEqDiff, reduceIte, g2, g3, g5, g6, g7] <;> rfl) (by decide) ?_
  refine ro_gsel (b := a.key == b.key) (want := true) (v := .pv (.bool (a.data == b.data))) rfl (by simp only [evalF, upd, arg0, argS, ofConst, ofCell, Nat.reduceEqDiff, reduceIte, g2, g3, g5, g6, g7] <;> rfl) rfl (fun hb => by simp only [primA, evalF, upd, ofConst, ofCell, Nat.reduceEqDiff, reduceIte, g2, g3, g5, g6, g7, selV_hit hb] <;> rfl) (by decide) ?_
  refine ro_pand (b := a.key == b.key) (z := a.data == b.data) (by simp only [evalF, upd, arg0, argS, ofConst, ofCell, Nat.reduceEqDiff, reduceIte, g2, g3, g5, g6, g7] <;> rfl) (by simp only [evalF, upd, ofConst, ofCell, Nat.reduceEqDiff, reduceIte, g2, g3, g5, g6, g7] <;> rfl) (by decide) ?_
  refine ro_move (by simp only [evalF, upd, arg0, argS, ofConst, ofCell, Nat.reduceEqDiff, reduceIte, g2, g3, g5, g6, g7] <;> rfl) (by decide) ?_
  refine ro_gsel (b := (a.key == b.key && a.data == b.data)) (want := true) (v := .ptr i1 1 (0 + 1)) rfl (by simp only [evalF, upd, arg0, argS, ofConst, ofCell, Nat.reduceEqDiff, reduceIte, g2, g3, g5, g6, g7] <;> rfl) rfl (fun hb => by simp only [primA, evalF, upd, ofConst, ofCell, Nat.reduceEqDiff, reduceIte, g2, g3, g5, g6, g7, selV_hit hb, fa30_1, Option.map_some] <;> rfl) (by decide) ?_
  refine ro_gsel (b := (a.key == b.key && a.data == b.data)) (want := true) (v := .pv (.int .i64 (a.node))) rfl (by simp only [evalF, upd, arg0, argS, ofConst, ofCell, Nat.reduceEqDiff, reduceIte, g2, g3, g5, g6, g7] <;> rfl) rfl (fun hb => by simp only [primA, evalF, upd, ofConst, ofCell, Nat.reduceEqDiff, reduceIte, g2, g3, g5, g6, g7, selV_hit hb, load1 ag3 h1 mc1, Option.map_some] <;> rfl) (by decide) ?_
  refine ro_gsel (b := (a.key == b.key && a.data == b.data)) (want := true) (v := .ptr i2 1 (0 + 1)) rfl (by simp only [evalF, upd, arg0, argS, ofConst, ofCell, Nat.reduceEqDiff, reduceIte, g2, g3, g5, g6, g7] <;> rfl) rfl (fun hb => by simp only [primA, evalF, upd, ofConst, ofCell, Nat.reduceEqDiff, reduceIte, g2, g3, g5, g6, g7, selV_hit hb, fa30_1, Option.map_some] <;> rfl) (by decide) ?_
  refine ro_gsel (b := (a.key == b.key && a.data == b.data)) (want := true) (v := .pv (.int .i64 (b.node))) rfl (by simp only [evalF, upd, arg0, argS, ofConst, ofCell, Nat.reduceEqDiff, reduceIte, g2, g3, g5, g6, g7] <;> rfl) rfl (fun hb => by simp only [primA, evalF, upd, ofConst, ofCell, Nat.reduceEqDiff, reduceIte, g2, g3, g5, g6, g7, selV_hit hb, load1 ag3 h2 mc1, Option.map_some] <;> rfl) (by decide) ?_
  refine ro_gsel (b := (a.key == b.key && a.data == b.data)) (want := true) (v := .pv (.bool (a.node == b.node))) rfl (by simp only [evalF, upd, arg0, argS, ofConst, ofCell, Nat.reduceEqDiff, reduceIte, g2, g3, g5, g6, g7] <;> rfl) rfl (fun hb => by simp only [primA, evalF, upd, ofConst, ofCell, Nat.reduceEqDiff, reduceIte, g2, g3, g5, g6, g7, selV_hit hb, eql_v, Option.map_some] <;> rfl) (by decide) ?_
  refine ro_pand (b := (a.key == b.key && a.data == b.data)) (z := a.node == b.node) (by simp only [evalF, upd, arg0, argS, ofConst, ofCell, Nat.reduceEqDiff, reduceIte, g2, g3, g5, g6, g7] <;> rfl) (by simp only [evalF, upd, ofConst, ofCell, Nat.reduceEqDiff, reduceIte, g2, g3, g5, g6, g7] <;> rfl) (by decide) ?_
  refine ro_move (by simp only [evalF, upd, arg0, argS, ofConst, ofCell, Nat.reduceEqDiff, reduceIte, g2, g3, g5, g6, g7] <;> rfl) (by decide) ?_
  refine ro_gsel (b := ((a.key == b.key && a.data == b.data) && a.node == b.node)) (want := true) (v := .ptr i1 1 (0 + 38)) rfl (by simp only [evalF, upd, arg0, argS, ofConst, ofCell, Nat.reduceEqDiff, reduceIte, g2, g3, g5, g6, g7] <;> rfl) rfl (fun hb => by simp only [primA, evalF, upd, ofConst, ofCell, Nat.reduceEqDiff, reduceIte, g2, g3, g5, g6, g7, selV_hit hb, fa30_7, Option.map_some] <;> rfl) (by decide) ?_
  refine ro_gsel (b := ((a.key == b.key && a.data == b.data) && a.node == b.node)) (want := true) (v := .pv (.int .i64 (a.lease))) rfl (by simp only [evalF, upd, arg0, argS, ofConst, ofCell, Nat.reduceEqDiff, reduceIte, g2, g3, g5, g6, g7] <;> rfl) rfl (fun hb => by simp only [primA, evalF, upd, ofConst, ofCell, Nat.reduceEqDiff, reduceIte, g2, g3, g5, g6, g7, selV_hit hb, load1 ag3 h1 (mc38 ka), Option.map_some] <;> rfl) (by decide) ?_
  refine ro_gsel (b := ((a.key == b.key && a.data == b.data) && a.node == b.node)) (want := true) (v := .ptr i2 1 (0 + 38)) rfl (by simp only [evalF, upd, arg0, argS, ofConst, ofCell, Nat.reduceEqDiff, reduceIte, g2, g3, g5, g6, g7] <;> rfl) rfl (fun hb => by simp only [primA, evalF, upd, ofConst, ofCell, Nat.reduceEqDiff, reduceIte, g2, g3, g5, g6, g7, selV_hit hb, fa30_7, Option.map_some] <;> rfl) (by decide) ?_
  refine ro_gsel (b := ((a.key == b.key && a.data == b.data) && a.node == b.node)) (want := true) (v := .pv (.int .i64 (b.lease))) rfl (by simp only [evalF, upd, arg0, argS, ofConst, ofCell, Nat.reduceEqDiff, reduceIte, g2, g3, g5, g6, g7] <;> rfl) rfl (fun hb => by simp only [primA, evalF, upd, ofConst, ofCell, Nat.reduceEqDiff, reduceIte, g2, g3, g5, g6, g7, selV_hit hb, load1 ag3 h2 (mc38 kb), Option.map_some] <;> rfl) (by decide) ?_
  refine ro_gsel (b := ((a.key == b.key && a.data == b.data) && a.node == b.node)) (want := true) (v := .pv (.bool (a.lease == b.lease))) rfl (by simp only [evalF, upd, arg0, argS, ofConst, ofCell, Nat.reduceEqDiff, reduceIte, g2, g3, g5, g6, g7] <;> rfl) rfl (fun hb => by simp only [primA, evalF, upd, ofConst, ofCell, Nat.reduceEqDiff, reduceIte, g2, g3, g5, g6, g7, selV_hit hb, eql_v, Option.map_some] <;> rfl) (by decide) ?_
  refine ro_pand (b := ((a.key == b.key && a.data == b.data) && a.node == b.node)) (z := a.lease == b.lease) (by simp only [evalF, upd, arg0, argS, ofConst, ofCell, Nat.reduceEqDiff, reduceIte, g2, g3, g5, g6, g7] <;> rfl) (by simp only [evalF, upd, ofConst, ofCell, Nat.reduceEqDiff, reduceIte, g2, g3, g5, g6, g7] <;> rfl) (by decide) ?_
  refine ro_assign (by simp only [evalF, upd, arg0, argS, ofConst, ofCell, Nat.reduceEqDiff, reduceIte, g2, g3, g5, g6, g7] <;> rfl) (by decide) ?_
  refine ro_nil ?_
  try simp only
  refine ex_ret ?_
  exact ⟨rfl, by rw [hs]; simp [upd, sameF, ofConst, ofCell, evalF, g5, g6, g7, Bool.and_assoc], rfl, rfl⟩
theorem rest17_10 (ka : a.key.length = 32) (kb : b.key.length = 32) (hk : a.kind = 10) (hkb : b.kind = 10) (h1 : AI.look hp i1 1 = some (mcells a L D)) (h2 : AI.look hp i2 1 = some (mcells b L2 D2)) (g2 : g 2 = .ptr i1 1 0) (g3 : g 3 = .ptr i2 1 0) (g5 : g 5 = .pv (.bool (a.key == b.key))) (g6 : g 6 = .pv (.bool (a.data == b.data))) (g7 : g 7 = .pv (.bool (a.list == b.list))) :
    EX Try.prog plains F G 10000 124 (codeAt (bodyOf Try.f17) [true, true, true]) g hp nb fun x g' hp' nb' => x = .ret ∧ g' 4 = .pv (.bool (sameM a b)) ∧ hp' = hp ∧ nb' = nb := by
  have hs : sameM a b = (sameF a b 5 && sameF a b 6) := by simp [sameM, rowOf, hk, hkb, Bool.and_assoc]
  show EX _ _ _ _ _ 124 _ _ _ _ _
  simp only [codeAt, bodyOf, Try.f17, if_true]
  refine ex_seq (ex_seq (ex_region ?_))
  refine ro_fieldAddr (by simp only [evalF, upd, arg0, argS, ofConst, ofCell, Nat.reduceEqDiff, reduceIte, g2, g3, g5, g6, g7] <;> rfl) (by exact (fa30_0 _ _ _)) (by decide) ?_
  refine ro_load (by simp only [evalF, upd, arg0, argS, ofConst, ofCell, Nat.reduceEqDiff, reduceIte, g2, g3, g5, g6, g7] <;> rfl) (by exact (load1 ag3 h1 mc0)) (by decide) ?_
  refine ro_nil ?_
  try simp only
  refine ex_block ?_
  refine ex_test_f (by simp only [evalF, upd, arg0, argS, ofConst, ofCell, Nat.reduceEqDiff, reduceIte, g2, g3, g5, g6, g7] <;> rfl) (by omega) (by decide) (by decide) ?_
  refine ex_test_f (by simp only [evalF, upd, arg0, argS, ofConst, ofCell, Nat.reduceEqDiff, reduceIte, g2, g3, g5, g6, g7] <;> rfl) (by omega) (by decide) (by decide) ?_
  refine ex_test_f (by simp only [evalF, upd, arg0, argS, ofConst, ofCell, Nat.reduceEqDiff, reduceIte, g2, g3, g5, g6, g7] <;> rfl) (by omega) (by decide) (by decide) ?_
  refine ex_seq (ex_test_f (by simp only [evalF, upd, arg0, argS, ofConst, ofCell, Nat.reduceEqDiff, reduceIte, g2, g3, g5, g6, g7] <;> rfl) (by omega) (by decide) (by decide) ?_)
  refine ex_test_f (by simp only [evalF, upd, arg0, argS, ofConst, ofCell, Nat.reduceEqDiff, reduceIte, g2, g3, g5, g6, g7] <;> rfl) (by omega) (by decide) (by decide) ?_
  refine ex_region ?_
  refine ro_bin (by simp only [evalF, upd, arg0, argS, ofConst, ofCell, Nat.reduceEqDiff, reduceIte, g2, g3, g5, g6, g7] <;> rfl) (by simp only [evalF, upd, arg0, argS, ofConst, ofCell, Nat.reduceEqDiff, reduceIte, g2, g3, g5, g6, g7] <;> rfl) (by exact (eql_f (by omega))) (by decide) ?_
  refine ro_assign (by simp only [evalF, upd, arg0, argS, ofConst, ofCell, Nat.reduceEqDiff, reduceIte, g2, g3, g5, g6, g7] <;> rfl) (by decide) ?_
  refine ro_nil ?_
  try simp only
  refine ex_cond (t := false) (by simp only [evalF, upd, arg0, argS, ofConst, ofCell, Nat.reduceEqDiff, reduceIte, g2, g3, g5, g6, g7] <;> rfl) (fun h => by simp at h) (fun h => ?_)
  refine ex_test_f (by simp only [evalF, upd, arg0, argS, ofConst, ofCell, Nat.reduceEqDiff, reduceIte, g2, g3, g5, g6, g7] <;> rfl) (by omega) (by decide) (by decide) ?_
  refine ex_test_f (by simp only [evalF, upd, arg0, argS, ofConst, ofCell, Nat.reduceEqDiff, reduceIte, g2, g3, g5, g6, g7] <;> rfl) (by omega) (by decide) (by decide) ?_
  refine ex_test_f (by simp only [evalF, upd, arg0, argS, ofConst, ofCell, Nat.reduceEqDiff, reduceIte, g2, g3, g5, g6, g7] <;> rfl) (by omega) (by decide) (by decide) ?_
  refine ex_test_t (by simp only [evalF, upd, arg0, argS, ofConst, ofCell, Nat.reduceEqDiff, reduceIte, g2, g3, g5, g6, g7] <;> rfl) (by omega) (by decide) (by decide) ?_
  refine ex_seq (ex_region ?_)
  refine ro_move (by simp only [evalF, upd, arg0, argS, ofConst, ofCell, Nat.reduceEqDiff, reduceIte, g2, g3, g5, g6, g7] <;> rfl) (by decide) ?_
  refine ro_move (by simp only [evalF, upd, arg0, argS, ofConst, ofCell, Nat.reduceEqDiff, reduceIte, g2, g3, g5, g6, g7] <;> rfl) (by decide) ?_
  refine ro_gsel (b := a.key == b.key) (want := true) (v := .pv (.bool (a.data == b.data))) rfl (by simp only [evalF, upd, arg0, argS, ofConst, ofCell, Nat.reduceEqDiff, reduceIte, g2, g3, g5, g6, g7] <;> rfl) rfl (fun hb => by simp only [primA, evalF, upd, ofConst, ofCell, Nat.reduceEqDiff, reduceIte, g2, g3, g5, g6, g7, selV_hit hb] <;> rfl) (by decide) ?_
  refine ro_pand (b := a.key == b.key) (z := a.data == b.data) (by simp only [evalF, upd, arg0, argS, ofConst, ofCell, Nat.reduceEqDiff, reduceIte, g2, g3, g5, g6, g7] <;> rfl) (by simp only [evalF, upd, ofConst, ofCell, Nat.reduceEqDiff, reduceIte, g2, g3, g5, g6, g7] <;> rfl) (by decide) ?_
  refine ro_assign (by simp only [evalF, upd, arg0, argS, ofConst, ofCell, Nat.reduceEqDiff, reduceIte, g2, g3, g5, g6, g7] <;> rfl) (by decide) ?_
  refine ro_nil ?_
  try simp only
  refine ex_ret ?_
  exact ⟨rfl, by rw [hs]; simp [upd, sameF, ofConst, ofCell, evalF, g5, g6, g7, Bool.and_assoc], rfl, rfl⟩
theorem rest17_12 (ka : a.key.length = 32) (kb : b.key.length = 32) (hk : a.kind = 12) (hkb : b.kind = 12) (h1 : AI.look hp i1 1 = some (mcells a L D)) (h2 : AI.look hp i2 1 = some (mcells b L2 D2)) (g2 : g 2 = .ptr i1 1 0) (g3 : g 3 = .ptr i2 1 0) (g5 : g 5 = .pv (.bool (a.key == b.key))) (g6 : g 6 = .pv (.bool (a.data == b.data))) (g7 : g 7 = .pv (.bool (a.list == b.list))) :
    EX Try.prog plains F G 10000 124 (codeAt (bodyOf Try.f17) [true, true, true]) g hp nb fun x g' hp' nb' => x = .ret ∧ g' 4 = .pv (.bool (sameM a b)) ∧ hp' = hp ∧ nb' = nb := by
  have hs : sameM a b = (sameF a b 6 && (sameF a b 1 && sameF a b 7)) := by simp [sameM, rowOf, hk, hkb, Bool.and_assoc]
  show EX _ _ _ _ _ 124 _ _ _ _ _
  simp only [codeAt, bodyOf, Try.f17, if_true]
  refine ex_seq (ex_seq (ex_region ?_))
  refine ro_fieldAddr (by simp only [evalF, upd, arg0, argS, ofConst, ofCell, Nat.reduceEqDiff, reduceIte, g2, g3, g5, g6, g7] <;> rfl) (by exact (fa30_0 _ _ _)) (by decide) ?_
  refine ro_load (by simp only [evalF, upd, arg0, argS, ofConst, ofCell, Nat.reduceEqDiff, reduceIte, g2, g3, g5, g6, g7] <;> rfl) (by exact (load1 ag3 h1 mc0)) (by decide) ?_
  refine ro_nil ?_
  try simp only
  refine ex_block ?_
  refine ex_test_f (by simp only [evalF, upd, arg0, argS, ofConst, ofCell, Nat.reduceEqDiff, reduceIte, g2, g3, g5, g6, g7] <;> rfl) (by omega) (by decide) (by decide) ?_
  refine ex_test_f (by simp only [evalF, upd, arg0, argS, ofConst, ofCell, Nat.reduceEqDiff, reduceIte, g2, g3, g5, g6, g7] <;> rfl) (by omega) (by decide) (by decide) ?_
  refine ex_test_f (by simp only [evalF, upd, arg0, argS, ofConst, ofCell, Nat.reduceEqDiff, reduceIte, g2, g3, g5, g6, g7] <;> rfl) (by omega) (by decide) (by decide) ?_
  refine ex_seq (ex_test_f (by simp only [evalF, upd, arg0, argS, ofConst, ofCell, Nat.reduceEqDiff, reduceIte, g2, g3, g5, g6, g7] <;> rfl) (by omega) (by decide) (by decide) ?_)
  refine ex_test_f (by simp only [evalF, upd, arg0, argS, ofConst, ofCell, Nat.reduceEqDiff, reduceIte, g2, g3, g5, g6, g7] <;> rfl) (by omega) (by decide) (by decide) ?_
  refine ex_region ?_
  refine ro_bin (by simp only [evalF, upd, arg0, argS, ofConst, ofCell, Nat.reduceEqDiff, reduceIte, g2, g3, g5, g6, g7] <;> rfl) (by simp only [evalF, upd, arg0, argS, ofConst, ofCell, Nat.reduceEqDiff, reduceIte, g2, g3, g5, g6, g7] <;> rfl) (by exact (eql_f (by omega))) (by decide) ?_
  refine ro_assign (by simp only [evalF, upd, arg0, argS, ofConst, ofCell, Nat.reduceEqDiff, reduceIte, g2, g3, g5, g6, g7] <;> rfl) (by decide) ?_
  refine ro_nil ?_
  try simp only
  refine ex_cond (t := false) (by simp only [evalF, upd, arg0, argS, ofConst, ofCell, Nat.reduceEqDiff, reduceIte, g2, g3, g5, g6, g7] <;> rfl) (fun h => by simp at h) (fun h => ?_)
  refine ex_test_f (by simp only [evalF, upd, arg0, argS, ofConst, ofCell, Nat.reduceEqDiff, reduceIte, g2, g3, g5, g6, g7] <;> rfl) (by omega) (by decide) (by decide) ?_
  refine ex_test_f (by simp only [evalF, upd, arg0, argS, ofConst, ofCell, Nat.reduceEqDiff, reduceIte, g2, g3, g5, g6, g7] <;> rfl) (by omega) (by decide) (by decide) ?_
  refine ex_test_f (by simp only [evalF, upd, arg0, argS, ofConst, ofCell, Nat.reduceEqDiff, reduceIte, g2, g3, g5, g6, g7] <;> rfl) (by omega) (by decide) (by decide) ?_
  refine ex_test_f (by simp only [evalF, upd, arg0, argS, ofConst, ofCell, Nat.reduceEqDiff, reduceIte, g2, g3, g5, g6, g7] <;> rfl) (by omega) (by decide) (by decide) ?_
  refine ex_test_t (by simp only [evalF, upd, arg0, argS, ofConst, ofCell, Nat.reduceEqDiff, reduceIte, g2, g3, g5, g6, g7] <;> rfl) (by omega) (by decide) (by decide) ?_
  refine ex_seq (ex_region ?_)
  refine ro_move (by simp only [evalF, upd, arg0, argS, ofConst, ofCell, Nat.reduceEqDiff, reduceIte, g2, g3, g5, g6, g7] <;> rfl) (by decide) ?_
  refine ro_move (by simp only [evalF, upd, arg0, argS, ofConst, ofCell, Nat.reduceEqDiff, reduceIte, g2, g3, g5, g6, g7] <;> rfl) (by decide) ?_
  refine ro_gsel (b := a.data == b.data) (want := true) (v := .ptr i1 1 (0 + 1)) rfl (by simp only [evalF, upd, arg0, argS, ofConst, ofCell, Nat.reduceEqDiff, reduceIte, g2, g3, g5, g6, g7] <;> rfl) rfl (fun hb => by simp only [primA, evalF, upd, ofConst, ofCell, Nat.reduceEqDiff, reduceIte, g2, g3, g5, g6, g7, selV_hit hb, fa30_1, Option.map_some] <;> rfl) (by decide) ?_
  refine ro_gsel (b := a.data == b.data) (want := true) (v := .pv (.int .i64 (a.node))) rfl (by simp only [evalF, upd, arg0, argS, ofConst, ofCell, Nat.reduceEqDiff, reduceIte, g2, g3, g5, g6, g7] <;> rfl) rfl (fun hb => by simp only [primA, evalF, upd, ofConst, ofCell, Nat.reduceEqDiff, reduceIte, g2, g3, g5, g6, g7, selV_hit hb, load1 ag3 h1 mc1, Option.map_some] <;> rfl) (by decide) ?_
  refine ro_gsel (b := a.data == b.data) (want := true) (v := .ptr i2 1 (0 + 1)) rfl (by simp only [evalF, upd, arg0, argS, ofConst, ofCell, Nat.reduceEqDiff, reduceIte, g2, g3, g5, g6, g7] <;> rfl) rfl (fun hb => by simp only [primA, evalF, upd, ofConst, ofCell, Nat.reduceEqDiff, reduceIte, g2, g3, g5, g6, g7, selV_hit hb, fa30_1, Option.map_some] <;> rfl) (by decide) ?_
  refine ro_gsel (b := a.data == b.data) (want := true) (v := .pv (.int .i64 (b.node))) rfl (by simp only [evalF, upd, arg0, argS, ofConst, ofCell, Nat.reduceEqDiff, reduceIte, g2, g3, g5, g6, g7] <;> rfl) rfl (fun hb => by simp only [primA, evalF, upd, ofConst, ofCell, Nat.reduceEqDiff, reduceIte, g2, g3, g5, g6, g7, selV_hit hb, load1 ag3 h2 mc1, Option.map_some] <;> rfl) (by decide) ?_
  refine ro_gsel (b := a.data == b.data) (want := true) (v := .pv (.bool (a.node == b.node))) rfl (by simp only [evalF, upd, arg0, argS, ofConst, ofCell, Nat.reduceEqDiff, reduceIte, g2, g3, g5, g6, g7] <;> rfl) rfl (fun hb => by simp only [primA, evalF, upd, ofConst, ofCell, Nat.reduceEqDiff, reduceIte, g2, g3, g5, g6, g7, selV_hit hb, eql_v, Option.map_some] <;> rfl) (by decide) ?_
  refine ro_pand (b := a.data == b.data) (z := a.node == b.node) (by simp only [evalF, upd, arg0, argS, ofConst, ofCell, Nat.reduceEqDiff, reduceIte, g2, g3, g5, g6, g7] <;> rfl) (by simp only [evalF, upd, ofConst, ofCell, Nat.reduceEqDiff, reduceIte, g2, g3, g5, g6, g7] <;> rfl) (by decide) ?_
  refine ro_move (by simp only [evalF, upd, arg0, argS, ofConst, ofCell, Nat.reduceEqDiff, reduceIte, g2, g3, g5, g6, g7] <;> rfl) (by decide) ?_
  refine ro_gsel (b := (a.data == b.data && a.node == b.node)) (want := true) (v := .ptr i1 1 (0 + 38)) rfl (by simp only [evalF, upd, arg0, argS, ofConst, ofCell, Nat.reduceEqDiff, reduceIte, g2, g3, g5, g6, g7] <;> rfl) rfl (fun hb => by simp only [primA, evalF, upd, ofConst, ofCell, Nat.reduceEqDiff, reduceIte, g2, g3, g5, g6, g7, selV_hit hb, fa30_7, Option.map_some] <;> rfl) (by decide) ?_
  refine ro_gsel (b := (a.data == b.data && a.node == b.node)) (want := true) (v := .pv (.int .i64 (a.lease))) rfl (by simp only [evalF, upd, arg0, argS, ofConst, ofCell, Nat.reduceEqDiff, reduceIte, g2, g3, g5, g6, g7] <;> rfl) rfl (fun hb => by simp only [primA, evalF, upd, ofConst, ofCell, Nat.reduceEqDiff, reduceIte, g2, g3, g5, g6, g7, selV_hit hb, load1 ag3 h1 (mc38 ka), Option.map_some] <;> rfl) (by decide) ?_
  refine ro_gsel (b := (a.data == b.data && a.node == b.node)) (want := true) (v := .ptr i2 1 (0 + 38)) rfl (by simp only [evalF, upd, arg0, argS, ofConst, ofCell, Nat.reduceEqDiff, reduceIte, g2, g3, g5, g6, g7] <;> rfl) rfl (fun hb => by simp only [primA, evalF, upd, ofConst, ofCell, Nat.reduceEqDiff, reduceIte, g2, g3, g5, g6, g7, selV_hit hb, fa30_7, Option.map_some] <;> rfl) (by decide) ?_
  refine ro_gsel (b := (a.data == b.data && a.node == b.node)) (want := true) (v := .pv (.int .i64 (b.lease))) rfl (by simp only [evalF, upd, arg0, argS, ofConst, ofCell, Nat.reduceEqDiff, reduceIte, g2, g3, g5, g6, g7] <;> rfl) rfl (fun hb => by simp only [primA, evalF, upd, ofConst, ofCell, Nat.reduceEqDiff, reduceIte, g2, g3, g5, g6, g7, selV_hit hb, load1 ag3 h2 (mc38 kb), Option.map_some] <;> rfl) (by decide) ?_
  refine ro_gsel (b := (a.data == b.data && a.node == b.node)) (want := true) (v := .pv (.bool (a.lease == b.lease))) rfl (by simp only [evalF, upd, arg0, argS, ofConst, ofCell, Nat.reduceEqDiff, reduceIte, g2, g3, g5, g6, g7] <;> rfl) rfl (fun hb => by simp only [primA, evalF, upd, ofConst, ofCell, Nat.reduceEqDiff, reduceIte, g2, g3, g5, g6, g7, selV_hit hb, eql_v, Option.map_some] <;> rfl) (by decide) ?_
  refine ro_pand (b := (a.data == b.data && a.node == b.node)) (z := a.lease == b.lease) (by simp only [evalF, upd, arg0, argS, ofConst, ofCell, Nat.reduceEqDiff, reduceIte, g2, g3, g5, g6, g7] <;> rfl) (by simp only [evalF, upd, ofConst, ofCell, Nat.reduceEqDiff, reduceIte, g2, g3, g5, g6, g7] <;> rfl) (by decide) ?_
  refine ro_assign (by simp only [evalF, upd, arg0, argS, ofConst, ofCell, Nat.reduceEqDiff, reduceIte, g2, g3, g5, g6, g7] <;> rfl) (by decide) ?_
  refine ro_nil ?_
  try simp only
  refine ex_ret ?_
  exact ⟨rfl, by rw [hs]; simp [upd, sameF, ofConst, ofCell, evalF, g5, g6, g7, Bool.and_assoc], rfl, rfl⟩
theorem rest17_n (ka : a.key.length = 32) (kb : b.key.length = 32) (hab : a.kind = b.kind) (hk : ¬ (2 ≤ a.kind ∧ a.kind ≤ 12)) (h1 : AI.look hp i1 1 = some (mcells a L D)) (h2 : AI.look hp i2 1 = some (mcells b L2 D2)) (g2 : g 2 = .ptr i1 1 0) (g3 : g 3 = .ptr i2 1 0) (g5 : g 5 = .pv (.bool (a.key == b.key))) (g6 : g 6 = .pv (.bool (a.data == b.data))) (g7 : g 7 = .pv (.bool (a.list == b.list))) :
    EX Try.prog plains F G 10000 124 (codeAt (bodyOf Try.f17) [true, true, true]) g hp nb fun x g' hp' nb' => x = .ret ∧ g' 4 = .pv (.bool (sameM a b)) ∧ hp' = hp ∧ nb' = nb := by
  have hs : sameM a b = true := by
    have : (rowOf a.kind).getD [] = [] := by
      unfold rowOf
      by_cases h : a.kind = 1
      · rw [if_pos h]; rfl
      · rw [if_neg h, if_neg (by omega), if_neg (by omega), if_neg (by omega), if_neg (by omega), if_neg (by omega), if_neg (by omega), if_neg (by omega), if_neg (by omega), if_neg (by omega), if_neg (by omega), if_neg (by omega)]; rfl
    unfold sameM
    rw [this, hab]
    simp
  show EX _ _ _ _ _ 124 _ _ _ _ _
  simp only [codeAt, bodyOf, Try.f17, if_true]
  refine ex_seq (ex_seq (ex_region ?_))
  refine ro_fieldAddr (by simp only [evalF, upd, arg0, argS, ofConst, ofCell, Nat.reduceEqDiff, reduceIte, g2, g3, g5, g6, g7] <;> rfl) (by exact (fa30_0 _ _ _)) (by decide) ?_
  refine ro_load (by simp only [evalF, upd, arg0, argS, ofConst, ofCell, Nat.reduceEqDiff, reduceIte, g2, g3, g5, g6, g7] <;> rfl) (by exact (load1 ag3 h1 mc0)) (by decide) ?_
  refine ro_nil ?_
  try simp only
  refine ex_block ?_
  refine ex_test_f (by simp only [evalF, upd, arg0, argS, ofConst, ofCell, Nat.reduceEqDiff, reduceIte, g2, g3, g5, g6, g7] <;> rfl) (by omega) (by decide) (by decide) ?_
  refine ex_test_f (by simp only [evalF, upd, arg0, argS, ofConst, ofCell, Nat.reduceEqDiff, reduceIte, g2, g3, g5, g6, g7] <;> rfl) (by omega) (by decide) (by decide) ?_
  refine ex_test_f (by simp only [evalF, upd, arg0, argS, ofConst, ofCell, Nat.reduceEqDiff, reduceIte, g2, g3, g5, g6, g7] <;> rfl) (by omega) (by decide) (by decide) ?_
  refine ex_seq (ex_test_f (by simp only [evalF, upd, arg0, argS, ofConst, ofCell, Nat.reduceEqDiff, reduceIte, g2, g3, g5, g6, g7] <;> rfl) (by omega) (by decide) (by decide) ?_)
  refine ex_test_f (by simp only [evalF, upd, arg0, argS, ofConst, ofCell, Nat.reduceEqDiff, reduceIte, g2, g3, g5, g6, g7] <;> rfl) (by omega) (by decide) (by decide) ?_
  refine ex_region ?_
  refine ro_bin (by simp only [evalF, upd, arg0, argS, ofConst, ofCell, Nat.reduceEqDiff, reduceIte, g2, g3, g5, g6, g7] <;> rfl) (by simp only [evalF, upd, arg0, argS, ofConst, ofCell, Nat.reduceEqDiff, reduceIte, g2, g3, g5, g6, g7] <;> rfl) (by exact (eql_f (by omega))) (by decide) ?_
  refine ro_assign (by simp only [evalF, upd, arg0, argS, ofConst, ofCell, Nat.reduceEqDiff, reduceIte, g2, g3, g5, g6, g7] <;> rfl) (by decide) ?_
  refine ro_nil ?_
  try simp only
  refine ex_cond (t := false) (by simp only [evalF, upd, arg0, argS, ofConst, ofCell, Nat.reduceEqDiff, reduceIte, g2, g3, g5, g6, g7] <;> rfl) (fun h => by simp at h) (fun h => ?_)
  refine ex_test_f (by simp only [evalF, upd, arg0, argS, ofConst, ofCell, Nat.reduceEqDiff, reduceIte, g2, g3, g5, g6, g7] <;> rfl) (by omega) (by decide) (by decide) ?_
  refine ex_test_f (by simp only [evalF, upd, arg0, argS, ofConst, ofCell, Nat.reduceEqDiff, reduceIte, g2, g3, g5, g6, g7] <;> rfl) (by omega) (by decide) (by decide) ?_
  refine ex_test_f (by simp only [evalF, upd, arg0, argS, ofConst, ofCell, Nat.reduceEqDiff, reduceIte, g2, g3, g5, g6, g7] <;> rfl) (by omega) (by decide) (by decide) ?_
  refine ex_test_f (by simp only [evalF, upd, arg0, argS, ofConst, ofCell, Nat.reduceEqDiff, reduceIte, g2, g3, g5, g6, g7] <;> rfl) (by omega) (by decide) (by decide) ?_
  refine ex_test_f (by simp only [evalF, upd, arg0, argS, ofConst, ofCell, Nat.reduceEqDiff, reduceIte, g2, g3, g5, g6, g7] <;> rfl) (by omega) (by decide) (by decide) ?_
  refine ex_skip ?_
  try simp only
  refine ex_seq (ex_region ?_)
  refine ro_assign (by simp only [evalF, upd, arg0, argS, ofConst, ofCell, Nat.reduceEqDiff, reduceIte, g2, g3, g5, g6, g7] <;> rfl) (by decide) ?_
  refine ro_nil ?_
  try simp only
  refine ex_ret ?_
  exact ⟨rfl, by rw [hs]; simp [upd, sameF, ofConst, ofCell, evalF, g5, g6, g7, Bool.and_assoc], rfl, rfl⟩
end
theorem rest17 {F : CallF} {G : CallG} {hp : Hp} {nb i1 i2 : Nat} {a b : M} {L D L2 D2 : AV} {g : Gm} (ka : a.key.length = 32) (kb : b.key.length = 32) (hab : a.kind = b.kind) (h1 : AI.look hp i1 1 = some (mcells a L D)) (h2 : AI.look hp i2 1 = some (mcells b L2 D2)) (g2 : g 2 = .ptr i1 1 0) (g3 : g 3 = .ptr i2 1 0) (g5 : g 5 = .pv (.bool (a.key == b.key))) (g6 : g 6 = .pv (.bool (a.data == b.data))) (g7 : g 7 = .pv (.bool (a.list == b.list))) :
    EX Try.prog plains F G 10000 124 (codeAt (bodyOf Try.f17) [true, true, true]) g hp nb fun x g' hp' nb' => x = .ret ∧ g' 4 = .pv (.bool (sameM a b)) ∧ hp' = hp ∧ nb' = nb := by
  by_cases hk : 2 ≤ a.kind ∧ a.kind ≤ 12
  · have : a.kind = 2 ∨ a.kind = 3 ∨ a.kind = 4 ∨ a.kind = 5 ∨ a.kind = 6 ∨ a.kind = 7 ∨ a.kind = 8 ∨ a.kind = 9 ∨ a.kind = 10 ∨ a.kind = 11 ∨ a.kind = 12 := by omega
    rcases this with h | h | h | h | h | h | h | h | h | h | h
    · exact rest17_2 ka kb h (by omega) h1 h2 g2 g3 g5 g6 g7
    · exact rest17_3 ka kb h (by omega) h1 h2 g2 g3 g5 g6 g7
    · exact rest17_4 ka kb h (by omega) h1 h2 g2 g3 g5 g6 g7
    · exact rest17_5 ka kb h (by omega) h1 h2 g2 g3 g5 g6 g7
    · exact rest17_6 ka kb h (by omega) h1 h2 g2 g3 g5 g6 g7
    · exact rest17_7 ka kb h (by omega) h1 h2 g2 g3 g5 g6 g7
    · exact rest17_8 ka kb h (by omega) h1 h2 g2 g3 g5 g6 g7
    · exact rest17_9 ka kb h (by omega) h1 h2 g2 g3 g5 g6 g7
    · exact rest17_10 ka kb h (by omega) h1 h2 g2 g3 g5 g6 g7
    · exact rest17_11 ka kb h (by omega) h1 h2 g2 g3 g5 g6 g7
    · exact rest17_12 ka kb h (by omega) h1 h2 g2 g3 g5 g6 g7
  · exact rest17_n ka kb hab hk h1 h2 g2 g3 g5 g6 g7
theorem refNeeds : needs (regOf Try.f17 3) = [(1, 7), (3, 7), (7, 9), (1, 10), (3, 10), (6, 10), (7, 10), (7, 13), (10, 13), (7, 15), (10, 15), (1, 16), (3, 16), (6, 16), (7, 16), (9, 16), (10, 16)] := by kernel_rfl
theorem refStat : statOk (regOf Try.f17 3) = true := by kernel_rfl
theorem eql_str {x y : List Nat} : binOpA Try.prog .eql 9 (.pv (.str x)) (.pv (.str y)) = some (.pv (.bool (x == y))) := rfl
theorem neq_str {x y : List Nat} : binOpA Try.prog .neq 9 (.pv (.str x)) (.pv (.str y)) = some (.pv (.bool (!(x == y)))) := rfl
theorem own_lt {hp : Hp} {nb : Nat} {v : AV} {l : List PV} (r : Row hp nb v l) : ∀ id ∈ idOf v, id < nb := by
  intro id h
  cases r with
  | own id' ver off n mc xc cs l hn hi hc ho hm hl => simp [idOf] at h; omega
  | _ => simp [idOf] at h
/-- latticeref4.Same. -/
theorem same17 (d : Nat) {hp : Hp} {nb : Nat} {a b : M} {L D L2 D2 : AV} (htd : Tidy hp nb) (t : Two hp nb a b L D L2 D2) :
    CA (callA Try.prog facts plains 10000 (d + 2)) 17 [.agg (mcells a L D), .agg (mcells b L2 D2)] hp nb (BoolOk (sameM a b) hp nb) := by
  refine ca_body (fn := Try.f17) (c := bodyOf Try.f17) Try.func17 rfl (by show 2 ≤ 124; omega) ?_
  show EX _ _ _ _ _ 124 _ _ _ _ _
  unfold bodyOf Try.f17
  refine ex_seq (ex_region ?_)
  refine ro_box (v := .agg (mcells a L D)) (by simp [evalF, argsF]) (mc_all (row_cell t.l1).1 (row_cell t.d1).1) (by decide) ?_
  refine ro_box (v := .agg (mcells b L2 D2)) (by simp [evalF, argsF, upd]) (mc_all (row_cell t.l2).1 (row_cell t.d2).1) (by decide) ?_
  refine ro_assign (by simp only [evalF, upd, arg0, argS, ofConst, ofCell, Nat.reduceEqDiff, reduceIte] <;> rfl) (by decide) ?_
  refine ro_nil ?_
  try simp only
  obtain ⟨ha, h1, h2⟩ := two_boxes t
  have t2 := t.keep ha
  have htd2 := ha.2.2 htd
  show EX _ _ _ _ _ 124 _ _ (setHp (setHp hp nb (.cells 1 (mcells a L D))) (nb + 1) (.cells 1 (mcells b L2 D2))) _ _
  generalize setHp (setHp hp nb (.cells 1 (mcells a L D))) (nb + 1) (.cells 1 (mcells b L2 D2)) = hp2 at ha h1 h2 t2 htd2 ⊢
  have ka := t.ka
  have kb := t.kb
  refine ex_seq (ex_seq (ex_region ?_))
  refine ro_fieldAddr (by simp only [evalF, upd, arg0, argS, ofConst, ofCell, Nat.reduceEqDiff, reduceIte] <;> rfl) (by exact (fa30_0 _ _ _)) (by decide) ?_
  refine ro_load (by simp only [evalF, upd, arg0, argS, ofConst, ofCell, Nat.reduceEqDiff, reduceIte] <;> rfl) (by exact (load1 ag3 h1 mc0)) (by decide) ?_
  refine ro_fieldAddr (by simp only [evalF, upd, arg0, argS, ofConst, ofCell, Nat.reduceEqDiff, reduceIte] <;> rfl) (by exact (fa30_0 _ _ _)) (by decide) ?_
  refine ro_load (by simp only [evalF, upd, arg0, argS, ofConst, ofCell, Nat.reduceEqDiff, reduceIte] <;> rfl) (by exact (load1 ag3 h2 mc0)) (by decide) ?_
  refine ro_bin (by simp only [evalF, upd, arg0, argS, ofConst, ofCell, Nat.reduceEqDiff, reduceIte] <;> rfl) (by simp only [evalF, upd, arg0, argS, ofConst, ofCell, Nat.reduceEqDiff, reduceIte] <;> rfl) (by exact (neq_v)) (by decide) ?_
  refine ro_nil ?_
  try simp only
  refine ex_cond (t := (a.kind != b.kind)) (by simp only [evalF, upd, arg0, argS, ofConst, ofCell, Nat.reduceEqDiff, reduceIte] <;> rfl) (fun ht => ?_) (fun ht => ?_)
  · refine ex_seq (ex_region ?_)
    refine ro_assign (by simp only [evalF, upd, arg0, argS, ofConst, ofCell, Nat.reduceEqDiff, reduceIte] <;> rfl) (by decide) ?_
    refine ro_nil ?_
    try simp only
    refine ex_ret ?_
    refine ⟨_, rfl, ?_, ha⟩
    have : (a.kind == b.kind) = false := by simpa using ht
    simp [upd, sameM, this, ofConst, ofCell, evalF]
  refine ex_skip ?_
  try simp only
  have hab : a.kind = b.kind := by simpa using ht
  refine ex_seq (ex_draw refStat ?_)
  refine rdw_fieldAddr rfl (by simp only [evalF, upd, arg0, argS, ofConst, ofCell, Nat.reduceEqDiff, reduceIte] <;> rfl) (by exact (fa30_5 _ _ _)) (by decide) ?_
  refine rdw_load rfl (by simp only [evalF, upd, arg0, argS, ofConst, ofCell, Nat.reduceEqDiff, reduceIte] <;> rfl) (by exact (load_key ka h1)) (by decide) ?_
  refine rdw_fieldAddr rfl (by simp only [evalF, upd, arg0, argS, ofConst, ofCell, Nat.reduceEqDiff, reduceIte] <;> rfl) (by exact (fa30_5 _ _ _)) (by decide) ?_
  refine rdw_load rfl (by simp only [evalF, upd, arg0, argS, ofConst, ofCell, Nat.reduceEqDiff, reduceIte] <;> rfl) (by exact (load_key kb h2)) (by decide) ?_
  refine rdw_bin rfl (by simp only [evalF, upd, arg0, argS, ofConst, ofCell, Nat.reduceEqDiff, reduceIte] <;> rfl) (by simp only [evalF, upd, arg0, argS, ofConst, ofCell, Nat.reduceEqDiff, reduceIte] <;> rfl) (by exact (eq_keys ka kb)) (by decide) ?_
  refine rdw_fieldAddr rfl (by simp only [evalF, upd, arg0, argS, ofConst, ofCell, Nat.reduceEqDiff, reduceIte] <;> rfl) (by exact (fa30_6 _ _ _)) (by decide) ?_
  refine rdw_load rfl (by simp only [evalF, upd, arg0, argS, ofConst, ofCell, Nat.reduceEqDiff, reduceIte] <;> rfl) (by exact (load1 ag27 h1 (mc37 ka))) (by decide) ?_
  refine rdw_conv rfl (by simp only [evalF, upd, arg0, argS, ofConst, ofCell, Nat.reduceEqDiff, reduceIte] <;> rfl) (by exact (conv_str t2.d1 t.ab (fun _ _ => rfl))) (by decide) ?_
  refine rdw_fieldAddr rfl (by simp only [evalF, upd, arg0, argS, ofConst, ofCell, Nat.reduceEqDiff, reduceIte] <;> rfl) (by exact (fa30_6 _ _ _)) (by decide) ?_
  refine rdw_load rfl (by simp only [evalF, upd, arg0, argS, ofConst, ofCell, Nat.reduceEqDiff, reduceIte] <;> rfl) (by exact (load1 ag27 h2 (mc37 kb))) (by decide) ?_
  refine rdw_conv rfl (by simp only [evalF, upd, arg0, argS, ofConst, ofCell, Nat.reduceEqDiff, reduceIte] <;> rfl) (by exact (conv_str t2.d2 t.bb (fun _ _ => rfl))) (by decide) ?_
  refine rdw_bin rfl (by simp only [evalF, upd, arg0, argS, ofConst, ofCell, Nat.reduceEqDiff, reduceIte] <;> rfl) (by simp only [evalF, upd, arg0, argS, ofConst, ofCell, Nat.reduceEqDiff, reduceIte] <;> rfl) (by exact (eql_str)) (by decide) ?_
  refine rdw_fieldAddr rfl (by simp only [evalF, upd, arg0, argS, ofConst, ofCell, Nat.reduceEqDiff, reduceIte] <;> rfl) (by exact (fa30_3 _ _ _)) (by decide) ?_
  refine rdw_load rfl (by simp only [evalF, upd, arg0, argS, ofConst, ofCell, Nat.reduceEqDiff, reduceIte] <;> rfl) (by exact (load1 ag24 h1 mc3)) (by decide) ?_
  refine rdw_fieldAddr rfl (by simp only [evalF, upd, arg0, argS, ofConst, ofCell, Nat.reduceEqDiff, reduceIte] <;> rfl) (by exact (fa30_3 _ _ _)) (by decide) ?_
  refine rdw_load rfl (by simp only [evalF, upd, arg0, argS, ofConst, ofCell, Nat.reduceEqDiff, reduceIte] <;> rfl) (by exact (load1 ag24 h2 mc3)) (by decide) ?_
  refine rdw_bool (f := 35) (xs := [L, L2]) (r := a.list == b.list) rfl (by simp [calleeA, evalF, upd]) rfl htd2 (still35 d t2.l1 t2.l2 t.al).1 (still35 d t2.l1 t2.l2 t.al).2 (by decide) ?_
  intro ch hp3 nb3 ha3 hch
  refine rdw_assign rfl (by simp only [evalF, upd, arg0, argS, ofConst, ofCell, Nat.reduceEqDiff, reduceIte] <;> rfl) (by decide) ?_
  refine rdw_assign rfl (by simp only [evalF, upd, arg0, argS, ofConst, ofCell, Nat.reduceEqDiff, reduceIte] <;> rfl) (by decide) ?_
  refine rdw_assign rfl (by simp only [evalF, upd, arg0, argS, ofConst, ofCell, Nat.reduceEqDiff, reduceIte] <;> rfl) (by decide) ?_
  refine rd_nil ⟨dyn_of rfl (fun p hp' => ?_), ?_⟩
  · have hp'' : p ∈ needs (regOf Try.f17 3) := hp'
    rw [refNeeds] at hp''
    simp only [List.mem_cons, List.not_mem_nil, or_false] at hp''
    have o1 := own_lt t2.d1
    have o2 := own_lt t2.d2
    have o3 := own_lt t2.l1
    have o4 := own_lt t2.l2
    rcases hp'' with rfl | rfl | rfl | rfl | rfl | rfl | rfl | rfl | rfl | rfl | rfl | rfl | rfl | rfl | rfl | rfl | rfl <;> intro x y hx hy <;> cases hx <;> cases hy <;>
      first
      | exact heapPart_no rfl rfl
      | (refine heapPart_quiet' (m := nb + 1 + 1) hch rfl (fun id hid => ?_)
         simp [footF, looksIn, Op.operands, evalF, upd, idOf] at hid
         first | omega | exact o1 id hid | exact o2 id hid)
  try simp only
  have hax := after_nil ha ha3 (fun id h => by simp [ownOf] at h)
  have k : ∀ id, id < nb + 1 + 1 → hp3 id = hp2 id := fun id hid => ha3.2.1 id hid (by simp [ownOf])
  refine ex_weaken (rest17 (a := a) (b := b) (i1 := nb) (i2 := nb + 1) (L := L) (D := D) (L2 := L2) (D2 := D2) ka kb hab (by rw [look_at 1 (k nb (by omega))]; exact h1) (by rw [look_at 1 (k (nb + 1) (by omega))]; exact h2) (by simp [upd]) (by simp [upd]) (by simp [upd]) ?_ (by simp [upd])) ?_
  · have := toNat_inj (a := a.data) (b := b.data) (fun x hx => (t.ab x hx).1) (fun x hx => (t.bb x hx).1)
    simp only [upd, Nat.reduceEqDiff, reduceIte, this]
  · rintro x g' hp' nb' ⟨rfl, e1, rfl, rfl⟩
    exact ⟨_, rfl, e1, hax⟩
theorem both17 (d : Nat) {hp : Hp} {nb : Nat} {a b : M} {L D L2 D2 : AV} (htd : Tidy hp nb) (t : Two hp nb a b L D L2 D2) :
    (([.agg (mcells a L D), .agg (mcells b L2 D2)] : List AV).all plainV = false → CA (callA Try.prog facts plains 10000 (d + 2)) 17 [.agg (mcells a L D), .agg (mcells b L2 D2)] hp nb (BoolOk (sameM a b) hp nb)) ∧
    (([.agg (mcells a L D), .agg (mcells b L2 D2)] : List AV).all plainV = true → CA (callA Try.prog facts plains 10000 (d + 2)) 17 [.agg (mcells a L D), .agg (mcells b L2 D2)] (AI.hf []) 0 (BoolOk (sameM a b) (AI.hf []) 0)) :=
  ⟨fun _ => same17 d htd t, fun h => by
    simp only [List.all_cons, List.all_nil, Bool.and_true, Bool.and_eq_true] at h
    exact same17 d tidy_nil (t.plain h.1 h.2 _ _)⟩
end Go.Proofs.Ytlinbbjobjnipaa

set_option linter.unusedVariables false
set_option linter.unusedSimpArgs false
set_option linter.unusedSectionVars false
namespace Go.Proofs.Ytlinbbjobjnipaa
open Go AI
set_option maxHeartbeats 4000000
set_option maxRecDepth 10000
theorem fa63_0 (id ver off : Nat) : fieldAddrA Try.prog 63 (.ptr id ver off) 0 = some (.ptr id ver off) := by kernel_rfl
theorem fa63_1 (id ver off : Nat) : fieldAddrA Try.prog 63 (.ptr id ver off) 1 = some (.ptr id ver (off + 1)) := by kernel_rfl
theorem fa63_2 (id ver off : Nat) : fieldAddrA Try.prog 63 (.ptr id ver off) 2 = some (.ptr id ver (off + 2)) := by kernel_rfl
/-- The document's reader: its bytes, what is left of them, what was wrong first. -/
structure Rr (hp : Hp) (nb idr q : Nat) (vb : AV) (b rest : List Int) (e : Int) : Prop where
  lt : idr < nb
  le : q ≤ idr
  row : Row hp nb vb (u8s b)
  own : ∀ id, ownOf vb = some id → id < q
  sz : b.length < 100000
  by8 : ∀ x ∈ b, 0 ≤ x ∧ x ≤ 255
  ex : ∃ p : Nat, p ≤ b.length ∧ rest = b.drop p ∧ AI.look hp idr 1 = some [vb, .pv (.int .i64 p), .pv (.int .i64 e)]
theorem Rr.rest8 {hp : Hp} {nb idr q : Nat} {vb : AV} {b rest : List Int} {e : Int} (h : Rr hp nb idr q vb b rest e) : ∀ x ∈ rest, 0 ≤ x ∧ x ≤ 255 := by
  obtain ⟨p, h1, h2, h3⟩ := h.ex
  subst h2
  exact fun x hx => h.by8 x (List.mem_of_mem_drop hx)
theorem rr_put {hp : Hp} {nb idr q : Nat} {vb : AV} {b rest : List Int} {e : Int} (h : Rr hp nb idr q vb b rest e) (p : Nat) (hpl : p ≤ b.length) (x : Int) :
    Rr (setHp hp idr (.cells 1 [vb, .pv (.int .i64 p), .pv (.int .i64 x)])) nb idr q vb b (b.drop p) x ∧ KeepR hp nb idr (setHp hp idr (.cells 1 [vb, .pv (.int .i64 p), .pv (.int .i64 x)])) nb := by
  refine ⟨⟨h.lt, h.le, h.row.keep (Nat.le_refl _) (fun id hid ho => ?_), h.own, h.sz, h.by8, p, hpl, rfl, look_same _ _ _ _⟩, rfl, fun id hne => by simp [setHp, hne], fun ht => tidy_put ht (fun c hc => ?_)⟩
  · have := h.own id ho
    have := h.le
    simp [setHp, show id ≠ idr by omega]
  · simp only [List.mem_cons, List.not_mem_nil, or_false] at hc
    rcases hc with rfl | rfl | rfl
    · exact row_ok' h.row
    · exact okC_pv _ _
    · exact okC_pv _ _
theorem st_err {hp : Hp} {idr : Nat} {vb : AV} {p e : Int} (x : Int) (hl : AI.look hp idr 1 = some [vb, .pv (.int .i64 p), .pv (.int .i64 e)]) : storeA Try.prog hp 3 (.ptr idr 1 (0 + 2)) (.pv (.int .i64 x)) = some (.upd undefA idr (.cells 1 [vb, .pv (.int .i64 p), .pv (.int .i64 x)])) :=
  store1 sz3 hl rfl rfl (by simp)
theorem st_pos {hp : Hp} {idr : Nat} {vb : AV} {p e : Int} (x : Int) (hl : AI.look hp idr 1 = some [vb, .pv (.int .i64 p), .pv (.int .i64 e)]) : storeA Try.prog hp 3 (.ptr idr 1 (0 + 1)) (.pv (.int .i64 x)) = some (.upd undefA idr (.cells 1 [vb, .pv (.int .i64 x), .pv (.int .i64 e)])) :=
  store1 sz3 hl rfl rfl (by simp)
theorem plains_28 : plains 28 = false := rfl
theorem plains_29 : plains 29 = false := rfl
theorem plains_31 : plains 31 = false := rfl
def mayE (e : Int) (ok : Bool) : Int := if (e == 0 && !ok) = true then 11 else e
theorem may31 (d : Nat) {hp : Hp} {nb idr q : Nat} {vb : AV} {b rest : List Int} {e : Int} (ok : Bool) (h : Rr hp nb idr q vb b rest e) :
    CA (callA Try.prog facts plains 10000 (d + 1)) 31 [.ptr idr 1 0, .pv (.bool ok)] hp nb fun v hp' nb' => v = .tuple [] ∧ Rr hp' nb' idr q vb b rest (mayE e ok) ∧ KeepR hp nb idr hp' nb' := by
  obtain ⟨p, hpl, hrest, hl⟩ := h.ex
  refine ca_body (fn := Try.f31) (c := bodyOf Try.f31) Try.func31 rfl (by show 2 ≤ 16; omega) ?_
  show EX _ _ _ _ _ 16 _ _ _ _ _
  unfold bodyOf Try.f31
  refine ex_seq (ex_region ?_)
  refine ro_move (by simp only [evalF, upd, arg0, argS, ofConst, ofCell, Nat.reduceEqDiff, reduceIte] <;> rfl) (by decide) ?_
  refine ro_nilCheck (by simp only [evalF, upd, arg0, argS, ofConst, ofCell, Nat.reduceEqDiff, reduceIte] <;> rfl) (by decide) ?_
  refine ro_fieldAddr (by simp only [evalF, upd, arg0, argS, ofConst, ofCell, Nat.reduceEqDiff, reduceIte] <;> rfl) (by exact (fa63_2 _ _ _)) (by decide) ?_
  refine ro_load (by simp only [evalF, upd, arg0, argS, ofConst, ofCell, Nat.reduceEqDiff, reduceIte] <;> rfl) (by exact (load1 ag3 hl rfl)) (by decide) ?_
  refine ro_bin (by simp only [evalF, upd, arg0, argS, ofConst, ofCell, Nat.reduceEqDiff, reduceIte] <;> rfl) (by simp only [evalF, upd, arg0, argS, ofConst, ofCell, Nat.reduceEqDiff, reduceIte] <;> rfl) (by exact (eql_v)) (by decide) ?_
  refine ro_move (by simp only [evalF, upd, arg0, argS, ofConst, ofCell, Nat.reduceEqDiff, reduceIte] <;> rfl) (by decide) ?_
  refine ro_gsel (b := e == 0) (want := true) (v := .pv (.bool ok)) rfl (by simp only [evalF, upd, arg0, argS, ofConst, ofCell, Nat.reduceEqDiff, reduceIte] <;> rfl) rfl (fun hb => by simp only [primA, evalF, upd, arg0, argS, ofConst, ofCell, Nat.reduceEqDiff, reduceIte, selV_hit hb] <;> rfl) (by decide) ?_
  refine ro_gsel (b := e == 0) (want := true) (v := .pv (.bool (!ok))) rfl (by simp only [evalF, upd, arg0, argS, ofConst, ofCell, Nat.reduceEqDiff, reduceIte] <;> rfl) rfl (fun hb => by simp only [primA, evalF, upd, arg0, argS, ofConst, ofCell, Nat.reduceEqDiff, reduceIte, selV_hit hb] <;> rfl) (by decide) ?_
  refine ro_pand (b := e == 0) (z := !ok) (by simp only [evalF, upd, arg0, argS, ofConst, ofCell, Nat.reduceEqDiff, reduceIte] <;> rfl) (by simp only [evalF, upd, Nat.reduceEqDiff, reduceIte] <;> rfl) (by decide) ?_
  refine ro_nil ?_
  try simp only
  refine ex_cond (t := e == 0 && !ok) (by simp only [evalF, upd, arg0, argS, ofConst, ofCell, Nat.reduceEqDiff, reduceIte] <;> rfl) (fun hc => ?_) (fun hc => ?_)
  · refine ex_region ?_
    refine ro_move (by simp only [evalF, upd, arg0, argS, ofConst, ofCell, Nat.reduceEqDiff, reduceIte] <;> rfl) (by decide) ?_
    refine ro_nilCheck (by simp only [evalF, upd, arg0, argS, ofConst, ofCell, Nat.reduceEqDiff, reduceIte] <;> rfl) (by decide) ?_
    refine ro_fieldAddr (by simp only [evalF, upd, arg0, argS, ofConst, ofCell, Nat.reduceEqDiff, reduceIte] <;> rfl) (by exact (fa63_2 _ _ _)) (by decide) ?_
    refine ro_store (by simp only [evalF, upd, arg0, argS, ofConst, ofCell, Nat.reduceEqDiff, reduceIte] <;> rfl) (by simp only [evalF, upd, arg0, argS, ofConst, ofCell, Nat.reduceEqDiff, reduceIte] <;> rfl) (st_err _ hl) ?_
    refine ro_nil ?_
    try simp only
    have hx := rr_put h p hpl 11
    rw [← hrest] at hx
    refine ⟨.tuple [], rfl, rfl, ?_, hx.2⟩
    unfold mayE
    rw [if_pos hc]
    exact hx.1
  · refine ex_skip ?_
    try simp only
    refine ⟨.tuple [], rfl, rfl, ?_, keepR_refl _ _ _⟩
    unfold mayE
    rw [if_neg (by simp [hc])]
    exact h
/-- One byte, or what was wrong. -/
def u8F (rest : List Int) (e : Int) : Int × List Int × Int :=
  if e = 0 then match rest with
    | [] => (0, [], 8)
    | x :: r => (x, r, 0)
  else (0, rest, e)
theorem u8_28 (d : Nat) {hp : Hp} {nb idr q : Nat} {vb : AV} {b rest : List Int} {e : Int} (h : Rr hp nb idr q vb b rest e) :
    CA (callA Try.prog facts plains 10000 (d + 1)) 28 [.ptr idr 1 0] hp nb fun v hp' nb' => v = .pv (.int .i64 (u8F rest e).1) ∧ Rr hp' nb' idr q vb b (u8F rest e).2.1 (u8F rest e).2.2 ∧ KeepR hp nb idr hp' nb' := by
  obtain ⟨p, hpl, hrest, hl⟩ := h.ex
  have hsz := h.sz
  have hbl : (u8s b).length = b.length := by simp [u8s]
  refine ca_body (fn := Try.f28) (c := bodyOf Try.f28) Try.func28 rfl (by show 1 ≤ 47; omega) ?_
  show EX _ _ _ _ _ 47 _ _ _ _ _
  unfold bodyOf Try.f28
  refine ex_seq (ex_region ?_)
  refine ro_assign (by simp only [evalF, upd, arg0, argS, ofConst, ofCell, Nat.reduceEqDiff, reduceIte] <;> rfl) (by decide) ?_
  refine ro_nil ?_
  try simp only
  by_cases he : e = 0
  · refine ex_seq (ex_seq (ex_draw (by kernel_rfl) ?_))
    refine rdw_move rfl (by simp only [evalF, upd, arg0, argS, ofConst, ofCell, Nat.reduceEqDiff, reduceIte] <;> rfl) (by decide) ?_
    refine rdw_nilCheck rfl (by simp only [evalF, upd, arg0, argS, ofConst, ofCell, Nat.reduceEqDiff, reduceIte] <;> rfl) (by decide) ?_
    refine rdw_fieldAddr rfl (by simp only [evalF, upd, arg0, argS, ofConst, ofCell, Nat.reduceEqDiff, reduceIte] <;> rfl) (by exact (fa63_2 _ _ _)) (by decide) ?_
    refine rdw_load rfl (by simp only [evalF, upd, arg0, argS, ofConst, ofCell, Nat.reduceEqDiff, reduceIte] <;> rfl) (by exact (load1 ag3 hl rfl)) (by decide) ?_
    refine rdw_bin rfl (by simp only [evalF, upd, arg0, argS, ofConst, ofCell, Nat.reduceEqDiff, reduceIte] <;> rfl) (by simp only [evalF, upd, arg0, argS, ofConst, ofCell, Nat.reduceEqDiff, reduceIte] <;> rfl) (by exact (eql_t he)) (by decide) ?_
    refine rdw_move rfl (by simp only [evalF, upd, arg0, argS, ofConst, ofCell, Nat.reduceEqDiff, reduceIte] <;> rfl) (by decide) ?_
    refine rdw_move (want_of rfl (by simp only [evalF, upd, arg0, argS, ofConst, ofCell, Nat.reduceEqDiff, reduceIte] <;> rfl) rfl) (by simp only [evalF, upd, arg0, argS, ofConst, ofCell, Nat.reduceEqDiff, reduceIte] <;> rfl) (by decide) ?_
    refine rdw_nilCheck (want_of rfl (by simp only [evalF, upd, arg0, argS, ofConst, ofCell, Nat.reduceEqDiff, reduceIte] <;> rfl) rfl) (by simp only [evalF, upd, arg0, argS, ofConst, ofCell, Nat.reduceEqDiff, reduceIte] <;> rfl) (by decide) ?_
    refine rdw_fieldAddr (want_of rfl (by simp only [evalF, upd, arg0, argS, ofConst, ofCell, Nat.reduceEqDiff, reduceIte] <;> rfl) rfl) (by simp only [evalF, upd, arg0, argS, ofConst, ofCell, Nat.reduceEqDiff, reduceIte] <;> rfl) (by exact (fa63_1 _ _ _)) (by decide) ?_
    refine rdw_load (want_of rfl (by simp only [evalF, upd, arg0, argS, ofConst, ofCell, Nat.reduceEqDiff, reduceIte] <;> rfl) rfl) (by simp only [evalF, upd, arg0, argS, ofConst, ofCell, Nat.reduceEqDiff, reduceIte] <;> rfl) (by exact (load1 ag3 hl rfl)) (by decide) ?_
    refine rdw_move (want_of rfl (by simp only [evalF, upd, arg0, argS, ofConst, ofCell, Nat.reduceEqDiff, reduceIte] <;> rfl) rfl) (by simp only [evalF, upd, arg0, argS, ofConst, ofCell, Nat.reduceEqDiff, reduceIte] <;> rfl) (by decide) ?_
    refine rdw_nilCheck (want_of rfl (by simp only [evalF, upd, arg0, argS, ofConst, ofCell, Nat.reduceEqDiff, reduceIte] <;> rfl) rfl) (by simp only [evalF, upd, arg0, argS, ofConst, ofCell, Nat.reduceEqDiff, reduceIte] <;> rfl) (by decide) ?_
    refine rdw_fieldAddr (want_of rfl (by simp only [evalF, upd, arg0, argS, ofConst, ofCell, Nat.reduceEqDiff, reduceIte] <;> rfl) rfl) (by simp only [evalF, upd, arg0, argS, ofConst, ofCell, Nat.reduceEqDiff, reduceIte] <;> rfl) (by exact (fa63_0 _ _ _)) (by decide) ?_
    refine rdw_load (want_of rfl (by simp only [evalF, upd, arg0, argS, ofConst, ofCell, Nat.reduceEqDiff, reduceIte] <;> rfl) rfl) (by simp only [evalF, upd, arg0, argS, ofConst, ofCell, Nat.reduceEqDiff, reduceIte] <;> rfl) (by exact (load1 ag27 hl rfl)) (by decide) ?_
    refine rdw_builtin (want_of rfl (by simp only [evalF, upd, arg0, argS, ofConst, ofCell, Nat.reduceEqDiff, reduceIte] <;> rfl) rfl) (by simp only [List.map_cons, List.map_nil, evalF, upd, Nat.reduceEqDiff, reduceIte] <;> rfl) (by exact (row_len st27 h.row)) (by decide) ?_
    refine rdw_bin (want_of rfl (by simp only [evalF, upd, arg0, argS, ofConst, ofCell, Nat.reduceEqDiff, reduceIte] <;> rfl) rfl) (by simp only [evalF, upd, arg0, argS, ofConst, ofCell, Nat.reduceEqDiff, reduceIte] <;> rfl) (by simp only [evalF, upd, arg0, argS, ofConst, ofCell, Nat.reduceEqDiff, reduceIte] <;> rfl) (by exact (geq_v)) (by decide) ?_
    refine rdw_pick rfl (by simp only [evalF, upd, arg0, argS, ofConst, ofCell, Nat.reduceEqDiff, reduceIte] <;> rfl) (by simp only [evalF, upd, arg0, argS, ofConst, ofCell, Nat.reduceEqDiff, reduceIte] <;> rfl) (by simp only [evalF, upd, arg0, argS, ofConst, ofCell, Nat.reduceEqDiff, reduceIte] <;> rfl) (by decide) ?_
    refine rd_nil ⟨rfl, ?_⟩
    try simp only
    rw [hbl]
    by_cases hpe : p = b.length
    · -- cut
      refine ex_cond (t := true) (by simp only [evalF, upd, Nat.reduceEqDiff, reduceIte, if_true]; rw [decide_eq_true (by omega)]) (fun _ => ?_) (fun h => by simp at h)
      refine ex_region ?_
      refine ro_move (by simp only [evalF, upd, arg0, argS, ofConst, ofCell, Nat.reduceEqDiff, reduceIte] <;> rfl) (by decide) ?_
      refine ro_nilCheck (by simp only [evalF, upd, arg0, argS, ofConst, ofCell, Nat.reduceEqDiff, reduceIte] <;> rfl) (by decide) ?_
      refine ro_fieldAddr (by simp only [evalF, upd, arg0, argS, ofConst, ofCell, Nat.reduceEqDiff, reduceIte] <;> rfl) (by exact (fa63_2 _ _ _)) (by decide) ?_
      refine ro_store (by simp only [evalF, upd, arg0, argS, ofConst, ofCell, Nat.reduceEqDiff, reduceIte] <;> rfl) (by simp only [evalF, upd, arg0, argS, ofConst, ofCell, Nat.reduceEqDiff, reduceIte] <;> rfl) (st_err _ hl) ?_
      refine ro_nil ?_
      try simp only
      have hx := rr_put h p hpl 8
      rw [← hrest] at hx
      have hl2 : AI.look (setHp hp idr (.cells 1 [vb, .pv (.int .i64 p), .pv (.int .i64 8)])) idr 1 = some [vb, .pv (.int .i64 p), .pv (.int .i64 8)] := look_same _ _ _ _
      generalize setHp hp idr (.cells 1 [vb, .pv (.int .i64 p), .pv (.int .i64 8)]) = hp2 at hx hl2 ⊢
      refine ex_seq (ex_seq (ex_region ?_))
      refine ro_move (by simp only [evalF, upd, arg0, argS, ofConst, ofCell, Nat.reduceEqDiff, reduceIte] <;> rfl) (by decide) ?_
      refine ro_nilCheck (by simp only [evalF, upd, arg0, argS, ofConst, ofCell, Nat.reduceEqDiff, reduceIte] <;> rfl) (by decide) ?_
      refine ro_fieldAddr (by simp only [evalF, upd, arg0, argS, ofConst, ofCell, Nat.reduceEqDiff, reduceIte] <;> rfl) (by exact (fa63_2 _ _ _)) (by decide) ?_
      refine ro_load (by simp only [evalF, upd, arg0, argS, ofConst, ofCell, Nat.reduceEqDiff, reduceIte] <;> rfl) (by exact (load1 ag3 hl2 rfl)) (by decide) ?_
      refine ro_bin (by simp only [evalF, upd, arg0, argS, ofConst, ofCell, Nat.reduceEqDiff, reduceIte] <;> rfl) (by simp only [evalF, upd, arg0, argS, ofConst, ofCell, Nat.reduceEqDiff, reduceIte] <;> rfl) (by exact (neq_t (by decide))) (by decide) ?_
      refine ro_nil ?_
      try simp only
      refine ex_cond (t := true) (by simp only [evalF, upd, arg0, argS, ofConst, ofCell, Nat.reduceEqDiff, reduceIte] <;> rfl) (fun _ => ?_) (fun h => by simp at h)
      refine ex_seq (ex_region ?_)
      refine ro_assign (by simp only [evalF, upd, arg0, argS, ofConst, ofCell, Nat.reduceEqDiff, reduceIte] <;> rfl) (by decide) ?_
      refine ro_nil ?_
      try simp only
      refine ex_ret ?_
      have hr : rest = [] := by rw [hrest, hpe, List.drop_length]
      refine ⟨_, rfl, ?_, ?_, hx.2⟩
      · simp [upd, u8F, he, hr, ofConst, ofCell, evalF]
      · have : u8F rest e = (0, rest, 8) := by simp [u8F, he, hr]
        rw [this]
        exact hx.1
    · have hlt : p < b.length := by omega
      have hdr : b.drop p = b[p] :: b.drop (p + 1) := List.drop_eq_getElem_cons hlt
      have hu : u8F rest e = (b[p], b.drop (p + 1), 0) := by rw [hrest, hdr]; simp [u8F, he]
      have h8 := h.by8 b[p] (List.getElem_mem hlt)
      have hgi : (u8s b)[p]? = some (.int .u8 b[p]) := by unfold u8s; rw [List.getElem?_map, List.getElem?_eq_getElem hlt]; rfl
      refine ex_cond (t := false) (by simp only [evalF, upd, Nat.reduceEqDiff, reduceIte, if_true]; rw [decide_eq_false (by omega)]) (fun h => by simp at h) (fun _ => ex_skip ?_)
      try simp only
      refine ex_seq (ex_seq (ex_region ?_))
      refine ro_move (by simp only [evalF, upd, arg0, argS, ofConst, ofCell, Nat.reduceEqDiff, reduceIte] <;> rfl) (by decide) ?_
      refine ro_nilCheck (by simp only [evalF, upd, arg0, argS, ofConst, ofCell, Nat.reduceEqDiff, reduceIte] <;> rfl) (by decide) ?_
      refine ro_fieldAddr (by simp only [evalF, upd, arg0, argS, ofConst, ofCell, Nat.reduceEqDiff, reduceIte] <;> rfl) (by exact (fa63_2 _ _ _)) (by decide) ?_
      refine ro_load (by simp only [evalF, upd, arg0, argS, ofConst, ofCell, Nat.reduceEqDiff, reduceIte] <;> rfl) (by exact (load1 ag3 hl rfl)) (by decide) ?_
      refine ro_bin (by simp only [evalF, upd, arg0, argS, ofConst, ofCell, Nat.reduceEqDiff, reduceIte] <;> rfl) (by simp only [evalF, upd, arg0, argS, ofConst, ofCell, Nat.reduceEqDiff, reduceIte] <;> rfl) (by exact (neq_f he)) (by decide) ?_
      refine ro_nil ?_
      try simp only
      refine ex_cond (t := false) (by simp only [evalF, upd, arg0, argS, ofConst, ofCell, Nat.reduceEqDiff, reduceIte] <;> rfl) (fun h => by simp at h) (fun _ => ex_skip ?_)
      try simp only
      refine ex_seq (ex_region ?_)
      refine ro_move (by simp only [evalF, upd, arg0, argS, ofConst, ofCell, Nat.reduceEqDiff, reduceIte] <;> rfl) (by decide) ?_
      refine ro_nilCheck (by simp only [evalF, upd, arg0, argS, ofConst, ofCell, Nat.reduceEqDiff, reduceIte] <;> rfl) (by decide) ?_
      refine ro_fieldAddr (by simp only [evalF, upd, arg0, argS, ofConst, ofCell, Nat.reduceEqDiff, reduceIte] <;> rfl) (by exact (fa63_1 _ _ _)) (by decide) ?_
      refine ro_load (by simp only [evalF, upd, arg0, argS, ofConst, ofCell, Nat.reduceEqDiff, reduceIte] <;> rfl) (by exact (load1 ag3 hl rfl)) (by decide) ?_
      refine ro_bin (by simp only [evalF, upd, arg0, argS, ofConst, ofCell, Nat.reduceEqDiff, reduceIte] <;> rfl) (by simp only [evalF, upd, arg0, argS, ofConst, ofCell, Nat.reduceEqDiff, reduceIte] <;> rfl) (by exact (add_v (by omega))) (by decide) ?_
      refine ro_nilCheck (by simp only [evalF, upd, arg0, argS, ofConst, ofCell, Nat.reduceEqDiff, reduceIte] <;> rfl) (by decide) ?_
      refine ro_fieldAddr (by simp only [evalF, upd, arg0, argS, ofConst, ofCell, Nat.reduceEqDiff, reduceIte] <;> rfl) (by exact (fa63_1 _ _ _)) (by decide) ?_
      refine ro_store (by simp only [evalF, upd, arg0, argS, ofConst, ofCell, Nat.reduceEqDiff, reduceIte] <;> rfl) (by simp only [evalF, upd, arg0, argS, ofConst, ofCell, Nat.reduceEqDiff, reduceIte] <;> rfl) (st_pos _ hl) ?_
      refine ro_nil ?_
      try simp only
      have hx := rr_put h (p + 1) (by omega) e
      have hl2 : AI.look (setHp hp idr (.cells 1 [vb, .pv (.int .i64 (p + 1 : Nat)), .pv (.int .i64 e)])) idr 1 = some [vb, .pv (.int .i64 (p + 1 : Nat)), .pv (.int .i64 e)] := look_same _ _ _ _
      show EX _ _ _ _ _ 47 _ _ (setHp hp idr (.cells 1 [vb, .pv (.int .i64 (p + 1 : Nat)), .pv (.int .i64 e)])) _ _
      generalize setHp hp idr (.cells 1 [vb, .pv (.int .i64 (p + 1 : Nat)), .pv (.int .i64 e)]) = hp2 at hx hl2 ⊢
      obtain ⟨a, q1, q2⟩ := row_at st27 hx.1.row hgi
      refine ex_seq (ex_draw (by kernel_rfl) ?_)
      refine rdw_move rfl (by simp only [evalF, upd, arg0, argS, ofConst, ofCell, Nat.reduceEqDiff, reduceIte] <;> rfl) (by decide) ?_
      refine rdw_nilCheck rfl (by simp only [evalF, upd, arg0, argS, ofConst, ofCell, Nat.reduceEqDiff, reduceIte] <;> rfl) (by decide) ?_
      refine rdw_fieldAddr rfl (by simp only [evalF, upd, arg0, argS, ofConst, ofCell, Nat.reduceEqDiff, reduceIte] <;> rfl) (by exact (fa63_0 _ _ _)) (by decide) ?_
      refine rdw_load rfl (by simp only [evalF, upd, arg0, argS, ofConst, ofCell, Nat.reduceEqDiff, reduceIte] <;> rfl) (by exact (load1 ag27 hl2 rfl)) (by decide) ?_
      refine rdw_move rfl (by simp only [evalF, upd, arg0, argS, ofConst, ofCell, Nat.reduceEqDiff, reduceIte] <;> rfl) (by decide) ?_
      refine rdw_nilCheck rfl (by simp only [evalF, upd, arg0, argS, ofConst, ofCell, Nat.reduceEqDiff, reduceIte] <;> rfl) (by decide) ?_
      refine rdw_fieldAddr rfl (by simp only [evalF, upd, arg0, argS, ofConst, ofCell, Nat.reduceEqDiff, reduceIte] <;> rfl) (by exact (fa63_1 _ _ _)) (by decide) ?_
      refine rdw_load rfl (by simp only [evalF, upd, arg0, argS, ofConst, ofCell, Nat.reduceEqDiff, reduceIte] <;> rfl) (by exact (load1 ag3 hl2 rfl)) (by decide) ?_
      refine rdw_bin rfl (by simp only [evalF, upd, arg0, argS, ofConst, ofCell, Nat.reduceEqDiff, reduceIte] <;> rfl) (by simp only [evalF, upd, arg0, argS, ofConst, ofCell, Nat.reduceEqDiff, reduceIte] <;> rfl) (by exact (sub_v (by omega))) (by decide) ?_
      refine rdw_indexAddr rfl (by simp only [evalF, upd, arg0, argS, ofConst, ofCell, Nat.reduceEqDiff, reduceIte] <;> rfl) (by simp only [evalF, upd, arg0, argS, ofConst, ofCell, Nat.reduceEqDiff, reduceIte] <;> rfl) (by exact (show indexAddrA Try.prog 27 vb (.pv (.int .i64 (((p + 1 : Nat) : Int) - 1))) = some a by rw [show ((p + 1 : Nat) : Int) - 1 = p by omega]; exact q1)) (by decide) ?_
      refine rdw_load rfl (by simp only [evalF, upd, arg0, argS, ofConst, ofCell, Nat.reduceEqDiff, reduceIte] <;> rfl) (by exact (q2)) (by decide) ?_
      refine rdw_conv rfl (by simp only [evalF, upd, arg0, argS, ofConst, ofCell, Nat.reduceEqDiff, reduceIte] <;> rfl) (by exact (conv53 _ h8 _ _)) (by decide) ?_
      refine rdw_assign rfl (by simp only [evalF, upd, arg0, argS, ofConst, ofCell, Nat.reduceEqDiff, reduceIte] <;> rfl) (by decide) ?_
      refine rd_nil ⟨rfl, ?_⟩
      try simp only
      refine ex_ret ?_
      refine ⟨_, rfl, ?_, ?_, hx.2⟩
      · rw [hu]; simp [upd]
      · rw [hu]
        have := hx.1
        rw [he] at this
        exact this
  · have hu : u8F rest e = (0, rest, e) := by simp [u8F, he]
    refine ex_seq (ex_seq (ex_draw (by kernel_rfl) ?_))
    refine rdw_move rfl (by simp only [evalF, upd, arg0, argS, ofConst, ofCell, Nat.reduceEqDiff, reduceIte] <;> rfl) (by decide) ?_
    refine rdw_nilCheck rfl (by simp only [evalF, upd, arg0, argS, ofConst, ofCell, Nat.reduceEqDiff, reduceIte] <;> rfl) (by decide) ?_
    refine rdw_fieldAddr rfl (by simp only [evalF, upd, arg0, argS, ofConst, ofCell, Nat.reduceEqDiff, reduceIte] <;> rfl) (by exact (fa63_2 _ _ _)) (by decide) ?_
    refine rdw_load rfl (by simp only [evalF, upd, arg0, argS, ofConst, ofCell, Nat.reduceEqDiff, reduceIte] <;> rfl) (by exact (load1 ag3 hl rfl)) (by decide) ?_
    refine rdw_bin rfl (by simp only [evalF, upd, arg0, argS, ofConst, ofCell, Nat.reduceEqDiff, reduceIte] <;> rfl) (by simp only [evalF, upd, arg0, argS, ofConst, ofCell, Nat.reduceEqDiff, reduceIte] <;> rfl) (by exact (eql_f he)) (by decide) ?_
    refine rdw_move rfl (by simp only [evalF, upd, arg0, argS, ofConst, ofCell, Nat.reduceEqDiff, reduceIte] <;> rfl) (by decide) ?_
    refine rd_gskip rfl (by simp only [evalF, upd, arg0, argS, ofConst, ofCell, Nat.reduceEqDiff, reduceIte] <;> rfl) rfl (by decide) ?_
    refine rd_gskip rfl (by simp only [evalF, upd, arg0, argS, ofConst, ofCell, Nat.reduceEqDiff, reduceIte] <;> rfl) rfl (by decide) ?_
    refine rd_gskip rfl (by simp only [evalF, upd, arg0, argS, ofConst, ofCell, Nat.reduceEqDiff, reduceIte] <;> rfl) rfl (by decide) ?_
    refine rd_gskip rfl (by simp only [evalF, upd, arg0, argS, ofConst, ofCell, Nat.reduceEqDiff, reduceIte] <;> rfl) rfl (by decide) ?_
    refine rd_gskip rfl (by simp only [evalF, upd, arg0, argS, ofConst, ofCell, Nat.reduceEqDiff, reduceIte] <;> rfl) rfl (by decide) ?_
    refine rd_gskip rfl (by simp only [evalF, upd, arg0, argS, ofConst, ofCell, Nat.reduceEqDiff, reduceIte] <;> rfl) rfl (by decide) ?_
    refine rd_gskip rfl (by simp only [evalF, upd, arg0, argS, ofConst, ofCell, Nat.reduceEqDiff, reduceIte] <;> rfl) rfl (by decide) ?_
    refine rd_gskip rfl (by simp only [evalF, upd, arg0, argS, ofConst, ofCell, Nat.reduceEqDiff, reduceIte] <;> rfl) rfl (by decide) ?_
    refine rd_gskip rfl (by simp only [evalF, upd, arg0, argS, ofConst, ofCell, Nat.reduceEqDiff, reduceIte] <;> rfl) rfl (by decide) ?_
    refine rd_gskip rfl (by simp only [evalF, upd, arg0, argS, ofConst, ofCell, Nat.reduceEqDiff, reduceIte] <;> rfl) rfl (by decide) ?_
    refine rdw_pick rfl (by simp only [evalF, upd, arg0, argS, ofConst, ofCell, Nat.reduceEqDiff, reduceIte] <;> rfl) (by simp only [evalF, upd, arg0, argS, ofConst, ofCell, Nat.reduceEqDiff, reduceIte] <;> rfl) (by simp only [evalF, upd, arg0, argS, ofConst, ofCell, Nat.reduceEqDiff, reduceIte] <;> rfl) (by decide) ?_
    refine rd_nil ⟨rfl, ?_⟩
    try simp only
    refine ex_cond (t := false) (by simp only [evalF, upd, arg0, argS, ofConst, ofCell, Nat.reduceEqDiff, reduceIte] <;> rfl) (fun h => by simp at h) (fun _ => ex_skip ?_)
    try simp only
    refine ex_seq (ex_seq (ex_region ?_))
    refine ro_move (by simp only [evalF, upd, arg0, argS, ofConst, ofCell, Nat.reduceEqDiff, reduceIte] <;> rfl) (by decide) ?_
    refine ro_nilCheck (by simp only [evalF, upd, arg0, argS, ofConst, ofCell, Nat.reduceEqDiff, reduceIte] <;> rfl) (by decide) ?_
    refine ro_fieldAddr (by simp only [evalF, upd, arg0, argS, ofConst, ofCell, Nat.reduceEqDiff, reduceIte] <;> rfl) (by exact (fa63_2 _ _ _)) (by decide) ?_
    refine ro_load (by simp only [evalF, upd, arg0, argS, ofConst, ofCell, Nat.reduceEqDiff, reduceIte] <;> rfl) (by exact (load1 ag3 hl rfl)) (by decide) ?_
    refine ro_bin (by simp only [evalF, upd, arg0, argS, ofConst, ofCell, Nat.reduceEqDiff, reduceIte] <;> rfl) (by simp only [evalF, upd, arg0, argS, ofConst, ofCell, Nat.reduceEqDiff, reduceIte] <;> rfl) (by exact (neq_t he)) (by decide) ?_
    refine ro_nil ?_
    try simp only
    refine ex_cond (t := true) (by simp only [evalF, upd, arg0, argS, ofConst, ofCell, Nat.reduceEqDiff, reduceIte] <;> rfl) (fun _ => ?_) (fun h => by simp at h)
    refine ex_seq (ex_region ?_)
    refine ro_assign (by simp only [evalF, upd, arg0, argS, ofConst, ofCell, Nat.reduceEqDiff, reduceIte] <;> rfl) (by decide) ?_
    refine ro_nil ?_
    try simp only
    refine ex_ret ?_
    refine ⟨_, rfl, ?_, ?_, keepR_refl _ _ _⟩
    · rw [hu]; simp [upd, ofConst, ofCell, evalF]
    · rw [hu]; exact h
theorem u8_byte' {rest : List Int} {e : Int} (h : ∀ x ∈ rest, 0 ≤ x ∧ x ≤ 255) : 0 ≤ (u8F rest e).1 ∧ (u8F rest e).1 ≤ 255 := by
  unfold u8F
  split
  · split
    · simp
    · exact h _ List.mem_cons_self
  · simp
/-- A node, or none. -/
def nodeF (none : Bool) (rest : List Int) (e : Int) : Int × List Int × Int :=
  if (none && (u8F rest e).1 == 255) = true then (-1, (u8F rest e).2.1, (u8F rest e).2.2) else ((u8F rest e).1, (u8F rest e).2.1, mayE (u8F rest e).2.2 (decide ((u8F rest e).1 < 10)))
theorem node29 (d : Nat) {hp : Hp} {nb idr q : Nat} {vb : AV} {b rest : List Int} {e : Int} (none : Bool) (h : Rr hp nb idr q vb b rest e) :
    CA (callA Try.prog facts plains 10000 (d + 2)) 29 [.ptr idr 1 0, .pv (.bool none)] hp nb fun v hp' nb' => v = .pv (.int .i64 (nodeF none rest e).1) ∧ Rr hp' nb' idr q vb b (nodeF none rest e).2.1 (nodeF none rest e).2.2 ∧ KeepR hp nb idr hp' nb' := by
  refine ca_body (fn := Try.f29) (c := bodyOf Try.f29) Try.func29 rfl (by show 2 ≤ 18; omega) ?_
  show EX _ _ _ _ _ 18 _ _ _ _ _
  unfold bodyOf Try.f29
  refine ex_seq (ex_region ?_)
  refine ro_assign (by simp only [evalF, upd, arg0, argS, ofConst, ofCell, Nat.reduceEqDiff, reduceIte] <;> rfl) (by decide) ?_
  refine ro_nil ?_
  try simp only
  refine ex_seq (ex_region ?_)
  refine ro_move (by simp only [evalF, upd, arg0, argS, ofConst, ofCell, Nat.reduceEqDiff, reduceIte] <;> rfl) (by decide) ?_
  refine ro_call (f := 28) («as» := [.ptr idr 1 0]) rfl (by simp [evalF, upd, argsF]) plains_28 rfl (u8_28 _ h) (by decide) ?_
  rintro v2 hp2 nb2 ⟨rfl, hr2, hk2⟩
  refine ro_assign (by simp only [evalF, upd, arg0, argS, ofConst, ofCell, Nat.reduceEqDiff, reduceIte] <;> rfl) (by decide) ?_
  refine ro_nil ?_
  try simp only
  unfold nodeF
  generalize u8F rest e = u at hr2 ⊢
  refine ex_seq (ex_seq (ex_region ?_))
  refine ro_move (by simp only [evalF, upd, arg0, argS, ofConst, ofCell, Nat.reduceEqDiff, reduceIte] <;> rfl) (by decide) ?_
  refine ro_move (by simp only [evalF, upd, arg0, argS, ofConst, ofCell, Nat.reduceEqDiff, reduceIte] <;> rfl) (by decide) ?_
  refine ro_gsel (b := none) (want := true) (v := .pv (.int .i64 u.1)) rfl (by simp only [evalF, upd, arg0, argS, ofConst, ofCell, Nat.reduceEqDiff, reduceIte] <;> rfl) rfl (fun hb => by simp only [primA, evalF, upd, arg0, argS, ofConst, ofCell, Nat.reduceEqDiff, reduceIte, selV_hit hb] <;> rfl) (by decide) ?_
  refine ro_gsel (b := none) (want := true) (v := .pv (.bool (u.1 == 255))) rfl (by simp only [evalF, upd, arg0, argS, ofConst, ofCell, Nat.reduceEqDiff, reduceIte] <;> rfl) rfl (fun hb => by simp only [primA, evalF, upd, arg0, argS, ofConst, ofCell, Nat.reduceEqDiff, reduceIte, selV_hit hb, eql_v, Option.map_some] <;> rfl) (by decide) ?_
  refine ro_pand (b := none) (z := u.1 == 255) (by simp only [evalF, upd, arg0, argS, ofConst, ofCell, Nat.reduceEqDiff, reduceIte] <;> rfl) (by simp only [evalF, upd, Nat.reduceEqDiff, reduceIte] <;> rfl) (by decide) ?_
  refine ro_nil ?_
  try simp only
  refine ex_cond (t := none && u.1 == 255) (by simp only [evalF, upd, arg0, argS, ofConst, ofCell, Nat.reduceEqDiff, reduceIte] <;> rfl) (fun hc => ?_) (fun hc => ?_)
  · rw [if_pos hc]
    refine ex_seq (ex_region ?_)
    refine ro_assign (by simp only [evalF, upd, arg0, argS, ofConst, ofCell, Nat.reduceEqDiff, reduceIte] <;> rfl) (by decide) ?_
    refine ro_nil ?_
    try simp only
    refine ex_ret ?_
    exact ⟨_, rfl, by simp [upd, ofConst, ofCell, evalF], hr2, hk2⟩
  · rw [if_neg (by simp [hc])]
    refine ex_skip ?_
    try simp only
    refine ex_seq (ex_region ?_)
    refine ro_move (by simp only [evalF, upd, arg0, argS, ofConst, ofCell, Nat.reduceEqDiff, reduceIte] <;> rfl) (by decide) ?_
    refine ro_move (by simp only [evalF, upd, arg0, argS, ofConst, ofCell, Nat.reduceEqDiff, reduceIte] <;> rfl) (by decide) ?_
    refine ro_bin (by simp only [evalF, upd, arg0, argS, ofConst, ofCell, Nat.reduceEqDiff, reduceIte] <;> rfl) (by simp only [evalF, upd, arg0, argS, ofConst, ofCell, Nat.reduceEqDiff, reduceIte] <;> rfl) (by exact (lss_v)) (by decide) ?_
    refine ro_call (f := 31) («as» := [.ptr idr 1 0, .pv (.bool (decide (u.1 < 10)))]) rfl (by simp [evalF, upd, argsF]) plains_31 rfl (may31 _ _ hr2) (by decide) ?_
    rintro v3 hp3 nb3 ⟨rfl, hr3, hk3⟩
    refine ro_nil ?_
    try simp only
    refine ex_seq (ex_region ?_)
    refine ro_move (by simp only [evalF, upd, arg0, argS, ofConst, ofCell, Nat.reduceEqDiff, reduceIte] <;> rfl) (by decide) ?_
    refine ro_assign (by simp only [evalF, upd, arg0, argS, ofConst, ofCell, Nat.reduceEqDiff, reduceIte] <;> rfl) (by decide) ?_
    refine ro_nil ?_
    try simp only
    refine ex_ret ?_
    exact ⟨_, rfl, by simp [upd], hr3, keepR_trans hk2 hk3⟩
/-- A time: four bytes. -/
def timeG : Nat → Int → List Int → Int → Int × List Int × Int
  | 0, n, rest, e => (n, rest, e)
  | k + 1, n, rest, e => timeG k (n * 256 + (u8F rest e).1) (u8F rest e).2.1 (u8F rest e).2.2
def timeF (rest : List Int) (e : Int) : Int × List Int × Int :=
  ((timeG 4 0 rest e).1, (timeG 4 0 rest e).2.1, mayE (timeG 4 0 rest e).2.2 (decide ((timeG 4 0 rest e).1 ≥ 1) && decide ((timeG 4 0 rest e).1 ≤ 1000)))
theorem time34 (d : Nat) {hp : Hp} {nb idr q : Nat} {vb : AV} {b rest : List Int} {e : Int} (h : Rr hp nb idr q vb b rest e) :
    CA (callA Try.prog facts plains 10000 (d + 2)) 34 [.ptr idr 1 0] hp nb fun v hp' nb' => v = .pv (.int .i64 (timeF rest e).1) ∧ Rr hp' nb' idr q vb b (timeF rest e).2.1 (timeF rest e).2.2 ∧ KeepR hp nb idr hp' nb' := by
  refine ca_body (fn := Try.f34) (c := bodyOf Try.f34) Try.func34 rfl (by show 1 ≤ 23; omega) ?_
  show EX _ _ _ _ _ 23 _ _ _ _ _
  unfold bodyOf Try.f34
  refine ex_seq (ex_region ?_)
  refine ro_assign (by simp only [evalF, upd, arg0, argS, ofConst, ofCell, Nat.reduceEqDiff, reduceIte] <;> rfl) (by decide) ?_
  refine ro_nil ?_
  try simp only
  refine ex_seq (ex_region ?_)
  refine ro_assign (by simp only [evalF, upd, arg0, argS, ofConst, ofCell, Nat.reduceEqDiff, reduceIte] <;> rfl) (by decide) ?_
  refine ro_nil ?_
  try simp only
  refine ex_seq ?_
  refine ex_seq (ex_region ?_)
  refine ro_assign (by simp only [evalF, upd, arg0, argS, ofConst, ofCell, Nat.reduceEqDiff, reduceIte] <;> rfl) (by decide) ?_
  refine ro_nil ?_
  try simp only
  unfold timeF
  generalize hfin : timeG 4 0 rest e = fin
  refine ex_block (ex_loop (I := fun k g hpx nbx => ∃ (i : Nat) (n : Int) (rest' : List Int) (e' : Int), k = 4 - i ∧ i ≤ 4 ∧ g 0 = .ptr idr 1 0 ∧ g 3 = .pv (.int .i64 n) ∧ g 4 = .pv (.int .i64 i) ∧ 0 ≤ n ∧ n < 256 ^ i ∧ timeG (4 - i) n rest' e' = fin ∧ Rr hpx nbx idr q vb b rest' e' ∧ KeepR hp nb idr hpx nbx)
    (m := 4) ⟨0, 0, rest, e, rfl, by omega, by simp [upd, argsF], by simp [upd, ofConst, ofCell, evalF], by simp [upd, ofConst, ofCell, evalF], by omega, by simp, hfin, h, keepR_refl _ _ _⟩ (by omega) ?_)
  rintro k g hpx nbx ⟨i, n, rest', e', hkk, hi, g0, g3, g4, hn0, hn1, hF, hr, hkp⟩
  refine ex_seq (ex_seq (ex_region ?_))
  refine ro_move (by simp only [evalF, upd, arg0, argS, ofConst, ofCell, Nat.reduceEqDiff, reduceIte, g0, g3, g4] <;> rfl) (by decide) ?_
  refine ro_bin (by simp only [evalF, upd, arg0, argS, ofConst, ofCell, Nat.reduceEqDiff, reduceIte, g0, g3, g4] <;> rfl) (by simp only [evalF, upd, arg0, argS, ofConst, ofCell, Nat.reduceEqDiff, reduceIte, g0, g3, g4] <;> rfl) (by exact (lss_v)) (by decide) ?_
  refine ro_nil ?_
  try simp only
  refine ex_cond (t := decide ((i : Int) < 4)) (by simp only [evalF, upd, arg0, argS, ofConst, ofCell, Nat.reduceEqDiff, reduceIte, g0, g3, g4] <;> rfl) (fun ht => ?_) (fun ht => ?_)
  rotate_left
  · have hie : i = 4 := by
      have := of_decide_eq_false ht
      omega
    rw [hie] at hF
    have hF : (n, rest', e') = fin := hF
    subst hF
    refine ex_exit ?_
    simp only [if_true]
    refine ex_seq (ex_region ?_)
    refine ro_move (by simp only [evalF, upd, arg0, argS, ofConst, ofCell, Nat.reduceEqDiff, reduceIte, g0, g3, g4] <;> rfl) (by decide) ?_
    refine ro_move (by simp only [evalF, upd, arg0, argS, ofConst, ofCell, Nat.reduceEqDiff, reduceIte, g0, g3, g4] <;> rfl) (by decide) ?_
    refine ro_bin (by simp only [evalF, upd, arg0, argS, ofConst, ofCell, Nat.reduceEqDiff, reduceIte, g0, g3, g4] <;> rfl) (by simp only [evalF, upd, arg0, argS, ofConst, ofCell, Nat.reduceEqDiff, reduceIte, g0, g3, g4] <;> rfl) (by exact (geq_v)) (by decide) ?_
    refine ro_move (by simp only [evalF, upd, arg0, argS, ofConst, ofCell, Nat.reduceEqDiff, reduceIte, g0, g3, g4] <;> rfl) (by decide) ?_
    refine ro_gsel (b := decide (n ≥ 1)) (want := true) (v := .pv (.int .i64 n)) rfl (by simp only [evalF, upd, arg0, argS, ofConst, ofCell, Nat.reduceEqDiff, reduceIte, g0, g3, g4] <;> rfl) rfl (fun hb => by simp only [primA, evalF, upd, arg0, argS, ofConst, ofCell, Nat.reduceEqDiff, reduceIte, selV_hit hb, g3] <;> rfl) (by decide) ?_
    refine ro_gsel (b := decide (n ≥ 1)) (want := true) (v := .pv (.bool (decide (n ≤ 1000)))) rfl (by simp only [evalF, upd, arg0, argS, ofConst, ofCell, Nat.reduceEqDiff, reduceIte, g0, g3, g4] <;> rfl) rfl (fun hb => by simp only [primA, evalF, upd, arg0, argS, ofConst, ofCell, Nat.reduceEqDiff, reduceIte, selV_hit hb, leq_v, Option.map_some] <;> rfl) (by decide) ?_
    refine ro_pand (b := decide (n ≥ 1)) (z := decide (n ≤ 1000)) (by simp only [evalF, upd, arg0, argS, ofConst, ofCell, Nat.reduceEqDiff, reduceIte, g0, g3, g4] <;> rfl) (by simp only [evalF, upd, Nat.reduceEqDiff, reduceIte] <;> rfl) (by decide) ?_
    refine ro_call (f := 31) («as» := [.ptr idr 1 0, .pv (.bool (decide (n ≥ 1) && decide (n ≤ 1000)))]) rfl (by simp [evalF, upd, g0]) plains_31 rfl (may31 _ _ hr) (by decide) ?_
    rintro v3 hp3 nb3 ⟨rfl, hr3, hk3⟩
    refine ro_nil ?_
    try simp only
    refine ex_seq (ex_region ?_)
    refine ro_move (by simp only [evalF, upd, arg0, argS, ofConst, ofCell, Nat.reduceEqDiff, reduceIte, g0, g3, g4] <;> rfl) (by decide) ?_
    refine ro_assign (by simp only [evalF, upd, arg0, argS, ofConst, ofCell, Nat.reduceEqDiff, reduceIte, g0, g3, g4] <;> rfl) (by decide) ?_
    refine ro_nil ?_
    try simp only
    refine ex_ret ?_
    exact ⟨_, rfl, by simp [upd, g3], hr3, keepR_trans hkp hk3⟩
  refine ex_skip ?_
  try simp only
  have hil : i < 4 := by
    have := of_decide_eq_true ht
    omega
  have hb8 := u8_byte' (e := e') hr.rest8
  have hn2 : n < 16777216 := by
    have : i = 0 ∨ i = 1 ∨ i = 2 ∨ i = 3 := by omega
    rcases this with rfl | rfl | rfl | rfl <;> simp at hn1 <;> omega
  refine ex_seq (ex_block ?_)
  refine ex_region ?_
  refine ro_move (by simp only [evalF, upd, arg0, argS, ofConst, ofCell, Nat.reduceEqDiff, reduceIte, g0, g3, g4] <;> rfl) (by decide) ?_
  refine ro_bin (by simp only [evalF, upd, arg0, argS, ofConst, ofCell, Nat.reduceEqDiff, reduceIte, g0, g3, g4] <;> rfl) (by simp only [evalF, upd, arg0, argS, ofConst, ofCell, Nat.reduceEqDiff, reduceIte, g0, g3, g4] <;> rfl) (by exact (shl8 _ ⟨hn0, hn2⟩)) (by decide) ?_
  refine ro_move (by simp only [evalF, upd, arg0, argS, ofConst, ofCell, Nat.reduceEqDiff, reduceIte, g0, g3, g4] <;> rfl) (by decide) ?_
  refine ro_call (f := 28) («as» := [.ptr idr 1 0]) rfl (by simp [evalF, upd, g0]) plains_28 rfl (u8_28 _ hr) (by decide) ?_
  rintro v2 hp2 nb2 ⟨rfl, hr2, hk2⟩
  refine ro_bin (by simp only [evalF, upd, arg0, argS, ofConst, ofCell, Nat.reduceEqDiff, reduceIte, g0, g3, g4] <;> rfl) (by simp only [evalF, upd, arg0, argS, ofConst, ofCell, Nat.reduceEqDiff, reduceIte, g0, g3, g4] <;> rfl) (by exact (or8 _ _ ⟨hn0, hn2⟩ hb8)) (by decide) ?_
  refine ro_assign (by simp only [evalF, upd, arg0, argS, ofConst, ofCell, Nat.reduceEqDiff, reduceIte, g0, g3, g4] <;> rfl) (by decide) ?_
  refine ro_nil ?_
  try simp only
  refine ex_region ?_
  refine ro_move (by simp only [evalF, upd, arg0, argS, ofConst, ofCell, Nat.reduceEqDiff, reduceIte, g0, g3, g4] <;> rfl) (by decide) ?_
  refine ro_bin (by simp only [evalF, upd, arg0, argS, ofConst, ofCell, Nat.reduceEqDiff, reduceIte, g0, g3, g4] <;> rfl) (by simp only [evalF, upd, arg0, argS, ofConst, ofCell, Nat.reduceEqDiff, reduceIte, g0, g3, g4] <;> rfl) (by exact (add_v (by omega))) (by decide) ?_
  refine ro_assign (by simp only [evalF, upd, arg0, argS, ofConst, ofCell, Nat.reduceEqDiff, reduceIte, g0, g3, g4] <;> rfl) (by decide) ?_
  refine ro_nil ?_
  refine ⟨4 - (i + 1), by omega, i + 1, n * 256 + (u8F rest' e').1, (u8F rest' e').2.1, (u8F rest' e').2.2, rfl, by omega, by simp [upd, g0], by simp [upd], by simp [upd], by omega, ?_, ?_, hr2, keepR_trans hkp hk2⟩
  · rw [Int.pow_succ]; omega
  · rw [show 4 - i = (4 - (i + 1)) + 1 by omega, timeG] at hF
    exact hF
end Go.Proofs.Ytlinbbjobjnipaa

set_option linter.unusedVariables false
set_option linter.unusedSimpArgs false
set_option linter.unusedSectionVars false
namespace Go.Proofs.Ytlinbbjobjnipaa
open Go AI
set_option maxHeartbeats 4000000
set_option maxRecDepth 10000
/-- Nothing but the reader, and new blocks. -/
def KeepN (hp : Hp) (nb idr : Nat) (hp' : Hp) (nb' : Nat) : Prop := nb ≤ nb' ∧ (∀ id, id < nb → id ≠ idr → hp' id = hp id) ∧ (Tidy hp nb → Tidy hp' nb')
theorem keepN_of {hp hp' : Hp} {nb nb' idr : Nat} (h : KeepR hp nb idr hp' nb') : KeepN hp nb idr hp' nb' := ⟨by rw [h.1]; exact Nat.le_refl _, fun id _ hne => h.2.1 id hne, h.2.2⟩
theorem keepN_trans {hp hp1 hp2 : Hp} {nb nb1 nb2 idr : Nat} (a : KeepN hp nb idr hp1 nb1) (b : KeepN hp1 nb1 idr hp2 nb2) : KeepN hp nb idr hp2 nb2 :=
  ⟨Nat.le_trans a.1 b.1, fun id hid hne => (b.2.1 id (Nat.lt_of_lt_of_le hid a.1) hne).trans (a.2.1 id hid hne), fun h => b.2.2 (a.2.2 h)⟩
theorem keepN_new {hp hp' : Hp} {nb nb' idr : Nat} (h : After hp nb (.pv .nilSlice) hp' nb') : KeepN hp nb idr hp' nb' := ⟨h.1, fun id hid _ => h.2.1 id hid (by simp [ownOf]), h.2.2⟩
theorem rr_keep {hp hp' : Hp} {nb nb' idr q : Nat} {vb : AV} {b rest : List Int} {e : Int} (h : Rr hp nb idr q vb b rest e) (hn : nb ≤ nb') (hk : ∀ id, id < q ∨ id = idr → hp' id = hp id) : Rr hp' nb' idr q vb b rest e := by
  obtain ⟨p, h1, h2, h3⟩ := h.ex
  exact ⟨by have := h.lt; omega, h.le, h.row.keep hn (fun id _ ho => hk id (.inl (h.own id ho))), h.own, h.sz, h.by8, p, h1, h2, by rw [look_at 1 (hk idr (.inr rfl))]; exact h3⟩
def listG : Nat → List Int → List Int → Int → List Int × List Int × Int
  | 0, acc, rest, e => (acc, rest, e)
  | k + 1, acc, rest, e => if e = 0 then listG k (acc ++ [(nodeF false rest e).1]) (nodeF false rest e).2.1 (nodeF false rest e).2.2 else (acc, rest, e)
def listF (rest : List Int) (e : Int) : List Int × List Int × Int :=
  listG (u8F rest e).1.toNat [] (u8F rest e).2.1 (mayE (u8F rest e).2.2 (decide ((u8F rest e).1 ≤ 10)))
theorem list30 (d : Nat) {hp : Hp} {nb idr q : Nat} {vb : AV} {b rest : List Int} {e : Int} (h : Rr hp nb idr q vb b rest e) :
    CA (callA Try.prog facts plains 10000 (d + 3)) 30 [.ptr idr 1 0] hp nb fun v hp' nb' => Grow hp' nb' v (ints (listF rest e).1) ∧ (∀ id, ownOf v = some id → nb ≤ id) ∧ Rr hp' nb' idr q vb b (listF rest e).2.1 (listF rest e).2.2 ∧ KeepN hp nb idr hp' nb' := by
  have hb8 := u8_byte' (e := e) h.rest8
  refine ca_body (fn := Try.f30) (c := bodyOf Try.f30) Try.func30 rfl (by show 1 ≤ 30; omega) ?_
  show EX _ _ _ _ _ 30 _ _ _ _ _
  unfold bodyOf Try.f30
  refine ex_seq (ex_region ?_)
  refine ro_assign (by simp only [evalF, upd, arg0, argS, ofConst, ofCell, Nat.reduceEqDiff, reduceIte] <;> rfl) (by decide) ?_
  refine ro_nil ?_
  try simp only
  refine ex_seq (ex_region ?_)
  refine ro_move (by simp only [evalF, upd, arg0, argS, ofConst, ofCell, Nat.reduceEqDiff, reduceIte] <;> rfl) (by decide) ?_
  refine ro_call (f := 28) («as» := [.ptr idr 1 0]) rfl (by simp [evalF, upd, argsF]) plains_28 rfl (u8_28 _ h) (by decide) ?_
  rintro v2 hp2 nb2 ⟨rfl, hr2, hk2⟩
  refine ro_assign (by simp only [evalF, upd, arg0, argS, ofConst, ofCell, Nat.reduceEqDiff, reduceIte] <;> rfl) (by decide) ?_
  refine ro_nil ?_
  try simp only
  unfold listF
  generalize u8F rest e = u at hr2 hb8 ⊢
  refine ex_seq (ex_region ?_)
  refine ro_move (by simp only [evalF, upd, arg0, argS, ofConst, ofCell, Nat.reduceEqDiff, reduceIte] <;> rfl) (by decide) ?_
  refine ro_move (by simp only [evalF, upd, arg0, argS, ofConst, ofCell, Nat.reduceEqDiff, reduceIte] <;> rfl) (by decide) ?_
  refine ro_bin (by simp only [evalF, upd, arg0, argS, ofConst, ofCell, Nat.reduceEqDiff, reduceIte] <;> rfl) (by simp only [evalF, upd, arg0, argS, ofConst, ofCell, Nat.reduceEqDiff, reduceIte] <;> rfl) (by exact (leq_v)) (by decide) ?_
  refine ro_call (f := 31) («as» := [.ptr idr 1 0, .pv (.bool (decide (u.1 ≤ 10)))]) rfl (by simp [evalF, upd, argsF]) plains_31 rfl (may31 _ _ hr2) (by decide) ?_
  rintro v3 hp3 nb3 ⟨rfl, hr3, hk3⟩
  refine ro_nil ?_
  try simp only
  have hk0 := keepR_trans hk2 hk3
  obtain ⟨n, hn⟩ := Int.eq_ofNat_of_zero_le hb8.1
  rw [hn] at hb8 hr3 ⊢
  simp only [Int.toNat_natCast]
  generalize hfin : listG n [] u.2.1 (mayE u.2.2 (decide ((n : Int) ≤ 10))) = fin
  refine ex_seq (ex_region ?_)
  refine ro_assign (by simp only [evalF, upd, arg0, argS, ofConst, ofCell, Nat.reduceEqDiff, reduceIte] <;> rfl) (by decide) ?_
  refine ro_nil ?_
  try simp only
  refine ex_seq ?_
  refine ex_seq (ex_region ?_)
  refine ro_assign (by simp only [evalF, upd, arg0, argS, ofConst, ofCell, Nat.reduceEqDiff, reduceIte] <;> rfl) (by decide) ?_
  refine ro_nil ?_
  try simp only
  refine ex_block (ex_loop (I := fun k g hpx nbx => ∃ (i : Nat) (v : AV) (acc rest' : List Int) (e' : Int), k = n - i ∧ i ≤ n ∧ g 0 = .ptr idr 1 0 ∧ g 3 = .pv (.int .i64 n) ∧ g 4 = v ∧ g 5 = .pv (.int .i64 i) ∧ acc.length = i ∧ Grow hpx nbx v (ints acc) ∧ (∀ id, ownOf v = some id → nb ≤ id) ∧ listG (n - i) acc rest' e' = fin ∧ Rr hpx nbx idr q vb b rest' e' ∧ KeepN hp nb idr hpx nbx)
    (m := n) ⟨0, .pv .nilSlice, [], u.2.1, mayE u.2.2 (decide ((n : Int) ≤ 10)), rfl, Nat.zero_le _, by simp [upd, argsF], by simp [upd, hn], by simp [upd, ofConst, ofCell, evalF], by simp [upd, ofConst, ofCell, evalF], rfl, .nil, fun id h => by simp [ownOf] at h, hfin, hr3, keepN_of hk0⟩ (by omega) ?_)
  rintro k g hpx nbx ⟨i, v, acc, rest', e', hkk, hi, g0, g3, g4, g5, hal, hg, ho, hF, hr, hkp⟩
  obtain ⟨p, hpl, hrest, hl⟩ := hr.ex
  refine ex_seq (ex_seq (ex_region ?_))
  refine ro_move (by simp only [evalF, upd, arg0, argS, ofConst, ofCell, Nat.reduceEqDiff, reduceIte, g0, g3, g4, g5] <;> rfl) (by decide) ?_
  refine ro_move (by simp only [evalF, upd, arg0, argS, ofConst, ofCell, Nat.reduceEqDiff, reduceIte, g0, g3, g4, g5] <;> rfl) (by decide) ?_
  refine ro_bin (by simp only [evalF, upd, arg0, argS, ofConst, ofCell, Nat.reduceEqDiff, reduceIte, g0, g3, g4, g5] <;> rfl) (by simp only [evalF, upd, arg0, argS, ofConst, ofCell, Nat.reduceEqDiff, reduceIte, g0, g3, g4, g5] <;> rfl) (by exact (lss_v)) (by decide) ?_
  refine ro_move (by simp only [evalF, upd, arg0, argS, ofConst, ofCell, Nat.reduceEqDiff, reduceIte, g0, g3, g4, g5] <;> rfl) (by decide) ?_
  refine ro_gsel (b := decide ((i : Int) < n)) (want := true) (v := .ptr idr 1 0) rfl (by simp only [evalF, upd, arg0, argS, ofConst, ofCell, Nat.reduceEqDiff, reduceIte, g0, g3, g4, g5] <;> rfl) rfl (fun hb => by simp only [primA, evalF, upd, Nat.reduceEqDiff, reduceIte, selV_hit hb, g0] <;> rfl) (by decide) ?_
  refine ro_gsel (b := decide ((i : Int) < n)) (want := true) (v := .ptr idr 1 0) rfl (by simp only [evalF, upd, arg0, argS, ofConst, ofCell, Nat.reduceEqDiff, reduceIte, g0, g3, g4, g5] <;> rfl) rfl (fun hb => by simp only [primA, evalF, upd, Nat.reduceEqDiff, reduceIte, selV_hit hb] <;> rfl) (by decide) ?_
  refine ro_gsel (b := decide ((i : Int) < n)) (want := true) (v := .ptr idr 1 (0 + 2)) rfl (by simp only [evalF, upd, arg0, argS, ofConst, ofCell, Nat.reduceEqDiff, reduceIte, g0, g3, g4, g5] <;> rfl) rfl (fun hb => by simp only [primA, evalF, upd, Nat.reduceEqDiff, reduceIte, selV_hit hb, fa63_2, Option.map_some] <;> rfl) (by decide) ?_
  refine ro_gsel (b := decide ((i : Int) < n)) (want := true) (v := .pv (.int .i64 e')) rfl (by simp only [evalF, upd, arg0, argS, ofConst, ofCell, Nat.reduceEqDiff, reduceIte, g0, g3, g4, g5] <;> rfl) rfl (fun hb => by simp only [primA, evalF, upd, Nat.reduceEqDiff, reduceIte, selV_hit hb, load1 ag3 hl (show ([vb, .pv (.int .i64 p), .pv (.int .i64 e')] : List AV)[0 + 2]? = some _ from rfl), Option.map_some] <;> rfl) (by decide) ?_
  refine ro_gsel (b := decide ((i : Int) < n)) (want := true) (v := .pv (.bool (e' == 0))) rfl (by simp only [evalF, upd, arg0, argS, ofConst, ofCell, Nat.reduceEqDiff, reduceIte, g0, g3, g4, g5] <;> rfl) rfl (fun hb => by simp only [primA, evalF, upd, ofConst, ofCell, Nat.reduceEqDiff, reduceIte, selV_hit hb, eql_v, Option.map_some] <;> rfl) (by decide) ?_
  refine ro_pand (b := decide ((i : Int) < n)) (z := e' == 0) (by simp only [evalF, upd, arg0, argS, ofConst, ofCell, Nat.reduceEqDiff, reduceIte, g0, g3, g4, g5] <;> rfl) (by simp only [evalF, upd, Nat.reduceEqDiff, reduceIte] <;> rfl) (by decide) ?_
  refine ro_nil ?_
  try simp only
  refine ex_cond (t := decide ((i : Int) < n) && e' == 0) (by simp only [evalF, upd, arg0, argS, ofConst, ofCell, Nat.reduceEqDiff, reduceIte, g0, g3, g4, g5] <;> rfl) (fun ht => ?_) (fun ht => ?_)
  rotate_left
  · have hres : fin = (acc, rest', e') := by
      rw [← hF]
      simp only [Bool.and_eq_false_iff, decide_eq_false_iff_not] at ht
      rcases ht with ht | ht
      · rw [show n - i = 0 by omega]; rfl
      · have he : e' ≠ 0 := by simpa using ht
        cases n - i with
        | zero => rfl
        | succ k => rw [listG, if_neg he]
    refine ex_exit ?_
    simp only [if_true]
    refine ex_seq (ex_region ?_)
    refine ro_move (by simp only [evalF, upd, arg0, argS, ofConst, ofCell, Nat.reduceEqDiff, reduceIte, g0, g3, g4, g5] <;> rfl) (by decide) ?_
    refine ro_assign (by simp only [evalF, upd, arg0, argS, ofConst, ofCell, Nat.reduceEqDiff, reduceIte, g0, g3, g4, g5] <;> rfl) (by decide) ?_
    refine ro_nil ?_
    try simp only
    refine ex_ret ?_
    rw [hres]
    exact ⟨_, rfl, by simpa [upd] using hg, by simpa [upd] using ho, hr, hkp⟩
  refine ex_skip ?_
  try simp only
  simp only [Bool.and_eq_true, decide_eq_true_eq] at ht
  have hil : i < n := by omega
  have he0 : e' = 0 := by simpa using ht.2
  refine ex_seq (ex_block ?_)
  refine ex_region ?_
  refine ro_move (by simp only [evalF, upd, arg0, argS, ofConst, ofCell, Nat.reduceEqDiff, reduceIte, g0, g3, g4, g5] <;> rfl) (by decide) ?_
  refine ro_move (by simp only [evalF, upd, arg0, argS, ofConst, ofCell, Nat.reduceEqDiff, reduceIte, g0, g3, g4, g5] <;> rfl) (by decide) ?_
  refine ro_call (f := 29) («as» := [.ptr idr 1 0, .pv (.bool false)]) rfl (by simp [evalF, upd, g0, ofConst, ofCell]) plains_29 rfl (node29 _ false hr) (by decide) ?_
  rintro v2 hp4 nb4 ⟨rfl, hr4, hk4⟩
  obtain rfl := hk4.1
  have hle := hr.le
  have hgx : Grow hp4 nb4 v (ints acc) := hg.keep (Nat.le_refl _) (fun id hid hown => hk4.2.1 id (fun hh => by have := ho id hown; have := h.lt; omega))
  refine ro_buildSlice rfl (by simp only [List.map_cons, List.map_nil, evalF, upd, Nat.reduceEqDiff, reduceIte]; exact bs24_1 _ _) (by decide) ?_
  refine ro_append (r := [.int .i64 (nodeF false rest' e').1]) st24 Try.underlying24 (by simp only [evalF, upd, arg0, argS, ofConst, ofCell, Nat.reduceEqDiff, reduceIte, g0, g3, g4, g5] <;> rfl) (by simp only [evalF, upd, arg0, argS, ofConst, ofCell, Nat.reduceEqDiff, reduceIte, g0, g3, g4, g5] <;> rfl) (hgx.keep (Nat.le_succ _) (fun id hid _ => by simp [setHp, show id ≠ nb4 by omega])) (src_built rfl (by simp [setHp])) (by simp [ints]; omega) (by decide) ?_
  intro v5 hp5 nb5 hg5 ha5 ho5
  refine ro_assign (by simp only [evalF, upd, arg0, argS, ofConst, ofCell, Nat.reduceEqDiff, reduceIte, g0, g3, g4, g5] <;> rfl) (by decide) ?_
  refine ro_nil ?_
  try simp only
  have hax := after_trans (after_new hp4 nb4 v [.pv (.int .i64 (nodeF false rest' e').1)] (pvs_ok [.int .i64 (nodeF false rest' e').1])) ha5 (fun id h => .inl h)
  refine ex_region ?_
  refine ro_move (by simp only [evalF, upd, arg0, argS, ofConst, ofCell, Nat.reduceEqDiff, reduceIte, g0, g3, g4, g5] <;> rfl) (by decide) ?_
  refine ro_bin (by simp only [evalF, upd, arg0, argS, ofConst, ofCell, Nat.reduceEqDiff, reduceIte, g0, g3, g4, g5] <;> rfl) (by simp only [evalF, upd, arg0, argS, ofConst, ofCell, Nat.reduceEqDiff, reduceIte, g0, g3, g4, g5] <;> rfl) (by exact (add_v (by omega))) (by decide) ?_
  refine ro_assign (by simp only [evalF, upd, arg0, argS, ofConst, ofCell, Nat.reduceEqDiff, reduceIte, g0, g3, g4, g5] <;> rfl) (by decide) ?_
  refine ro_nil ?_
  have hlt := h.lt
  have hn0 := hkp.1
  have k5 : ∀ id, id < nb → hp5 id = hp4 id := fun id hid => hax.2.1 id (by omega) (fun hh => by have := ho id hh; omega)
  refine ⟨n - (i + 1), by omega, i + 1, v5, acc ++ [(nodeF false rest' e').1], (nodeF false rest' e').2.1, (nodeF false rest' e').2.2, rfl, by omega, by simp [upd, g0], by simp [upd, g3], by simp [upd], by simp [upd], by simp [hal], by simpa [ints] using hg5, fun id hid => ?_, ?_, rr_keep hr4 hax.1 (fun id hid => k5 id ?_), ⟨by have := hax.1; omega, fun id hid hne => ?_, fun ht => hax.2.2 (hk4.2.2 (hkp.2.2 ht))⟩⟩
  · rcases ho5 id hid with hh | hh
    · exact ho id hh
    · omega
  · rw [show n - i = (n - (i + 1)) + 1 by omega, listG, if_pos he0] at hF
    exact hF
  · rcases hid with hid | hid <;> omega
  · rw [k5 id hid, hk4.2.1 id hne]
    exact hkp.2.1 id hid hne
theorem zero26 : zeroA Try.prog 26 = some ((u8s (List.replicate 32 0)).map .pv) := by kernel_rfl
theorem und26 : Try.prog.underlying 26 = some (.array 32 5) := by kernel_rfl
theorem szA5 : szA Try.prog 5 = some 1 := by kernel_rfl
theorem agK : isAggA Try.prog 26 = some true := by kernel_rfl
theorem szK : szA Try.prog 26 = some 32 := by kernel_rfl
theorem ia26 {id ver off i : Nat} (h : i < 32) : indexAddrA Try.prog 26 (.ptr id ver off) (.pv (.int .i64 i)) = some (.ptr id ver (off + i)) := by
  unfold indexAddrA
  simp only [asIntA, Option.bind_some, und26, szA5]
  rw [if_pos (by omega)]
  simp [addPtr]
theorem spl_at {acc : List Int} {i : Nat} (x : Int) (ha : acc.length = i) (hi : i < 32) : splice ((u8s (acc ++ List.replicate (32 - i) 0)).map AV.pv) (0 + i) [.pv (.int .u8 x)] = (u8s ((acc ++ [x]) ++ List.replicate (32 - (i + 1)) 0)).map AV.pv := by
  have e : List.replicate (32 - i) (0 : Int) = 0 :: List.replicate (32 - (i + 1)) 0 := by
    rw [show 32 - i = (32 - (i + 1)) + 1 by omega, List.replicate_succ]
  rw [e, Nat.zero_add]
  simp only [u8s, List.map_append, List.map_cons, List.append_assoc, List.map_nil, List.cons_append, List.nil_append]
  exact splice_lo (by simp [ha])
def idG : Nat → List Int → List Int → Int → List Int × List Int × Int
  | 0, acc, rest, e => (acc, rest, e)
  | k + 1, acc, rest, e => idG k (acc ++ [u8 (u8F rest e).1]) (u8F rest e).2.1 (u8F rest e).2.2
theorem idG_len : ∀ (k : Nat) (acc rest : List Int) (e : Int), (idG k acc rest e).1.length = acc.length + k
  | 0, acc, rest, e => rfl
  | k + 1, acc, rest, e => by
    rw [idG, idG_len k]
    simp; omega
theorem id32 (d : Nat) {hp : Hp} {nb idr q : Nat} {vb : AV} {b rest : List Int} {e : Int} (h : Rr hp nb idr q vb b rest e) :
    CA (callA Try.prog facts plains 10000 (d + 2)) 32 [.ptr idr 1 0] hp nb fun v hp' nb' => v = .agg ((u8s (idG 32 [] rest e).1).map .pv) ∧ Rr hp' nb' idr q vb b (idG 32 [] rest e).2.1 (idG 32 [] rest e).2.2 ∧ KeepN hp nb idr hp' nb' := by
  have hlt := h.lt
  refine ca_body (fn := Try.f32) (c := bodyOf Try.f32) Try.func32 rfl (by show 1 ≤ 15; omega) ?_
  show EX _ _ _ _ _ 15 _ _ _ _ _
  unfold bodyOf Try.f32
  refine ex_seq (ex_region ?_)
  refine ro_alloc zero26 (by kernel_rfl) (by decide) ?_
  refine ro_nil ?_
  try simp only
  refine ex_seq (ex_region ?_)
  refine ro_alloc zero26 (by kernel_rfl) (by decide) ?_
  refine ro_nil ?_
  try simp only
  have hpz : ∀ (m : Nat) (l : List Int), ∀ c ∈ (u8s l).map AV.pv, okC m c := fun m l => pvs_ok _
  have ha0 : After hp nb (.pv .nilSlice) (setHp (setHp hp nb (.cells 1 ((u8s (List.replicate 32 0)).map .pv))) (nb + 1) (.cells 1 ((u8s (List.replicate 32 0)).map .pv))) (nb + 1 + 1) :=
    after_nil (v := .pv .nilSlice) (after_new hp nb _ _ (hpz _ _)) (after_new _ (nb + 1) _ _ (hpz _ _)) (fun id h => by simp [ownOf] at h)
  have hz0 : AI.look (setHp (setHp hp nb (.cells 1 ((u8s (List.replicate 32 0)).map .pv))) (nb + 1) (.cells 1 ((u8s (List.replicate 32 0)).map .pv))) nb 1 = some ((u8s (List.replicate 32 0)).map .pv) := by rw [look_ne _ _ _ (by omega)]; exact look_same _ _ _ _
  have hz1 : AI.look (setHp (setHp hp nb (.cells 1 ((u8s (List.replicate 32 0)).map .pv))) (nb + 1) (.cells 1 ((u8s (List.replicate 32 0)).map .pv))) (nb + 1) 1 = some ((u8s (List.replicate 32 0)).map .pv) := look_same _ _ _ _
  generalize setHp (setHp hp nb (.cells 1 ((u8s (List.replicate 32 0)).map .pv))) (nb + 1) (.cells 1 ((u8s (List.replicate 32 0)).map .pv)) = hp1 at ha0 hz0 hz1 ⊢
  have hle := h.le
  have hr1 : Rr hp1 (nb + 1 + 1) idr q vb b rest e := rr_keep h ha0.1 (fun id hid => ha0.2.1 id (by rcases hid with hid | hid <;> omega) (by simp [ownOf]))
  refine ex_seq ?_
  refine ex_seq (ex_region ?_)
  refine ro_assign (by simp only [evalF, upd, arg0, argS, ofConst, ofCell, Nat.reduceEqDiff, reduceIte] <;> rfl) (by decide) ?_
  refine ro_nil ?_
  try simp only
  generalize hfin : idG 32 [] rest e = fin
  refine ex_block (ex_loop (I := fun k g hpx nbx => ∃ (i : Nat) (acc rest' : List Int) (e' : Int), k = 32 - i ∧ i ≤ 32 ∧ g 0 = .ptr idr 1 0 ∧ g 2 = .ptr nb 1 0 ∧ g 3 = .ptr (nb + 1) 1 0 ∧ g 4 = .pv (.int .i64 i) ∧ acc.length = i ∧ idG (32 - i) acc rest' e' = fin ∧ AI.look hpx nb 1 = some ((u8s (List.replicate 32 0)).map .pv) ∧ AI.look hpx (nb + 1) 1 = some ((u8s (acc ++ List.replicate (32 - i) 0)).map .pv) ∧ Rr hpx nbx idr q vb b rest' e' ∧ KeepN hp nb idr hpx nbx ∧ nbx = nb + 1 + 1)
    (m := 32) ⟨0, [], rest, e, rfl, by omega, by simp [upd, argsF], by simp [upd], by simp [upd], by simp [upd, ofConst, ofCell, evalF], rfl, hfin, hz0, hz1, hr1, keepN_new ha0, rfl⟩ (by omega) ?_)
  rintro k g hpx nbx ⟨i, acc, rest', e', hkk, hi, g0, g2, g3, g4, hal, hF, hy0, hy1, hr, hkp, rfl⟩
  refine ex_seq (ex_seq (ex_region ?_))
  refine ro_move (by simp only [evalF, upd, arg0, argS, ofConst, ofCell, Nat.reduceEqDiff, reduceIte, g0, g2, g3, g4] <;> rfl) (by decide) ?_
  refine ro_bin (by simp only [evalF, upd, arg0, argS, ofConst, ofCell, Nat.reduceEqDiff, reduceIte, g0, g2, g3, g4] <;> rfl) (by simp only [evalF, upd, arg0, argS, ofConst, ofCell, Nat.reduceEqDiff, reduceIte, g0, g2, g3, g4] <;> rfl) (by exact (lss_v)) (by decide) ?_
  refine ro_nil ?_
  try simp only
  refine ex_cond (t := decide ((i : Int) < 32)) (by simp only [evalF, upd, arg0, argS, ofConst, ofCell, Nat.reduceEqDiff, reduceIte, g0, g2, g3, g4] <;> rfl) (fun ht => ?_) (fun ht => ?_)
  rotate_left
  · have hie : i = 32 := by
      have := of_decide_eq_false ht
      omega
    rw [hie] at hF hy1
    have hF : (acc, rest', e') = fin := hF
    subst hF
    have hy1 : AI.look hpx (nb + 1) 1 = some ((u8s acc).map .pv) := by simpa using hy1
    have hl32 : ((u8s acc).map AV.pv).length = 32 := by simp [u8s]; omega
    have hl0 : ((u8s (List.replicate 32 0)).map AV.pv).length = 32 := by simp [u8s]
    refine ex_exit ?_
    simp only [if_true]
    refine ex_seq (ex_region ?_)
    refine ro_load (by simp only [evalF, upd, arg0, argS, ofConst, ofCell, Nat.reduceEqDiff, reduceIte, g0, g2, g3, g4] <;> rfl) (by exact (loadN agK szK hy1 (by rw [hl32]; omega))) (by decide) ?_
    refine ro_store (v := .agg ((u8s acc).map .pv)) (by simp only [evalF, upd, arg0, argS, ofConst, ofCell, Nat.reduceEqDiff, reduceIte, g0, g2, g3, g4] <;> rfl) (by simp only [evalF, upd, Nat.reduceEqDiff, reduceIte, List.drop_zero]; rw [List.take_of_length_le (by rw [hl32]; omega)]) (storeN szK hy0 (by
      rw [List.all_eq_true]
      intro c hc
      obtain ⟨z, _, rfl⟩ := List.mem_map.1 hc
      rfl) hl32 (by rw [hl0]; omega)) ?_
    refine ro_nil ?_
    try simp only
    have hsp : splice ((u8s (List.replicate 32 0)).map AV.pv) 0 ((u8s acc).map AV.pv) = (u8s acc).map AV.pv := by
      unfold splice
      rw [List.take_zero, List.nil_append, Nat.zero_add, List.drop_of_length_le (by rw [hl0, hl32]; omega), List.append_nil]
    rw [hsp]
    refine ex_ret ?_
    have hfl : AI.look (setHp hpx nb (.cells 1 ((u8s acc).map .pv))) nb 1 = some ((u8s acc).map .pv) := look_same _ _ _ _
    refine ⟨.agg ((u8s acc).map .pv), ?_, rfl, rr_keep hr (Nat.le_refl _) (fun id hid => by simp [setHp, show id ≠ nb by rcases hid with hid | hid <;> omega]), ⟨by omega, fun id hid hne => ?_, fun ht => tidy_put (hkp.2.2 ht) (hpz _ _)⟩⟩
    · show resOneF Try.prog _ _ (.cell 2 26) = _
      simp only [resOneF, upd, Nat.reduceEqDiff, reduceIte, g2]
      rw [loadN agK szK hfl (by rw [hl32]; omega), List.drop_zero, List.take_of_length_le (by rw [hl32]; omega)]
    · rw [show setHp hpx nb (.cells 1 ((u8s acc).map .pv)) id = hpx id by simp [setHp, show id ≠ nb by omega]]
      exact hkp.2.1 id hid hne
  refine ex_skip ?_
  try simp only
  have hil : i < 32 := by
    have := of_decide_eq_true ht
    omega
  refine ex_seq (ex_block ?_)
  refine ex_region ?_
  refine ro_move (by simp only [evalF, upd, arg0, argS, ofConst, ofCell, Nat.reduceEqDiff, reduceIte, g0, g2, g3, g4] <;> rfl) (by decide) ?_
  refine ro_move (by simp only [evalF, upd, arg0, argS, ofConst, ofCell, Nat.reduceEqDiff, reduceIte, g0, g2, g3, g4] <;> rfl) (by decide) ?_
  refine ro_call (f := 28) («as» := [.ptr idr 1 0]) rfl (by simp [evalF, upd, g0]) plains_28 rfl (u8_28 _ hr) (by decide) ?_
  rintro v2 hp2 nb2 ⟨rfl, hr2, hk2⟩
  obtain rfl := hk2.1
  refine ro_conv (by simp only [evalF, upd, arg0, argS, ofConst, ofCell, Nat.reduceEqDiff, reduceIte, g0, g2, g3, g4] <;> rfl) (by exact (conv_u8 _ _)) (by decide) ?_
  refine ro_indexAddr (by simp only [evalF, upd, arg0, argS, ofConst, ofCell, Nat.reduceEqDiff, reduceIte, g0, g2, g3, g4] <;> rfl) (by simp only [evalF, upd, arg0, argS, ofConst, ofCell, Nat.reduceEqDiff, reduceIte, g0, g2, g3, g4] <;> rfl) (by exact (ia26 hil)) (by decide) ?_
  have hy1' : AI.look hp2 (nb + 1) 1 = some ((u8s (acc ++ List.replicate (32 - i) 0)).map .pv) := by rw [look_at 1 (hk2.2.1 (nb + 1) (by omega))]; exact hy1
  have hy0' : AI.look hp2 nb 1 = some ((u8s (List.replicate 32 0)).map .pv) := by rw [look_at 1 (hk2.2.1 nb (by omega))]; exact hy0
  refine ro_store (by simp only [evalF, upd, arg0, argS, ofConst, ofCell, Nat.reduceEqDiff, reduceIte, g0, g2, g3, g4] <;> rfl) (by simp only [evalF, upd, arg0, argS, ofConst, ofCell, Nat.reduceEqDiff, reduceIte, g0, g2, g3, g4] <;> rfl) (store1 szA5 hy1' rfl rfl (by simp [u8s]; omega)) ?_
  rw [spl_at _ hal hil]
  refine ro_nil ?_
  try simp only
  refine ex_region ?_
  refine ro_move (by simp only [evalF, upd, arg0, argS, ofConst, ofCell, Nat.reduceEqDiff, reduceIte, g0, g2, g3, g4] <;> rfl) (by decide) ?_
  refine ro_bin (by simp only [evalF, upd, arg0, argS, ofConst, ofCell, Nat.reduceEqDiff, reduceIte, g0, g2, g3, g4] <;> rfl) (by simp only [evalF, upd, arg0, argS, ofConst, ofCell, Nat.reduceEqDiff, reduceIte, g0, g2, g3, g4] <;> rfl) (by exact (add_v (by omega))) (by decide) ?_
  refine ro_assign (by simp only [evalF, upd, arg0, argS, ofConst, ofCell, Nat.reduceEqDiff, reduceIte, g0, g2, g3, g4] <;> rfl) (by decide) ?_
  refine ro_nil ?_
  refine ⟨32 - (i + 1), by omega, i + 1, acc ++ [u8 (u8F rest' e').1], (u8F rest' e').2.1, (u8F rest' e').2.2, rfl, by omega, by simp [upd, g0], by simp [upd, g2], by simp [upd, g3], by simp [upd], by simp [hal], ?_, by rw [look_ne _ _ _ (by omega)]; exact hy0', look_same _ _ _ _, rr_keep hr2 (Nat.le_refl _) (fun id hid => by simp [setHp, show id ≠ nb + 1 by rcases hid with hid | hid <;> omega]), ⟨by omega, fun id hid hne => ?_, fun ht => tidy_put (hk2.2.2 (hkp.2.2 ht)) (hpz _ _)⟩, rfl⟩
  · rw [show 32 - i = (32 - (i + 1)) + 1 by omega, idG] at hF
    exact hF
  · rw [show setHp hp2 (nb + 1) (.cells 1 ((u8s ((acc ++ [u8 (u8F rest' e').1]) ++ List.replicate (32 - (i + 1)) 0)).map .pv)) id = hp2 id by simp [setHp, show id ≠ nb + 1 by omega]]
    rw [hk2.2.1 id hne]
    exact hkp.2.1 id hid hne
end Go.Proofs.Ytlinbbjobjnipaa

set_option linter.unusedVariables false
set_option linter.unusedSimpArgs false
set_option linter.unusedSectionVars false
namespace Go.Proofs.Ytlinbbjobjnipaa
open Go AI
set_option maxHeartbeats 4000000
set_option maxRecDepth 10000
/-- The length of a row of bytes. -/
def lenF (rest : List Int) (e : Int) : Int × List Int × Int :=
  ((u8F rest e).1 * 256 + (u8F (u8F rest e).2.1 (u8F rest e).2.2).1, (u8F (u8F rest e).2.1 (u8F rest e).2.2).2.1,
    mayE (u8F (u8F rest e).2.1 (u8F rest e).2.2).2.2 (decide ((u8F rest e).1 * 256 + (u8F (u8F rest e).2.1 (u8F rest e).2.2).1 ≤ 6000)))
def cutE (n : Int) (rest : List Int) (e : Int) : Int := if (e == 0 && decide ((rest.length : Int) < n)) = true then 8 else e
def dataF (rest : List Int) (e : Int) : List Int × List Int × Int :=
  if cutE (lenF rest e).1 (lenF rest e).2.1 (lenF rest e).2.2 = 0 then ((lenF rest e).2.1.take (lenF rest e).1.toNat, (lenF rest e).2.1.drop (lenF rest e).1.toNat, 0)
  else ([], (lenF rest e).2.1, cutE (lenF rest e).1 (lenF rest e).2.1 (lenF rest e).2.2)
theorem dataNeeds9 : needs (regOf Try.f33 9) = [(0, 4), (0, 8), (0, 14)] := by kernel_rfl
theorem dataStat9 : statOk (regOf Try.f33 9) = true := by kernel_rfl
theorem ids_one {nb : Nat} {b : Blk} : ∀ id, id < nb → id ∉ (Chg.one nb b).ids := fun id hid hm => by
  simp only [Chg.ids, List.mem_singleton] at hm
  omega
theorem data33 (d : Nat) {hp : Hp} {nb idr q : Nat} {vb : AV} {b rest : List Int} {e : Int} (h : Rr hp nb idr q vb b rest e) :
    CA (callA Try.prog facts plains 10000 (d + 2)) 33 [.ptr idr 1 0] hp nb fun v hp' nb' => Row hp' nb' v (u8s (dataF rest e).1) ∧ (∀ id, ownOf v = some id → nb ≤ id) ∧ Rr hp' nb' idr q vb b (dataF rest e).2.1 (dataF rest e).2.2 ∧ KeepN hp nb idr hp' nb' := by
  have hb8 := u8_byte' (e := e) h.rest8
  refine ca_body (fn := Try.f33) (c := bodyOf Try.f33) Try.func33 rfl (by show 1 ≤ 68; omega) ?_
  show EX _ _ _ _ _ 68 _ _ _ _ _
  unfold bodyOf Try.f33
  refine ex_seq (ex_region ?_)
  refine ro_assign (by simp only [evalF, upd, arg0, argS, ofConst, ofCell, Nat.reduceEqDiff, reduceIte] <;> rfl) (by decide) ?_
  refine ro_nil ?_
  try simp only
  refine ex_seq (ex_region ?_)
  refine ro_move (by simp only [evalF, upd, arg0, argS, ofConst, ofCell, Nat.reduceEqDiff, reduceIte] <;> rfl) (by decide) ?_
  refine ro_call (f := 28) («as» := [.ptr idr 1 0]) rfl (by simp [evalF, upd, argsF]) plains_28 rfl (u8_28 _ h) (by decide) ?_
  rintro v2 hp2 nb2 ⟨rfl, hr2, hk2⟩
  refine ro_bin (by simp only [evalF, upd, arg0, argS, ofConst, ofCell, Nat.reduceEqDiff, reduceIte] <;> rfl) (by simp only [evalF, upd, arg0, argS, ofConst, ofCell, Nat.reduceEqDiff, reduceIte] <;> rfl) (by exact (shl8 _ ⟨hb8.1, by omega⟩)) (by decide) ?_
  refine ro_assign (by simp only [evalF, upd, arg0, argS, ofConst, ofCell, Nat.reduceEqDiff, reduceIte] <;> rfl) (by decide) ?_
  refine ro_nil ?_
  try simp only
  unfold dataF lenF
  generalize u8F rest e = u at hr2 hb8 ⊢
  have hw8 := u8_byte' (e := u.2.2) hr2.rest8
  refine ex_seq (ex_region ?_)
  refine ro_move (by simp only [evalF, upd, arg0, argS, ofConst, ofCell, Nat.reduceEqDiff, reduceIte] <;> rfl) (by decide) ?_
  refine ro_move (by simp only [evalF, upd, arg0, argS, ofConst, ofCell, Nat.reduceEqDiff, reduceIte] <;> rfl) (by decide) ?_
  refine ro_call (f := 28) («as» := [.ptr idr 1 0]) rfl (by simp [evalF, upd, argsF]) plains_28 rfl (u8_28 _ hr2) (by decide) ?_
  rintro v3 hp3 nb3 ⟨rfl, hr3, hk3⟩
  refine ro_bin (by simp only [evalF, upd, arg0, argS, ofConst, ofCell, Nat.reduceEqDiff, reduceIte] <;> rfl) (by simp only [evalF, upd, arg0, argS, ofConst, ofCell, Nat.reduceEqDiff, reduceIte] <;> rfl) (by exact (or8 _ _ ⟨hb8.1, by omega⟩ hw8)) (by decide) ?_
  refine ro_assign (by simp only [evalF, upd, arg0, argS, ofConst, ofCell, Nat.reduceEqDiff, reduceIte] <;> rfl) (by decide) ?_
  refine ro_nil ?_
  try simp only
  generalize u8F u.2.1 u.2.2 = w at hr3 hw8 ⊢
  generalize hlen : u.1 * 256 + w.1 = len
  have hlen0 : 0 ≤ len ∧ len < 70000 := by omega
  refine ex_seq (ex_region ?_)
  refine ro_move (by simp only [evalF, upd, arg0, argS, ofConst, ofCell, Nat.reduceEqDiff, reduceIte] <;> rfl) (by decide) ?_
  refine ro_move (by simp only [evalF, upd, arg0, argS, ofConst, ofCell, Nat.reduceEqDiff, reduceIte] <;> rfl) (by decide) ?_
  refine ro_bin (by simp only [evalF, upd, arg0, argS, ofConst, ofCell, Nat.reduceEqDiff, reduceIte] <;> rfl) (by simp only [evalF, upd, arg0, argS, ofConst, ofCell, Nat.reduceEqDiff, reduceIte] <;> rfl) (by exact (leq_v)) (by decide) ?_
  refine ro_call (f := 31) («as» := [.ptr idr 1 0, .pv (.bool (decide (len ≤ 6000)))]) rfl (by simp [evalF, upd, argsF]) plains_31 rfl (may31 _ _ hr3) (by decide) ?_
  rintro v4 hp4 nb4 ⟨rfl, hr4, hk4⟩
  refine ro_nil ?_
  try simp only
  have hk04 := keepR_trans hk2 (keepR_trans hk3 hk4)
  generalize mayE w.2.2 (decide (len ≤ 6000)) = e4 at hr4 ⊢
  generalize w.2.1 = rest4 at hr4 ⊢
  obtain ⟨p, hpl, hrest, hl⟩ := hr4.ex
  have hsz := hr4.sz
  have hbl : (u8s b).length = b.length := by simp [u8s]
  have hrl : rest4.length = b.length - p := by rw [hrest, List.length_drop]
  obtain rfl : nb4 = nb := hk04.1
  have hK : KeepN hp nb4 idr hp4 nb4 := keepN_of hk04
  have hcut : cutE len rest4 e4 = 0 ↔ e4 = 0 ∧ ¬ ((rest4.length : Int) < len) := by
    unfold cutE
    by_cases h1 : e4 = 0 <;> by_cases h2 : (rest4.length : Int) < len <;> simp [h1, h2]
  -- what is behind the look at the length
  refine ex_seq (ex_weaken (K := fun x g' hp' nb' => x = .normal ∧ g' 0 = .ptr idr 1 0 ∧ g' 3 = .pv (.int .i64 len) ∧ ∃ e5, e5 = cutE len rest4 e4 ∧ AI.look hp' idr 1 = some [vb, .pv (.int .i64 p), .pv (.int .i64 e5)] ∧ Rr hp' nb4 idr q vb b rest4 e5 ∧ KeepN hp nb4 idr hp' nb4 ∧ nb' = nb4) ?_ ?_)
  · by_cases he : e4 = 0
    · refine ex_seq (ex_draw (by kernel_rfl) ?_)
      refine rdw_move rfl (by simp only [evalF, upd, arg0, argS, ofConst, ofCell, Nat.reduceEqDiff, reduceIte] <;> rfl) (by decide) ?_
      refine rdw_nilCheck rfl (by simp only [evalF, upd, arg0, argS, ofConst, ofCell, Nat.reduceEqDiff, reduceIte] <;> rfl) (by decide) ?_
      refine rdw_fieldAddr rfl (by simp only [evalF, upd, arg0, argS, ofConst, ofCell, Nat.reduceEqDiff, reduceIte] <;> rfl) (by exact (fa63_2 _ _ _)) (by decide) ?_
      refine rdw_load rfl (by simp only [evalF, upd, arg0, argS, ofConst, ofCell, Nat.reduceEqDiff, reduceIte] <;> rfl) (by exact (load1 ag3 hl rfl)) (by decide) ?_
      refine rdw_bin rfl (by simp only [evalF, upd, arg0, argS, ofConst, ofCell, Nat.reduceEqDiff, reduceIte] <;> rfl) (by simp only [evalF, upd, arg0, argS, ofConst, ofCell, Nat.reduceEqDiff, reduceIte] <;> rfl) (by exact (eql_t he)) (by decide) ?_
      refine rdw_move rfl (by simp only [evalF, upd, arg0, argS, ofConst, ofCell, Nat.reduceEqDiff, reduceIte] <;> rfl) (by decide) ?_
      refine rdw_move (want_of rfl (by simp only [evalF, upd, arg0, argS, ofConst, ofCell, Nat.reduceEqDiff, reduceIte] <;> rfl) rfl) (by simp only [evalF, upd, arg0, argS, ofConst, ofCell, Nat.reduceEqDiff, reduceIte] <;> rfl) (by decide) ?_
      refine rdw_nilCheck (want_of rfl (by simp only [evalF, upd, arg0, argS, ofConst, ofCell, Nat.reduceEqDiff, reduceIte] <;> rfl) rfl) (by simp only [evalF, upd, arg0, argS, ofConst, ofCell, Nat.reduceEqDiff, reduceIte] <;> rfl) (by decide) ?_
      refine rdw_fieldAddr (want_of rfl (by simp only [evalF, upd, arg0, argS, ofConst, ofCell, Nat.reduceEqDiff, reduceIte] <;> rfl) rfl) (by simp only [evalF, upd, arg0, argS, ofConst, ofCell, Nat.reduceEqDiff, reduceIte] <;> rfl) (by exact (fa63_0 _ _ _)) (by decide) ?_
      refine rdw_load (want_of rfl (by simp only [evalF, upd, arg0, argS, ofConst, ofCell, Nat.reduceEqDiff, reduceIte] <;> rfl) rfl) (by simp only [evalF, upd, arg0, argS, ofConst, ofCell, Nat.reduceEqDiff, reduceIte] <;> rfl) (by exact (load1 ag27 hl rfl)) (by decide) ?_
      refine rdw_builtin (want_of rfl (by simp only [evalF, upd, arg0, argS, ofConst, ofCell, Nat.reduceEqDiff, reduceIte] <;> rfl) rfl) (by simp only [List.map_cons, List.map_nil, evalF, upd, Nat.reduceEqDiff, reduceIte] <;> rfl) (by exact (row_len st27 hr4.row)) (by decide) ?_
      refine rdw_move (want_of rfl (by simp only [evalF, upd, arg0, argS, ofConst, ofCell, Nat.reduceEqDiff, reduceIte] <;> rfl) rfl) (by simp only [evalF, upd, arg0, argS, ofConst, ofCell, Nat.reduceEqDiff, reduceIte] <;> rfl) (by decide) ?_
      refine rdw_nilCheck (want_of rfl (by simp only [evalF, upd, arg0, argS, ofConst, ofCell, Nat.reduceEqDiff, reduceIte] <;> rfl) rfl) (by simp only [evalF, upd, arg0, argS, ofConst, ofCell, Nat.reduceEqDiff, reduceIte] <;> rfl) (by decide) ?_
      refine rdw_fieldAddr (want_of rfl (by simp only [evalF, upd, arg0, argS, ofConst, ofCell, Nat.reduceEqDiff, reduceIte] <;> rfl) rfl) (by simp only [evalF, upd, arg0, argS, ofConst, ofCell, Nat.reduceEqDiff, reduceIte] <;> rfl) (by exact (fa63_1 _ _ _)) (by decide) ?_
      refine rdw_load (want_of rfl (by simp only [evalF, upd, arg0, argS, ofConst, ofCell, Nat.reduceEqDiff, reduceIte] <;> rfl) rfl) (by simp only [evalF, upd, arg0, argS, ofConst, ofCell, Nat.reduceEqDiff, reduceIte] <;> rfl) (by exact (load1 ag3 hl rfl)) (by decide) ?_
      refine rdw_bin (want_of rfl (by simp only [evalF, upd, arg0, argS, ofConst, ofCell, Nat.reduceEqDiff, reduceIte] <;> rfl) rfl) (by simp only [evalF, upd, arg0, argS, ofConst, ofCell, Nat.reduceEqDiff, reduceIte] <;> rfl) (by simp only [evalF, upd, arg0, argS, ofConst, ofCell, Nat.reduceEqDiff, reduceIte] <;> rfl) (by exact (sub_v (by omega))) (by decide) ?_
      refine rdw_move (want_of rfl (by simp only [evalF, upd, arg0, argS, ofConst, ofCell, Nat.reduceEqDiff, reduceIte] <;> rfl) rfl) (by simp only [evalF, upd, arg0, argS, ofConst, ofCell, Nat.reduceEqDiff, reduceIte] <;> rfl) (by decide) ?_
      refine rdw_bin (want_of rfl (by simp only [evalF, upd, arg0, argS, ofConst, ofCell, Nat.reduceEqDiff, reduceIte] <;> rfl) rfl) (by simp only [evalF, upd, arg0, argS, ofConst, ofCell, Nat.reduceEqDiff, reduceIte] <;> rfl) (by simp only [evalF, upd, arg0, argS, ofConst, ofCell, Nat.reduceEqDiff, reduceIte] <;> rfl) (by exact (lss_v)) (by decide) ?_
      refine rdw_pick rfl (by simp only [evalF, upd, arg0, argS, ofConst, ofCell, Nat.reduceEqDiff, reduceIte] <;> rfl) (by simp only [evalF, upd, arg0, argS, ofConst, ofCell, Nat.reduceEqDiff, reduceIte] <;> rfl) (by simp only [evalF, upd, arg0, argS, ofConst, ofCell, Nat.reduceEqDiff, reduceIte] <;> rfl) (by decide) ?_
      refine rd_nil ⟨rfl, ?_⟩
      try simp only
      rw [hbl]
      by_cases hc : (rest4.length : Int) < len
      · refine ex_cond (t := true) (by simp only [evalF, upd, Nat.reduceEqDiff, reduceIte, if_true]; rw [decide_eq_true (by omega)]) (fun _ => ?_) (fun h => by simp at h)
        refine ex_region ?_
        refine ro_move (by simp only [evalF, upd, arg0, argS, ofConst, ofCell, Nat.reduceEqDiff, reduceIte] <;> rfl) (by decide) ?_
        refine ro_nilCheck (by simp only [evalF, upd, arg0, argS, ofConst, ofCell, Nat.reduceEqDiff, reduceIte] <;> rfl) (by decide) ?_
        refine ro_fieldAddr (by simp only [evalF, upd, arg0, argS, ofConst, ofCell, Nat.reduceEqDiff, reduceIte] <;> rfl) (by exact (fa63_2 _ _ _)) (by decide) ?_
        refine ro_store (by simp only [evalF, upd, arg0, argS, ofConst, ofCell, Nat.reduceEqDiff, reduceIte] <;> rfl) (by simp only [evalF, upd, arg0, argS, ofConst, ofCell, Nat.reduceEqDiff, reduceIte] <;> rfl) (st_err _ hl) ?_
        refine ro_nil ?_
        have hx := rr_put hr4 p hpl 8
        rw [← hrest] at hx
        refine ⟨by first | rfl | trivial, by simp [upd, argsF], by simp [upd], 8, ?_, look_same _ _ _ _, hx.1, keepN_trans hK (keepN_of hx.2), rfl⟩
        unfold cutE
        rw [if_pos (by simp [he, hc])]
      · refine ex_cond (t := false) (by simp only [evalF, upd, Nat.reduceEqDiff, reduceIte, if_true]; rw [decide_eq_false (by omega)]) (fun h => by simp at h) (fun _ => ex_skip ?_)
        refine ⟨by first | rfl | trivial, by simp [upd, argsF], by simp [upd], e4, ?_, hl, hr4, hK, rfl⟩
        unfold cutE
        rw [if_neg (by simp [hc])]
    · refine ex_seq (ex_draw (by kernel_rfl) ?_)
      refine rdw_move rfl (by simp only [evalF, upd, arg0, argS, ofConst, ofCell, Nat.reduceEqDiff, reduceIte] <;> rfl) (by decide) ?_
      refine rdw_nilCheck rfl (by simp only [evalF, upd, arg0, argS, ofConst, ofCell, Nat.reduceEqDiff, reduceIte] <;> rfl) (by decide) ?_
      refine rdw_fieldAddr rfl (by simp only [evalF, upd, arg0, argS, ofConst, ofCell, Nat.reduceEqDiff, reduceIte] <;> rfl) (by exact (fa63_2 _ _ _)) (by decide) ?_
      refine rdw_load rfl (by simp only [evalF, upd, arg0, argS, ofConst, ofCell, Nat.reduceEqDiff, reduceIte] <;> rfl) (by exact (load1 ag3 hl rfl)) (by decide) ?_
      refine rdw_bin rfl (by simp only [evalF, upd, arg0, argS, ofConst, ofCell, Nat.reduceEqDiff, reduceIte] <;> rfl) (by simp only [evalF, upd, arg0, argS, ofConst, ofCell, Nat.reduceEqDiff, reduceIte] <;> rfl) (by exact (eql_f he)) (by decide) ?_
      refine rdw_move rfl (by simp only [evalF, upd, arg0, argS, ofConst, ofCell, Nat.reduceEqDiff, reduceIte] <;> rfl) (by decide) ?_
      refine rd_gskip rfl (by simp only [evalF, upd, arg0, argS, ofConst, ofCell, Nat.reduceEqDiff, reduceIte] <;> rfl) rfl (by decide) ?_
      refine rd_gskip rfl (by simp only [evalF, upd, arg0, argS, ofConst, ofCell, Nat.reduceEqDiff, reduceIte] <;> rfl) rfl (by decide) ?_
      refine rd_gskip rfl (by simp only [evalF, upd, arg0, argS, ofConst, ofCell, Nat.reduceEqDiff, reduceIte] <;> rfl) rfl (by decide) ?_
      refine rd_gskip rfl (by simp only [evalF, upd, arg0, argS, ofConst, ofCell, Nat.reduceEqDiff, reduceIte] <;> rfl) rfl (by decide) ?_
      refine rd_gskip rfl (by simp only [evalF, upd, arg0, argS, ofConst, ofCell, Nat.reduceEqDiff, reduceIte] <;> rfl) rfl (by decide) ?_
      refine rd_gskip rfl (by simp only [evalF, upd, arg0, argS, ofConst, ofCell, Nat.reduceEqDiff, reduceIte] <;> rfl) rfl (by decide) ?_
      refine rd_gskip rfl (by simp only [evalF, upd, arg0, argS, ofConst, ofCell, Nat.reduceEqDiff, reduceIte] <;> rfl) rfl (by decide) ?_
      refine rd_gskip rfl (by simp only [evalF, upd, arg0, argS, ofConst, ofCell, Nat.reduceEqDiff, reduceIte] <;> rfl) rfl (by decide) ?_
      refine rd_gskip rfl (by simp only [evalF, upd, arg0, argS, ofConst, ofCell, Nat.reduceEqDiff, reduceIte] <;> rfl) rfl (by decide) ?_
      refine rd_gskip rfl (by simp only [evalF, upd, arg0, argS, ofConst, ofCell, Nat.reduceEqDiff, reduceIte] <;> rfl) rfl (by decide) ?_
      refine rd_gskip rfl (by simp only [evalF, upd, arg0, argS, ofConst, ofCell, Nat.reduceEqDiff, reduceIte] <;> rfl) rfl (by decide) ?_
      refine rd_gskip rfl (by simp only [evalF, upd, arg0, argS, ofConst, ofCell, Nat.reduceEqDiff, reduceIte] <;> rfl) rfl (by decide) ?_
      refine rdw_pick rfl (by simp only [evalF, upd, arg0, argS, ofConst, ofCell, Nat.reduceEqDiff, reduceIte] <;> rfl) (by simp only [evalF, upd, arg0, argS, ofConst, ofCell, Nat.reduceEqDiff, reduceIte] <;> rfl) (by simp only [evalF, upd, arg0, argS, ofConst, ofCell, Nat.reduceEqDiff, reduceIte] <;> rfl) (by decide) ?_
      refine rd_nil ⟨rfl, ?_⟩
      try simp only
      refine ex_cond (t := false) (by simp only [evalF, upd, arg0, argS, ofConst, ofCell, Nat.reduceEqDiff, reduceIte] <;> rfl) (fun h => by simp at h) (fun _ => ex_skip ?_)
      refine ⟨by first | rfl | trivial, by simp [upd, argsF], by simp [upd], e4, ?_, hl, hr4, hK, rfl⟩
      unfold cutE
      rw [if_neg (by simp [he])]
  rintro x g5 hp5 nb5 ⟨rfl, g0, g3, e5, he5, hl5, hr5, hK5, e6⟩
  rw [e6]
  clear e6 nb5
  try simp only
  rw [← he5] at hcut ⊢
  refine ex_seq (ex_seq (ex_region ?_))
  refine ro_move (by simp only [evalF, upd, arg0, argS, ofConst, ofCell, Nat.reduceEqDiff, reduceIte, g0, g3] <;> rfl) (by decide) ?_
  refine ro_nilCheck (by simp only [evalF, upd, arg0, argS, ofConst, ofCell, Nat.reduceEqDiff, reduceIte, g0, g3] <;> rfl) (by decide) ?_
  refine ro_fieldAddr (by simp only [evalF, upd, arg0, argS, ofConst, ofCell, Nat.reduceEqDiff, reduceIte, g0, g3] <;> rfl) (by exact (fa63_2 _ _ _)) (by decide) ?_
  refine ro_load (by simp only [evalF, upd, arg0, argS, ofConst, ofCell, Nat.reduceEqDiff, reduceIte, g0, g3] <;> rfl) (by exact (load1 ag3 hl5 rfl)) (by decide) ?_
  refine ro_bin (by simp only [evalF, upd, arg0, argS, ofConst, ofCell, Nat.reduceEqDiff, reduceIte, g0, g3] <;> rfl) (by simp only [evalF, upd, arg0, argS, ofConst, ofCell, Nat.reduceEqDiff, reduceIte, g0, g3] <;> rfl) (by exact (neq_v)) (by decide) ?_
  refine ro_nil ?_
  try simp only
  refine ex_cond (t := (e5 != 0)) (by simp only [evalF, upd, arg0, argS, ofConst, ofCell, Nat.reduceEqDiff, reduceIte, g0, g3] <;> rfl) (fun hc => ?_) (fun hc => ?_)
  · have hne : e5 ≠ 0 := by simpa using hc
    rw [if_neg hne]
    refine ex_seq (ex_region ?_)
    refine ro_assign (by simp only [evalF, upd, arg0, argS, ofConst, ofCell, Nat.reduceEqDiff, reduceIte, g0, g3] <;> rfl) (by decide) ?_
    refine ro_nil ?_
    try simp only
    refine ex_ret ?_
    refine ⟨.pv .nilSlice, by simp [resF, resOneF, upd, ofConst, ofCell, evalF, Try.f33], .nil, fun id h => by simp [ownOf] at h, hr5, hK5⟩
  have h0 : e5 = 0 := by simpa using hc
  rw [if_pos h0]
  obtain ⟨_, hge⟩ := hcut.1 h0
  refine ex_skip ?_
  try simp only
  obtain ⟨n, hn⟩ := Int.eq_ofNat_of_zero_le hlen0.1
  rw [hn] at hge g3 ⊢
  simp only [Int.toNat_natCast]
  have hpn : p + n ≤ b.length := by omega
  refine ex_seq (ex_region ?_)
  refine ro_move (by simp only [evalF, upd, arg0, argS, ofConst, ofCell, Nat.reduceEqDiff, reduceIte, g0, g3] <;> rfl) (by decide) ?_
  refine ro_move (by simp only [evalF, upd, arg0, argS, ofConst, ofCell, Nat.reduceEqDiff, reduceIte, g0, g3] <;> rfl) (by decide) ?_
  refine ro_nilCheck (by simp only [evalF, upd, arg0, argS, ofConst, ofCell, Nat.reduceEqDiff, reduceIte, g0, g3] <;> rfl) (by decide) ?_
  refine ro_fieldAddr (by simp only [evalF, upd, arg0, argS, ofConst, ofCell, Nat.reduceEqDiff, reduceIte, g0, g3] <;> rfl) (by exact (fa63_1 _ _ _)) (by decide) ?_
  refine ro_load (by simp only [evalF, upd, arg0, argS, ofConst, ofCell, Nat.reduceEqDiff, reduceIte, g0, g3] <;> rfl) (by exact (load1 ag3 hl5 rfl)) (by decide) ?_
  refine ro_move (by simp only [evalF, upd, arg0, argS, ofConst, ofCell, Nat.reduceEqDiff, reduceIte, g0, g3] <;> rfl) (by decide) ?_
  refine ro_bin (by simp only [evalF, upd, arg0, argS, ofConst, ofCell, Nat.reduceEqDiff, reduceIte, g0, g3] <;> rfl) (by simp only [evalF, upd, arg0, argS, ofConst, ofCell, Nat.reduceEqDiff, reduceIte, g0, g3] <;> rfl) (by exact (add_v (by omega))) (by decide) ?_
  refine ro_nilCheck (by simp only [evalF, upd, arg0, argS, ofConst, ofCell, Nat.reduceEqDiff, reduceIte, g0, g3] <;> rfl) (by decide) ?_
  refine ro_fieldAddr (by simp only [evalF, upd, arg0, argS, ofConst, ofCell, Nat.reduceEqDiff, reduceIte, g0, g3] <;> rfl) (by exact (fa63_1 _ _ _)) (by decide) ?_
  refine ro_store (by simp only [evalF, upd, arg0, argS, ofConst, ofCell, Nat.reduceEqDiff, reduceIte, g0, g3] <;> rfl) (by simp only [evalF, upd, arg0, argS, ofConst, ofCell, Nat.reduceEqDiff, reduceIte, g0, g3] <;> rfl) (st_pos _ hl5) ?_
  refine ro_nil ?_
  try simp only
  have hx := rr_put hr5 (p + n) hpn 0
  rw [← List.drop_drop, ← hrest] at hx
  rw [h0]
  have hl6 : AI.look (setHp hp5 idr (.cells 1 [vb, .pv (.int .i64 (p + n : Nat)), .pv (.int .i64 0)])) idr 1 = some [vb, .pv (.int .i64 (p + n : Nat)), .pv (.int .i64 0)] := look_same _ _ _ _
  show EX _ _ _ _ _ 68 _ _ (setHp hp5 idr (.cells 1 [vb, .pv (.int .i64 (p + n : Nat)), .pv (.int .i64 0)])) _ _
  generalize setHp hp5 idr (.cells 1 [vb, .pv (.int .i64 (p + n : Nat)), .pv (.int .i64 0)]) = hp6 at hx hl6 ⊢
  obtain ⟨hr6, hk6⟩ := hx
  have hlt := hr6.lt
  have hK6 := keepN_trans hK5 (keepN_of hk6)
  have hl7 : AI.look (setHp hp6 nb4 (.cells 1 [])) idr 1 = some [vb, .pv (.int .i64 (p + n : Nat)), .pv (.int .i64 0)] := by rw [look_ne _ _ _ (by omega)]; exact hl6
  have hax7 := after_new hp6 nb4 (.pv .nilSlice) [] (by simp)
  have hr7 : Rr (setHp hp6 nb4 (.cells 1 [])) (nb4 + 1) idr q vb b (rest4.drop n) 0 := rr_keep hr6 (Nat.le_succ _) (fun id hid => by have := hr6.le; simp [setHp, show id ≠ nb4 by rcases hid with hid | hid <;> omega])
  refine ex_seq (ex_draw dataStat9 ?_)
  refine rd_new (v := .slice nb4 1 0 0 0 1 true) (b := .cells 1 []) rfl (by simp only [primA, List.map_nil]; exact bs27_0 _) (by decide) ?_
  refine rdw_move rfl (by simp only [evalF, upd, arg0, argS, ofConst, ofCell, Nat.reduceEqDiff, reduceIte, g0, g3] <;> rfl) (by decide) ?_
  refine rdw_nilCheck rfl (by simp only [evalF, upd, arg0, argS, ofConst, ofCell, Nat.reduceEqDiff, reduceIte, g0, g3] <;> rfl) (by decide) ?_
  refine rdw_fieldAddr rfl (by simp only [evalF, upd, arg0, argS, ofConst, ofCell, Nat.reduceEqDiff, reduceIte, g0, g3] <;> rfl) (by exact (fa63_0 _ _ _)) (by decide) ?_
  refine rdw_load rfl (by simp only [evalF, upd, arg0, argS, ofConst, ofCell, Nat.reduceEqDiff, reduceIte, g0, g3] <;> rfl) (by exact (load1 ag27 hl7 rfl)) (by decide) ?_
  refine rdw_move rfl (by simp only [evalF, upd, arg0, argS, ofConst, ofCell, Nat.reduceEqDiff, reduceIte, g0, g3] <;> rfl) (by decide) ?_
  refine rdw_nilCheck rfl (by simp only [evalF, upd, arg0, argS, ofConst, ofCell, Nat.reduceEqDiff, reduceIte, g0, g3] <;> rfl) (by decide) ?_
  refine rdw_fieldAddr rfl (by simp only [evalF, upd, arg0, argS, ofConst, ofCell, Nat.reduceEqDiff, reduceIte, g0, g3] <;> rfl) (by exact (fa63_1 _ _ _)) (by decide) ?_
  refine rdw_load rfl (by simp only [evalF, upd, arg0, argS, ofConst, ofCell, Nat.reduceEqDiff, reduceIte, g0, g3] <;> rfl) (by exact (load1 ag3 hl7 rfl)) (by decide) ?_
  refine rdw_move rfl (by simp only [evalF, upd, arg0, argS, ofConst, ofCell, Nat.reduceEqDiff, reduceIte, g0, g3] <;> rfl) (by decide) ?_
  refine rdw_bin rfl (by simp only [evalF, upd, arg0, argS, ofConst, ofCell, Nat.reduceEqDiff, reduceIte, g0, g3] <;> rfl) (by simp only [evalF, upd, arg0, argS, ofConst, ofCell, Nat.reduceEqDiff, reduceIte, g0, g3] <;> rfl) (by exact (sub_v (by omega))) (by decide) ?_
  refine rdw_move rfl (by simp only [evalF, upd, arg0, argS, ofConst, ofCell, Nat.reduceEqDiff, reduceIte, g0, g3] <;> rfl) (by decide) ?_
  refine rdw_nilCheck rfl (by simp only [evalF, upd, arg0, argS, ofConst, ofCell, Nat.reduceEqDiff, reduceIte, g0, g3] <;> rfl) (by decide) ?_
  refine rdw_fieldAddr rfl (by simp only [evalF, upd, arg0, argS, ofConst, ofCell, Nat.reduceEqDiff, reduceIte, g0, g3] <;> rfl) (by exact (fa63_1 _ _ _)) (by decide) ?_
  refine rdw_load rfl (by simp only [evalF, upd, arg0, argS, ofConst, ofCell, Nat.reduceEqDiff, reduceIte, g0, g3] <;> rfl) (by exact (load1 ag3 hl7 rfl)) (by decide) ?_
  obtain ⟨vs, s1, s2, s3⟩ := row_slice st27 hr7.row (lo := p) (hi := p + n) (lv := some (.pv (.int .i64 (((p + n : Nat) : Int) - n)))) (hv := some (.pv (.int .i64 (p + n : Nat)))) (.inl (by rw [show ((p + n : Nat) : Int) - n = p by omega])) (.inl rfl) (by omega) (by rw [hbl]; exact hpn)
  have hsl : ((u8s b).drop p).take (p + n - p) = u8s (rest4.take n) := by
    rw [hrest, show p + n - p = n by omega]
    simp [u8s, List.map_drop, List.map_take]
  rw [hsl] at s2
  refine rdw_slice rfl (by simp only [evalF, upd, arg0, argS, ofConst, ofCell, Nat.reduceEqDiff, reduceIte, g0, g3] <;> rfl) (by simp only [Option.map_some, evalF, upd, Nat.reduceEqDiff, reduceIte] <;> rfl) (by simp only [Option.map_some, evalF, upd, Nat.reduceEqDiff, reduceIte] <;> rfl) rfl s1 (by decide) ?_
  refine rd_append (r := u8s (rest4.take n)) (l := []) st27 Try.underlying27 (by simp only [evalF, upd, arg0, argS, ofConst, ofCell, Nat.reduceEqDiff, reduceIte, g0, g3] <;> rfl) (by simp only [evalF, upd, arg0, argS, ofConst, ofCell, Nat.reduceEqDiff, reduceIte, g0, g3] <;> rfl) (.own nb4 1 0 true [] rfl (by omega) (by simp [setHp])) (row_src s2) (by simp [u8s]; omega) (by decide) ?_
  intro v8 hp8 nb8 c8 hg8 ha8 hc8 ho8
  refine rdw_assign rfl (by simp only [evalF, upd, arg0, argS, ofConst, ofCell, Nat.reduceEqDiff, reduceIte, g0, g3] <;> rfl) (by decide) ?_
  refine rd_nil ⟨dyn_of rfl (fun p hp' => ?_), ?_⟩
  · have hp'' : p ∈ needs (regOf Try.f33 9) := hp'
    rw [dataNeeds9] at hp''
    simp only [List.mem_cons, List.not_mem_nil, or_false] at hp''
    rcases hp'' with rfl | rfl | rfl <;> intro x y hx hy <;> cases hx <;> cases hy <;>
      (refine heapPart_quiet (m := nb4) ids_one rfl (fun id hid => ?_)
       simp [footF, looksIn, Op.operands, evalF, upd, idOf, g0] at hid
       omega)
  try simp only
  refine ex_ret ?_
  have k8 : ∀ id, id < nb4 → hp8 id = hp6 id := fun id hid => by
    rw [ha8.2.1 id (by omega) (fun hh => by simp only [ownOf, Option.some.injEq] at hh; omega)]
    simp [setHp, show id ≠ nb4 by omega]
  refine ⟨v8, by simp [resF, resOneF, upd, Try.f33], by simpa using hg8.row, fun id hid => ?_, rr_keep hr6 (by have := ha8.1; omega) (fun id hid => k8 id (by have := hr6.le; rcases hid with hid | hid <;> omega)), ⟨by have := ha8.1; omega, fun id hid hne => by rw [k8 id hid]; exact hK6.2.1 id hid hne, fun ht => ha8.2.2 (hax7.2.2 (hK6.2.2 ht))⟩⟩
  rcases ho8 id hid with hh | hh
  · simp only [ownOf, Option.some.injEq] at hh; omega
  · omega
end Go.Proofs.Ytlinbbjobjnipaa

set_option linter.unusedVariables false
set_option linter.unusedSimpArgs false
set_option linter.unusedSectionVars false
namespace Go.Proofs.Ytlinbbjobjnipaa
open Go AI
theorem may_stuck {e : Int} (ok : Bool) (h : e ≠ 0) : mayE e ok = e := by
  unfold mayE
  rw [if_neg (by simp [h])]
theorem may_pos {p : Prop} [Decidable p] (h : p) : mayE 0 (decide p) = 0 := by rw [decide_eq_true h]; rfl
theorem may_neg {p : Prop} [Decidable p] (h : ¬ p) : mayE 0 (decide p) = 11 := by rw [decide_eq_false h]; rfl
theorem u8_stuck (b : List Int) {e : Int} (h : e ≠ 0) : u8F b e = (0, b, e) := by
  unfold u8F
  rw [if_neg h]
theorem u8_nil : u8F [] 0 = (0, [], 8) := rfl
theorem u8_cons (x : Int) (r : List Int) : u8F (x :: r) 0 = (x, r, 0) := rfl
theorem node_stuck (n : Bool) (b : List Int) {e : Int} (h : e ≠ 0) : nodeF n b e = (0, b, e) := by
  unfold nodeF
  rw [u8_stuck b h, if_neg (by simp), may_stuck _ h]
theorem listG_stuck {e : Int} (h : e ≠ 0) : ∀ (k : Nat) (acc b : List Int), listG k acc b e = (acc, b, e)
  | 0, acc, b => rfl
  | k + 1, acc, b => by rw [listG, if_neg h]
theorem listF_stuck (b : List Int) {e : Int} (h : e ≠ 0) : (listF b e).2 = (b, e) := by
  unfold listF
  rw [u8_stuck b h, may_stuck _ h, listG_stuck h]
theorem idG_stuck {e : Int} (h : e ≠ 0) : ∀ (k : Nat) (acc b : List Int), (idG k acc b e).2 = (b, e)
  | 0, acc, b => rfl
  | k + 1, acc, b => by rw [idG, u8_stuck b h]; exact idG_stuck h k _ b
theorem timeG_stuck {e : Int} (h : e ≠ 0) : ∀ (k : Nat) (n : Int) (b : List Int), (timeG k n b e).2 = (b, e)
  | 0, n, b => rfl
  | k + 1, n, b => by rw [timeG, u8_stuck b h]; exact timeG_stuck h k _ b
theorem timeF_stuck (b : List Int) {e : Int} (h : e ≠ 0) : (timeF b e).2 = (b, e) := by
  have := timeG_stuck h 4 0 b
  unfold timeF
  rw [this, may_stuck _ h]
theorem lenF_stuck (b : List Int) {e : Int} (h : e ≠ 0) : (lenF b e).2 = (b, e) := by
  unfold lenF
  rw [u8_stuck b h]
  simp only
  rw [u8_stuck b h, may_stuck _ h]
theorem cut_stuck {e : Int} (n : Int) (b : List Int) (h : e ≠ 0) : cutE n b e = e := by
  unfold cutE
  rw [if_neg (by simp [h])]
theorem dataF_stuck (b : List Int) {e : Int} (h : e ≠ 0) : (dataF b e).2 = (b, e) := by
  have h1 : (lenF b e).2.1 = b := by rw [lenF_stuck b h]
  have h2 : (lenF b e).2.2 = e := by rw [lenF_stuck b h]
  unfold dataF
  rw [h1, h2, cut_stuck _ _ h, if_neg h]
def refS (f : Nat) (m : M) (b : List Int) (e : Int) : M × List Int × Int :=
  match f with
  | 0 => ({ m with pred := (nodeF true b e).1 }, (nodeF true b e).2)
  | 1 => ({ m with node := (nodeF false b e).1 }, (nodeF false b e).2)
  | 2 => ({ m with list := (listF b e).1 }, (listF b e).2)
  | 3 => ({ m with done := (u8F b e).1 == 1 }, (u8F b e).2.1, mayE (u8F b e).2.2 (decide ((u8F b e).1 ≤ 1)))
  | 4 => ({ m with err := (u8F b e).1 }, (u8F b e).2.1, mayE (u8F b e).2.2 (decide ((u8F b e).1 ≤ 20)))
  | 5 => ({ m with key := (idG 32 [] b e).1 }, (idG 32 [] b e).2)
  | 6 => ({ m with data := (dataF b e).1 }, (dataF b e).2)
  | _ => ({ m with lease := (timeF b e).1 }, (timeF b e).2)
def refsS : List Nat → M → List Int → Int → M × List Int × Int
  | [], m, b, e => (m, b, e)
  | f :: fs, m, b, e => refsS fs (refS f m b e).1 (refS f m b e).2.1 (refS f m b e).2.2
theorem refS_stuck (f : Nat) (m : M) (b : List Int) {e : Int} (h : e ≠ 0) : (refS f m b e).2.2 = e := by
  unfold refS
  split
  · rw [node_stuck _ _ h]
  · rw [node_stuck _ _ h]
  · rw [listF_stuck _ h]
  · simp only [u8_stuck b h, may_stuck _ h]
  · simp only [u8_stuck b h, may_stuck _ h]
  · rw [idG_stuck h]
  · rw [dataF_stuck _ h]
  · rw [timeF_stuck _ h]
theorem refsS_stuck : ∀ (fs : List Nat) (m : M) (b : List Int) {e : Int}, e ≠ 0 → (refsS fs m b e).2.2 = e
  | [], m, b, e, h => rfl
  | f :: fs, m, b, e, h => by
    have h1 := refS_stuck f m b h
    rw [refsS, refsS_stuck fs _ _ (by rw [h1]; exact h), h1]
theorem u8_sub {b : List Int} {e : Int} : ∀ x ∈ (u8F b e).2.1, x ∈ b := by
  unfold u8F
  split
  · split
    · exact fun x h => h
    · exact fun x h => List.mem_cons_of_mem _ h
  · exact fun x h => h
theorem node_sub {n : Bool} {b : List Int} {e : Int} : ∀ x ∈ (nodeF n b e).2.1, x ∈ b := by
  unfold nodeF
  split <;> exact u8_sub
theorem listG_sub : ∀ (k : Nat) (acc b : List Int) (e : Int), ∀ x ∈ (listG k acc b e).2.1, x ∈ b
  | 0, acc, b, e => fun x h => h
  | k + 1, acc, b, e => by
    rw [listG]
    split
    · exact fun x h => node_sub x (listG_sub k _ _ _ x h)
    · exact fun x h => h
theorem idG_sub : ∀ (k : Nat) (acc b : List Int) (e : Int), ∀ x ∈ (idG k acc b e).2.1, x ∈ b
  | 0, acc, b, e => fun x h => h
  | k + 1, acc, b, e => fun x h => u8_sub x (idG_sub k _ _ _ x h)
theorem timeG_sub : ∀ (k : Nat) (n : Int) (b : List Int) (e : Int), ∀ x ∈ (timeG k n b e).2.1, x ∈ b
  | 0, n, b, e => fun x h => h
  | k + 1, n, b, e => fun x h => u8_sub x (timeG_sub k _ _ _ x h)
theorem refS_sub (f : Nat) (m : M) (b : List Int) (e : Int) : ∀ x ∈ (refS f m b e).2.1, x ∈ b := by
  unfold refS
  split
  · exact node_sub
  · exact node_sub
  · exact fun x h => u8_sub x (listG_sub _ _ _ _ x h)
  · exact u8_sub
  · exact u8_sub
  · exact idG_sub _ _ _ _
  · have hl : ∀ x ∈ (lenF b e).2.1, x ∈ b := fun x h => u8_sub x (u8_sub x h)
    unfold dataF
    split
    · exact fun x h => hl x (List.mem_of_mem_drop h)
    · exact hl
  · exact fun x h => timeG_sub _ _ _ _ x h
theorem nodeF_true (x : Int) (r : List Int) : nodeF true (x :: r) 0 = if x = 255 then (-1, r, 0) else (x, r, mayE 0 (decide (x < 10))) := by
  show (if (true && x == 255) = true then (-1, r, (0 : Int)) else (x, r, mayE 0 (decide (x < 10)))) = _
  by_cases h : x = 255
  · rw [if_pos (by simp [h]), if_pos h]
  · rw [if_neg (by simp [h]), if_neg h]
theorem nodeF_false (x : Int) (r : List Int) : nodeF false (x :: r) 0 = (x, r, mayE 0 (decide (x < 10))) := rfl
theorem listG_ok : ∀ (n : Nat) (acc b : List Int), match readList n b acc with
    | .ok p => listG n acc b 0 = (p.1, p.2, 0)
    | .error e => (listG n acc b 0).2.2 = e ∧ e ≠ 0
  | 0, acc, b => rfl
  | n + 1, acc, [] => by
    show (listG (n + 1) acc [] 0).2.2 = 8 ∧ (8 : Int) ≠ 0
    rw [listG, if_pos rfl]
    have : nodeF false [] 0 = (0, [], 8) := rfl
    rw [this, listG_stuck (e := 8) (by decide)]
    exact ⟨rfl, by decide⟩
  | n + 1, acc, x :: r => by
    rw [readList]
    by_cases hx : x > 9
    · rw [if_pos hx]
      simp only
      rw [listG, if_pos rfl, nodeF_false, may_neg (by omega), listG_stuck (e := 11) (by decide)]
      exact ⟨rfl, by decide⟩
    · rw [if_neg hx, listG, if_pos rfl, nodeF_false, may_pos (by omega)]
      exact listG_ok n _ r
theorem idG_ok : ∀ (k : Nat) (acc b : List Int), (∀ x ∈ b, 0 ≤ x ∧ x ≤ 255) → (if b.length < k then (idG k acc b 0).2.2 = 8 else idG k acc b 0 = (acc ++ b.take k, b.drop k, 0))
  | 0, acc, b, hb => by rw [if_neg (by omega)]; simp [idG]
  | k + 1, acc, [], hb => by
    rw [if_pos (by simp), idG, u8_nil, idG_stuck (e := 8) (by decide)]
  | k + 1, acc, x :: r, hb => by
    have hx := hb x List.mem_cons_self
    have ih := idG_ok k (acc ++ [u8 x]) r (fun y hy => hb y (List.mem_cons_of_mem _ hy))
    have hu : u8 x = x := by unfold u8; omega
    rw [hu] at ih
    rw [idG, u8_cons, hu]
    by_cases h : r.length < k
    · rw [if_pos h] at ih
      rw [if_pos (by simp; omega)]
      exact ih
    · rw [if_neg h] at ih
      rw [if_neg (by simp; omega)]
      simp only [ih, List.take_succ_cons, List.drop_succ_cons, List.append_assoc, List.cons_append, List.nil_append]
theorem ref_ok (f : Nat) (m : M) (b : List Int) (hb : ∀ x ∈ b, 0 ≤ x ∧ x ≤ 255) : Agree (readE f m b) (refS f m b 0) :=
  match f with
  | 0 => by
    cases b with
    | nil => exact bad rfl (by decide)
    | cons x r =>
      refine agree_if (fun h1 => fine ?_) (fun h1 => agree_if (fun h2 => bad ?_ (by decide)) (fun h2 => fine ?_))
      · simp only [refS, nodeF_true]
        rw [if_pos h1]
      · simp only [refS, nodeF_true]
        rw [if_neg h1, may_neg (by omega)]
      · simp only [refS, nodeF_true]
        rw [if_neg h1, may_pos (by omega)]
  | 1 => by
    cases b with
    | nil => exact bad rfl (by decide)
    | cons x r =>
      refine agree_if (fun h2 => bad ?_ (by decide)) (fun h2 => fine ?_)
      · simp only [refS, nodeF_false]
        rw [may_neg (by omega)]
      · simp only [refS, nodeF_false]
        rw [may_pos (by omega)]
  | 2 => by
    cases b with
    | nil => exact bad rfl (by decide)
    | cons x r =>
      refine agree_if (fun h2 => bad ?_ (by decide)) (fun h2 => ?_)
      · show (listG x.toNat [] r (mayE 0 (decide (x ≤ 10)))).2.2 = 11
        rw [may_neg (by omega), listG_stuck (e := 11) (by decide)]
      · have hs : refS 2 m (x :: r) 0 = ({ m with list := (listG x.toNat [] r 0).1 }, (listG x.toNat [] r 0).2) := by
          show (({ m with list := (listG x.toNat [] r (mayE 0 (decide (x ≤ 10)))).1 } : M), (listG x.toNat [] r (mayE 0 (decide (x ≤ 10)))).2) = _
          rw [may_pos (by omega)]
        rw [hs]
        have := listG_ok x.toNat [] r
        cases hh : readList x.toNat r [] with
        | ok p =>
          rw [hh] at this
          simp only at this
          refine fine ?_
          rw [this]
        | error e =>
          rw [hh] at this
          exact bad this.1 this.2
  | 3 => by
    cases b with
    | nil => exact bad rfl (by decide)
    | cons x r =>
      refine agree_if (fun h2 => bad ?_ (by decide)) (fun h2 => fine ?_)
      · show mayE 0 (decide (x ≤ 1)) = 11
        rw [may_neg (by omega)]
      · show (({ m with done := x == 1 } : M), r, mayE 0 (decide (x ≤ 1))) = _
        rw [may_pos (by omega)]
        rfl
  | 4 => by
    cases b with
    | nil => exact bad rfl (by decide)
    | cons x r =>
      refine agree_if (fun h2 => bad ?_ (by decide)) (fun h2 => fine ?_)
      · show mayE 0 (decide (x ≤ 20)) = 11
        rw [may_neg (by omega)]
      · show (({ m with err := x } : M), r, mayE 0 (decide (x ≤ 20))) = _
        rw [may_pos (by omega)]
  | 5 => by
    have h := idG_ok 32 [] b hb
    refine agree_if (fun h2 => bad ?_ (by decide)) (fun h2 => fine ?_)
    · rw [if_pos h2] at h
      exact h
    · rw [if_neg h2] at h
      simp only [refS, h, List.nil_append]
  | 6 => by
    match b, hb with
    | [], _ => exact bad rfl (by decide)
    | [x], _ =>
      refine bad ?_ (by decide)
      show (dataF [x] 0).2.2 = 8
      have h1 : (lenF [x] 0).2.1 = [] := rfl
      have h2 : (lenF [x] 0).2.2 = 8 := may_stuck (e := 8) (decide ((lenF [x] 0).1 ≤ 6000)) (by decide)
      unfold dataF
      rw [h1, h2, cut_stuck _ _ (by decide), if_neg (by decide)]
    | x :: y :: r, hb =>
      have hx := hb x (by simp)
      have hy := hb y (by simp)
      have h1 : (lenF (x :: y :: r) 0).1 = x * 256 + y := rfl
      have h2 : (lenF (x :: y :: r) 0).2.1 = r := rfl
      have h3 : (lenF (x :: y :: r) 0).2.2 = mayE 0 (decide (x * 256 + y ≤ 6000)) := rfl
      refine agree_if (fun g2 => bad ?_ (by decide)) (fun g2 => agree_if (fun g3 => bad ?_ (by decide)) (fun g3 => fine ?_))
      · simp only [refS, dataF, h1, h2, h3]
        rw [may_neg (by omega), cut_stuck _ _ (by decide), if_neg (by decide)]
      · simp only [refS, dataF, h1, h2, h3]
        have : cutE (x * 256 + y) r 0 = 8 := by
          unfold cutE
          rw [if_pos (by simp; omega)]
        rw [may_pos (by omega), this, if_neg (by decide)]
      · simp only [refS, dataF, h1, h2, h3]
        have : cutE (x * 256 + y) r 0 = 0 := by
          unfold cutE
          rw [if_neg (by simp; omega)]
        rw [may_pos (by omega), this, if_pos rfl]
  | f + 7 => by
    match b with
    | [] => exact bad rfl (by decide)
    | [x] => exact bad rfl (by decide)
    | [x, y] => exact bad rfl (by decide)
    | [x, y, z] => exact bad rfl (by decide)
    | x :: y :: z :: w :: r =>
      have hn : timeF (x :: y :: z :: w :: r) 0 = (x * 16777216 + y * 65536 + z * 256 + w, r, mayE 0 (decide (x * 16777216 + y * 65536 + z * 256 + w ≥ 1) && decide (x * 16777216 + y * 65536 + z * 256 + w ≤ 1000))) := by
        have : (((0 * 256 + x) * 256 + y) * 256 + z) * 256 + w = x * 16777216 + y * 65536 + z * 256 + w := by omega
        have hg : timeG 4 0 (x :: y :: z :: w :: r) 0 = (x * 16777216 + y * 65536 + z * 256 + w, r, 0) := by
          show ((((0 * 256 + x) * 256 + y) * 256 + z) * 256 + w, r, (0 : Int)) = _
          rw [this]
        unfold timeF
        rw [hg]
      refine agree_if (fun h2 => bad ?_ (by decide)) (fun h2 => fine ?_)
      · show (timeF _ 0).2.2 = 11
        rw [hn]
        simp only
        have : (decide (x * 16777216 + y * 65536 + z * 256 + w ≥ 1) && decide (x * 16777216 + y * 65536 + z * 256 + w ≤ 1000)) = false := by
          rw [Bool.and_eq_false_iff, decide_eq_false_iff_not, decide_eq_false_iff_not]; omega
        rw [this]; rfl
      · show (({ m with lease := (timeF _ 0).1 } : M), (timeF _ 0).2) = _
        rw [hn]
        have : (decide (x * 16777216 + y * 65536 + z * 256 + w ≥ 1) && decide (x * 16777216 + y * 65536 + z * 256 + w ≤ 1000)) = true := by
          rw [Bool.and_eq_true, decide_eq_true_eq, decide_eq_true_eq]; omega
        rw [this]; rfl
theorem refs_ok : ∀ (fs : List Nat) (m : M) (b : List Int), (∀ x ∈ b, 0 ≤ x ∧ x ≤ 255) → Agree (fieldsR fs m b) (refsS fs m b 0)
  | [], m, b, hb => fine rfl
  | f :: fs, m, b, hb => by
    have h1 := ref_ok f m b hb
    rw [fieldsR, refsS]
    cases hr : readE f m b with
    | error e =>
      rw [hr] at h1
      obtain ⟨h2, h3⟩ := h1
      refine bad ?_ h3
      rw [refsS_stuck _ _ _ (by rw [h2]; exact h3), h2]
    | ok p =>
      obtain ⟨m', r⟩ := p
      rw [hr] at h1
      have h1 : refS f m b 0 = (m', r, 0) := h1
      have h2 := refS_sub f m b 0
      rw [h1] at h2 ⊢
      exact refs_ok fs m' r (fun x hx => hb x (h2 x hx))
end Go.Proofs.Ytlinbbjobjnipaa
