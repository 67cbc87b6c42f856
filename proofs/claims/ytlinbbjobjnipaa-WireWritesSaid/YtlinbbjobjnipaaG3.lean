/- The document's Same. Printed by gen_refsame.py. -/
import Derived.Test.YtlinbbjobjnipaaG2
set_option linter.unusedVariables false
set_option linter.unusedSimpArgs false
set_option linter.unusedSectionVars false
namespace Go.Proofs.Ytlinbbjobjnipaa
open Go AI

set_option maxHeartbeats 4000000
set_option maxRecDepth 10000

/-- A part of a code, by the way to it. -/
def codeAt : Code → List Bool → Code
  | c, [] => c
  | .seq a b, t :: r => codeAt (if t then b else a) r
  | c, _ => c

section
variable {F : CallF} {G : CallG} {hp : Hp} {nb i1 i2 : Nat} {a b : M} {L D L2 D2 : AV} {g : Gm}

theorem rest17_2 (ka : a.key.length = 32) (kb : b.key.length = 32) (hk : a.kind = 2) (hkb : b.kind = 2) (h1 : AI.look hp i1 1 = some (mcells a L D)) (h2 : AI.look hp i2 1 = some (mcells b L2 D2)) (g2 : g 2 = .ptr i1 1 0) (g3 : g 3 = .ptr i2 1 0) (g5 : g 5 = .pv (.bool (a.key == b.key))) (g6 : g 6 = .pv (.bool (a.data == b.data))) (g7 : g 7 = .pv (.bool (a.list == b.list))) :
    EX Try.prog plains F G 10000 124 (codeAt (bodyOf Try.f17) [true, true, true]) g hp nb fun x g' hp' nb' => x = .ret ∧ g' 4 = .pv (.bool (sameM a b)) ∧ hp' = hp ∧ nb' = nb := by
  have hs : sameM a b = (sameF a b 0 && sameF a b 2) := by simp [sameM, rowOf, hk, hkb, Bool.and_assoc]
  show EX _ _ _ _ _ 124 _ _ _ _ _
  simp only [codeAt, bodyOf, Try.f17, if_true]
  refine ex_seq (ex_seq (ex_region ?_))
  refine ro_fieldAddr (by simp only [evalF, upd, arg0, argS, ofConst, ofCell, Nat.reduceEqDiff, reduceIte, g2, g3, g5, g6, g7] <;> rfl) (by exact (fa30_0 _ _ _)) (by decide) ?_
  refine ro_load (by simp only [evalF, upd, arg0, argS, ofConst, ofCell, Nat.reduceEqDiff, reduceIte, g2, g3, g5, g6, g7] <;> rfl) (by exact (load1 ag3 h1 mc0)) (by decide) ?_
  refine ro_nil ?_
  try simp only
  refine ex_block ?_
  refine ex_seq (ex_region ?_)
  refine ro_bin (by simp only [evalF, upd, arg0, argS, ofConst, ofCell, Nat.reduceEqDiff, reduceIte, g2, g3, g5, g6, g7] <;> rfl) (by simp only [evalF, upd, arg0, argS, ofConst, ofCell, Nat.reduceEqDiff, reduceIte, g2, g3, g5, g6, g7] <;> rfl) (by exact (eql_t (by omega))) (by decide) ?_
  refine ro_assign (by simp only [evalF, upd, arg0, argS, ofConst, ofCell, Nat.reduceEqDiff, reduceIte, g2, g3, g5, g6, g7] <;> rfl) (by decide) ?_
  refine ro_nil ?_
  try simp only
  refine ex_cond (t := true) (by simp only [evalF, upd, arg0, argS, ofConst, ofCell, Nat.reduceEqDiff, reduceIte, g2, g3, g5, g6, g7] <;> rfl) (fun h => ?_) (fun h => by simp at h)
  refine ex_seq (ex_region ?_)
  cases q0 : (a.pred == b.pred) with
  | true =>
    refine ro_fieldAddr (by simp only [evalF, upd, arg0, argS, ofConst, ofCell, Nat.reduceEqDiff, reduceIte, g2, g3, g5, g6, g7, q0] <;> rfl) (by exact (fa30_2 _ _ _)) (by decide) ?_
    refine ro_load (by simp only [evalF, upd, arg0, argS, ofConst, ofCell, Nat.reduceEqDiff, reduceIte, g2, g3, g5, g6, g7, q0] <;> rfl) (by exact (load1 ag3 h1 mc2)) (by decide) ?_
    refine ro_fieldAddr (by simp only [evalF, upd, arg0, argS, ofConst, ofCell, Nat.reduceEqDiff, reduceIte, g2, g3, g5, g6, g7, q0] <;> rfl) (by exact (fa30_2 _ _ _)) (by decide) ?_
    refine ro_load (by simp only [evalF, upd, arg0, argS, ofConst, ofCell, Nat.reduceEqDiff, reduceIte, g2, g3, g5, g6, g7, q0] <;> rfl) (by exact (load1 ag3 h2 mc2)) (by decide) ?_
    refine ro_bin (by simp only [evalF, upd, arg0, argS, ofConst, ofCell, Nat.reduceEqDiff, reduceIte, g2, g3, g5, g6, g7, q0] <;> rfl) (by simp only [evalF, upd, arg0, argS, ofConst, ofCell, Nat.reduceEqDiff, reduceIte, g2, g3, g5, g6, g7, q0] <;> rfl) (by exact (by rw [eql_v, q0])) (by decide) ?_
    refine ro_move (by simp only [evalF, upd, arg0, argS, ofConst, ofCell, Nat.reduceEqDiff, reduceIte, g2, g3, g5, g6, g7, q0] <;> rfl) (by decide) ?_
    refine ro_guard rfl (by simp only [evalF, upd, arg0, argS, ofConst, ofCell, Nat.reduceEqDiff, reduceIte, g2, g3, g5, g6, g7, q0] <;> rfl) rfl ?_
    refine ro_move (by simp only [evalF, upd, arg0, argS, ofConst, ofCell, Nat.reduceEqDiff, reduceIte, g2, g3, g5, g6, g7, q0] <;> rfl) (by decide) ?_
    refine ro_pick (by simp only [evalF, upd, arg0, argS, ofConst, ofCell, Nat.reduceEqDiff, reduceIte, g2, g3, g5, g6, g7, q0] <;> rfl) (by simp only [evalF, upd, arg0, argS, ofConst, ofCell, Nat.reduceEqDiff, reduceIte, g2, g3, g5, g6, g7, q0] <;> rfl) (by simp only [evalF, upd, arg0, argS, ofConst, ofCell, Nat.reduceEqDiff, reduceIte, g2, g3, g5, g6, g7, q0] <;> rfl) (by decide) ?_
    refine ro_assign (by simp only [evalF, upd, arg0, argS, ofConst, ofCell, Nat.reduceEqDiff, reduceIte, g2, g3, g5, g6, g7, q0] <;> rfl) (by decide) ?_
    refine ro_nil ?_
    try simp only
    refine ex_ret ?_
    exact ⟨rfl, by rw [hs]; simp [upd, sameF, ofConst, ofCell, evalF, q0, g5, g6, g7], rfl, rfl⟩
  | false =>
    refine ro_fieldAddr (by simp only [evalF, upd, arg0, argS, ofConst, ofCell, Nat.reduceEqDiff, reduceIte, g2, g3, g5, g6, g7, q0] <;> rfl) (by exact (fa30_2 _ _ _)) (by decide) ?_
    refine ro_load (by simp only [evalF, upd, arg0, argS, ofConst, ofCell, Nat.reduceEqDiff, reduceIte, g2, g3, g5, g6, g7, q0] <;> rfl) (by exact (load1 ag3 h1 mc2)) (by decide) ?_
    refine ro_fieldAddr (by simp only [evalF, upd, arg0, argS, ofConst, ofCell, Nat.reduceEqDiff, reduceIte, g2, g3, g5, g6, g7, q0] <;> rfl) (by exact (fa30_2 _ _ _)) (by decide) ?_
    refine ro_load (by simp only [evalF, upd, arg0, argS, ofConst, ofCell, Nat.reduceEqDiff, reduceIte, g2, g3, g5, g6, g7, q0] <;> rfl) (by exact (load1 ag3 h2 mc2)) (by decide) ?_
    refine ro_bin (by simp only [evalF, upd, arg0, argS, ofConst, ofCell, Nat.reduceEqDiff, reduceIte, g2, g3, g5, g6, g7, q0] <;> rfl) (by simp only [evalF, upd, arg0, argS, ofConst, ofCell, Nat.reduceEqDiff, reduceIte, g2, g3, g5, g6, g7, q0] <;> rfl) (by exact (by rw [eql_v, q0])) (by decide) ?_
    refine ro_move (by simp only [evalF, upd, arg0, argS, ofConst, ofCell, Nat.reduceEqDiff, reduceIte, g2, g3, g5, g6, g7, q0] <;> rfl) (by decide) ?_
    refine ro_skip rfl (by simp only [evalF, upd, arg0, argS, ofConst, ofCell, Nat.reduceEqDiff, reduceIte, g2, g3, g5, g6, g7, q0] <;> rfl) rfl (fun e he => by cases he; decide) ?_
    simp only [putF]
    refine ro_pick (by simp only [evalF, upd, arg0, argS, ofConst, ofCell, Nat.reduceEqDiff, reduceIte, g2, g3, g5, g6, g7, q0] <;> rfl) (by simp only [evalF, upd, arg0, argS, ofConst, ofCell, Nat.reduceEqDiff, reduceIte, g2, g3, g5, g6, g7, q0] <;> rfl) (by simp only [evalF, upd, arg0, argS, ofConst, ofCell, Nat.reduceEqDiff, reduceIte, g2, g3, g5, g6, g7, q0] <;> rfl) (by decide) ?_
    refine ro_assign (by simp only [evalF, upd, arg0, argS, ofConst, ofCell, Nat.reduceEqDiff, reduceIte, g2, g3, g5, g6, g7, q0] <;> rfl) (by decide) ?_
    refine ro_nil ?_
    try simp only
    refine ex_ret ?_
    exact ⟨rfl, by rw [hs]; simp [upd, sameF, ofConst, ofCell, evalF, q0, g5, g6, g7], rfl, rfl⟩

theorem rest17_3 (ka : a.key.length = 32) (kb : b.key.length = 32) (hk : a.kind = 3) (hkb : b.kind = 3) (h1 : AI.look hp i1 1 = some (mcells a L D)) (h2 : AI.look hp i2 1 = some (mcells b L2 D2)) (g2 : g 2 = .ptr i1 1 0) (g3 : g 3 = .ptr i2 1 0) (g5 : g 5 = .pv (.bool (a.key == b.key))) (g6 : g 6 = .pv (.bool (a.data == b.data))) (g7 : g 7 = .pv (.bool (a.list == b.list))) :
    EX Try.prog plains F G 10000 124 (codeAt (bodyOf Try.f17) [true, true, true]) g hp nb fun x g' hp' nb' => x = .ret ∧ g' 4 = .pv (.bool (sameM a b)) ∧ hp' = hp ∧ nb' = nb := by
  have hs : sameM a b = (sameF a b 1) := by simp [sameM, rowOf, hk, hkb, Bool.and_assoc]
  show EX _ _ _ _ _ 124 _ _ _ _ _
  simp only [codeAt, bodyOf, Try.f17, if_true]
  refine ex_seq (ex_seq (ex_region ?_))
  refine ro_fieldAddr (by simp only [evalF, upd, arg0, argS, ofConst, ofCell, Nat.reduceEqDiff, reduceIte, g2, g3, g5, g6, g7] <;> rfl) (by exact (fa30_0 _ _ _)) (by decide) ?_
  refine ro_load (by simp only [evalF, upd, arg0, argS, ofConst, ofCell, Nat.reduceEqDiff, reduceIte, g2, g3, g5, g6, g7] <;> rfl) (by exact (load1 ag3 h1 mc0)) (by decide) ?_
  refine ro_nil ?_
  try simp only
  refine ex_block ?_
  refine ex_seq (ex_region ?_)
  refine ro_bin (by simp only [evalF, upd, arg0, argS, ofConst, ofCell, Nat.reduceEqDiff, reduceIte, g2, g3, g5, g6, g7] <;> rfl) (by simp only [evalF, upd, arg0, argS, ofConst, ofCell, Nat.reduceEqDiff, reduceIte, g2, g3, g5, g6, g7] <;> rfl) (by exact (eql_f (by omega))) (by decide) ?_
  refine ro_assign (by simp only [evalF, upd, arg0, argS, ofConst, ofCell, Nat.reduceEqDiff, reduceIte, g2, g3, g5, g6, g7] <;> rfl) (by decide) ?_
  refine ro_nil ?_
  try simp only
  refine ex_cond (t := false) (by simp only [evalF, upd, arg0, argS, ofConst, ofCell, Nat.reduceEqDiff, reduceIte, g2, g3, g5, g6, g7] <;> rfl) (fun h => by simp at h) (fun h => ?_)
  refine ex_seq (ex_region ?_)
  refine ro_bin (by simp only [evalF, upd, arg0, argS, ofConst, ofCell, Nat.reduceEqDiff, reduceIte, g2, g3, g5, g6, g7] <;> rfl) (by simp only [evalF, upd, arg0, argS, ofConst, ofCell, Nat.reduceEqDiff, reduceIte, g2, g3, g5, g6, g7] <;> rfl) (by exact (eql_t (by omega))) (by decide) ?_
  refine ro_assign (by simp only [evalF, upd, arg0, argS, ofConst, ofCell, Nat.reduceEqDiff, reduceIte, g2, g3, g5, g6, g7] <;> rfl) (by decide) ?_
  refine ro_nil ?_
  try simp only
  refine ex_cond (t := true) (by simp only [evalF, upd, arg0, argS, ofConst, ofCell, Nat.reduceEqDiff, reduceIte, g2, g3, g5, g6, g7] <;> rfl) (fun h => ?_) (fun h => by simp at h)
  refine ex_seq (ex_region ?_)
  refine ro_fieldAddr (by simp only [evalF, upd, arg0, argS, ofConst, ofCell, Nat.reduceEqDiff, reduceIte, g2, g3, g5, g6, g7] <;> rfl) (by exact (fa30_1 _ _ _)) (by decide) ?_
  refine ro_load (by simp only [evalF, upd, arg0, argS, ofConst, ofCell, Nat.reduceEqDiff, reduceIte, g2, g3, g5, g6, g7] <;> rfl) (by exact (load1 ag3 h1 mc1)) (by decide) ?_
  refine ro_fieldAddr (by simp only [evalF, upd, arg0, argS, ofConst, ofCell, Nat.reduceEqDiff, reduceIte, g2, g3, g5, g6, g7] <;> rfl) (by exact (fa30_1 _ _ _)) (by decide) ?_
  refine ro_load (by simp only [evalF, upd, arg0, argS, ofConst, ofCell, Nat.reduceEqDiff, reduceIte, g2, g3, g5, g6, g7] <;> rfl) (by exact (load1 ag3 h2 mc1)) (by decide) ?_
  refine ro_bin (by simp only [evalF, upd, arg0, argS, ofConst, ofCell, Nat.reduceEqDiff, reduceIte, g2, g3, g5, g6, g7] <;> rfl) (by simp only [evalF, upd, arg0, argS, ofConst, ofCell, Nat.reduceEqDiff, reduceIte, g2, g3, g5, g6, g7] <;> rfl) (by exact (eql_v)) (by decide) ?_
  refine ro_assign (by simp only [evalF, upd, arg0, argS, ofConst, ofCell, Nat.reduceEqDiff, reduceIte, g2, g3, g5, g6, g7] <;> rfl) (by decide) ?_
  refine ro_nil ?_
  try simp only
  refine ex_ret ?_
  exact ⟨rfl, by rw [hs]; simp [upd, sameF, ofConst, ofCell, evalF, g5, g6, g7], rfl, rfl⟩

theorem rest17_4 (ka : a.key.length = 32) (kb : b.key.length = 32) (hk : a.kind = 4) (hkb : b.kind = 4) (h1 : AI.look hp i1 1 = some (mcells a L D)) (h2 : AI.look hp i2 1 = some (mcells b L2 D2)) (g2 : g 2 = .ptr i1 1 0) (g3 : g 3 = .ptr i2 1 0) (g5 : g 5 = .pv (.bool (a.key == b.key))) (g6 : g 6 = .pv (.bool (a.data == b.data))) (g7 : g 7 = .pv (.bool (a.list == b.list))) :
    EX Try.prog plains F G 10000 124 (codeAt (bodyOf Try.f17) [true, true, true]) g hp nb fun x g' hp' nb' => x = .ret ∧ g' 4 = .pv (.bool (sameM a b)) ∧ hp' = hp ∧ nb' = nb := by
  have hs : sameM a b = (sameF a b 4) := by simp [sameM, rowOf, hk, hkb, Bool.and_assoc]
  show EX _ _ _ _ _ 124 _ _ _ _ _
  simp only [codeAt, bodyOf, Try.f17, if_true]
  refine ex_seq (ex_seq (ex_region ?_))
  refine ro_fieldAddr (by simp only [evalF, upd, arg0, argS, ofConst, ofCell, Nat.reduceEqDiff, reduceIte, g2, g3, g5, g6, g7] <;> rfl) (by exact (fa30_0 _ _ _)) (by decide) ?_
  refine ro_load (by simp only [evalF, upd, arg0, argS, ofConst, ofCell, Nat.reduceEqDiff, reduceIte, g2, g3, g5, g6, g7] <;> rfl) (by exact (load1 ag3 h1 mc0)) (by decide) ?_
  refine ro_nil ?_
  try simp only
  refine ex_block ?_
  refine ex_seq (ex_region ?_)
  refine ro_bin (by simp only [evalF, upd, arg0, argS, ofConst, ofCell, Nat.reduceEqDiff, reduceIte, g2, g3, g5, g6, g7] <;> rfl) (by simp only [evalF, upd, arg0, argS, ofConst, ofCell, Nat.reduceEqDiff, reduceIte, g2, g3, g5, g6, g7] <;> rfl) (by exact (eql_f (by omega))) (by decide) ?_
  refine ro_assign (by simp only [evalF, upd, arg0, argS, ofConst, ofCell, Nat.reduceEqDiff, reduceIte, g2, g3, g5, g6, g7] <;> rfl) (by decide) ?_
  refine ro_nil ?_
  try simp only
  refine ex_cond (t := false) (by simp only [evalF, upd, arg0, argS, ofConst, ofCell, Nat.reduceEqDiff, reduceIte, g2, g3, g5, g6, g7] <;> rfl) (fun h => by simp at h) (fun h => ?_)
  refine ex_seq (ex_region ?_)
  refine ro_bin (by simp only [evalF, upd, arg0, argS, ofConst, ofCell, Nat.reduceEqDiff, reduceIte, g2, g3, g5, g6, g7] <;> rfl) (by simp only [evalF, upd, arg0, argS, ofConst, ofCell, Nat.reduceEqDiff, reduceIte, g2, g3, g5, g6, g7] <;> rfl) (by exact (eql_f (by omega))) (by decide) ?_
  refine ro_assign (by simp only [evalF, upd, arg0, argS, ofConst, ofCell, Nat.reduceEqDiff, reduceIte, g2, g3, g5, g6, g7] <;> rfl) (by decide) ?_
  refine ro_nil ?_
  try simp only
  refine ex_cond (t := false) (by simp only [evalF, upd, arg0, argS, ofConst, ofCell, Nat.reduceEqDiff, reduceIte, g2, g3, g5, g6, g7] <;> rfl) (fun h => by simp at h) (fun h => ?_)
  refine ex_seq (ex_region ?_)
  refine ro_bin (by simp only [evalF, upd, arg0, argS, ofConst, ofCell, Nat.reduceEqDiff, reduceIte, g2, g3, g5, g6, g7] <;> rfl) (by simp only [evalF, upd, arg0, argS, ofConst, ofCell, Nat.reduceEqDiff, reduceIte, g2, g3, g5, g6, g7] <;> rfl) (by exact (eql_t (by omega))) (by decide) ?_
  refine ro_assign (by simp only [evalF, upd, arg0, argS, ofConst, ofCell, Nat.reduceEqDiff, reduceIte, g2, g3, g5, g6, g7] <;> rfl) (by decide) ?_
  refine ro_nil ?_
  try simp only
  refine ex_cond (t := true) (by simp only [evalF, upd, arg0, argS, ofConst, ofCell, Nat.reduceEqDiff, reduceIte, g2, g3, g5, g6, g7] <;> rfl) (fun h => ?_) (fun h => by simp at h)
  refine ex_seq (ex_region ?_)
  refine ro_fieldAddr (by simp only [evalF, upd, arg0, argS, ofConst, ofCell, Nat.reduceEqDiff, reduceIte, g2, g3, g5, g6, g7] <;> rfl) (by exact (fa30_8 _ _ _)) (by decide) ?_
  refine ro_load (by simp only [evalF, upd, arg0, argS, ofConst, ofCell, Nat.reduceEqDiff, reduceIte, g2, g3, g5, g6, g7] <;> rfl) (by exact (load1 ag28 h1 (mc39 ka))) (by decide) ?_
  refine ro_fieldAddr (by simp only [evalF, upd, arg0, argS, ofConst, ofCell, Nat.reduceEqDiff, reduceIte, g2, g3, g5, g6, g7] <;> rfl) (by exact (fa30_8 _ _ _)) (by decide) ?_
  refine ro_load (by simp only [evalF, upd, arg0, argS, ofConst, ofCell, Nat.reduceEqDiff, reduceIte, g2, g3, g5, g6, g7] <;> rfl) (by exact (load1 ag28 h2 (mc39 kb))) (by decide) ?_
  refine ro_bin (by simp only [evalF, upd, arg0, argS, ofConst, ofCell, Nat.reduceEqDiff, reduceIte, g2, g3, g5, g6, g7] <;> rfl) (by simp only [evalF, upd, arg0, argS, ofConst, ofCell, Nat.reduceEqDiff, reduceIte, g2, g3, g5, g6, g7] <;> rfl) (by exact (eql_v)) (by decide) ?_
  refine ro_assign (by simp only [evalF, upd, arg0, argS, ofConst, ofCell, Nat.reduceEqDiff, reduceIte, g2, g3, g5, g6, g7] <;> rfl) (by decide) ?_
  refine ro_nil ?_
  try simp only
  refine ex_ret ?_
  exact ⟨rfl, by rw [hs]; simp [upd, sameF, ofConst, ofCell, evalF, g5, g6, g7], rfl, rfl⟩

theorem rest17_5 (ka : a.key.length = 32) (kb : b.key.length = 32) (hk : a.kind = 5) (hkb : b.kind = 5) (h1 : AI.look hp i1 1 = some (mcells a L D)) (h2 : AI.look hp i2 1 = some (mcells b L2 D2)) (g2 : g 2 = .ptr i1 1 0) (g3 : g 3 = .ptr i2 1 0) (g5 : g 5 = .pv (.bool (a.key == b.key))) (g6 : g 6 = .pv (.bool (a.data == b.data))) (g7 : g 7 = .pv (.bool (a.list == b.list))) :
    EX Try.prog plains F G 10000 124 (codeAt (bodyOf Try.f17) [true, true, true]) g hp nb fun x g' hp' nb' => x = .ret ∧ g' 4 = .pv (.bool (sameM a b)) ∧ hp' = hp ∧ nb' = nb := by
  have hs : sameM a b = (sameF a b 5) := by simp [sameM, rowOf, hk, hkb, Bool.and_assoc]
  show EX _ _ _ _ _ 124 _ _ _ _ _
  simp only [codeAt, bodyOf, Try.f17, if_true]
  refine ex_seq (ex_seq (ex_region ?_))
  refine ro_fieldAddr (by simp only [evalF, upd, arg0, argS, ofConst, ofCell, Nat.reduceEqDiff, reduceIte, g2, g3, g5, g6, g7] <;> rfl) (by exact (fa30_0 _ _ _)) (by decide) ?_
  refine ro_load (by simp only [evalF, upd, arg0, argS, ofConst, ofCell, Nat.reduceEqDiff, reduceIte, g2, g3, g5, g6, g7] <;> rfl) (by exact (load1 ag3 h1 mc0)) (by decide) ?_
  refine ro_nil ?_
  try simp only
  refine ex_block ?_
  refine ex_seq (ex_region ?_)
  refine ro_bin (by simp only [evalF, upd, arg0, argS, ofConst, ofCell, Nat.reduceEqDiff, reduceIte, g2, g3, g5, g6, g7] <;> rfl) (by simp only [evalF, upd, arg0, argS, ofConst, ofCell, Nat.reduceEqDiff, reduceIte, g2, g3, g5, g6, g7] <;> rfl) (by exact (eql_f (by omega))) (by decide) ?_
  refine ro_assign (by simp only [evalF, upd, arg0, argS, ofConst, ofCell, Nat.reduceEqDiff, reduceIte, g2, g3, g5, g6, g7] <;> rfl) (by decide) ?_
  refine ro_nil ?_
  try simp only
  refine ex_cond (t := false) (by simp only [evalF, upd, arg0, argS, ofConst, ofCell, Nat.reduceEqDiff, reduceIte, g2, g3, g5, g6, g7] <;> rfl) (fun h => by simp at h) (fun h => ?_)
  refine ex_seq (ex_region ?_)
  refine ro_bin (by simp only [evalF, upd, arg0, argS, ofConst, ofCell, Nat.reduceEqDiff, reduceIte, g2, g3, g5, g6, g7] <;> rfl) (by simp only [evalF, upd, arg0, argS, ofConst, ofCell, Nat.reduceEqDiff, reduceIte, g2, g3, g5, g6, g7] <;> rfl) (by exact (eql_f (by omega))) (by decide) ?_
  refine ro_assign (by simp only [evalF, upd, arg0, argS, ofConst, ofCell, Nat.reduceEqDiff, reduceIte, g2, g3, g5, g6, g7] <;> rfl) (by decide) ?_
  refine ro_nil ?_
  try simp only
  refine ex_cond (t := false) (by simp only [evalF, upd, arg0, argS, ofConst, ofCell, Nat.reduceEqDiff, reduceIte, g2, g3, g5, g6, g7] <;> rfl) (fun h => by simp at h) (fun h => ?_)
  refine ex_seq (ex_region ?_)
  refine ro_bin (by simp only [evalF, upd, arg0, argS, ofConst, ofCell, Nat.reduceEqDiff, reduceIte, g2, g3, g5, g6, g7] <;> rfl) (by simp only [evalF, upd, arg0, argS, ofConst, ofCell, Nat.reduceEqDiff, reduceIte, g2, g3, g5, g6, g7] <;> rfl) (by exact (eql_f (by omega))) (by decide) ?_
  refine ro_assign (by simp only [evalF, upd, arg0, argS, ofConst, ofCell, Nat.reduceEqDiff, reduceIte, g2, g3, g5, g6, g7] <;> rfl) (by decide) ?_
  refine ro_nil ?_
  try simp only
  refine ex_cond (t := false) (by simp only [evalF, upd, arg0, argS, ofConst, ofCell, Nat.reduceEqDiff, reduceIte, g2, g3, g5, g6, g7] <;> rfl) (fun h => by simp at h) (fun h => ?_)
  refine ex_seq (ex_seq (ex_region ?_))
  refine ro_bin (by simp only [evalF, upd, arg0, argS, ofConst, ofCell, Nat.reduceEqDiff, reduceIte, g2, g3, g5, g6, g7] <;> rfl) (by simp only [evalF, upd, arg0, argS, ofConst, ofCell, Nat.reduceEqDiff, reduceIte, g2, g3, g5, g6, g7] <;> rfl) (by exact (eql_t (by omega))) (by decide) ?_
  refine ro_assign (by simp only [evalF, upd, arg0, argS, ofConst, ofCell, Nat.reduceEqDiff, reduceIte, g2, g3, g5, g6, g7] <;> rfl) (by decide) ?_
  refine ro_nil ?_
  try simp only
  refine ex_cond (t := true) (by simp only [evalF, upd, arg0, argS, ofConst, ofCell, Nat.reduceEqDiff, reduceIte, g2, g3, g5, g6, g7] <;> rfl) (fun h => ?_) (fun h => by simp at h)
  refine ex_skip ?_
  try simp only
  refine ex_cond (t := true) (by simp only [evalF, upd, arg0, argS, ofConst, ofCell, Nat.reduceEqDiff, reduceIte, g2, g3, g5, g6, g7] <;> rfl) (fun h => ?_) (fun h => by simp at h)
  refine ex_seq (ex_region ?_)
  refine ro_move (by simp only [evalF, upd, arg0, argS, ofConst, ofCell, Nat.reduceEqDiff, reduceIte, g2, g3, g5, g6, g7] <;> rfl) (by decide) ?_
  refine ro_assign (by simp only [evalF, upd, arg0, argS, ofConst, ofCell, Nat.reduceEqDiff, reduceIte, g2, g3, g5, g6, g7] <;> rfl) (by decide) ?_
  refine ro_nil ?_
  try simp only
  refine ex_ret ?_
  exact ⟨rfl, by rw [hs]; simp [upd, sameF, ofConst, ofCell, evalF, g5, g6, g7], rfl, rfl⟩

theorem rest17_7 (ka : a.key.length = 32) (kb : b.key.length = 32) (hk : a.kind = 7) (hkb : b.kind = 7) (h1 : AI.look hp i1 1 = some (mcells a L D)) (h2 : AI.look hp i2 1 = some (mcells b L2 D2)) (g2 : g 2 = .ptr i1 1 0) (g3 : g 3 = .ptr i2 1 0) (g5 : g 5 = .pv (.bool (a.key == b.key))) (g6 : g 6 = .pv (.bool (a.data == b.data))) (g7 : g 7 = .pv (.bool (a.list == b.list))) :
    EX Try.prog plains F G 10000 124 (codeAt (bodyOf Try.f17) [true, true, true]) g hp nb fun x g' hp' nb' => x = .ret ∧ g' 4 = .pv (.bool (sameM a b)) ∧ hp' = hp ∧ nb' = nb := by
  have hs : sameM a b = (sameF a b 5) := by simp [sameM, rowOf, hk, hkb, Bool.and_assoc]
  show EX _ _ _ _ _ 124 _ _ _ _ _
  simp only [codeAt, bodyOf, Try.f17, if_true]
  refine ex_seq (ex_seq (ex_region ?_))
  refine ro_fieldAddr (by simp only [evalF, upd, arg0, argS, ofConst, ofCell, Nat.reduceEqDiff, reduceIte, g2, g3, g5, g6, g7] <;> rfl) (by exact (fa30_0 _ _ _)) (by decide) ?_
  refine ro_load (by simp only [evalF, upd, arg0, argS, ofConst, ofCell, Nat.reduceEqDiff, reduceIte, g2, g3, g5, g6, g7] <;> rfl) (by exact (load1 ag3 h1 mc0)) (by decide) ?_
  refine ro_nil ?_
  try simp only
  refine ex_block ?_
  refine ex_seq (ex_region ?_)
  refine ro_bin (by simp only [evalF, upd, arg0, argS, ofConst, ofCell, Nat.reduceEqDiff, reduceIte, g2, g3, g5, g6, g7] <;> rfl) (by simp only [evalF, upd, arg0, argS, ofConst, ofCell, Nat.reduceEqDiff, reduceIte, g2, g3, g5, g6, g7] <;> rfl) (by exact (eql_f (by omega))) (by decide) ?_
  refine ro_assign (by simp only [evalF, upd, arg0, argS, ofConst, ofCell, Nat.reduceEqDiff, reduceIte, g2, g3, g5, g6, g7] <;> rfl) (by decide) ?_
  refine ro_nil ?_
  try simp only
  refine ex_cond (t := false) (by simp only [evalF, upd, arg0, argS, ofConst, ofCell, Nat.reduceEqDiff, reduceIte, g2, g3, g5, g6, g7] <;> rfl) (fun h => by simp at h) (fun h => ?_)
  refine ex_seq (ex_region ?_)
  refine ro_bin (by simp only [evalF, upd, arg0, argS, ofConst, ofCell, Nat.reduceEqDiff, reduceIte, g2, g3, g5, g6, g7] <;> rfl) (by simp only [evalF, upd, arg0, argS, ofConst, ofCell, Nat.reduceEqDiff, reduceIte, g2, g3, g5, g6, g7] <;> rfl) (by exact (eql_f (by omega))) (by decide) ?_
  refine ro_assign (by simp only [evalF, upd, arg0, argS, ofConst, ofCell, Nat.reduceEqDiff, reduceIte, g2, g3, g5, g6, g7] <;> rfl) (by decide) ?_
  refine ro_nil ?_
  try simp only
  refine ex_cond (t := false) (by simp only [evalF, upd, arg0, argS, ofConst, ofCell, Nat.reduceEqDiff, reduceIte, g2, g3, g5, g6, g7] <;> rfl) (fun h => by simp at h) (fun h => ?_)
  refine ex_seq (ex_region ?_)
  refine ro_bin (by simp only [evalF, upd, arg0, argS, ofConst, ofCell, Nat.reduceEqDiff, reduceIte, g2, g3, g5, g6, g7] <;> rfl) (by simp only [evalF, upd, arg0, argS, ofConst, ofCell, Nat.reduceEqDiff, reduceIte, g2, g3, g5, g6, g7] <;> rfl) (by exact (eql_f (by omega))) (by decide) ?_
  refine ro_assign (by simp only [evalF, upd, arg0, argS, ofConst, ofCell, Nat.reduceEqDiff, reduceIte, g2, g3, g5, g6, g7] <;> rfl) (by decide) ?_
  refine ro_nil ?_
  try simp only
  refine ex_cond (t := false) (by simp only [evalF, upd, arg0, argS, ofConst, ofCell, Nat.reduceEqDiff, reduceIte, g2, g3, g5, g6, g7] <;> rfl) (fun h => by simp at h) (fun h => ?_)
  refine ex_seq (ex_seq (ex_region ?_))
  refine ro_bin (by simp only [evalF, upd, arg0, argS, ofConst, ofCell, Nat.reduceEqDiff, reduceIte, g2, g3, g5, g6, g7] <;> rfl) (by simp only [evalF, upd, arg0, argS, ofConst, ofCell, Nat.reduceEqDiff, reduceIte, g2, g3, g5, g6, g7] <;> rfl) (by exact (eql_f (by omega))) (by decide) ?_
  refine ro_assign (by simp only [evalF, upd, arg0, argS, ofConst, ofCell, Nat.reduceEqDiff, reduceIte, g2, g3, g5, g6, g7] <;> rfl) (by decide) ?_
  refine ro_nil ?_
  try simp only
  refine ex_cond (t := false) (by simp only [evalF, upd, arg0, argS, ofConst, ofCell, Nat.reduceEqDiff, reduceIte, g2, g3, g5, g6, g7] <;> rfl) (fun h => by simp at h) (fun h => ?_)
  refine ex_seq (ex_region ?_)
  refine ro_bin (by simp only [evalF, upd, arg0, argS, ofConst, ofCell, Nat.reduceEqDiff, reduceIte, g2, g3, g5, g6, g7] <;> rfl) (by simp only [evalF, upd, arg0, argS, ofConst, ofCell, Nat.reduceEqDiff, reduceIte, g2, g3, g5, g6, g7] <;> rfl) (by exact (eql_t (by omega))) (by decide) ?_
  refine ro_assign (by simp only [evalF, upd, arg0, argS, ofConst, ofCell, Nat.reduceEqDiff, reduceIte, g2, g3, g5, g6, g7] <;> rfl) (by decide) ?_
  refine ro_nil ?_
  try simp only
  refine ex_cond (t := true) (by simp only [evalF, upd, arg0, argS, ofConst, ofCell, Nat.reduceEqDiff, reduceIte, g2, g3, g5, g6, g7] <;> rfl) (fun h => ?_) (fun h => by simp at h)
  refine ex_skip ?_
  try simp only
  refine ex_cond (t := true) (by simp only [evalF, upd, arg0, argS, ofConst, ofCell, Nat.reduceEqDiff, reduceIte, g2, g3, g5, g6, g7] <;> rfl) (fun h => ?_) (fun h => by simp at h)
  refine ex_seq (ex_region ?_)
  refine ro_move (by simp only [evalF, upd, arg0, argS, ofConst, ofCell, Nat.reduceEqDiff, reduceIte, g2, g3, g5, g6, g7] <;> rfl) (by decide) ?_
  refine ro_assign (by simp only [evalF, upd, arg0, argS, ofConst, ofCell, Nat.reduceEqDiff, reduceIte, g2, g3, g5, g6, g7] <;> rfl) (by decide) ?_
  refine ro_nil ?_
  try simp only
  refine ex_ret ?_
  exact ⟨rfl, by rw [hs]; simp [upd, sameF, ofConst, ofCell, evalF, g5, g6, g7], rfl, rfl⟩

theorem rest17_11 (ka : a.key.length = 32) (kb : b.key.length = 32) (hk : a.kind = 11) (hkb : b.kind = 11) (h1 : AI.look hp i1 1 = some (mcells a L D)) (h2 : AI.look hp i2 1 = some (mcells b L2 D2)) (g2 : g 2 = .ptr i1 1 0) (g3 : g 3 = .ptr i2 1 0) (g5 : g 5 = .pv (.bool (a.key == b.key))) (g6 : g 6 = .pv (.bool (a.data == b.data))) (g7 : g 7 = .pv (.bool (a.list == b.list))) :
    EX Try.prog plains F G 10000 124 (codeAt (bodyOf Try.f17) [true, true, true]) g hp nb fun x g' hp' nb' => x = .ret ∧ g' 4 = .pv (.bool (sameM a b)) ∧ hp' = hp ∧ nb' = nb := by
  have hs : sameM a b = (sameF a b 5) := by simp [sameM, rowOf, hk, hkb, Bool.and_assoc]
  show EX _ _ _ _ _ 124 _ _ _ _ _
  simp only [codeAt, bodyOf, Try.f17, if_true]
  refine ex_seq (ex_seq (ex_region ?_))
  refine ro_fieldAddr (by simp only [evalF, upd, arg0, argS, ofConst, ofCell, Nat.reduceEqDiff, reduceIte, g2, g3, g5, g6, g7] <;> rfl) (by exact (fa30_0 _ _ _)) (by decide) ?_
  refine ro_load (by simp only [evalF, upd, arg0, argS, ofConst, ofCell, Nat.reduceEqDiff, reduceIte, g2, g3, g5, g6, g7] <;> rfl) (by exact (load1 ag3 h1 mc0)) (by decide) ?_
  refine ro_nil ?_
  try simp only
  refine ex_block ?_
  refine ex_seq (ex_region ?_)
  refine ro_bin (by simp only [evalF, upd, arg0, argS, ofConst, ofCell, Nat.reduceEqDiff, reduceIte, g2, g3, g5, g6, g7] <;> rfl) (by simp only [evalF, upd, arg0, argS, ofConst, ofCell, Nat.reduceEqDiff, reduceIte, g2, g3, g5, g6, g7] <;> rfl) (by exact (eql_f (by omega))) (by decide) ?_
  refine ro_assign (by simp only [evalF, upd, arg0, argS, ofConst, ofCell, Nat.reduceEqDiff, reduceIte, g2, g3, g5, g6, g7] <;> rfl) (by decide) ?_
  refine ro_nil ?_
  try simp only
  refine ex_cond (t := false) (by simp only [evalF, upd, arg0, argS, ofConst, ofCell, Nat.reduceEqDiff, reduceIte, g2, g3, g5, g6, g7] <;> rfl) (fun h => by simp at h) (fun h => ?_)
  refine ex_seq (ex_region ?_)
  refine ro_bin (by simp only [evalF, upd, arg0, argS, ofConst, ofCell, Nat.reduceEqDiff, reduceIte, g2, g3, g5, g6, g7] <;> rfl) (by simp only [evalF, upd, arg0, argS, ofConst, ofCell, Nat.reduceEqDiff, reduceIte, g2, g3, g5, g6, g7] <;> rfl) (by exact (eql_f (by omega))) (by decide) ?_
  refine ro_assign (by simp only [evalF, upd, arg0, argS, ofConst, ofCell, Nat.reduceEqDiff, reduceIte, g2, g3, g5, g6, g7] <;> rfl) (by decide) ?_
  refine ro_nil ?_
  try simp only
  refine ex_cond (t := false) (by simp only [evalF, upd, arg0, argS, ofConst, ofCell, Nat.reduceEqDiff, reduceIte, g2, g3, g5, g6, g7] <;> rfl) (fun h => by simp at h) (fun h => ?_)
  refine ex_seq (ex_region ?_)
  refine ro_bin (by simp only [evalF, upd, arg0, argS, ofConst, ofCell, Nat.reduceEqDiff, reduceIte, g2, g3, g5, g6, g7] <;> rfl) (by simp only [evalF, upd, arg0, argS, ofConst, ofCell, Nat.reduceEqDiff, reduceIte, g2, g3, g5, g6, g7] <;> rfl) (by exact (eql_f (by omega))) (by decide) ?_
  refine ro_assign (by simp only [evalF, upd, arg0, argS, ofConst, ofCell, Nat.reduceEqDiff, reduceIte, g2, g3, g5, g6, g7] <;> rfl) (by decide) ?_
  refine ro_nil ?_
  try simp only
  refine ex_cond (t := false) (by simp only [evalF, upd, arg0, argS, ofConst, ofCell, Nat.reduceEqDiff, reduceIte, g2, g3, g5, g6, g7] <;> rfl) (fun h => by simp at h) (fun h => ?_)
  refine ex_seq (ex_seq (ex_region ?_))
  refine ro_bin (by simp only [evalF, upd, arg0, argS, ofConst, ofCell, Nat.reduceEqDiff, reduceIte, g2, g3, g5, g6, g7] <;> rfl) (by simp only [evalF, upd, arg0, argS, ofConst, ofCell, Nat.reduceEqDiff, reduceIte, g2, g3, g5, g6, g7] <;> rfl) (by exact (eql_f (by omega))) (by decide) ?_
  refine ro_assign (by simp only [evalF, upd, arg0, argS, ofConst, ofCell, Nat.reduceEqDiff, reduceIte, g2, g3, g5, g6, g7] <;> rfl) (by decide) ?_
  refine ro_nil ?_
  try simp only
  refine ex_cond (t := false) (by simp only [evalF, upd, arg0, argS, ofConst, ofCell, Nat.reduceEqDiff, reduceIte, g2, g3, g5, g6, g7] <;> rfl) (fun h => by simp at h) (fun h => ?_)
  refine ex_seq (ex_region ?_)
  refine ro_bin (by simp only [evalF, upd, arg0, argS, ofConst, ofCell, Nat.reduceEqDiff, reduceIte, g2, g3, g5, g6, g7] <;> rfl) (by simp only [evalF, upd, arg0, argS, ofConst, ofCell, Nat.reduceEqDiff, reduceIte, g2, g3, g5, g6, g7] <;> rfl) (by exact (eql_f (by omega))) (by decide) ?_
  refine ro_assign (by simp only [evalF, upd, arg0, argS, ofConst, ofCell, Nat.reduceEqDiff, reduceIte, g2, g3, g5, g6, g7] <;> rfl) (by decide) ?_
  refine ro_nil ?_
  try simp only
  refine ex_cond (t := false) (by simp only [evalF, upd, arg0, argS, ofConst, ofCell, Nat.reduceEqDiff, reduceIte, g2, g3, g5, g6, g7] <;> rfl) (fun h => by simp at h) (fun h => ?_)
  refine ex_region ?_
  refine ro_bin (by simp only [evalF, upd, arg0, argS, ofConst, ofCell, Nat.reduceEqDiff, reduceIte, g2, g3, g5, g6, g7] <;> rfl) (by simp only [evalF, upd, arg0, argS, ofConst, ofCell, Nat.reduceEqDiff, reduceIte, g2, g3, g5, g6, g7] <;> rfl) (by exact (eql_t (by omega))) (by decide) ?_
  refine ro_assign (by simp only [evalF, upd, arg0, argS, ofConst, ofCell, Nat.reduceEqDiff, reduceIte, g2, g3, g5, g6, g7] <;> rfl) (by decide) ?_
  refine ro_nil ?_
  try simp only
  refine ex_cond (t := true) (by simp only [evalF, upd, arg0, argS, ofConst, ofCell, Nat.reduceEqDiff, reduceIte, g2, g3, g5, g6, g7] <;> rfl) (fun h => ?_) (fun h => by simp at h)
  refine ex_seq (ex_region ?_)
  refine ro_move (by simp only [evalF, upd, arg0, argS, ofConst, ofCell, Nat.reduceEqDiff, reduceIte, g2, g3, g5, g6, g7] <;> rfl) (by decide) ?_
  refine ro_assign (by simp only [evalF, upd, arg0, argS, ofConst, ofCell, Nat.reduceEqDiff, reduceIte, g2, g3, g5, g6, g7] <;> rfl) (by decide) ?_
  refine ro_nil ?_
  try simp only
  refine ex_ret ?_
  exact ⟨rfl, by rw [hs]; simp [upd, sameF, ofConst, ofCell, evalF, g5, g6, g7], rfl, rfl⟩

theorem rest17_6 (ka : a.key.length = 32) (kb : b.key.length = 32) (hk : a.kind = 6) (hkb : b.kind = 6) (h1 : AI.look hp i1 1 = some (mcells a L D)) (h2 : AI.look hp i2 1 = some (mcells b L2 D2)) (g2 : g 2 = .ptr i1 1 0) (g3 : g 3 = .ptr i2 1 0) (g5 : g 5 = .pv (.bool (a.key == b.key))) (g6 : g 6 = .pv (.bool (a.data == b.data))) (g7 : g 7 = .pv (.bool (a.list == b.list))) :
    EX Try.prog plains F G 10000 124 (codeAt (bodyOf Try.f17) [true, true, true]) g hp nb fun x g' hp' nb' => x = .ret ∧ g' 4 = .pv (.bool (sameM a b)) ∧ hp' = hp ∧ nb' = nb := by
  have hs : sameM a b = (sameF a b 3 && sameF a b 2) := by simp [sameM, rowOf, hk, hkb, Bool.and_assoc]
  show EX _ _ _ _ _ 124 _ _ _ _ _
  simp only [codeAt, bodyOf, Try.f17, if_true]
  refine ex_seq (ex_seq (ex_region ?_))
  refine ro_fieldAddr (by simp only [evalF, upd, arg0, argS, ofConst, ofCell, Nat.reduceEqDiff, reduceIte, g2, g3, g5, g6, g7] <;> rfl) (by exact (fa30_0 _ _ _)) (by decide) ?_
  refine ro_load (by simp only [evalF, upd, arg0, argS, ofConst, ofCell, Nat.reduceEqDiff, reduceIte, g2, g3, g5, g6, g7] <;> rfl) (by exact (load1 ag3 h1 mc0)) (by decide) ?_
  refine ro_nil ?_
  try simp only
  refine ex_block ?_
  refine ex_seq (ex_region ?_)
  refine ro_bin (by simp only [evalF, upd, arg0, argS, ofConst, ofCell, Nat.reduceEqDiff, reduceIte, g2, g3, g5, g6, g7] <;> rfl) (by simp only [evalF, upd, arg0, argS, ofConst, ofCell, Nat.reduceEqDiff, reduceIte, g2, g3, g5, g6, g7] <;> rfl) (by exact (eql_f (by omega))) (by decide) ?_
  refine ro_assign (by simp only [evalF, upd, arg0, argS, ofConst, ofCell, Nat.reduceEqDiff, reduceIte, g2, g3, g5, g6, g7] <;> rfl) (by decide) ?_
  refine ro_nil ?_
  try simp only
  refine ex_cond (t := false) (by simp only [evalF, upd, arg0, argS, ofConst, ofCell, Nat.reduceEqDiff, reduceIte, g2, g3, g5, g6, g7] <;> rfl) (fun h => by simp at h) (fun h => ?_)
  refine ex_seq (ex_region ?_)
  refine ro_bin (by simp only [evalF, upd, arg0, argS, ofConst, ofCell, Nat.reduceEqDiff, reduceIte, g2, g3, g5, g6, g7] <;> rfl) (by simp only [evalF, upd, arg0, argS, ofConst, ofCell, Nat.reduceEqDiff, reduceIte, g2, g3, g5, g6, g7] <;> rfl) (by exact (eql_f (by omega))) (by decide) ?_
  refine ro_assign (by simp only [evalF, upd, arg0, argS, ofConst, ofCell, Nat.reduceEqDiff, reduceIte, g2, g3, g5, g6, g7] <;> rfl) (by decide) ?_
  refine ro_nil ?_
  try simp only
  refine ex_cond (t := false) (by simp only [evalF, upd, arg0, argS, ofConst, ofCell, Nat.reduceEqDiff, reduceIte, g2, g3, g5, g6, g7] <;> rfl) (fun h => by simp at h) (fun h => ?_)
  refine ex_seq (ex_region ?_)
  refine ro_bin (by simp only [evalF, upd, arg0, argS, ofConst, ofCell, Nat.reduceEqDiff, reduceIte, g2, g3, g5, g6, g7] <;> rfl) (by simp only [evalF, upd, arg0, argS, ofConst, ofCell, Nat.reduceEqDiff, reduceIte, g2, g3, g5, g6, g7] <;> rfl) (by exact (eql_f (by omega))) (by decide) ?_
  refine ro_assign (by simp only [evalF, upd, arg0, argS, ofConst, ofCell, Nat.reduceEqDiff, reduceIte, g2, g3, g5, g6, g7] <;> rfl) (by decide) ?_
  refine ro_nil ?_
  try simp only
  refine ex_cond (t := false) (by simp only [evalF, upd, arg0, argS, ofConst, ofCell, Nat.reduceEqDiff, reduceIte, g2, g3, g5, g6, g7] <;> rfl) (fun h => by simp at h) (fun h => ?_)
  refine ex_seq (ex_seq (ex_region ?_))
  refine ro_bin (by simp only [evalF, upd, arg0, argS, ofConst, ofCell, Nat.reduceEqDiff, reduceIte, g2, g3, g5, g6, g7] <;> rfl) (by simp only [evalF, upd, arg0, argS, ofConst, ofCell, Nat.reduceEqDiff, reduceIte, g2, g3, g5, g6, g7] <;> rfl) (by exact (eql_f (by omega))) (by decide) ?_
  refine ro_assign (by simp only [evalF, upd, arg0, argS, ofConst, ofCell, Nat.reduceEqDiff, reduceIte, g2, g3, g5, g6, g7] <;> rfl) (by decide) ?_
  refine ro_nil ?_
  try simp only
  refine ex_cond (t := false) (by simp only [evalF, upd, arg0, argS, ofConst, ofCell, Nat.reduceEqDiff, reduceIte, g2, g3, g5, g6, g7] <;> rfl) (fun h => by simp at h) (fun h => ?_)
  refine ex_seq (ex_region ?_)
  refine ro_bin (by simp only [evalF, upd, arg0, argS, ofConst, ofCell, Nat.reduceEqDiff, reduceIte, g2, g3, g5, g6, g7] <;> rfl) (by simp only [evalF, upd, arg0, argS, ofConst, ofCell, Nat.reduceEqDiff, reduceIte, g2, g3, g5, g6, g7] <;> rfl) (by exact (eql_f (by omega))) (by decide) ?_
  refine ro_assign (by simp only [evalF, upd, arg0, argS, ofConst, ofCell, Nat.reduceEqDiff, reduceIte, g2, g3, g5, g6, g7] <;> rfl) (by decide) ?_
  refine ro_nil ?_
  try simp only
  refine ex_cond (t := false) (by simp only [evalF, upd, arg0, argS, ofConst, ofCell, Nat.reduceEqDiff, reduceIte, g2, g3, g5, g6, g7] <;> rfl) (fun h => by simp at h) (fun h => ?_)
  refine ex_region ?_
  refine ro_bin (by simp only [evalF, upd, arg0, argS, ofConst, ofCell, Nat.reduceEqDiff, reduceIte, g2, g3, g5, g6, g7] <;> rfl) (by simp only [evalF, upd, arg0, argS, ofConst, ofCell, Nat.reduceEqDiff, reduceIte, g2, g3, g5, g6, g7] <;> rfl) (by exact (eql_f (by omega))) (by decide) ?_
  refine ro_assign (by simp only [evalF, upd, arg0, argS, ofConst, ofCell, Nat.reduceEqDiff, reduceIte, g2, g3, g5, g6, g7] <;> rfl) (by decide) ?_
  refine ro_nil ?_
  try simp only
  refine ex_cond (t := false) (by simp only [evalF, upd, arg0, argS, ofConst, ofCell, Nat.reduceEqDiff, reduceIte, g2, g3, g5, g6, g7] <;> rfl) (fun h => by simp at h) (fun h => ?_)
  refine ex_seq (ex_region ?_)
  refine ro_bin (by simp only [evalF, upd, arg0, argS, ofConst, ofCell, Nat.reduceEqDiff, reduceIte, g2, g3, g5, g6, g7] <;> rfl) (by simp only [evalF, upd, arg0, argS, ofConst, ofCell, Nat.reduceEqDiff, reduceIte, g2, g3, g5, g6, g7] <;> rfl) (by exact (eql_t (by omega))) (by decide) ?_
  refine ro_assign (by simp only [evalF, upd, arg0, argS, ofConst, ofCell, Nat.reduceEqDiff, reduceIte, g2, g3, g5, g6, g7] <;> rfl) (by decide) ?_
  refine ro_nil ?_
  try simp only
  refine ex_cond (t := true) (by simp only [evalF, upd, arg0, argS, ofConst, ofCell, Nat.reduceEqDiff, reduceIte, g2, g3, g5, g6, g7] <;> rfl) (fun h => ?_) (fun h => by simp at h)
  refine ex_seq (ex_region ?_)
  cases q0 : (a.done == b.done) with
  | true =>
    refine ro_fieldAddr (by simp only [evalF, upd, arg0, argS, ofConst, ofCell, Nat.reduceEqDiff, reduceIte, g2, g3, g5, g6, g7, q0] <;> rfl) (by exact (fa30_4 _ _ _)) (by decide) ?_
    refine ro_load (by simp only [evalF, upd, arg0, argS, ofConst, ofCell, Nat.reduceEqDiff, reduceIte, g2, g3, g5, g6, g7, q0] <;> rfl) (by exact (load1 ag4 h1 mc4)) (by decide) ?_
    refine ro_fieldAddr (by simp only [evalF, upd, arg0, argS, ofConst, ofCell, Nat.reduceEqDiff, reduceIte, g2, g3, g5, g6, g7, q0] <;> rfl) (by exact (fa30_4 _ _ _)) (by decide) ?_
    refine ro_load (by simp only [evalF, upd, arg0, argS, ofConst, ofCell, Nat.reduceEqDiff, reduceIte, g2, g3, g5, g6, g7, q0] <;> rfl) (by exact (load1 ag4 h2 mc4)) (by decide) ?_
    refine ro_bin (by simp only [evalF, upd, arg0, argS, ofConst, ofCell, Nat.reduceEqDiff, reduceIte, g2, g3, g5, g6, g7, q0] <;> rfl) (by simp only [evalF, upd, arg0, argS, ofConst, ofCell, Nat.reduceEqDiff, reduceIte, g2, g3, g5, g6, g7, q0] <;> rfl) (by exact (by rw [eq4_v, q0])) (by decide) ?_
    refine ro_move (by simp only [evalF, upd, arg0, argS, ofConst, ofCell, Nat.reduceEqDiff, reduceIte, g2, g3, g5, g6, g7, q0] <;> rfl) (by decide) ?_
    refine ro_guard rfl (by simp only [evalF, upd, arg0, argS, ofConst, ofCell, Nat.reduceEqDiff, reduceIte, g2, g3, g5, g6, g7, q0] <;> rfl) rfl ?_
    refine ro_move (by simp only [evalF, upd, arg0, argS, ofConst, ofCell, Nat.reduceEqDiff, reduceIte, g2, g3, g5, g6, g7, q0] <;> rfl) (by decide) ?_
    refine ro_pick (by simp only [evalF, upd, arg0, argS, ofConst, ofCell, Nat.reduceEqDiff, reduceIte, g2, g3, g5, g6, g7, q0] <;> rfl) (by simp only [evalF, upd, arg0, argS, ofConst, ofCell, Nat.reduceEqDiff, reduceIte, g2, g3, g5, g6, g7, q0] <;> rfl) (by simp only [evalF, upd, arg0, argS, ofConst, ofCell, Nat.reduceEqDiff, reduceIte, g2, g3, g5, g6, g7, q0] <;> rfl) (by decide) ?_
    refine ro_assign (by simp only [evalF, upd, arg0, argS, ofConst, ofCell, Nat.reduceEqDiff, reduceIte, g2, g3, g5, g6, g7, q0] <;> rfl) (by decide) ?_
    refine ro_nil ?_
    try simp only
    refine ex_ret ?_
    exact ⟨rfl, by rw [hs]; simp [upd, sameF, ofConst, ofCell, evalF, q0, g5, g6, g7], rfl, rfl⟩
  | false =>
    refine ro_fieldAddr (by simp only [evalF, upd, arg0, argS, ofConst, ofCell, Nat.reduceEqDiff, reduceIte, g2, g3, g5, g6, g7, q0] <;> rfl) (by exact (fa30_4 _ _ _)) (by decide) ?_
    refine ro_load (by simp only [evalF, upd, arg0, argS, ofConst, ofCell, Nat.reduceEqDiff, reduceIte, g2, g3, g5, g6, g7, q0] <;> rfl) (by exact (load1 ag4 h1 mc4)) (by decide) ?_
    refine ro_fieldAddr (by simp only [evalF, upd, arg0, argS, ofConst, ofCell, Nat.reduceEqDiff, reduceIte, g2, g3, g5, g6, g7, q0] <;> rfl) (by exact (fa30_4 _ _ _)) (by decide) ?_
    refine ro_load (by simp only [evalF, upd, arg0, argS, ofConst, ofCell, Nat.reduceEqDiff, reduceIte, g2, g3, g5, g6, g7, q0] <;> rfl) (by exact (load1 ag4 h2 mc4)) (by decide) ?_
    refine ro_bin (by simp only [evalF, upd, arg0, argS, ofConst, ofCell, Nat.reduceEqDiff, reduceIte, g2, g3, g5, g6, g7, q0] <;> rfl) (by simp only [evalF, upd, arg0, argS, ofConst, ofCell, Nat.reduceEqDiff, reduceIte, g2, g3, g5, g6, g7, q0] <;> rfl) (by exact (by rw [eq4_v, q0])) (by decide) ?_
    refine ro_move (by simp only [evalF, upd, arg0, argS, ofConst, ofCell, Nat.reduceEqDiff, reduceIte, g2, g3, g5, g6, g7, q0] <;> rfl) (by decide) ?_
    refine ro_skip rfl (by simp only [evalF, upd, arg0, argS, ofConst, ofCell, Nat.reduceEqDiff, reduceIte, g2, g3, g5, g6, g7, q0] <;> rfl) rfl (fun e he => by cases he; decide) ?_
    simp only [putF]
    refine ro_pick (by simp only [evalF, upd, arg0, argS, ofConst, ofCell, Nat.reduceEqDiff, reduceIte, g2, g3, g5, g6, g7, q0] <;> rfl) (by simp only [evalF, upd, arg0, argS, ofConst, ofCell, Nat.reduceEqDiff, reduceIte, g2, g3, g5, g6, g7, q0] <;> rfl) (by simp only [evalF, upd, arg0, argS, ofConst, ofCell, Nat.reduceEqDiff, reduceIte, g2, g3, g5, g6, g7, q0] <;> rfl) (by decide) ?_
    refine ro_assign (by simp only [evalF, upd, arg0, argS, ofConst, ofCell, Nat.reduceEqDiff, reduceIte, g2, g3, g5, g6, g7, q0] <;> rfl) (by decide) ?_
    refine ro_nil ?_
    try simp only
    refine ex_ret ?_
    exact ⟨rfl, by rw [hs]; simp [upd, sameF, ofConst, ofCell, evalF, q0, g5, g6, g7], rfl, rfl⟩

theorem rest17_8 (ka : a.key.length = 32) (kb : b.key.length = 32) (hk : a.kind = 8) (hkb : b.kind = 8) (h1 : AI.look hp i1 1 = some (mcells a L D)) (h2 : AI.look hp i2 1 = some (mcells b L2 D2)) (g2 : g 2 = .ptr i1 1 0) (g3 : g 3 = .ptr i2 1 0) (g5 : g 5 = .pv (.bool (a.key == b.key))) (g6 : g 6 = .pv (.bool (a.data == b.data))) (g7 : g 7 = .pv (.bool (a.list == b.list))) :
    EX Try.prog plains F G 10000 124 (codeAt (bodyOf Try.f17) [true, true, true]) g hp nb fun x g' hp' nb' => x = .ret ∧ g' 4 = .pv (.bool (sameM a b)) ∧ hp' = hp ∧ nb' = nb := by
  have hs : sameM a b = (sameF a b 4 && sameF a b 6) := by simp [sameM, rowOf, hk, hkb, Bool.and_assoc]
  show EX _ _ _ _ _ 124 _ _ _ _ _
  simp only [codeAt, bodyOf, Try.f17, if_true]
  refine ex_seq (ex_seq (ex_region ?_))
  refine ro_fieldAddr (by simp only [evalF, upd, arg0, argS, ofConst, ofCell, Nat.reduceEqDiff, reduceIte, g2, g3, g5, g6, g7] <;> rfl) (by exact (fa30_0 _ _ _)) (by decide) ?_
  refine ro_load (by simp only [evalF, upd, arg0, argS, ofConst, ofCell, Nat.reduceEqDiff, reduceIte, g2, g3, g5, g6, g7] <;> rfl) (by exact (load1 ag3 h1 mc0)) (by decide) ?_
  refine ro_nil ?_
  try simp only
  refine ex_block ?_
  refine ex_seq (ex_region ?_)
  refine ro_bin (by simp only [evalF, upd, arg0, argS, ofConst, ofCell, Nat.reduceEqDiff, reduceIte, g2, g3, g5, g6, g7] <;> rfl) (by simp only [evalF, upd, arg0, argS, ofConst, ofCell, Nat.reduceEqDiff, reduceIte, g2, g3, g5, g6, g7] <;> rfl) (by exact (eql_f (by omega))) (by decide) ?_
  refine ro_assign (by simp only [evalF, upd, arg0, argS, ofConst, ofCell, Nat.reduceEqDiff, reduceIte, g2, g3, g5, g6, g7] <;> rfl) (by decide) ?_
  refine ro_nil ?_
  try simp only
  refine ex_cond (t := false) (by simp only [evalF, upd, arg0, argS, ofConst, ofCell, Nat.reduceEqDiff, reduceIte, g2, g3, g5, g6, g7] <;> rfl) (fun h => by simp at h) (fun h => ?_)
  refine ex_seq (ex_region ?_)
  refine ro_bin (by simp only [evalF, upd, arg0, argS, ofConst, ofCell, Nat.reduceEqDiff, reduceIte, g2, g3, g5, g6, g7] <;> rfl) (by simp only [evalF, upd, arg0, argS, ofConst, ofCell, Nat.reduceEqDiff, reduceIte, g2, g3, g5, g6, g7] <;> rfl) (by exact (eql_f (by omega))) (by decide) ?_
  refine ro_assign (by simp only [evalF, upd, arg0, argS, ofConst, ofCell, Nat.reduceEqDiff, reduceIte, g2, g3, g5, g6, g7] <;> rfl) (by decide) ?_
  refine ro_nil ?_
  try simp only
  refine ex_cond (t := false) (by simp only [evalF, upd, arg0, argS, ofConst, ofCell, Nat.reduceEqDiff, reduceIte, g2, g3, g5, g6, g7] <;> rfl) (fun h => by simp at h) (fun h => ?_)
  refine ex_seq (ex_region ?_)
  refine ro_bin (by simp only [evalF, upd, arg0, argS, ofConst, ofCell, Nat.reduceEqDiff, reduceIte, g2, g3, g5, g6, g7] <;> rfl) (by simp only [evalF, upd, arg0, argS, ofConst, ofCell, Nat.reduceEqDiff, reduceIte, g2, g3, g5, g6, g7] <;> rfl) (by exact (eql_f (by omega))) (by decide) ?_
  refine ro_assign (by simp only [evalF, upd, arg0, argS, ofConst, ofCell, Nat.reduceEqDiff, reduceIte, g2, g3, g5, g6, g7] <;> rfl) (by decide) ?_
  refine ro_nil ?_
  try simp only
  refine ex_cond (t := false) (by simp only [evalF, upd, arg0, argS, ofConst, ofCell, Nat.reduceEqDiff, reduceIte, g2, g3, g5, g6, g7] <;> rfl) (fun h => by simp at h) (fun h => ?_)
  refine ex_seq (ex_seq (ex_region ?_))
  refine ro_bin (by simp only [evalF, upd, arg0, argS, ofConst, ofCell, Nat.reduceEqDiff, reduceIte, g2, g3, g5, g6, g7] <;> rfl) (by simp only [evalF, upd, arg0, argS, ofConst, ofCell, Nat.reduceEqDiff, reduceIte, g2, g3, g5, g6, g7] <;> rfl) (by exact (eql_f (by omega))) (by decide) ?_
  refine ro_assign (by simp only [evalF, upd, arg0, argS, ofConst, ofCell, Nat.reduceEqDiff, reduceIte, g2, g3, g5, g6, g7] <;> rfl) (by decide) ?_
  refine ro_nil ?_
  try simp only
  refine ex_cond (t := false) (by simp only [evalF, upd, arg0, argS, ofConst, ofCell, Nat.reduceEqDiff, reduceIte, g2, g3, g5, g6, g7] <;> rfl) (fun h => by simp at h) (fun h => ?_)
  refine ex_seq (ex_region ?_)
  refine ro_bin (by simp only [evalF, upd, arg0, argS, ofConst, ofCell, Nat.reduceEqDiff, reduceIte, g2, g3, g5, g6, g7] <;> rfl) (by simp only [evalF, upd, arg0, argS, ofConst, ofCell, Nat.reduceEqDiff, reduceIte, g2, g3, g5, g6, g7] <;> rfl) (by exact (eql_f (by omega))) (by decide) ?_
  refine ro_assign (by simp only [evalF, upd, arg0, argS, ofConst, ofCell, Nat.reduceEqDiff, reduceIte, g2, g3, g5, g6, g7] <;> rfl) (by decide) ?_
  refine ro_nil ?_
  try simp only
  refine ex_cond (t := false) (by simp only [evalF, upd, arg0, argS, ofConst, ofCell, Nat.reduceEqDiff, reduceIte, g2, g3, g5, g6, g7] <;> rfl) (fun h => by simp at h) (fun h => ?_)
  refine ex_region ?_
  refine ro_bin (by simp only [evalF, upd, arg0, argS, ofConst, ofCell, Nat.reduceEqDiff, reduceIte, g2, g3, g5, g6, g7] <;> rfl) (by simp only [evalF, upd, arg0, argS, ofConst, ofCell, Nat.reduceEqDiff, reduceIte, g2, g3, g5, g6, g7] <;> rfl) (by exact (eql_f (by omega))) (by decide) ?_
  refine ro_assign (by simp only [evalF, upd, arg0, argS, ofConst, ofCell, Nat.reduceEqDiff, reduceIte, g2, g3, g5, g6, g7] <;> rfl) (by decide) ?_
  refine ro_nil ?_
  try simp only
  refine ex_cond (t := false) (by simp only [evalF, upd, arg0, argS, ofConst, ofCell, Nat.reduceEqDiff, reduceIte, g2, g3, g5, g6, g7] <;> rfl) (fun h => by simp at h) (fun h => ?_)
  refine ex_seq (ex_region ?_)
  refine ro_bin (by simp only [evalF, upd, arg0, argS, ofConst, ofCell, Nat.reduceEqDiff, reduceIte, g2, g3, g5, g6, g7] <;> rfl) (by simp only [evalF, upd, arg0, argS, ofConst, ofCell, Nat.reduceEqDiff, reduceIte, g2, g3, g5, g6, g7] <;> rfl) (by exact (eql_f (by omega))) (by decide) ?_
  refine ro_assign (by simp only [evalF, upd, arg0, argS, ofConst, ofCell, Nat.reduceEqDiff, reduceIte, g2, g3, g5, g6, g7] <;> rfl) (by decide) ?_
  refine ro_nil ?_
  try simp only
  refine ex_cond (t := false) (by simp only [evalF, upd, arg0, argS, ofConst, ofCell, Nat.reduceEqDiff, reduceIte, g2, g3, g5, g6, g7] <;> rfl) (fun h => by simp at h) (fun h => ?_)
  refine ex_seq (ex_region ?_)
  refine ro_bin (by simp only [evalF, upd, arg0, argS, ofConst, ofCell, Nat.reduceEqDiff, reduceIte, g2, g3, g5, g6, g7] <;> rfl) (by simp only [evalF, upd, arg0, argS, ofConst, ofCell, Nat.reduceEqDiff, reduceIte, g2, g3, g5, g6, g7] <;> rfl) (by exact (eql_t (by omega))) (by decide) ?_
  refine ro_assign (by simp only [evalF, upd, arg0, argS, ofConst, ofCell, Nat.reduceEqDiff, reduceIte, g2, g3, g5, g6, g7] <;> rfl) (by decide) ?_
  refine ro_nil ?_
  try simp only
  refine ex_cond (t := true) (by simp only [evalF, upd, arg0, argS, ofConst, ofCell, Nat.reduceEqDiff, reduceIte, g2, g3, g5, g6, g7] <;> rfl) (fun h => ?_) (fun h => by simp at h)
  refine ex_seq (ex_region ?_)
  cases q0 : (a.err == b.err) with
  | true =>
    refine ro_fieldAddr (by simp only [evalF, upd, arg0, argS, ofConst, ofCell, Nat.reduceEqDiff, reduceIte, g2, g3, g5, g6, g7, q0] <;> rfl) (by exact (fa30_8 _ _ _)) (by decide) ?_
    refine ro_load (by simp only [evalF, upd, arg0, argS, ofConst, ofCell, Nat.reduceEqDiff, reduceIte, g2, g3, g5, g6, g7, q0] <;> rfl) (by exact (load1 ag28 h1 (mc39 ka))) (by decide) ?_
    refine ro_fieldAddr (by simp only [evalF, upd, arg0, argS, ofConst, ofCell, Nat.reduceEqDiff, reduceIte, g2, g3, g5, g6, g7, q0] <;> rfl) (by exact (fa30_8 _ _ _)) (by decide) ?_
    refine ro_load (by simp only [evalF, upd, arg0, argS, ofConst, ofCell, Nat.reduceEqDiff, reduceIte, g2, g3, g5, g6, g7, q0] <;> rfl) (by exact (load1 ag28 h2 (mc39 kb))) (by decide) ?_
    refine ro_bin (by simp only [evalF, upd, arg0, argS, ofConst, ofCell, Nat.reduceEqDiff, reduceIte, g2, g3, g5, g6, g7, q0] <;> rfl) (by simp only [evalF, upd, arg0, argS, ofConst, ofCell, Nat.reduceEqDiff, reduceIte, g2, g3, g5, g6, g7, q0] <;> rfl) (by exact (by rw [eql_v, q0])) (by decide) ?_
    refine ro_move (by simp only [evalF, upd, arg0, argS, ofConst, ofCell, Nat.reduceEqDiff, reduceIte, g2, g3, g5, g6, g7, q0] <;> rfl) (by decide) ?_
    refine ro_guard rfl (by simp only [evalF, upd, arg0, argS, ofConst, ofCell, Nat.reduceEqDiff, reduceIte, g2, g3, g5, g6, g7, q0] <;> rfl) rfl ?_
    refine ro_move (by simp only [evalF, upd, arg0, argS, ofConst, ofCell, Nat.reduceEqDiff, reduceIte, g2, g3, g5, g6, g7, q0] <;> rfl) (by decide) ?_
    refine ro_pick (by simp only [evalF, upd, arg0, argS, ofConst, ofCell, Nat.reduceEqDiff, reduceIte, g2, g3, g5, g6, g7, q0] <;> rfl) (by simp only [evalF, upd, arg0, argS, ofConst, ofCell, Nat.reduceEqDiff, reduceIte, g2, g3, g5, g6, g7, q0] <;> rfl) (by simp only [evalF, upd, arg0, argS, ofConst, ofCell, Nat.reduceEqDiff, reduceIte, g2, g3, g5, g6, g7, q0] <;> rfl) (by decide) ?_
    refine ro_assign (by simp only [evalF, upd, arg0, argS, ofConst, ofCell, Nat.reduceEqDiff, reduceIte, g2, g3, g5, g6, g7, q0] <;> rfl) (by decide) ?_
    refine ro_nil ?_
    try simp only
    refine ex_ret ?_
    exact ⟨rfl, by rw [hs]; simp [upd, sameF, ofConst, ofCell, evalF, q0, g5, g6, g7], rfl, rfl⟩
  | false =>
    refine ro_fieldAddr (by simp only [evalF, upd, arg0, argS, ofConst, ofCell, Nat.reduceEqDiff, reduceIte, g2, g3, g5, g6, g7, q0] <;> rfl) (by exact (fa30_8 _ _ _)) (by decide) ?_
    refine ro_load (by simp only [evalF, upd, arg0, argS, ofConst, ofCell, Nat.reduceEqDiff, reduceIte, g2, g3, g5, g6, g7, q0] <;> rfl) (by exact (load1 ag28 h1 (mc39 ka))) (by decide) ?_
    refine ro_fieldAddr (by simp only [evalF, upd, arg0, argS, ofConst, ofCell, Nat.reduceEqDiff, reduceIte, g2, g3, g5, g6, g7, q0] <;> rfl) (by exact (fa30_8 _ _ _)) (by decide) ?_
    refine ro_load (by simp only [evalF, upd, arg0, argS, ofConst, ofCell, Nat.reduceEqDiff, reduceIte, g2, g3, g5, g6, g7, q0] <;> rfl) (by exact (load1 ag28 h2 (mc39 kb))) (by decide) ?_
    refine ro_bin (by simp only [evalF, upd, arg0, argS, ofConst, ofCell, Nat.reduceEqDiff, reduceIte, g2, g3, g5, g6, g7, q0] <;> rfl) (by simp only [evalF, upd, arg0, argS, ofConst, ofCell, Nat.reduceEqDiff, reduceIte, g2, g3, g5, g6, g7, q0] <;> rfl) (by exact (by rw [eql_v, q0])) (by decide) ?_
    refine ro_move (by simp only [evalF, upd, arg0, argS, ofConst, ofCell, Nat.reduceEqDiff, reduceIte, g2, g3, g5, g6, g7, q0] <;> rfl) (by decide) ?_
    refine ro_skip rfl (by simp only [evalF, upd, arg0, argS, ofConst, ofCell, Nat.reduceEqDiff, reduceIte, g2, g3, g5, g6, g7, q0] <;> rfl) rfl (fun e he => by cases he; decide) ?_
    simp only [putF]
    refine ro_pick (by simp only [evalF, upd, arg0, argS, ofConst, ofCell, Nat.reduceEqDiff, reduceIte, g2, g3, g5, g6, g7, q0] <;> rfl) (by simp only [evalF, upd, arg0, argS, ofConst, ofCell, Nat.reduceEqDiff, reduceIte, g2, g3, g5, g6, g7, q0] <;> rfl) (by simp only [evalF, upd, arg0, argS, ofConst, ofCell, Nat.reduceEqDiff, reduceIte, g2, g3, g5, g6, g7, q0] <;> rfl) (by decide) ?_
    refine ro_assign (by simp only [evalF, upd, arg0, argS, ofConst, ofCell, Nat.reduceEqDiff, reduceIte, g2, g3, g5, g6, g7, q0] <;> rfl) (by decide) ?_
    refine ro_nil ?_
    try simp only
    refine ex_ret ?_
    exact ⟨rfl, by rw [hs]; simp [upd, sameF, ofConst, ofCell, evalF, q0, g5, g6, g7], rfl, rfl⟩

theorem rest17_9 (ka : a.key.length = 32) (kb : b.key.length = 32) (hk : a.kind = 9) (hkb : b.kind = 9) (h1 : AI.look hp i1 1 = some (mcells a L D)) (h2 : AI.look hp i2 1 = some (mcells b L2 D2)) (g2 : g 2 = .ptr i1 1 0) (g3 : g 3 = .ptr i2 1 0) (g5 : g 5 = .pv (.bool (a.key == b.key))) (g6 : g 6 = .pv (.bool (a.data == b.data))) (g7 : g 7 = .pv (.bool (a.list == b.list))) :
    EX Try.prog plains F G 10000 124 (codeAt (bodyOf Try.f17) [true, true, true]) g hp nb fun x g' hp' nb' => x = .ret ∧ g' 4 = .pv (.bool (sameM a b)) ∧ hp' = hp ∧ nb' = nb := by
  have hs : sameM a b = (sameF a b 5 && (sameF a b 6 && (sameF a b 1 && sameF a b 7))) := by simp [sameM, rowOf, hk, hkb, Bool.and_assoc]
  show EX _ _ _ _ _ 124 _ _ _ _ _
  simp only [codeAt, bodyOf, Try.f17, if_true]
  refine ex_seq (ex_seq (ex_region ?_))
  refine ro_fieldAddr (by simp only [evalF, upd, arg0, argS, ofConst, ofCell, Nat.reduceEqDiff, reduceIte, g2, g3, g5, g6, g7] <;> rfl) (by exact (fa30_0 _ _ _)) (by decide) ?_
  refine ro_load (by simp only [evalF, upd, arg0, argS, ofConst, ofCell, Nat.reduceEqDiff, reduceIte, g2, g3, g5, g6, g7] <;> rfl) (by exact (load1 ag3 h1 mc0)) (by decide) ?_
  refine ro_nil ?_
  try simp only
  refine ex_block ?_
  refine ex_seq (ex_region ?_)
  refine ro_bin (by simp only [evalF, upd, arg0, argS, ofConst, ofCell, Nat.reduceEqDiff, reduceIte, g2, g3, g5, g6, g7] <;> rfl) (by simp only [evalF, upd, arg0, argS, ofConst, ofCell, Nat.reduceEqDiff, reduceIte, g2, g3, g5, g6, g7] <;> rfl) (by exact (eql_f (by omega))) (by decide) ?_
  refine ro_assign (by simp only [evalF, upd, arg0, argS, ofConst, ofCell, Nat.reduceEqDiff, reduceIte, g2, g3, g5, g6, g7] <;> rfl) (by decide) ?_
  refine ro_nil ?_
  try simp only
  refine ex_cond (t := false) (by simp only [evalF, upd, arg0, argS, ofConst, ofCell, Nat.reduceEqDiff, reduceIte, g2, g3, g5, g6, g7] <;> rfl) (fun h => by simp at h) (fun h => ?_)
  refine ex_seq (ex_region ?_)
  refine ro_bin (by simp only [evalF, upd, arg0, argS, ofConst, ofCell, Nat.reduceEqDiff, reduceIte, g2, g3, g5, g6, g7] <;> rfl) (by simp only [evalF, upd, arg0, argS, ofConst, ofCell, Nat.reduceEqDiff, reduceIte, g2, g3, g5, g6, g7] <;> rfl) (by exact (eql_f (by omega))) (by decide) ?_
  refine ro_assign (by simp only [evalF, upd, arg0, argS, ofConst, ofCell, Nat.reduceEqDiff, reduceIte, g2, g3, g5, g6, g7] <;> rfl) (by decide) ?_
  refine ro_nil ?_
  try simp only
  refine ex_cond (t := false) (by simp only [evalF, upd, arg0, argS, ofConst, ofCell, Nat.reduceEqDiff, reduceIte, g2, g3, g5, g6, g7] <;> rfl) (fun h => by simp at h) (fun h => ?_)
  refine ex_seq (ex_region ?_)
  refine ro_bin (by simp only [evalF, upd, arg0, argS, ofConst, ofCell, Nat.reduceEqDiff, reduceIte, g2, g3, g5, g6, g7] <;> rfl) (by simp only [evalF, upd, arg0, argS, ofConst, ofCell, Nat.reduceEqDiff, reduceIte, g2, g3, g5, g6, g7] <;> rfl) (by exact (eql_f (by omega))) (by decide) ?_
  refine ro_assign (by simp only [evalF, upd, arg0, argS, ofConst, ofCell, Nat.reduceEqDiff, reduceIte, g2, g3, g5, g6, g7] <;> rfl) (by decide) ?_
  refine ro_nil ?_
  try simp only
  refine ex_cond (t := false) (by simp only [evalF, upd, arg0, argS, ofConst, ofCell, Nat.reduceEqDiff, reduceIte, g2, g3, g5, g6, g7] <;> rfl) (fun h => by simp at h) (fun h => ?_)
  refine ex_seq (ex_seq (ex_region ?_))
  refine ro_bin (by simp only [evalF, upd, arg0, argS, ofConst, ofCell, Nat.reduceEqDiff, reduceIte, g2, g3, g5, g6, g7] <;> rfl) (by simp only [evalF, upd, arg0, argS, ofConst, ofCell, Nat.reduceEqDiff, reduceIte, g2, g3, g5, g6, g7] <;> rfl) (by exact (eql_f (by omega))) (by decide) ?_
  refine ro_assign (by simp only [evalF, upd, arg0, argS, ofConst, ofCell, Nat.reduceEqDiff, reduceIte, g2, g3, g5, g6, g7] <;> rfl) (by decide) ?_
  refine ro_nil ?_
  try simp only
  refine ex_cond (t := false) (by simp only [evalF, upd, arg0, argS, ofConst, ofCell, Nat.reduceEqDiff, reduceIte, g2, g3, g5, g6, g7] <;> rfl) (fun h => by simp at h) (fun h => ?_)
  refine ex_seq (ex_region ?_)
  refine ro_bin (by simp only [evalF, upd, arg0, argS, ofConst, ofCell, Nat.reduceEqDiff, reduceIte, g2, g3, g5, g6, g7] <;> rfl) (by simp only [evalF, upd, arg0, argS, ofConst, ofCell, Nat.reduceEqDiff, reduceIte, g2, g3, g5, g6, g7] <;> rfl) (by exact (eql_f (by omega))) (by decide) ?_
  refine ro_assign (by simp only [evalF, upd, arg0, argS, ofConst, ofCell, Nat.reduceEqDiff, reduceIte, g2, g3, g5, g6, g7] <;> rfl) (by decide) ?_
  refine ro_nil ?_
  try simp only
  refine ex_cond (t := false) (by simp only [evalF, upd, arg0, argS, ofConst, ofCell, Nat.reduceEqDiff, reduceIte, g2, g3, g5, g6, g7] <;> rfl) (fun h => by simp at h) (fun h => ?_)
  refine ex_region ?_
  refine ro_bin (by simp only [evalF, upd, arg0, argS, ofConst, ofCell, Nat.reduceEqDiff, reduceIte, g2, g3, g5, g6, g7] <;> rfl) (by simp only [evalF, upd, arg0, argS, ofConst, ofCell, Nat.reduceEqDiff, reduceIte, g2, g3, g5, g6, g7] <;> rfl) (by exact (eql_f (by omega))) (by decide) ?_
  refine ro_assign (by simp only [evalF, upd, arg0, argS, ofConst, ofCell, Nat.reduceEqDiff, reduceIte, g2, g3, g5, g6, g7] <;> rfl) (by decide) ?_
  refine ro_nil ?_
  try simp only
  refine ex_cond (t := false) (by simp only [evalF, upd, arg0, argS, ofConst, ofCell, Nat.reduceEqDiff, reduceIte, g2, g3, g5, g6, g7] <;> rfl) (fun h => by simp at h) (fun h => ?_)
  refine ex_seq (ex_region ?_)
  refine ro_bin (by simp only [evalF, upd, arg0, argS, ofConst, ofCell, Nat.reduceEqDiff, reduceIte, g2, g3, g5, g6, g7] <;> rfl) (by simp only [evalF, upd, arg0, argS, ofConst, ofCell, Nat.reduceEqDiff, reduceIte, g2, g3, g5, g6, g7] <;> rfl) (by exact (eql_f (by omega))) (by decide) ?_
  refine ro_assign (by simp only [evalF, upd, arg0, argS, ofConst, ofCell, Nat.reduceEqDiff, reduceIte, g2, g3, g5, g6, g7] <;> rfl) (by decide) ?_
  refine ro_nil ?_
  try simp only
  refine ex_cond (t := false) (by simp only [evalF, upd, arg0, argS, ofConst, ofCell, Nat.reduceEqDiff, reduceIte, g2, g3, g5, g6, g7] <;> rfl) (fun h => by simp at h) (fun h => ?_)
  refine ex_seq (ex_region ?_)
  refine ro_bin (by simp only [evalF, upd, arg0, argS, ofConst, ofCell, Nat.reduceEqDiff, reduceIte, g2, g3, g5, g6, g7] <;> rfl) (by simp only [evalF, upd, arg0, argS, ofConst, ofCell, Nat.reduceEqDiff, reduceIte, g2, g3, g5, g6, g7] <;> rfl) (by exact (eql_f (by omega))) (by decide) ?_
  refine ro_assign (by simp only [evalF, upd, arg0, argS, ofConst, ofCell, Nat.reduceEqDiff, reduceIte, g2, g3, g5, g6, g7] <;> rfl) (by decide) ?_
  refine ro_nil ?_
  try simp only
  refine ex_cond (t := false) (by simp only [evalF, upd, arg0, argS, ofConst, ofCell, Nat.reduceEqDiff, reduceIte, g2, g3, g5, g6, g7] <;> rfl) (fun h => by simp at h) (fun h => ?_)
  refine ex_seq (ex_region ?_)
  refine ro_bin (by simp only [evalF, upd, arg0, argS, ofConst, ofCell, Nat.reduceEqDiff, reduceIte, g2, g3, g5, g6, g7] <;> rfl) (by simp only [evalF, upd, arg0, argS, ofConst, ofCell, Nat.reduceEqDiff, reduceIte, g2, g3, g5, g6, g7] <;> rfl) (by exact (eql_t (by omega))) (by decide) ?_
  refine ro_assign (by simp only [evalF, upd, arg0, argS, ofConst, ofCell, Nat.reduceEqDiff, reduceIte, g2, g3, g5, g6, g7] <;> rfl) (by decide) ?_
  refine ro_nil ?_
  try simp only
  refine ex_cond (t := true) (by simp only [evalF, upd, arg0, argS, ofConst, ofCell, Nat.reduceEqDiff, reduceIte, g2, g3, g5, g6, g7] <;> rfl) (fun h => ?_) (fun h => by simp at h)
  refine ex_seq (ex_region ?_)
  cases q0 : (a.key == b.key) with
  | true =>
    refine ro_move (by simp only [evalF, upd, arg0, argS, ofConst, ofCell, Nat.reduceEqDiff, reduceIte, g2, g3, g5, g6, g7, q0] <;> rfl) (by decide) ?_
    refine ro_move (by simp only [evalF, upd, arg0, argS, ofConst, ofCell, Nat.reduceEqDiff, reduceIte, g2, g3, g5, g6, g7, q0] <;> rfl) (by decide) ?_
    cases q1 : (a.data == b.data) with
    | true =>
      refine ro_guard rfl (by simp only [evalF, upd, arg0, argS, ofConst, ofCell, Nat.reduceEqDiff, reduceIte, g2, g3, g5, g6, g7, q0, q1] <;> rfl) rfl ?_
      refine ro_move (by simp only [evalF, upd, arg0, argS, ofConst, ofCell, Nat.reduceEqDiff, reduceIte, g2, g3, g5, g6, g7, q0, q1] <;> rfl) (by decide) ?_
      refine ro_pick (by simp only [evalF, upd, arg0, argS, ofConst, ofCell, Nat.reduceEqDiff, reduceIte, g2, g3, g5, g6, g7, q0, q1] <;> rfl) (by simp only [evalF, upd, arg0, argS, ofConst, ofCell, Nat.reduceEqDiff, reduceIte, g2, g3, g5, g6, g7, q0, q1] <;> rfl) (by simp only [evalF, upd, arg0, argS, ofConst, ofCell, Nat.reduceEqDiff, reduceIte, g2, g3, g5, g6, g7, q0, q1] <;> rfl) (by decide) ?_
      refine ro_move (by simp only [evalF, upd, arg0, argS, ofConst, ofCell, Nat.reduceEqDiff, reduceIte, g2, g3, g5, g6, g7, q0, q1] <;> rfl) (by decide) ?_
      cases q2 : (a.node == b.node) with
      | true =>
        refine ro_guard rfl (by simp only [evalF, upd, arg0, argS, ofConst, ofCell, Nat.reduceEqDiff, reduceIte, g2, g3, g5, g6, g7, q0, q1, q2] <;> rfl) rfl ?_
        refine ro_fieldAddr (by simp only [evalF, upd, arg0, argS, ofConst, ofCell, Nat.reduceEqDiff, reduceIte, g2, g3, g5, g6, g7, q0, q1, q2] <;> rfl) (by exact (fa30_1 _ _ _)) (by decide) ?_
        refine ro_guard rfl (by simp only [evalF, upd, arg0, argS, ofConst, ofCell, Nat.reduceEqDiff, reduceIte, g2, g3, g5, g6, g7, q0, q1, q2] <;> rfl) rfl ?_
        refine ro_load (by simp only [evalF, upd, arg0, argS, ofConst, ofCell, Nat.reduceEqDiff, reduceIte, g2, g3, g5, g6, g7, q0, q1, q2] <;> rfl) (by exact (load1 ag3 h1 mc1)) (by decide) ?_
        refine ro_guard rfl (by simp only [evalF, upd, arg0, argS, ofConst, ofCell, Nat.reduceEqDiff, reduceIte, g2, g3, g5, g6, g7, q0, q1, q2] <;> rfl) rfl ?_
        refine ro_fieldAddr (by simp only [evalF, upd, arg0, argS, ofConst, ofCell, Nat.reduceEqDiff, reduceIte, g2, g3, g5, g6, g7, q0, q1, q2] <;> rfl) (by exact (fa30_1 _ _ _)) (by decide) ?_
        refine ro_guard rfl (by simp only [evalF, upd, arg0, argS, ofConst, ofCell, Nat.reduceEqDiff, reduceIte, g2, g3, g5, g6, g7, q0, q1, q2] <;> rfl) rfl ?_
        refine ro_load (by simp only [evalF, upd, arg0, argS, ofConst, ofCell, Nat.reduceEqDiff, reduceIte, g2, g3, g5, g6, g7, q0, q1, q2] <;> rfl) (by exact (load1 ag3 h2 mc1)) (by decide) ?_
        refine ro_guard rfl (by simp only [evalF, upd, arg0, argS, ofConst, ofCell, Nat.reduceEqDiff, reduceIte, g2, g3, g5, g6, g7, q0, q1, q2] <;> rfl) rfl ?_
        refine ro_bin (by simp only [evalF, upd, arg0, argS, ofConst, ofCell, Nat.reduceEqDiff, reduceIte, g2, g3, g5, g6, g7, q0, q1, q2] <;> rfl) (by simp only [evalF, upd, arg0, argS, ofConst, ofCell, Nat.reduceEqDiff, reduceIte, g2, g3, g5, g6, g7, q0, q1, q2] <;> rfl) (by exact (by rw [eql_v, q2])) (by decide) ?_
        refine ro_pick (by simp only [evalF, upd, arg0, argS, ofConst, ofCell, Nat.reduceEqDiff, reduceIte, g2, g3, g5, g6, g7, q0, q1, q2] <;> rfl) (by simp only [evalF, upd, arg0, argS, ofConst, ofCell, Nat.reduceEqDiff, reduceIte, g2, g3, g5, g6, g7, q0, q1, q2] <;> rfl) (by simp only [evalF, upd, arg0, argS, ofConst, ofCell, Nat.reduceEqDiff, reduceIte, g2, g3, g5, g6, g7, q0, q1, q2] <;> rfl) (by decide) ?_
        refine ro_move (by simp only [evalF, upd, arg0, argS, ofConst, ofCell, Nat.reduceEqDiff, reduceIte, g2, g3, g5, g6, g7, q0, q1, q2] <;> rfl) (by decide) ?_
        cases q3 : (a.lease == b.lease) with
        | true =>
          refine ro_guard rfl (by simp only [evalF, upd, arg0, argS, ofConst, ofCell, Nat.reduceEqDiff, reduceIte, g2, g3, g5, g6, g7, q0, q1, q2, q3] <;> rfl) rfl ?_
          refine ro_fieldAddr (by simp only [evalF, upd, arg0, argS, ofConst, ofCell, Nat.reduceEqDiff, reduceIte, g2, g3, g5, g6, g7, q0, q1, q2, q3] <;> rfl) (by exact (fa30_7 _ _ _)) (by decide) ?_
          refine ro_guard rfl (by simp only [evalF, upd, arg0, argS, ofConst, ofCell, Nat.reduceEqDiff, reduceIte, g2, g3, g5, g6, g7, q0, q1, q2, q3] <;> rfl) rfl ?_
          refine ro_load (by simp only [evalF, upd, arg0, argS, ofConst, ofCell, Nat.reduceEqDiff, reduceIte, g2, g3, g5, g6, g7, q0, q1, q2, q3] <;> rfl) (by exact (load1 ag3 h1 (mc38 ka))) (by decide) ?_
          refine ro_guard rfl (by simp only [evalF, upd, arg0, argS, ofConst, ofCell, Nat.reduceEqDiff, reduceIte, g2, g3, g5, g6, g7, q0, q1, q2, q3] <;> rfl) rfl ?_
          refine ro_fieldAddr (by simp only [evalF, upd, arg0, argS, ofConst, ofCell, Nat.reduceEqDiff, reduceIte, g2, g3, g5, g6, g7, q0, q1, q2, q3] <;> rfl) (by exact (fa30_7 _ _ _)) (by decide) ?_
          refine ro_guard rfl (by simp only [evalF, upd, arg0, argS, ofConst, ofCell, Nat.reduceEqDiff, reduceIte, g2, g3, g5, g6, g7, q0, q1, q2, q3] <;> rfl) rfl ?_
          refine ro_load (by simp only [evalF, upd, arg0, argS, ofConst, ofCell, Nat.reduceEqDiff, reduceIte, g2, g3, g5, g6, g7, q0, q1, q2, q3] <;> rfl) (by exact (load1 ag3 h2 (mc38 kb))) (by decide) ?_
          refine ro_guard rfl (by simp only [evalF, upd, arg0, argS, ofConst, ofCell, Nat.reduceEqDiff, reduceIte, g2, g3, g5, g6, g7, q0, q1, q2, q3] <;> rfl) rfl ?_
          refine ro_bin (by simp only [evalF, upd, arg0, argS, ofConst, ofCell, Nat.reduceEqDiff, reduceIte, g2, g3, g5, g6, g7, q0, q1, q2, q3] <;> rfl) (by simp only [evalF, upd, arg0, argS, ofConst, ofCell, Nat.reduceEqDiff, reduceIte, g2, g3, g5, g6, g7, q0, q1, q2, q3] <;> rfl) (by exact (by rw [eql_v, q3])) (by decide) ?_
          refine ro_pick (by simp only [evalF, upd, arg0, argS, ofConst, ofCell, Nat.reduceEqDiff, reduceIte, g2, g3, g5, g6, g7, q0, q1, q2, q3] <;> rfl) (by simp only [evalF, upd, arg0, argS, ofConst, ofCell, Nat.reduceEqDiff, reduceIte, g2, g3, g5, g6, g7, q0, q1, q2, q3] <;> rfl) (by simp only [evalF, upd, arg0, argS, ofConst, ofCell, Nat.reduceEqDiff, reduceIte, g2, g3, g5, g6, g7, q0, q1, q2, q3] <;> rfl) (by decide) ?_
          refine ro_assign (by simp only [evalF, upd, arg0, argS, ofConst, ofCell, Nat.reduceEqDiff, reduceIte, g2, g3, g5, g6, g7, q0, q1, q2, q3] <;> rfl) (by decide) ?_
          refine ro_nil ?_
          try simp only
          refine ex_ret ?_
          exact ⟨rfl, by rw [hs]; simp [upd, sameF, ofConst, ofCell, evalF, q0, q1, q2, q3, g5, g6, g7], rfl, rfl⟩
        | false =>
          refine ro_guard rfl (by simp only [evalF, upd, arg0, argS, ofConst, ofCell, Nat.reduceEqDiff, reduceIte, g2, g3, g5, g6, g7, q0, q1, q2, q3] <;> rfl) rfl ?_
          refine ro_fieldAddr (by simp only [evalF, upd, arg0, argS, ofConst, ofCell, Nat.reduceEqDiff, reduceIte, g2, g3, g5, g6, g7, q0, q1, q2, q3] <;> rfl) (by exact (fa30_7 _ _ _)) (by decide) ?_
          refine ro_guard rfl (by simp only [evalF, upd, arg0, argS, ofConst, ofCell, Nat.reduceEqDiff, reduceIte, g2, g3, g5, g6, g7, q0, q1, q2, q3] <;> rfl) rfl ?_
          refine ro_load (by simp only [evalF, upd, arg0, argS, ofConst, ofCell, Nat.reduceEqDiff, reduceIte, g2, g3, g5, g6, g7, q0, q1, q2, q3] <;> rfl) (by exact (load1 ag3 h1 (mc38 ka))) (by decide) ?_
          refine ro_guard rfl (by simp only [evalF, upd, arg0, argS, ofConst, ofCell, Nat.reduceEqDiff, reduceIte, g2, g3, g5, g6, g7, q0, q1, q2, q3] <;> rfl) rfl ?_
          refine ro_fieldAddr (by simp only [evalF, upd, arg0, argS, ofConst, ofCell, Nat.reduceEqDiff, reduceIte, g2, g3, g5, g6, g7, q0, q1, q2, q3] <;> rfl) (by exact (fa30_7 _ _ _)) (by decide) ?_
          refine ro_guard rfl (by simp only [evalF, upd, arg0, argS, ofConst, ofCell, Nat.reduceEqDiff, reduceIte, g2, g3, g5, g6, g7, q0, q1, q2, q3] <;> rfl) rfl ?_
          refine ro_load (by simp only [evalF, upd, arg0, argS, ofConst, ofCell, Nat.reduceEqDiff, reduceIte, g2, g3, g5, g6, g7, q0, q1, q2, q3] <;> rfl) (by exact (load1 ag3 h2 (mc38 kb))) (by decide) ?_
          refine ro_guard rfl (by simp only [evalF, upd, arg0, argS, ofConst, ofCell, Nat.reduceEqDiff, reduceIte, g2, g3, g5, g6, g7, q0, q1, q2, q3] <;> rfl) rfl ?_
          refine ro_bin (by simp only [evalF, upd, arg0, argS, ofConst, ofCell, Nat.reduceEqDiff, reduceIte, g2, g3, g5, g6, g7, q0, q1, q2, q3] <;> rfl) (by simp only [evalF, upd, arg0, argS, ofConst, ofCell, Nat.reduceEqDiff, reduceIte, g2, g3, g5, g6, g7, q0, q1, q2, q3] <;> rfl) (by exact (by rw [eql_v, q3])) (by decide) ?_
          refine ro_pick (by simp only [evalF, upd, arg0, argS, ofConst, ofCell, Nat.reduceEqDiff, reduceIte, g2, g3, g5, g6, g7, q0, q1, q2, q3] <;> rfl) (by simp only [evalF, upd, arg0, argS, ofConst, ofCell, Nat.reduceEqDiff, reduceIte, g2, g3, g5, g6, g7, q0, q1, q2, q3] <;> rfl) (by simp only [evalF, upd, arg0, argS, ofConst, ofCell, Nat.reduceEqDiff, reduceIte, g2, g3, g5, g6, g7, q0, q1, q2, q3] <;> rfl) (by decide) ?_
          refine ro_assign (by simp only [evalF, upd, arg0, argS, ofConst, ofCell, Nat.reduceEqDiff, reduceIte, g2, g3, g5, g6, g7, q0, q1, q2, q3] <;> rfl) (by decide) ?_
          refine ro_nil ?_
          try simp only
          refine ex_ret ?_
          exact ⟨rfl, by rw [hs]; simp [upd, sameF, ofConst, ofCell, evalF, q0, q1, q2, q3, g5, g6, g7], rfl, rfl⟩
      | false =>
        refine ro_guard rfl (by simp only [evalF, upd, arg0, argS, ofConst, ofCell, Nat.reduceEqDiff, reduceIte, g2, g3, g5, g6, g7, q0, q1, q2] <;> rfl) rfl ?_
        refine ro_fieldAddr (by simp only [evalF, upd, arg0, argS, ofConst, ofCell, Nat.reduceEqDiff, reduceIte, g2, g3, g5, g6, g7, q0, q1, q2] <;> rfl) (by exact (fa30_1 _ _ _)) (by decide) ?_
        refine ro_guard rfl (by simp only [evalF, upd, arg0, argS, ofConst, ofCell, Nat.reduceEqDiff, reduceIte, g2, g3, g5, g6, g7, q0, q1, q2] <;> rfl) rfl ?_
        refine ro_load (by simp only [evalF, upd, arg0, argS, ofConst, ofCell, Nat.reduceEqDiff, reduceIte, g2, g3, g5, g6, g7, q0, q1, q2] <;> rfl) (by exact (load1 ag3 h1 mc1)) (by decide) ?_
        refine ro_guard rfl (by simp only [evalF, upd, arg0, argS, ofConst, ofCell, Nat.reduceEqDiff, reduceIte, g2, g3, g5, g6, g7, q0, q1, q2] <;> rfl) rfl ?_
        refine ro_fieldAddr (by simp only [evalF, upd, arg0, argS, ofConst, ofCell, Nat.reduceEqDiff, reduceIte, g2, g3, g5, g6, g7, q0, q1, q2] <;> rfl) (by exact (fa30_1 _ _ _)) (by decide) ?_
        refine ro_guard rfl (by simp only [evalF, upd, arg0, argS, ofConst, ofCell, Nat.reduceEqDiff, reduceIte, g2, g3, g5, g6, g7, q0, q1, q2] <;> rfl) rfl ?_
        refine ro_load (by simp only [evalF, upd, arg0, argS, ofConst, ofCell, Nat.reduceEqDiff, reduceIte, g2, g3, g5, g6, g7, q0, q1, q2] <;> rfl) (by exact (load1 ag3 h2 mc1)) (by decide) ?_
        refine ro_guard rfl (by simp only [evalF, upd, arg0, argS, ofConst, ofCell, Nat.reduceEqDiff, reduceIte, g2, g3, g5, g6, g7, q0, q1, q2] <;> rfl) rfl ?_
        refine ro_bin (by simp only [evalF, upd, arg0, argS, ofConst, ofCell, Nat.reduceEqDiff, reduceIte, g2, g3, g5, g6, g7, q0, q1, q2] <;> rfl) (by simp only [evalF, upd, arg0, argS, ofConst, ofCell, Nat.reduceEqDiff, reduceIte, g2, g3, g5, g6, g7, q0, q1, q2] <;> rfl) (by exact (by rw [eql_v, q2])) (by decide) ?_
        refine ro_pick (by simp only [evalF, upd, arg0, argS, ofConst, ofCell, Nat.reduceEqDiff, reduceIte, g2, g3, g5, g6, g7, q0, q1, q2] <;> rfl) (by simp only [evalF, upd, arg0, argS, ofConst, ofCell, Nat.reduceEqDiff, reduceIte, g2, g3, g5, g6, g7, q0, q1, q2] <;> rfl) (by simp only [evalF, upd, arg0, argS, ofConst, ofCell, Nat.reduceEqDiff, reduceIte, g2, g3, g5, g6, g7, q0, q1, q2] <;> rfl) (by decide) ?_
        refine ro_move (by simp only [evalF, upd, arg0, argS, ofConst, ofCell, Nat.reduceEqDiff, reduceIte, g2, g3, g5, g6, g7, q0, q1, q2] <;> rfl) (by decide) ?_
        refine ro_skip rfl (by simp only [evalF, upd, arg0, argS, ofConst, ofCell, Nat.reduceEqDiff, reduceIte, g2, g3, g5, g6, g7, q0, q1, q2] <;> rfl) rfl (fun e he => by cases he; decide) ?_
        simp only [putF]
        refine ro_skip rfl (by simp only [evalF, upd, arg0, argS, ofConst, ofCell, Nat.reduceEqDiff, reduceIte, g2, g3, g5, g6, g7, q0, q1, q2] <;> rfl) rfl (fun e he => by cases he; decide) ?_
        simp only [putF]
        refine ro_skip rfl (by simp only [evalF, upd, arg0, argS, ofConst, ofCell, Nat.reduceEqDiff, reduceIte, g2, g3, g5, g6, g7, q0, q1, q2] <;> rfl) rfl (fun e he => by cases he; decide) ?_
        simp only [putF]
        refine ro_skip rfl (by simp only [evalF, upd, arg0, argS, ofConst, ofCell, Nat.reduceEqDiff, reduceIte, g2, g3, g5, g6, g7, q0, q1, q2] <;> rfl) rfl (fun e he => by cases he; decide) ?_
        simp only [putF]
        refine ro_skip rfl (by simp only [evalF, upd, arg0, argS, ofConst, ofCell, Nat.reduceEqDiff, reduceIte, g2, g3, g5, g6, g7, q0, q1, q2] <;> rfl) rfl (fun e he => by cases he; decide) ?_
        simp only [putF]
        refine ro_pick (by simp only [evalF, upd, arg0, argS, ofConst, ofCell, Nat.reduceEqDiff, reduceIte, g2, g3, g5, g6, g7, q0, q1, q2] <;> rfl) (by simp only [evalF, upd, arg0, argS, ofConst, ofCell, Nat.reduceEqDiff, reduceIte, g2, g3, g5, g6, g7, q0, q1, q2] <;> rfl) (by simp only [evalF, upd, arg0, argS, ofConst, ofCell, Nat.reduceEqDiff, reduceIte, g2, g3, g5, g6, g7, q0, q1, q2] <;> rfl) (by decide) ?_
        refine ro_assign (by simp only [evalF, upd, arg0, argS, ofConst, ofCell, Nat.reduceEqDiff, reduceIte, g2, g3, g5, g6, g7, q0, q1, q2] <;> rfl) (by decide) ?_
        refine ro_nil ?_
        try simp only
        refine ex_ret ?_
        exact ⟨rfl, by rw [hs]; simp [upd, sameF, ofConst, ofCell, evalF, q0, q1, q2, g5, g6, g7], rfl, rfl⟩
    | false =>
      refine ro_guard rfl (by simp only [evalF, upd, arg0, argS, ofConst, ofCell, Nat.reduceEqDiff, reduceIte, g2, g3, g5, g6, g7, q0, q1] <;> rfl) rfl ?_
      refine ro_move (by simp only [evalF, upd, arg0, argS, ofConst, ofCell, Nat.reduceEqDiff, reduceIte, g2, g3, g5, g6, g7, q0, q1] <;> rfl) (by decide) ?_
      refine ro_pick (by simp only [evalF, upd, arg0, argS, ofConst, ofCell, Nat.reduceEqDiff, reduceIte, g2, g3, g5, g6, g7, q0, q1] <;> rfl) (by simp only [evalF, upd, arg0, argS, ofConst, ofCell, Nat.reduceEqDiff, reduceIte, g2, g3, g5, g6, g7, q0, q1] <;> rfl) (by simp only [evalF, upd, arg0, argS, ofConst, ofCell, Nat.reduceEqDiff, reduceIte, g2, g3, g5, g6, g7, q0, q1] <;> rfl) (by decide) ?_
      refine ro_move (by simp only [evalF, upd, arg0, argS, ofConst, ofCell, Nat.reduceEqDiff, reduceIte, g2, g3, g5, g6, g7, q0, q1] <;> rfl) (by decide) ?_
      refine ro_skip rfl (by simp only [evalF, upd, arg0, argS, ofConst, ofCell, Nat.reduceEqDiff, reduceIte, g2, g3, g5, g6, g7, q0, q1] <;> rfl) rfl (fun e he => by cases he; decide) ?_
      simp only [putF]
      refine ro_skip rfl (by simp only [evalF, upd, arg0, argS, ofConst, ofCell, Nat.reduceEqDiff, reduceIte, g2, g3, g5, g6, g7, q0, q1] <;> rfl) rfl (fun e he => by cases he; decide) ?_
      simp only [putF]
      refine ro_skip rfl (by simp only [evalF, upd, arg0, argS, ofConst, ofCell, Nat.reduceEqDiff, reduceIte, g2, g3, g5, g6, g7, q0, q1] <;> rfl) rfl (fun e he => by cases he; decide) ?_
      simp only [putF]
      refine ro_skip rfl (by simp only [evalF, upd, arg0, argS, ofConst, ofCell, Nat.reduceEqDiff, reduceIte, g2, g3, g5, g6, g7, q0, q1] <;> rfl) rfl (fun e he => by cases he; decide) ?_
      simp only [putF]
      refine ro_skip rfl (by simp only [evalF, upd, arg0, argS, ofConst, ofCell, Nat.reduceEqDiff, reduceIte, g2, g3, g5, g6, g7, q0, q1] <;> rfl) rfl (fun e he => by cases he; decide) ?_
      simp only [putF]
      refine ro_pick (by simp only [evalF, upd, arg0, argS, ofConst, ofCell, Nat.reduceEqDiff, reduceIte, g2, g3, g5, g6, g7, q0, q1] <;> rfl) (by simp only [evalF, upd, arg0, argS, ofConst, ofCell, Nat.reduceEqDiff, reduceIte, g2, g3, g5, g6, g7, q0, q1] <;> rfl) (by simp only [evalF, upd, arg0, argS, ofConst, ofCell, Nat.reduceEqDiff, reduceIte, g2, g3, g5, g6, g7, q0, q1] <;> rfl) (by decide) ?_
      refine ro_move (by simp only [evalF, upd, arg0, argS, ofConst, ofCell, Nat.reduceEqDiff, reduceIte, g2, g3, g5, g6, g7, q0, q1] <;> rfl) (by decide) ?_
      refine ro_skip rfl (by simp only [evalF, upd, arg0, argS, ofConst, ofCell, Nat.reduceEqDiff, reduceIte, g2, g3, g5, g6, g7, q0, q1] <;> rfl) rfl (fun e he => by cases he; decide) ?_
      simp only [putF]
      refine ro_skip rfl (by simp only [evalF, upd, arg0, argS, ofConst, ofCell, Nat.reduceEqDiff, reduceIte, g2, g3, g5, g6, g7, q0, q1] <;> rfl) rfl (fun e he => by cases he; decide) ?_
      simp only [putF]
      refine ro_skip rfl (by simp only [evalF, upd, arg0, argS, ofConst, ofCell, Nat.reduceEqDiff, reduceIte, g2, g3, g5, g6, g7, q0, q1] <;> rfl) rfl (fun e he => by cases he; decide) ?_
      simp only [putF]
      refine ro_skip rfl (by simp only [evalF, upd, arg0, argS, ofConst, ofCell, Nat.reduceEqDiff, reduceIte, g2, g3, g5, g6, g7, q0, q1] <;> rfl) rfl (fun e he => by cases he; decide) ?_
      simp only [putF]
      refine ro_skip rfl (by simp only [evalF, upd, arg0, argS, ofConst, ofCell, Nat.reduceEqDiff, reduceIte, g2, g3, g5, g6, g7, q0, q1] <;> rfl) rfl (fun e he => by cases he; decide) ?_
      simp only [putF]
      refine ro_pick (by simp only [evalF, upd, arg0, argS, ofConst, ofCell, Nat.reduceEqDiff, reduceIte, g2, g3, g5, g6, g7, q0, q1] <;> rfl) (by simp only [evalF, upd, arg0, argS, ofConst, ofCell, Nat.reduceEqDiff, reduceIte, g2, g3, g5, g6, g7, q0, q1] <;> rfl) (by simp only [evalF, upd, arg0, argS, ofConst, ofCell, Nat.reduceEqDiff, reduceIte, g2, g3, g5, g6, g7, q0, q1] <;> rfl) (by decide) ?_
      refine ro_assign (by simp only [evalF, upd, arg0, argS, ofConst, ofCell, Nat.reduceEqDiff, reduceIte, g2, g3, g5, g6, g7, q0, q1] <;> rfl) (by decide) ?_
      refine ro_nil ?_
      try simp only
      refine ex_ret ?_
      exact ⟨rfl, by rw [hs]; simp [upd, sameF, ofConst, ofCell, evalF, q0, q1, g5, g6, g7], rfl, rfl⟩
  | false =>
    refine ro_move (by simp only [evalF, upd, arg0, argS, ofConst, ofCell, Nat.reduceEqDiff, reduceIte, g2, g3, g5, g6, g7, q0] <;> rfl) (by decide) ?_
    refine ro_move (by simp only [evalF, upd, arg0, argS, ofConst, ofCell, Nat.reduceEqDiff, reduceIte, g2, g3, g5, g6, g7, q0] <;> rfl) (by decide) ?_
    refine ro_skip rfl (by simp only [evalF, upd, arg0, argS, ofConst, ofCell, Nat.reduceEqDiff, reduceIte, g2, g3, g5, g6, g7, q0] <;> rfl) rfl (fun e he => by cases he; decide) ?_
    simp only [putF]
    refine ro_pick (by simp only [evalF, upd, arg0, argS, ofConst, ofCell, Nat.reduceEqDiff, reduceIte, g2, g3, g5, g6, g7, q0] <;> rfl) (by simp only [evalF, upd, arg0, argS, ofConst, ofCell, Nat.reduceEqDiff, reduceIte, g2, g3, g5, g6, g7, q0] <;> rfl) (by simp only [evalF, upd, arg0, argS, ofConst, ofCell, Nat.reduceEqDiff, reduceIte, g2, g3, g5, g6, g7, q0] <;> rfl) (by decide) ?_
    refine ro_move (by simp only [evalF, upd, arg0, argS, ofConst, ofCell, Nat.reduceEqDiff, reduceIte, g2, g3, g5, g6, g7, q0] <;> rfl) (by decide) ?_
    refine ro_skip rfl (by simp only [evalF, upd, arg0, argS, ofConst, ofCell, Nat.reduceEqDiff, reduceIte, g2, g3, g5, g6, g7, q0] <;> rfl) rfl (fun e he => by cases he; decide) ?_
    simp only [putF]
    refine ro_skip rfl (by simp only [evalF, upd, arg0, argS, ofConst, ofCell, Nat.reduceEqDiff, reduceIte, g2, g3, g5, g6, g7, q0] <;> rfl) rfl (fun e he => by cases he; decide) ?_
    simp only [putF]
    refine ro_skip rfl (by simp only [evalF, upd, arg0, argS, ofConst, ofCell, Nat.reduceEqDiff, reduceIte, g2, g3, g5, g6, g7, q0] <;> rfl) rfl (fun e he => by cases he; decide) ?_
    simp only [putF]
    refine ro_skip rfl (by simp only [evalF, upd, arg0, argS, ofConst, ofCell, Nat.reduceEqDiff, reduceIte, g2, g3, g5, g6, g7, q0] <;> rfl) rfl (fun e he => by cases he; decide) ?_
    simp only [putF]
    refine ro_skip rfl (by simp only [evalF, upd, arg0, argS, ofConst, ofCell, Nat.reduceEqDiff, reduceIte, g2, g3, g5, g6, g7, q0] <;> rfl) rfl (fun e he => by cases he; decide) ?_
    simp only [putF]
    refine ro_pick (by simp only [evalF, upd, arg0, argS, ofConst, ofCell, Nat.reduceEqDiff, reduceIte, g2, g3, g5, g6, g7, q0] <;> rfl) (by simp only [evalF, upd, arg0, argS, ofConst, ofCell, Nat.reduceEqDiff, reduceIte, g2, g3, g5, g6, g7, q0] <;> rfl) (by simp only [evalF, upd, arg0, argS, ofConst, ofCell, Nat.reduceEqDiff, reduceIte, g2, g3, g5, g6, g7, q0] <;> rfl) (by decide) ?_
    refine ro_move (by simp only [evalF, upd, arg0, argS, ofConst, ofCell, Nat.reduceEqDiff, reduceIte, g2, g3, g5, g6, g7, q0] <;> rfl) (by decide) ?_
    refine ro_skip rfl (by simp only [evalF, upd, arg0, argS, ofConst, ofCell, Nat.reduceEqDiff, reduceIte, g2, g3, g5, g6, g7, q0] <;> rfl) rfl (fun e he => by cases he; decide) ?_
    simp only [putF]
    refine ro_skip rfl (by simp only [evalF, upd, arg0, argS, ofConst, ofCell, Nat.reduceEqDiff, reduceIte, g2, g3, g5, g6, g7, q0] <;> rfl) rfl (fun e he => by cases he; decide) ?_
    simp only [putF]
    refine ro_skip rfl (by simp only [evalF, upd, arg0, argS, ofConst, ofCell, Nat.reduceEqDiff, reduceIte, g2, g3, g5, g6, g7, q0] <;> rfl) rfl (fun e he => by cases he; decide) ?_
    simp only [putF]
    refine ro_skip rfl (by simp only [evalF, upd, arg0, argS, ofConst, ofCell, Nat.reduceEqDiff, reduceIte, g2, g3, g5, g6, g7, q0] <;> rfl) rfl (fun e he => by cases he; decide) ?_
    simp only [putF]
    refine ro_skip rfl (by simp only [evalF, upd, arg0, argS, ofConst, ofCell, Nat.reduceEqDiff, reduceIte, g2, g3, g5, g6, g7, q0] <;> rfl) rfl (fun e he => by cases he; decide) ?_
    simp only [putF]
    refine ro_pick (by simp only [evalF, upd, arg0, argS, ofConst, ofCell, Nat.reduceEqDiff, reduceIte, g2, g3, g5, g6, g7, q0] <;> rfl) (by simp only [evalF, upd, arg0, argS, ofConst, ofCell, Nat.reduceEqDiff, reduceIte, g2, g3, g5, g6, g7, q0] <;> rfl) (by simp only [evalF, upd, arg0, argS, ofConst, ofCell, Nat.reduceEqDiff, reduceIte, g2, g3, g5, g6, g7, q0] <;> rfl) (by decide) ?_
    refine ro_assign (by simp only [evalF, upd, arg0, argS, ofConst, ofCell, Nat.reduceEqDiff, reduceIte, g2, g3, g5, g6, g7, q0] <;> rfl) (by decide) ?_
    refine ro_nil ?_
    try simp only
    refine ex_ret ?_
    exact ⟨rfl, by rw [hs]; simp [upd, sameF, ofConst, ofCell, evalF, q0, g5, g6, g7], rfl, rfl⟩

theorem rest17_10 (ka : a.key.length = 32) (kb : b.key.length = 32) (hk : a.kind = 10) (hkb : b.kind = 10) (h1 : AI.look hp i1 1 = some (mcells a L D)) (h2 : AI.look hp i2 1 = some (mcells b L2 D2)) (g2 : g 2 = .ptr i1 1 0) (g3 : g 3 = .ptr i2 1 0) (g5 : g 5 = .pv (.bool (a.key == b.key))) (g6 : g 6 = .pv (.bool (a.data == b.data))) (g7 : g 7 = .pv (.bool (a.list == b.list))) :
    EX Try.prog plains F G 10000 124 (codeAt (bodyOf Try.f17) [true, true, true]) g hp nb fun x g' hp' nb' => x = .ret ∧ g' 4 = .pv (.bool (sameM a b)) ∧ hp' = hp ∧ nb' = nb := by
  have hs : sameM a b = (sameF a b 5 && sameF a b 6) := by simp [sameM, rowOf, hk, hkb, Bool.and_assoc]
  show EX _ _ _ _ _ 124 _ _ _ _ _
  simp only [codeAt, bodyOf, Try.f17, if_true]
  refine ex_seq (ex_seq (ex_region ?_))
  refine ro_fieldAddr (by simp only [evalF, upd, arg0, argS, ofConst, ofCell, Nat.reduceEqDiff, reduceIte, g2, g3, g5, g6, g7] <;> rfl) (by exact (fa30_0 _ _ _)) (by decide) ?_
  refine ro_load (by simp only [evalF, upd, arg0, argS, ofConst, ofCell, Nat.reduceEqDiff, reduceIte, g2, g3, g5, g6, g7] <;> rfl) (by exact (load1 ag3 h1 mc0)) (by decide) ?_
  refine ro_nil ?_
  try simp only
  refine ex_block ?_
  refine ex_seq (ex_region ?_)
  refine ro_bin (by simp only [evalF, upd, arg0, argS, ofConst, ofCell, Nat.reduceEqDiff, reduceIte, g2, g3, g5, g6, g7] <;> rfl) (by simp only [evalF, upd, arg0, argS, ofConst, ofCell, Nat.reduceEqDiff, reduceIte, g2, g3, g5, g6, g7] <;> rfl) (by exact (eql_f (by omega))) (by decide) ?_
  refine ro_assign (by simp only [evalF, upd, arg0, argS, ofConst, ofCell, Nat.reduceEqDiff, reduceIte, g2, g3, g5, g6, g7] <;> rfl) (by decide) ?_
  refine ro_nil ?_
  try simp only
  refine ex_cond (t := false) (by simp only [evalF, upd, arg0, argS, ofConst, ofCell, Nat.reduceEqDiff, reduceIte, g2, g3, g5, g6, g7] <;> rfl) (fun h => by simp at h) (fun h => ?_)
  refine ex_seq (ex_region ?_)
  refine ro_bin (by simp only [evalF, upd, arg0, argS, ofConst, ofCell, Nat.reduceEqDiff, reduceIte, g2, g3, g5, g6, g7] <;> rfl) (by simp only [evalF, upd, arg0, argS, ofConst, ofCell, Nat.reduceEqDiff, reduceIte, g2, g3, g5, g6, g7] <;> rfl) (by exact (eql_f (by omega))) (by decide) ?_
  refine ro_assign (by simp only [evalF, upd, arg0, argS, ofConst, ofCell, Nat.reduceEqDiff, reduceIte, g2, g3, g5, g6, g7] <;> rfl) (by decide) ?_
  refine ro_nil ?_
  try simp only
  refine ex_cond (t := false) (by simp only [evalF, upd, arg0, argS, ofConst, ofCell, Nat.reduceEqDiff, reduceIte, g2, g3, g5, g6, g7] <;> rfl) (fun h => by simp at h) (fun h => ?_)
  refine ex_seq (ex_region ?_)
  refine ro_bin (by simp only [evalF, upd, arg0, argS, ofConst, ofCell, Nat.reduceEqDiff, reduceIte, g2, g3, g5, g6, g7] <;> rfl) (by simp only [evalF, upd, arg0, argS, ofConst, ofCell, Nat.reduceEqDiff, reduceIte, g2, g3, g5, g6, g7] <;> rfl) (by exact (eql_f (by omega))) (by decide) ?_
  refine ro_assign (by simp only [evalF, upd, arg0, argS, ofConst, ofCell, Nat.reduceEqDiff, reduceIte, g2, g3, g5, g6, g7] <;> rfl) (by decide) ?_
  refine ro_nil ?_
  try simp only
  refine ex_cond (t := false) (by simp only [evalF, upd, arg0, argS, ofConst, ofCell, Nat.reduceEqDiff, reduceIte, g2, g3, g5, g6, g7] <;> rfl) (fun h => by simp at h) (fun h => ?_)
  refine ex_seq (ex_seq (ex_region ?_))
  refine ro_bin (by simp only [evalF, upd, arg0, argS, ofConst, ofCell, Nat.reduceEqDiff, reduceIte, g2, g3, g5, g6, g7] <;> rfl) (by simp only [evalF, upd, arg0, argS, ofConst, ofCell, Nat.reduceEqDiff, reduceIte, g2, g3, g5, g6, g7] <;> rfl) (by exact (eql_f (by omega))) (by decide) ?_
  refine ro_assign (by simp only [evalF, upd, arg0, argS, ofConst, ofCell, Nat.reduceEqDiff, reduceIte, g2, g3, g5, g6, g7] <;> rfl) (by decide) ?_
  refine ro_nil ?_
  try simp only
  refine ex_cond (t := false) (by simp only [evalF, upd, arg0, argS, ofConst, ofCell, Nat.reduceEqDiff, reduceIte, g2, g3, g5, g6, g7] <;> rfl) (fun h => by simp at h) (fun h => ?_)
  refine ex_seq (ex_region ?_)
  refine ro_bin (by simp only [evalF, upd, arg0, argS, ofConst, ofCell, Nat.reduceEqDiff, reduceIte, g2, g3, g5, g6, g7] <;> rfl) (by simp only [evalF, upd, arg0, argS, ofConst, ofCell, Nat.reduceEqDiff, reduceIte, g2, g3, g5, g6, g7] <;> rfl) (by exact (eql_f (by omega))) (by decide) ?_
  refine ro_assign (by simp only [evalF, upd, arg0, argS, ofConst, ofCell, Nat.reduceEqDiff, reduceIte, g2, g3, g5, g6, g7] <;> rfl) (by decide) ?_
  refine ro_nil ?_
  try simp only
  refine ex_cond (t := false) (by simp only [evalF, upd, arg0, argS, ofConst, ofCell, Nat.reduceEqDiff, reduceIte, g2, g3, g5, g6, g7] <;> rfl) (fun h => by simp at h) (fun h => ?_)
  refine ex_region ?_
  refine ro_bin (by simp only [evalF, upd, arg0, argS, ofConst, ofCell, Nat.reduceEqDiff, reduceIte, g2, g3, g5, g6, g7] <;> rfl) (by simp only [evalF, upd, arg0, argS, ofConst, ofCell, Nat.reduceEqDiff, reduceIte, g2, g3, g5, g6, g7] <;> rfl) (by exact (eql_f (by omega))) (by decide) ?_
  refine ro_assign (by simp only [evalF, upd, arg0, argS, ofConst, ofCell, Nat.reduceEqDiff, reduceIte, g2, g3, g5, g6, g7] <;> rfl) (by decide) ?_
  refine ro_nil ?_
  try simp only
  refine ex_cond (t := false) (by simp only [evalF, upd, arg0, argS, ofConst, ofCell, Nat.reduceEqDiff, reduceIte, g2, g3, g5, g6, g7] <;> rfl) (fun h => by simp at h) (fun h => ?_)
  refine ex_seq (ex_region ?_)
  refine ro_bin (by simp only [evalF, upd, arg0, argS, ofConst, ofCell, Nat.reduceEqDiff, reduceIte, g2, g3, g5, g6, g7] <;> rfl) (by simp only [evalF, upd, arg0, argS, ofConst, ofCell, Nat.reduceEqDiff, reduceIte, g2, g3, g5, g6, g7] <;> rfl) (by exact (eql_f (by omega))) (by decide) ?_
  refine ro_assign (by simp only [evalF, upd, arg0, argS, ofConst, ofCell, Nat.reduceEqDiff, reduceIte, g2, g3, g5, g6, g7] <;> rfl) (by decide) ?_
  refine ro_nil ?_
  try simp only
  refine ex_cond (t := false) (by simp only [evalF, upd, arg0, argS, ofConst, ofCell, Nat.reduceEqDiff, reduceIte, g2, g3, g5, g6, g7] <;> rfl) (fun h => by simp at h) (fun h => ?_)
  refine ex_seq (ex_region ?_)
  refine ro_bin (by simp only [evalF, upd, arg0, argS, ofConst, ofCell, Nat.reduceEqDiff, reduceIte, g2, g3, g5, g6, g7] <;> rfl) (by simp only [evalF, upd, arg0, argS, ofConst, ofCell, Nat.reduceEqDiff, reduceIte, g2, g3, g5, g6, g7] <;> rfl) (by exact (eql_f (by omega))) (by decide) ?_
  refine ro_assign (by simp only [evalF, upd, arg0, argS, ofConst, ofCell, Nat.reduceEqDiff, reduceIte, g2, g3, g5, g6, g7] <;> rfl) (by decide) ?_
  refine ro_nil ?_
  try simp only
  refine ex_cond (t := false) (by simp only [evalF, upd, arg0, argS, ofConst, ofCell, Nat.reduceEqDiff, reduceIte, g2, g3, g5, g6, g7] <;> rfl) (fun h => by simp at h) (fun h => ?_)
  refine ex_seq (ex_region ?_)
  refine ro_bin (by simp only [evalF, upd, arg0, argS, ofConst, ofCell, Nat.reduceEqDiff, reduceIte, g2, g3, g5, g6, g7] <;> rfl) (by simp only [evalF, upd, arg0, argS, ofConst, ofCell, Nat.reduceEqDiff, reduceIte, g2, g3, g5, g6, g7] <;> rfl) (by exact (eql_f (by omega))) (by decide) ?_
  refine ro_assign (by simp only [evalF, upd, arg0, argS, ofConst, ofCell, Nat.reduceEqDiff, reduceIte, g2, g3, g5, g6, g7] <;> rfl) (by decide) ?_
  refine ro_nil ?_
  try simp only
  refine ex_cond (t := false) (by simp only [evalF, upd, arg0, argS, ofConst, ofCell, Nat.reduceEqDiff, reduceIte, g2, g3, g5, g6, g7] <;> rfl) (fun h => by simp at h) (fun h => ?_)
  refine ex_seq (ex_region ?_)
  refine ro_bin (by simp only [evalF, upd, arg0, argS, ofConst, ofCell, Nat.reduceEqDiff, reduceIte, g2, g3, g5, g6, g7] <;> rfl) (by simp only [evalF, upd, arg0, argS, ofConst, ofCell, Nat.reduceEqDiff, reduceIte, g2, g3, g5, g6, g7] <;> rfl) (by exact (eql_t (by omega))) (by decide) ?_
  refine ro_assign (by simp only [evalF, upd, arg0, argS, ofConst, ofCell, Nat.reduceEqDiff, reduceIte, g2, g3, g5, g6, g7] <;> rfl) (by decide) ?_
  refine ro_nil ?_
  try simp only
  refine ex_cond (t := true) (by simp only [evalF, upd, arg0, argS, ofConst, ofCell, Nat.reduceEqDiff, reduceIte, g2, g3, g5, g6, g7] <;> rfl) (fun h => ?_) (fun h => by simp at h)
  refine ex_seq (ex_region ?_)
  cases q0 : (a.key == b.key) with
  | true =>
    refine ro_move (by simp only [evalF, upd, arg0, argS, ofConst, ofCell, Nat.reduceEqDiff, reduceIte, g2, g3, g5, g6, g7, q0] <;> rfl) (by decide) ?_
    refine ro_move (by simp only [evalF, upd, arg0, argS, ofConst, ofCell, Nat.reduceEqDiff, reduceIte, g2, g3, g5, g6, g7, q0] <;> rfl) (by decide) ?_
    cases q1 : (a.data == b.data) with
    | true =>
      refine ro_guard rfl (by simp only [evalF, upd, arg0, argS, ofConst, ofCell, Nat.reduceEqDiff, reduceIte, g2, g3, g5, g6, g7, q0, q1] <;> rfl) rfl ?_
      refine ro_move (by simp only [evalF, upd, arg0, argS, ofConst, ofCell, Nat.reduceEqDiff, reduceIte, g2, g3, g5, g6, g7, q0, q1] <;> rfl) (by decide) ?_
      refine ro_pick (by simp only [evalF, upd, arg0, argS, ofConst, ofCell, Nat.reduceEqDiff, reduceIte, g2, g3, g5, g6, g7, q0, q1] <;> rfl) (by simp only [evalF, upd, arg0, argS, ofConst, ofCell, Nat.reduceEqDiff, reduceIte, g2, g3, g5, g6, g7, q0, q1] <;> rfl) (by simp only [evalF, upd, arg0, argS, ofConst, ofCell, Nat.reduceEqDiff, reduceIte, g2, g3, g5, g6, g7, q0, q1] <;> rfl) (by decide) ?_
      refine ro_assign (by simp only [evalF, upd, arg0, argS, ofConst, ofCell, Nat.reduceEqDiff, reduceIte, g2, g3, g5, g6, g7, q0, q1] <;> rfl) (by decide) ?_
      refine ro_nil ?_
      try simp only
      refine ex_ret ?_
      exact ⟨rfl, by rw [hs]; simp [upd, sameF, ofConst, ofCell, evalF, q0, q1, g5, g6, g7], rfl, rfl⟩
    | false =>
      refine ro_guard rfl (by simp only [evalF, upd, arg0, argS, ofConst, ofCell, Nat.reduceEqDiff, reduceIte, g2, g3, g5, g6, g7, q0, q1] <;> rfl) rfl ?_
      refine ro_move (by simp only [evalF, upd, arg0, argS, ofConst, ofCell, Nat.reduceEqDiff, reduceIte, g2, g3, g5, g6, g7, q0, q1] <;> rfl) (by decide) ?_
      refine ro_pick (by simp only [evalF, upd, arg0, argS, ofConst, ofCell, Nat.reduceEqDiff, reduceIte, g2, g3, g5, g6, g7, q0, q1] <;> rfl) (by simp only [evalF, upd, arg0, argS, ofConst, ofCell, Nat.reduceEqDiff, reduceIte, g2, g3, g5, g6, g7, q0, q1] <;> rfl) (by simp only [evalF, upd, arg0, argS, ofConst, ofCell, Nat.reduceEqDiff, reduceIte, g2, g3, g5, g6, g7, q0, q1] <;> rfl) (by decide) ?_
      refine ro_assign (by simp only [evalF, upd, arg0, argS, ofConst, ofCell, Nat.reduceEqDiff, reduceIte, g2, g3, g5, g6, g7, q0, q1] <;> rfl) (by decide) ?_
      refine ro_nil ?_
      try simp only
      refine ex_ret ?_
      exact ⟨rfl, by rw [hs]; simp [upd, sameF, ofConst, ofCell, evalF, q0, q1, g5, g6, g7], rfl, rfl⟩
  | false =>
    refine ro_move (by simp only [evalF, upd, arg0, argS, ofConst, ofCell, Nat.reduceEqDiff, reduceIte, g2, g3, g5, g6, g7, q0] <;> rfl) (by decide) ?_
    refine ro_move (by simp only [evalF, upd, arg0, argS, ofConst, ofCell, Nat.reduceEqDiff, reduceIte, g2, g3, g5, g6, g7, q0] <;> rfl) (by decide) ?_
    refine ro_skip rfl (by simp only [evalF, upd, arg0, argS, ofConst, ofCell, Nat.reduceEqDiff, reduceIte, g2, g3, g5, g6, g7, q0] <;> rfl) rfl (fun e he => by cases he; decide) ?_
    simp only [putF]
    refine ro_pick (by simp only [evalF, upd, arg0, argS, ofConst, ofCell, Nat.reduceEqDiff, reduceIte, g2, g3, g5, g6, g7, q0] <;> rfl) (by simp only [evalF, upd, arg0, argS, ofConst, ofCell, Nat.reduceEqDiff, reduceIte, g2, g3, g5, g6, g7, q0] <;> rfl) (by simp only [evalF, upd, arg0, argS, ofConst, ofCell, Nat.reduceEqDiff, reduceIte, g2, g3, g5, g6, g7, q0] <;> rfl) (by decide) ?_
    refine ro_assign (by simp only [evalF, upd, arg0, argS, ofConst, ofCell, Nat.reduceEqDiff, reduceIte, g2, g3, g5, g6, g7, q0] <;> rfl) (by decide) ?_
    refine ro_nil ?_
    try simp only
    refine ex_ret ?_
    exact ⟨rfl, by rw [hs]; simp [upd, sameF, ofConst, ofCell, evalF, q0, g5, g6, g7], rfl, rfl⟩

theorem rest17_12 (ka : a.key.length = 32) (kb : b.key.length = 32) (hk : a.kind = 12) (hkb : b.kind = 12) (h1 : AI.look hp i1 1 = some (mcells a L D)) (h2 : AI.look hp i2 1 = some (mcells b L2 D2)) (g2 : g 2 = .ptr i1 1 0) (g3 : g 3 = .ptr i2 1 0) (g5 : g 5 = .pv (.bool (a.key == b.key))) (g6 : g 6 = .pv (.bool (a.data == b.data))) (g7 : g 7 = .pv (.bool (a.list == b.list))) :
    EX Try.prog plains F G 10000 124 (codeAt (bodyOf Try.f17) [true, true, true]) g hp nb fun x g' hp' nb' => x = .ret ∧ g' 4 = .pv (.bool (sameM a b)) ∧ hp' = hp ∧ nb' = nb := by
  have hs : sameM a b = (sameF a b 6 && (sameF a b 1 && sameF a b 7)) := by simp [sameM, rowOf, hk, hkb, Bool.and_assoc]
  show EX _ _ _ _ _ 124 _ _ _ _ _
  simp only [codeAt, bodyOf, Try.f17, if_true]
  refine ex_seq (ex_seq (ex_region ?_))
  refine ro_fieldAddr (by simp only [evalF, upd, arg0, argS, ofConst, ofCell, Nat.reduceEqDiff, reduceIte, g2, g3, g5, g6, g7] <;> rfl) (by exact (fa30_0 _ _ _)) (by decide) ?_
  refine ro_load (by simp only [evalF, upd, arg0, argS, ofConst, ofCell, Nat.reduceEqDiff, reduceIte, g2, g3, g5, g6, g7] <;> rfl) (by exact (load1 ag3 h1 mc0)) (by decide) ?_
  refine ro_nil ?_
  try simp only
  refine ex_block ?_
  refine ex_seq (ex_region ?_)
  refine ro_bin (by simp only [evalF, upd, arg0, argS, ofConst, ofCell, Nat.reduceEqDiff, reduceIte, g2, g3, g5, g6, g7] <;> rfl) (by simp only [evalF, upd, arg0, argS, ofConst, ofCell, Nat.reduceEqDiff, reduceIte, g2, g3, g5, g6, g7] <;> rfl) (by exact (eql_f (by omega))) (by decide) ?_
  refine ro_assign (by simp only [evalF, upd, arg0, argS, ofConst, ofCell, Nat.reduceEqDiff, reduceIte, g2, g3, g5, g6, g7] <;> rfl) (by decide) ?_
  refine ro_nil ?_
  try simp only
  refine ex_cond (t := false) (by simp only [evalF, upd, arg0, argS, ofConst, ofCell, Nat.reduceEqDiff, reduceIte, g2, g3, g5, g6, g7] <;> rfl) (fun h => by simp at h) (fun h => ?_)
  refine ex_seq (ex_region ?_)
  refine ro_bin (by simp only [evalF, upd, arg0, argS, ofConst, ofCell, Nat.reduceEqDiff, reduceIte, g2, g3, g5, g6, g7] <;> rfl) (by simp only [evalF, upd, arg0, argS, ofConst, ofCell, Nat.reduceEqDiff, reduceIte, g2, g3, g5, g6, g7] <;> rfl) (by exact (eql_f (by omega))) (by decide) ?_
  refine ro_assign (by simp only [evalF, upd, arg0, argS, ofConst, ofCell, Nat.reduceEqDiff, reduceIte, g2, g3, g5, g6, g7] <;> rfl) (by decide) ?_
  refine ro_nil ?_
  try simp only
  refine ex_cond (t := false) (by simp only [evalF, upd, arg0, argS, ofConst, ofCell, Nat.reduceEqDiff, reduceIte, g2, g3, g5, g6, g7] <;> rfl) (fun h => by simp at h) (fun h => ?_)
  refine ex_seq (ex_region ?_)
  refine ro_bin (by simp only [evalF, upd, arg0, argS, ofConst, ofCell, Nat.reduceEqDiff, reduceIte, g2, g3, g5, g6, g7] <;> rfl) (by simp only [evalF, upd, arg0, argS, ofConst, ofCell, Nat.reduceEqDiff, reduceIte, g2, g3, g5, g6, g7] <;> rfl) (by exact (eql_f (by omega))) (by decide) ?_
  refine ro_assign (by simp only [evalF, upd, arg0, argS, ofConst, ofCell, Nat.reduceEqDiff, reduceIte, g2, g3, g5, g6, g7] <;> rfl) (by decide) ?_
  refine ro_nil ?_
  try simp only
  refine ex_cond (t := false) (by simp only [evalF, upd, arg0, argS, ofConst, ofCell, Nat.reduceEqDiff, reduceIte, g2, g3, g5, g6, g7] <;> rfl) (fun h => by simp at h) (fun h => ?_)
  refine ex_seq (ex_seq (ex_region ?_))
  refine ro_bin (by simp only [evalF, upd, arg0, argS, ofConst, ofCell, Nat.reduceEqDiff, reduceIte, g2, g3, g5, g6, g7] <;> rfl) (by simp only [evalF, upd, arg0, argS, ofConst, ofCell, Nat.reduceEqDiff, reduceIte, g2, g3, g5, g6, g7] <;> rfl) (by exact (eql_f (by omega))) (by decide) ?_
  refine ro_assign (by simp only [evalF, upd, arg0, argS, ofConst, ofCell, Nat.reduceEqDiff, reduceIte, g2, g3, g5, g6, g7] <;> rfl) (by decide) ?_
  refine ro_nil ?_
  try simp only
  refine ex_cond (t := false) (by simp only [evalF, upd, arg0, argS, ofConst, ofCell, Nat.reduceEqDiff, reduceIte, g2, g3, g5, g6, g7] <;> rfl) (fun h => by simp at h) (fun h => ?_)
  refine ex_seq (ex_region ?_)
  refine ro_bin (by simp only [evalF, upd, arg0, argS, ofConst, ofCell, Nat.reduceEqDiff, reduceIte, g2, g3, g5, g6, g7] <;> rfl) (by simp only [evalF, upd, arg0, argS, ofConst, ofCell, Nat.reduceEqDiff, reduceIte, g2, g3, g5, g6, g7] <;> rfl) (by exact (eql_f (by omega))) (by decide) ?_
  refine ro_assign (by simp only [evalF, upd, arg0, argS, ofConst, ofCell, Nat.reduceEqDiff, reduceIte, g2, g3, g5, g6, g7] <;> rfl) (by decide) ?_
  refine ro_nil ?_
  try simp only
  refine ex_cond (t := false) (by simp only [evalF, upd, arg0, argS, ofConst, ofCell, Nat.reduceEqDiff, reduceIte, g2, g3, g5, g6, g7] <;> rfl) (fun h => by simp at h) (fun h => ?_)
  refine ex_region ?_
  refine ro_bin (by simp only [evalF, upd, arg0, argS, ofConst, ofCell, Nat.reduceEqDiff, reduceIte, g2, g3, g5, g6, g7] <;> rfl) (by simp only [evalF, upd, arg0, argS, ofConst, ofCell, Nat.reduceEqDiff, reduceIte, g2, g3, g5, g6, g7] <;> rfl) (by exact (eql_f (by omega))) (by decide) ?_
  refine ro_assign (by simp only [evalF, upd, arg0, argS, ofConst, ofCell, Nat.reduceEqDiff, reduceIte, g2, g3, g5, g6, g7] <;> rfl) (by decide) ?_
  refine ro_nil ?_
  try simp only
  refine ex_cond (t := false) (by simp only [evalF, upd, arg0, argS, ofConst, ofCell, Nat.reduceEqDiff, reduceIte, g2, g3, g5, g6, g7] <;> rfl) (fun h => by simp at h) (fun h => ?_)
  refine ex_seq (ex_region ?_)
  refine ro_bin (by simp only [evalF, upd, arg0, argS, ofConst, ofCell, Nat.reduceEqDiff, reduceIte, g2, g3, g5, g6, g7] <;> rfl) (by simp only [evalF, upd, arg0, argS, ofConst, ofCell, Nat.reduceEqDiff, reduceIte, g2, g3, g5, g6, g7] <;> rfl) (by exact (eql_f (by omega))) (by decide) ?_
  refine ro_assign (by simp only [evalF, upd, arg0, argS, ofConst, ofCell, Nat.reduceEqDiff, reduceIte, g2, g3, g5, g6, g7] <;> rfl) (by decide) ?_
  refine ro_nil ?_
  try simp only
  refine ex_cond (t := false) (by simp only [evalF, upd, arg0, argS, ofConst, ofCell, Nat.reduceEqDiff, reduceIte, g2, g3, g5, g6, g7] <;> rfl) (fun h => by simp at h) (fun h => ?_)
  refine ex_seq (ex_region ?_)
  refine ro_bin (by simp only [evalF, upd, arg0, argS, ofConst, ofCell, Nat.reduceEqDiff, reduceIte, g2, g3, g5, g6, g7] <;> rfl) (by simp only [evalF, upd, arg0, argS, ofConst, ofCell, Nat.reduceEqDiff, reduceIte, g2, g3, g5, g6, g7] <;> rfl) (by exact (eql_f (by omega))) (by decide) ?_
  refine ro_assign (by simp only [evalF, upd, arg0, argS, ofConst, ofCell, Nat.reduceEqDiff, reduceIte, g2, g3, g5, g6, g7] <;> rfl) (by decide) ?_
  refine ro_nil ?_
  try simp only
  refine ex_cond (t := false) (by simp only [evalF, upd, arg0, argS, ofConst, ofCell, Nat.reduceEqDiff, reduceIte, g2, g3, g5, g6, g7] <;> rfl) (fun h => by simp at h) (fun h => ?_)
  refine ex_seq (ex_region ?_)
  refine ro_bin (by simp only [evalF, upd, arg0, argS, ofConst, ofCell, Nat.reduceEqDiff, reduceIte, g2, g3, g5, g6, g7] <;> rfl) (by simp only [evalF, upd, arg0, argS, ofConst, ofCell, Nat.reduceEqDiff, reduceIte, g2, g3, g5, g6, g7] <;> rfl) (by exact (eql_f (by omega))) (by decide) ?_
  refine ro_assign (by simp only [evalF, upd, arg0, argS, ofConst, ofCell, Nat.reduceEqDiff, reduceIte, g2, g3, g5, g6, g7] <;> rfl) (by decide) ?_
  refine ro_nil ?_
  try simp only
  refine ex_cond (t := false) (by simp only [evalF, upd, arg0, argS, ofConst, ofCell, Nat.reduceEqDiff, reduceIte, g2, g3, g5, g6, g7] <;> rfl) (fun h => by simp at h) (fun h => ?_)
  refine ex_seq (ex_region ?_)
  refine ro_bin (by simp only [evalF, upd, arg0, argS, ofConst, ofCell, Nat.reduceEqDiff, reduceIte, g2, g3, g5, g6, g7] <;> rfl) (by simp only [evalF, upd, arg0, argS, ofConst, ofCell, Nat.reduceEqDiff, reduceIte, g2, g3, g5, g6, g7] <;> rfl) (by exact (eql_f (by omega))) (by decide) ?_
  refine ro_assign (by simp only [evalF, upd, arg0, argS, ofConst, ofCell, Nat.reduceEqDiff, reduceIte, g2, g3, g5, g6, g7] <;> rfl) (by decide) ?_
  refine ro_nil ?_
  try simp only
  refine ex_cond (t := false) (by simp only [evalF, upd, arg0, argS, ofConst, ofCell, Nat.reduceEqDiff, reduceIte, g2, g3, g5, g6, g7] <;> rfl) (fun h => by simp at h) (fun h => ?_)
  refine ex_seq (ex_region ?_)
  refine ro_bin (by simp only [evalF, upd, arg0, argS, ofConst, ofCell, Nat.reduceEqDiff, reduceIte, g2, g3, g5, g6, g7] <;> rfl) (by simp only [evalF, upd, arg0, argS, ofConst, ofCell, Nat.reduceEqDiff, reduceIte, g2, g3, g5, g6, g7] <;> rfl) (by exact (eql_t (by omega))) (by decide) ?_
  refine ro_assign (by simp only [evalF, upd, arg0, argS, ofConst, ofCell, Nat.reduceEqDiff, reduceIte, g2, g3, g5, g6, g7] <;> rfl) (by decide) ?_
  refine ro_nil ?_
  try simp only
  refine ex_cond (t := true) (by simp only [evalF, upd, arg0, argS, ofConst, ofCell, Nat.reduceEqDiff, reduceIte, g2, g3, g5, g6, g7] <;> rfl) (fun h => ?_) (fun h => by simp at h)
  refine ex_seq (ex_region ?_)
  cases q0 : (a.data == b.data) with
  | true =>
    refine ro_move (by simp only [evalF, upd, arg0, argS, ofConst, ofCell, Nat.reduceEqDiff, reduceIte, g2, g3, g5, g6, g7, q0] <;> rfl) (by decide) ?_
    refine ro_move (by simp only [evalF, upd, arg0, argS, ofConst, ofCell, Nat.reduceEqDiff, reduceIte, g2, g3, g5, g6, g7, q0] <;> rfl) (by decide) ?_
    cases q1 : (a.node == b.node) with
    | true =>
      refine ro_guard rfl (by simp only [evalF, upd, arg0, argS, ofConst, ofCell, Nat.reduceEqDiff, reduceIte, g2, g3, g5, g6, g7, q0, q1] <;> rfl) rfl ?_
      refine ro_fieldAddr (by simp only [evalF, upd, arg0, argS, ofConst, ofCell, Nat.reduceEqDiff, reduceIte, g2, g3, g5, g6, g7, q0, q1] <;> rfl) (by exact (fa30_1 _ _ _)) (by decide) ?_
      refine ro_guard rfl (by simp only [evalF, upd, arg0, argS, ofConst, ofCell, Nat.reduceEqDiff, reduceIte, g2, g3, g5, g6, g7, q0, q1] <;> rfl) rfl ?_
      refine ro_load (by simp only [evalF, upd, arg0, argS, ofConst, ofCell, Nat.reduceEqDiff, reduceIte, g2, g3, g5, g6, g7, q0, q1] <;> rfl) (by exact (load1 ag3 h1 mc1)) (by decide) ?_
      refine ro_guard rfl (by simp only [evalF, upd, arg0, argS, ofConst, ofCell, Nat.reduceEqDiff, reduceIte, g2, g3, g5, g6, g7, q0, q1] <;> rfl) rfl ?_
      refine ro_fieldAddr (by simp only [evalF, upd, arg0, argS, ofConst, ofCell, Nat.reduceEqDiff, reduceIte, g2, g3, g5, g6, g7, q0, q1] <;> rfl) (by exact (fa30_1 _ _ _)) (by decide) ?_
      refine ro_guard rfl (by simp only [evalF, upd, arg0, argS, ofConst, ofCell, Nat.reduceEqDiff, reduceIte, g2, g3, g5, g6, g7, q0, q1] <;> rfl) rfl ?_
      refine ro_load (by simp only [evalF, upd, arg0, argS, ofConst, ofCell, Nat.reduceEqDiff, reduceIte, g2, g3, g5, g6, g7, q0, q1] <;> rfl) (by exact (load1 ag3 h2 mc1)) (by decide) ?_
      refine ro_guard rfl (by simp only [evalF, upd, arg0, argS, ofConst, ofCell, Nat.reduceEqDiff, reduceIte, g2, g3, g5, g6, g7, q0, q1] <;> rfl) rfl ?_
      refine ro_bin (by simp only [evalF, upd, arg0, argS, ofConst, ofCell, Nat.reduceEqDiff, reduceIte, g2, g3, g5, g6, g7, q0, q1] <;> rfl) (by simp only [evalF, upd, arg0, argS, ofConst, ofCell, Nat.reduceEqDiff, reduceIte, g2, g3, g5, g6, g7, q0, q1] <;> rfl) (by exact (by rw [eql_v, q1])) (by decide) ?_
      refine ro_pick (by simp only [evalF, upd, arg0, argS, ofConst, ofCell, Nat.reduceEqDiff, reduceIte, g2, g3, g5, g6, g7, q0, q1] <;> rfl) (by simp only [evalF, upd, arg0, argS, ofConst, ofCell, Nat.reduceEqDiff, reduceIte, g2, g3, g5, g6, g7, q0, q1] <;> rfl) (by simp only [evalF, upd, arg0, argS, ofConst, ofCell, Nat.reduceEqDiff, reduceIte, g2, g3, g5, g6, g7, q0, q1] <;> rfl) (by decide) ?_
      refine ro_move (by simp only [evalF, upd, arg0, argS, ofConst, ofCell, Nat.reduceEqDiff, reduceIte, g2, g3, g5, g6, g7, q0, q1] <;> rfl) (by decide) ?_
      cases q2 : (a.lease == b.lease) with
      | true =>
        refine ro_guard rfl (by simp only [evalF, upd, arg0, argS, ofConst, ofCell, Nat.reduceEqDiff, reduceIte, g2, g3, g5, g6, g7, q0, q1, q2] <;> rfl) rfl ?_
        refine ro_fieldAddr (by simp only [evalF, upd, arg0, argS, ofConst, ofCell, Nat.reduceEqDiff, reduceIte, g2, g3, g5, g6, g7, q0, q1, q2] <;> rfl) (by exact (fa30_7 _ _ _)) (by decide) ?_
        refine ro_guard rfl (by simp only [evalF, upd, arg0, argS, ofConst, ofCell, Nat.reduceEqDiff, reduceIte, g2, g3, g5, g6, g7, q0, q1, q2] <;> rfl) rfl ?_
        refine ro_load (by simp only [evalF, upd, arg0, argS, ofConst, ofCell, Nat.reduceEqDiff, reduceIte, g2, g3, g5, g6, g7, q0, q1, q2] <;> rfl) (by exact (load1 ag3 h1 (mc38 ka))) (by decide) ?_
        refine ro_guard rfl (by simp only [evalF, upd, arg0, argS, ofConst, ofCell, Nat.reduceEqDiff, reduceIte, g2, g3, g5, g6, g7, q0, q1, q2] <;> rfl) rfl ?_
        refine ro_fieldAddr (by simp only [evalF, upd, arg0, argS, ofConst, ofCell, Nat.reduceEqDiff, reduceIte, g2, g3, g5, g6, g7, q0, q1, q2] <;> rfl) (by exact (fa30_7 _ _ _)) (by decide) ?_
        refine ro_guard rfl (by simp only [evalF, upd, arg0, argS, ofConst, ofCell, Nat.reduceEqDiff, reduceIte, g2, g3, g5, g6, g7, q0, q1, q2] <;> rfl) rfl ?_
        refine ro_load (by simp only [evalF, upd, arg0, argS, ofConst, ofCell, Nat.reduceEqDiff, reduceIte, g2, g3, g5, g6, g7, q0, q1, q2] <;> rfl) (by exact (load1 ag3 h2 (mc38 kb))) (by decide) ?_
        refine ro_guard rfl (by simp only [evalF, upd, arg0, argS, ofConst, ofCell, Nat.reduceEqDiff, reduceIte, g2, g3, g5, g6, g7, q0, q1, q2] <;> rfl) rfl ?_
        refine ro_bin (by simp only [evalF, upd, arg0, argS, ofConst, ofCell, Nat.reduceEqDiff, reduceIte, g2, g3, g5, g6, g7, q0, q1, q2] <;> rfl) (by simp only [evalF, upd, arg0, argS, ofConst, ofCell, Nat.reduceEqDiff, reduceIte, g2, g3, g5, g6, g7, q0, q1, q2] <;> rfl) (by exact (by rw [eql_v, q2])) (by decide) ?_
        refine ro_pick (by simp only [evalF, upd, arg0, argS, ofConst, ofCell, Nat.reduceEqDiff, reduceIte, g2, g3, g5, g6, g7, q0, q1, q2] <;> rfl) (by simp only [evalF, upd, arg0, argS, ofConst, ofCell, Nat.reduceEqDiff, reduceIte, g2, g3, g5, g6, g7, q0, q1, q2] <;> rfl) (by simp only [evalF, upd, arg0, argS, ofConst, ofCell, Nat.reduceEqDiff, reduceIte, g2, g3, g5, g6, g7, q0, q1, q2] <;> rfl) (by decide) ?_
        refine ro_assign (by simp only [evalF, upd, arg0, argS, ofConst, ofCell, Nat.reduceEqDiff, reduceIte, g2, g3, g5, g6, g7, q0, q1, q2] <;> rfl) (by decide) ?_
        refine ro_nil ?_
        try simp only
        refine ex_ret ?_
        exact ⟨rfl, by rw [hs]; simp [upd, sameF, ofConst, ofCell, evalF, q0, q1, q2, g5, g6, g7], rfl, rfl⟩
      | false =>
        refine ro_guard rfl (by simp only [evalF, upd, arg0, argS, ofConst, ofCell, Nat.reduceEqDiff, reduceIte, g2, g3, g5, g6, g7, q0, q1, q2] <;> rfl) rfl ?_
        refine ro_fieldAddr (by simp only [evalF, upd, arg0, argS, ofConst, ofCell, Nat.reduceEqDiff, reduceIte, g2, g3, g5, g6, g7, q0, q1, q2] <;> rfl) (by exact (fa30_7 _ _ _)) (by decide) ?_
        refine ro_guard rfl (by simp only [evalF, upd, arg0, argS, ofConst, ofCell, Nat.reduceEqDiff, reduceIte, g2, g3, g5, g6, g7, q0, q1, q2] <;> rfl) rfl ?_
        refine ro_load (by simp only [evalF, upd, arg0, argS, ofConst, ofCell, Nat.reduceEqDiff, reduceIte, g2, g3, g5, g6, g7, q0, q1, q2] <;> rfl) (by exact (load1 ag3 h1 (mc38 ka))) (by decide) ?_
        refine ro_guard rfl (by simp only [evalF, upd, arg0, argS, ofConst, ofCell, Nat.reduceEqDiff, reduceIte, g2, g3, g5, g6, g7, q0, q1, q2] <;> rfl) rfl ?_
        refine ro_fieldAddr (by simp only [evalF, upd, arg0, argS, ofConst, ofCell, Nat.reduceEqDiff, reduceIte, g2, g3, g5, g6, g7, q0, q1, q2] <;> rfl) (by exact (fa30_7 _ _ _)) (by decide) ?_
        refine ro_guard rfl (by simp only [evalF, upd, arg0, argS, ofConst, ofCell, Nat.reduceEqDiff, reduceIte, g2, g3, g5, g6, g7, q0, q1, q2] <;> rfl) rfl ?_
        refine ro_load (by simp only [evalF, upd, arg0, argS, ofConst, ofCell, Nat.reduceEqDiff, reduceIte, g2, g3, g5, g6, g7, q0, q1, q2] <;> rfl) (by exact (load1 ag3 h2 (mc38 kb))) (by decide) ?_
        refine ro_guard rfl (by simp only [evalF, upd, arg0, argS, ofConst, ofCell, Nat.reduceEqDiff, reduceIte, g2, g3, g5, g6, g7, q0, q1, q2] <;> rfl) rfl ?_
        refine ro_bin (by simp only [evalF, upd, arg0, argS, ofConst, ofCell, Nat.reduceEqDiff, reduceIte, g2, g3, g5, g6, g7, q0, q1, q2] <;> rfl) (by simp only [evalF, upd, arg0, argS, ofConst, ofCell, Nat.reduceEqDiff, reduceIte, g2, g3, g5, g6, g7, q0, q1, q2] <;> rfl) (by exact (by rw [eql_v, q2])) (by decide) ?_
        refine ro_pick (by simp only [evalF, upd, arg0, argS, ofConst, ofCell, Nat.reduceEqDiff, reduceIte, g2, g3, g5, g6, g7, q0, q1, q2] <;> rfl) (by simp only [evalF, upd, arg0, argS, ofConst, ofCell, Nat.reduceEqDiff, reduceIte, g2, g3, g5, g6, g7, q0, q1, q2] <;> rfl) (by simp only [evalF, upd, arg0, argS, ofConst, ofCell, Nat.reduceEqDiff, reduceIte, g2, g3, g5, g6, g7, q0, q1, q2] <;> rfl) (by decide) ?_
        refine ro_assign (by simp only [evalF, upd, arg0, argS, ofConst, ofCell, Nat.reduceEqDiff, reduceIte, g2, g3, g5, g6, g7, q0, q1, q2] <;> rfl) (by decide) ?_
        refine ro_nil ?_
        try simp only
        refine ex_ret ?_
        exact ⟨rfl, by rw [hs]; simp [upd, sameF, ofConst, ofCell, evalF, q0, q1, q2, g5, g6, g7], rfl, rfl⟩
    | false =>
      refine ro_guard rfl (by simp only [evalF, upd, arg0, argS, ofConst, ofCell, Nat.reduceEqDiff, reduceIte, g2, g3, g5, g6, g7, q0, q1] <;> rfl) rfl ?_
      refine ro_fieldAddr (by simp only [evalF, upd, arg0, argS, ofConst, ofCell, Nat.reduceEqDiff, reduceIte, g2, g3, g5, g6, g7, q0, q1] <;> rfl) (by exact (fa30_1 _ _ _)) (by decide) ?_
      refine ro_guard rfl (by simp only [evalF, upd, arg0, argS, ofConst, ofCell, Nat.reduceEqDiff, reduceIte, g2, g3, g5, g6, g7, q0, q1] <;> rfl) rfl ?_
      refine ro_load (by simp only [evalF, upd, arg0, argS, ofConst, ofCell, Nat.reduceEqDiff, reduceIte, g2, g3, g5, g6, g7, q0, q1] <;> rfl) (by exact (load1 ag3 h1 mc1)) (by decide) ?_
      refine ro_guard rfl (by simp only [evalF, upd, arg0, argS, ofConst, ofCell, Nat.reduceEqDiff, reduceIte, g2, g3, g5, g6, g7, q0, q1] <;> rfl) rfl ?_
      refine ro_fieldAddr (by simp only [evalF, upd, arg0, argS, ofConst, ofCell, Nat.reduceEqDiff, reduceIte, g2, g3, g5, g6, g7, q0, q1] <;> rfl) (by exact (fa30_1 _ _ _)) (by decide) ?_
      refine ro_guard rfl (by simp only [evalF, upd, arg0, argS, ofConst, ofCell, Nat.reduceEqDiff, reduceIte, g2, g3, g5, g6, g7, q0, q1] <;> rfl) rfl ?_
      refine ro_load (by simp only [evalF, upd, arg0, argS, ofConst, ofCell, Nat.reduceEqDiff, reduceIte, g2, g3, g5, g6, g7, q0, q1] <;> rfl) (by exact (load1 ag3 h2 mc1)) (by decide) ?_
      refine ro_guard rfl (by simp only [evalF, upd, arg0, argS, ofConst, ofCell, Nat.reduceEqDiff, reduceIte, g2, g3, g5, g6, g7, q0, q1] <;> rfl) rfl ?_
      refine ro_bin (by simp only [evalF, upd, arg0, argS, ofConst, ofCell, Nat.reduceEqDiff, reduceIte, g2, g3, g5, g6, g7, q0, q1] <;> rfl) (by simp only [evalF, upd, arg0, argS, ofConst, ofCell, Nat.reduceEqDiff, reduceIte, g2, g3, g5, g6, g7, q0, q1] <;> rfl) (by exact (by rw [eql_v, q1])) (by decide) ?_
      refine ro_pick (by simp only [evalF, upd, arg0, argS, ofConst, ofCell, Nat.reduceEqDiff, reduceIte, g2, g3, g5, g6, g7, q0, q1] <;> rfl) (by simp only [evalF, upd, arg0, argS, ofConst, ofCell, Nat.reduceEqDiff, reduceIte, g2, g3, g5, g6, g7, q0, q1] <;> rfl) (by simp only [evalF, upd, arg0, argS, ofConst, ofCell, Nat.reduceEqDiff, reduceIte, g2, g3, g5, g6, g7, q0, q1] <;> rfl) (by decide) ?_
      refine ro_move (by simp only [evalF, upd, arg0, argS, ofConst, ofCell, Nat.reduceEqDiff, reduceIte, g2, g3, g5, g6, g7, q0, q1] <;> rfl) (by decide) ?_
      refine ro_skip rfl (by simp only [evalF, upd, arg0, argS, ofConst, ofCell, Nat.reduceEqDiff, reduceIte, g2, g3, g5, g6, g7, q0, q1] <;> rfl) rfl (fun e he => by cases he; decide) ?_
      simp only [putF]
      refine ro_skip rfl (by simp only [evalF, upd, arg0, argS, ofConst, ofCell, Nat.reduceEqDiff, reduceIte, g2, g3, g5, g6, g7, q0, q1] <;> rfl) rfl (fun e he => by cases he; decide) ?_
      simp only [putF]
      refine ro_skip rfl (by simp only [evalF, upd, arg0, argS, ofConst, ofCell, Nat.reduceEqDiff, reduceIte, g2, g3, g5, g6, g7, q0, q1] <;> rfl) rfl (fun e he => by cases he; decide) ?_
      simp only [putF]
      refine ro_skip rfl (by simp only [evalF, upd, arg0, argS, ofConst, ofCell, Nat.reduceEqDiff, reduceIte, g2, g3, g5, g6, g7, q0, q1] <;> rfl) rfl (fun e he => by cases he; decide) ?_
      simp only [putF]
      refine ro_skip rfl (by simp only [evalF, upd, arg0, argS, ofConst, ofCell, Nat.reduceEqDiff, reduceIte, g2, g3, g5, g6, g7, q0, q1] <;> rfl) rfl (fun e he => by cases he; decide) ?_
      simp only [putF]
      refine ro_pick (by simp only [evalF, upd, arg0, argS, ofConst, ofCell, Nat.reduceEqDiff, reduceIte, g2, g3, g5, g6, g7, q0, q1] <;> rfl) (by simp only [evalF, upd, arg0, argS, ofConst, ofCell, Nat.reduceEqDiff, reduceIte, g2, g3, g5, g6, g7, q0, q1] <;> rfl) (by simp only [evalF, upd, arg0, argS, ofConst, ofCell, Nat.reduceEqDiff, reduceIte, g2, g3, g5, g6, g7, q0, q1] <;> rfl) (by decide) ?_
      refine ro_assign (by simp only [evalF, upd, arg0, argS, ofConst, ofCell, Nat.reduceEqDiff, reduceIte, g2, g3, g5, g6, g7, q0, q1] <;> rfl) (by decide) ?_
      refine ro_nil ?_
      try simp only
      refine ex_ret ?_
      exact ⟨rfl, by rw [hs]; simp [upd, sameF, ofConst, ofCell, evalF, q0, q1, g5, g6, g7], rfl, rfl⟩
  | false =>
    refine ro_move (by simp only [evalF, upd, arg0, argS, ofConst, ofCell, Nat.reduceEqDiff, reduceIte, g2, g3, g5, g6, g7, q0] <;> rfl) (by decide) ?_
    refine ro_move (by simp only [evalF, upd, arg0, argS, ofConst, ofCell, Nat.reduceEqDiff, reduceIte, g2, g3, g5, g6, g7, q0] <;> rfl) (by decide) ?_
    refine ro_skip rfl (by simp only [evalF, upd, arg0, argS, ofConst, ofCell, Nat.reduceEqDiff, reduceIte, g2, g3, g5, g6, g7, q0] <;> rfl) rfl (fun e he => by cases he; decide) ?_
    simp only [putF]
    refine ro_skip rfl (by simp only [evalF, upd, arg0, argS, ofConst, ofCell, Nat.reduceEqDiff, reduceIte, g2, g3, g5, g6, g7, q0] <;> rfl) rfl (fun e he => by cases he; decide) ?_
    simp only [putF]
    refine ro_skip rfl (by simp only [evalF, upd, arg0, argS, ofConst, ofCell, Nat.reduceEqDiff, reduceIte, g2, g3, g5, g6, g7, q0] <;> rfl) rfl (fun e he => by cases he; decide) ?_
    simp only [putF]
    refine ro_skip rfl (by simp only [evalF, upd, arg0, argS, ofConst, ofCell, Nat.reduceEqDiff, reduceIte, g2, g3, g5, g6, g7, q0] <;> rfl) rfl (fun e he => by cases he; decide) ?_
    simp only [putF]
    refine ro_skip rfl (by simp only [evalF, upd, arg0, argS, ofConst, ofCell, Nat.reduceEqDiff, reduceIte, g2, g3, g5, g6, g7, q0] <;> rfl) rfl (fun e he => by cases he; decide) ?_
    simp only [putF]
    refine ro_pick (by simp only [evalF, upd, arg0, argS, ofConst, ofCell, Nat.reduceEqDiff, reduceIte, g2, g3, g5, g6, g7, q0] <;> rfl) (by simp only [evalF, upd, arg0, argS, ofConst, ofCell, Nat.reduceEqDiff, reduceIte, g2, g3, g5, g6, g7, q0] <;> rfl) (by simp only [evalF, upd, arg0, argS, ofConst, ofCell, Nat.reduceEqDiff, reduceIte, g2, g3, g5, g6, g7, q0] <;> rfl) (by decide) ?_
    refine ro_move (by simp only [evalF, upd, arg0, argS, ofConst, ofCell, Nat.reduceEqDiff, reduceIte, g2, g3, g5, g6, g7, q0] <;> rfl) (by decide) ?_
    refine ro_skip rfl (by simp only [evalF, upd, arg0, argS, ofConst, ofCell, Nat.reduceEqDiff, reduceIte, g2, g3, g5, g6, g7, q0] <;> rfl) rfl (fun e he => by cases he; decide) ?_
    simp only [putF]
    refine ro_skip rfl (by simp only [evalF, upd, arg0, argS, ofConst, ofCell, Nat.reduceEqDiff, reduceIte, g2, g3, g5, g6, g7, q0] <;> rfl) rfl (fun e he => by cases he; decide) ?_
    simp only [putF]
    refine ro_skip rfl (by simp only [evalF, upd, arg0, argS, ofConst, ofCell, Nat.reduceEqDiff, reduceIte, g2, g3, g5, g6, g7, q0] <;> rfl) rfl (fun e he => by cases he; decide) ?_
    simp only [putF]
    refine ro_skip rfl (by simp only [evalF, upd, arg0, argS, ofConst, ofCell, Nat.reduceEqDiff, reduceIte, g2, g3, g5, g6, g7, q0] <;> rfl) rfl (fun e he => by cases he; decide) ?_
    simp only [putF]
    refine ro_skip rfl (by simp only [evalF, upd, arg0, argS, ofConst, ofCell, Nat.reduceEqDiff, reduceIte, g2, g3, g5, g6, g7, q0] <;> rfl) rfl (fun e he => by cases he; decide) ?_
    simp only [putF]
    refine ro_pick (by simp only [evalF, upd, arg0, argS, ofConst, ofCell, Nat.reduceEqDiff, reduceIte, g2, g3, g5, g6, g7, q0] <;> rfl) (by simp only [evalF, upd, arg0, argS, ofConst, ofCell, Nat.reduceEqDiff, reduceIte, g2, g3, g5, g6, g7, q0] <;> rfl) (by simp only [evalF, upd, arg0, argS, ofConst, ofCell, Nat.reduceEqDiff, reduceIte, g2, g3, g5, g6, g7, q0] <;> rfl) (by decide) ?_
    refine ro_assign (by simp only [evalF, upd, arg0, argS, ofConst, ofCell, Nat.reduceEqDiff, reduceIte, g2, g3, g5, g6, g7, q0] <;> rfl) (by decide) ?_
    refine ro_nil ?_
    try simp only
    refine ex_ret ?_
    exact ⟨rfl, by rw [hs]; simp [upd, sameF, ofConst, ofCell, evalF, q0, g5, g6, g7], rfl, rfl⟩

theorem rest17_n (ka : a.key.length = 32) (kb : b.key.length = 32) (hab : a.kind = b.kind) (hk : ¬ (2 ≤ a.kind ∧ a.kind ≤ 12)) (h1 : AI.look hp i1 1 = some (mcells a L D)) (h2 : AI.look hp i2 1 = some (mcells b L2 D2)) (g2 : g 2 = .ptr i1 1 0) (g3 : g 3 = .ptr i2 1 0) (g5 : g 5 = .pv (.bool (a.key == b.key))) (g6 : g 6 = .pv (.bool (a.data == b.data))) (g7 : g 7 = .pv (.bool (a.list == b.list))) :
    EX Try.prog plains F G 10000 124 (codeAt (bodyOf Try.f17) [true, true, true]) g hp nb fun x g' hp' nb' => x = .ret ∧ g' 4 = .pv (.bool (sameM a b)) ∧ hp' = hp ∧ nb' = nb := by
  have hs : sameM a b = true := by
    have : (rowOf a.kind).getD [] = [] := by
      unfold rowOf
      by_cases h : a.kind = 1
      · rw [if_pos h]; rfl
      · rw [if_neg h, if_neg (by omega), if_neg (by omega), if_neg (by omega), if_neg (by omega), if_neg (by omega), if_neg (by omega), if_neg (by omega), if_neg (by omega), if_neg (by omega), if_neg (by omega), if_neg (by omega)]; rfl
    unfold sameM
    rw [this, hab]
    simp
  show EX _ _ _ _ _ 124 _ _ _ _ _
  simp only [codeAt, bodyOf, Try.f17, if_true]
  refine ex_seq (ex_seq (ex_region ?_))
  refine ro_fieldAddr (by simp only [evalF, upd, arg0, argS, ofConst, ofCell, Nat.reduceEqDiff, reduceIte, g2, g3, g5, g6, g7] <;> rfl) (by exact (fa30_0 _ _ _)) (by decide) ?_
  refine ro_load (by simp only [evalF, upd, arg0, argS, ofConst, ofCell, Nat.reduceEqDiff, reduceIte, g2, g3, g5, g6, g7] <;> rfl) (by exact (load1 ag3 h1 mc0)) (by decide) ?_
  refine ro_nil ?_
  try simp only
  refine ex_block ?_
  refine ex_seq (ex_region ?_)
  refine ro_bin (by simp only [evalF, upd, arg0, argS, ofConst, ofCell, Nat.reduceEqDiff, reduceIte, g2, g3, g5, g6, g7] <;> rfl) (by simp only [evalF, upd, arg0, argS, ofConst, ofCell, Nat.reduceEqDiff, reduceIte, g2, g3, g5, g6, g7] <;> rfl) (by exact (eql_f (by omega))) (by decide) ?_
  refine ro_assign (by simp only [evalF, upd, arg0, argS, ofConst, ofCell, Nat.reduceEqDiff, reduceIte, g2, g3, g5, g6, g7] <;> rfl) (by decide) ?_
  refine ro_nil ?_
  try simp only
  refine ex_cond (t := false) (by simp only [evalF, upd, arg0, argS, ofConst, ofCell, Nat.reduceEqDiff, reduceIte, g2, g3, g5, g6, g7] <;> rfl) (fun h => by simp at h) (fun h => ?_)
  refine ex_seq (ex_region ?_)
  refine ro_bin (by simp only [evalF, upd, arg0, argS, ofConst, ofCell, Nat.reduceEqDiff, reduceIte, g2, g3, g5, g6, g7] <;> rfl) (by simp only [evalF, upd, arg0, argS, ofConst, ofCell, Nat.reduceEqDiff, reduceIte, g2, g3, g5, g6, g7] <;> rfl) (by exact (eql_f (by omega))) (by decide) ?_
  refine ro_assign (by simp only [evalF, upd, arg0, argS, ofConst, ofCell, Nat.reduceEqDiff, reduceIte, g2, g3, g5, g6, g7] <;> rfl) (by decide) ?_
  refine ro_nil ?_
  try simp only
  refine ex_cond (t := false) (by simp only [evalF, upd, arg0, argS, ofConst, ofCell, Nat.reduceEqDiff, reduceIte, g2, g3, g5, g6, g7] <;> rfl) (fun h => by simp at h) (fun h => ?_)
  refine ex_seq (ex_region ?_)
  refine ro_bin (by simp only [evalF, upd, arg0, argS, ofConst, ofCell, Nat.reduceEqDiff, reduceIte, g2, g3, g5, g6, g7] <;> rfl) (by simp only [evalF, upd, arg0, argS, ofConst, ofCell, Nat.reduceEqDiff, reduceIte, g2, g3, g5, g6, g7] <;> rfl) (by exact (eql_f (by omega))) (by decide) ?_
  refine ro_assign (by simp only [evalF, upd, arg0, argS, ofConst, ofCell, Nat.reduceEqDiff, reduceIte, g2, g3, g5, g6, g7] <;> rfl) (by decide) ?_
  refine ro_nil ?_
  try simp only
  refine ex_cond (t := false) (by simp only [evalF, upd, arg0, argS, ofConst, ofCell, Nat.reduceEqDiff, reduceIte, g2, g3, g5, g6, g7] <;> rfl) (fun h => by simp at h) (fun h => ?_)
  refine ex_seq (ex_seq (ex_region ?_))
  refine ro_bin (by simp only [evalF, upd, arg0, argS, ofConst, ofCell, Nat.reduceEqDiff, reduceIte, g2, g3, g5, g6, g7] <;> rfl) (by simp only [evalF, upd, arg0, argS, ofConst, ofCell, Nat.reduceEqDiff, reduceIte, g2, g3, g5, g6, g7] <;> rfl) (by exact (eql_f (by omega))) (by decide) ?_
  refine ro_assign (by simp only [evalF, upd, arg0, argS, ofConst, ofCell, Nat.reduceEqDiff, reduceIte, g2, g3, g5, g6, g7] <;> rfl) (by decide) ?_
  refine ro_nil ?_
  try simp only
  refine ex_cond (t := false) (by simp only [evalF, upd, arg0, argS, ofConst, ofCell, Nat.reduceEqDiff, reduceIte, g2, g3, g5, g6, g7] <;> rfl) (fun h => by simp at h) (fun h => ?_)
  refine ex_seq (ex_region ?_)
  refine ro_bin (by simp only [evalF, upd, arg0, argS, ofConst, ofCell, Nat.reduceEqDiff, reduceIte, g2, g3, g5, g6, g7] <;> rfl) (by simp only [evalF, upd, arg0, argS, ofConst, ofCell, Nat.reduceEqDiff, reduceIte, g2, g3, g5, g6, g7] <;> rfl) (by exact (eql_f (by omega))) (by decide) ?_
  refine ro_assign (by simp only [evalF, upd, arg0, argS, ofConst, ofCell, Nat.reduceEqDiff, reduceIte, g2, g3, g5, g6, g7] <;> rfl) (by decide) ?_
  refine ro_nil ?_
  try simp only
  refine ex_cond (t := false) (by simp only [evalF, upd, arg0, argS, ofConst, ofCell, Nat.reduceEqDiff, reduceIte, g2, g3, g5, g6, g7] <;> rfl) (fun h => by simp at h) (fun h => ?_)
  refine ex_region ?_
  refine ro_bin (by simp only [evalF, upd, arg0, argS, ofConst, ofCell, Nat.reduceEqDiff, reduceIte, g2, g3, g5, g6, g7] <;> rfl) (by simp only [evalF, upd, arg0, argS, ofConst, ofCell, Nat.reduceEqDiff, reduceIte, g2, g3, g5, g6, g7] <;> rfl) (by exact (eql_f (by omega))) (by decide) ?_
  refine ro_assign (by simp only [evalF, upd, arg0, argS, ofConst, ofCell, Nat.reduceEqDiff, reduceIte, g2, g3, g5, g6, g7] <;> rfl) (by decide) ?_
  refine ro_nil ?_
  try simp only
  refine ex_cond (t := false) (by simp only [evalF, upd, arg0, argS, ofConst, ofCell, Nat.reduceEqDiff, reduceIte, g2, g3, g5, g6, g7] <;> rfl) (fun h => by simp at h) (fun h => ?_)
  refine ex_seq (ex_region ?_)
  refine ro_bin (by simp only [evalF, upd, arg0, argS, ofConst, ofCell, Nat.reduceEqDiff, reduceIte, g2, g3, g5, g6, g7] <;> rfl) (by simp only [evalF, upd, arg0, argS, ofConst, ofCell, Nat.reduceEqDiff, reduceIte, g2, g3, g5, g6, g7] <;> rfl) (by exact (eql_f (by omega))) (by decide) ?_
  refine ro_assign (by simp only [evalF, upd, arg0, argS, ofConst, ofCell, Nat.reduceEqDiff, reduceIte, g2, g3, g5, g6, g7] <;> rfl) (by decide) ?_
  refine ro_nil ?_
  try simp only
  refine ex_cond (t := false) (by simp only [evalF, upd, arg0, argS, ofConst, ofCell, Nat.reduceEqDiff, reduceIte, g2, g3, g5, g6, g7] <;> rfl) (fun h => by simp at h) (fun h => ?_)
  refine ex_seq (ex_region ?_)
  refine ro_bin (by simp only [evalF, upd, arg0, argS, ofConst, ofCell, Nat.reduceEqDiff, reduceIte, g2, g3, g5, g6, g7] <;> rfl) (by simp only [evalF, upd, arg0, argS, ofConst, ofCell, Nat.reduceEqDiff, reduceIte, g2, g3, g5, g6, g7] <;> rfl) (by exact (eql_f (by omega))) (by decide) ?_
  refine ro_assign (by simp only [evalF, upd, arg0, argS, ofConst, ofCell, Nat.reduceEqDiff, reduceIte, g2, g3, g5, g6, g7] <;> rfl) (by decide) ?_
  refine ro_nil ?_
  try simp only
  refine ex_cond (t := false) (by simp only [evalF, upd, arg0, argS, ofConst, ofCell, Nat.reduceEqDiff, reduceIte, g2, g3, g5, g6, g7] <;> rfl) (fun h => by simp at h) (fun h => ?_)
  refine ex_seq (ex_region ?_)
  refine ro_bin (by simp only [evalF, upd, arg0, argS, ofConst, ofCell, Nat.reduceEqDiff, reduceIte, g2, g3, g5, g6, g7] <;> rfl) (by simp only [evalF, upd, arg0, argS, ofConst, ofCell, Nat.reduceEqDiff, reduceIte, g2, g3, g5, g6, g7] <;> rfl) (by exact (eql_f (by omega))) (by decide) ?_
  refine ro_assign (by simp only [evalF, upd, arg0, argS, ofConst, ofCell, Nat.reduceEqDiff, reduceIte, g2, g3, g5, g6, g7] <;> rfl) (by decide) ?_
  refine ro_nil ?_
  try simp only
  refine ex_cond (t := false) (by simp only [evalF, upd, arg0, argS, ofConst, ofCell, Nat.reduceEqDiff, reduceIte, g2, g3, g5, g6, g7] <;> rfl) (fun h => by simp at h) (fun h => ?_)
  refine ex_seq (ex_region ?_)
  refine ro_bin (by simp only [evalF, upd, arg0, argS, ofConst, ofCell, Nat.reduceEqDiff, reduceIte, g2, g3, g5, g6, g7] <;> rfl) (by simp only [evalF, upd, arg0, argS, ofConst, ofCell, Nat.reduceEqDiff, reduceIte, g2, g3, g5, g6, g7] <;> rfl) (by exact (eql_f (by omega))) (by decide) ?_
  refine ro_assign (by simp only [evalF, upd, arg0, argS, ofConst, ofCell, Nat.reduceEqDiff, reduceIte, g2, g3, g5, g6, g7] <;> rfl) (by decide) ?_
  refine ro_nil ?_
  try simp only
  refine ex_cond (t := false) (by simp only [evalF, upd, arg0, argS, ofConst, ofCell, Nat.reduceEqDiff, reduceIte, g2, g3, g5, g6, g7] <;> rfl) (fun h => by simp at h) (fun h => ?_)
  refine ex_seq (ex_region ?_)
  refine ro_bin (by simp only [evalF, upd, arg0, argS, ofConst, ofCell, Nat.reduceEqDiff, reduceIte, g2, g3, g5, g6, g7] <;> rfl) (by simp only [evalF, upd, arg0, argS, ofConst, ofCell, Nat.reduceEqDiff, reduceIte, g2, g3, g5, g6, g7] <;> rfl) (by exact (eql_f (by omega))) (by decide) ?_
  refine ro_assign (by simp only [evalF, upd, arg0, argS, ofConst, ofCell, Nat.reduceEqDiff, reduceIte, g2, g3, g5, g6, g7] <;> rfl) (by decide) ?_
  refine ro_nil ?_
  try simp only
  refine ex_cond (t := false) (by simp only [evalF, upd, arg0, argS, ofConst, ofCell, Nat.reduceEqDiff, reduceIte, g2, g3, g5, g6, g7] <;> rfl) (fun h => by simp at h) (fun h => ?_)
  refine ex_skip ?_
  try simp only
  refine ex_seq (ex_region ?_)
  refine ro_assign (by simp only [evalF, upd, arg0, argS, ofConst, ofCell, Nat.reduceEqDiff, reduceIte, g2, g3, g5, g6, g7] <;> rfl) (by decide) ?_
  refine ro_nil ?_
  try simp only
  refine ex_ret ?_
  exact ⟨rfl, by rw [hs]; simp [upd, sameF, ofConst, ofCell, evalF, g5, g6, g7], rfl, rfl⟩

end

theorem rest17 {F : CallF} {G : CallG} {hp : Hp} {nb i1 i2 : Nat} {a b : M} {L D L2 D2 : AV} {g : Gm} (ka : a.key.length = 32) (kb : b.key.length = 32) (hab : a.kind = b.kind) (h1 : AI.look hp i1 1 = some (mcells a L D)) (h2 : AI.look hp i2 1 = some (mcells b L2 D2)) (g2 : g 2 = .ptr i1 1 0) (g3 : g 3 = .ptr i2 1 0) (g5 : g 5 = .pv (.bool (a.key == b.key))) (g6 : g 6 = .pv (.bool (a.data == b.data))) (g7 : g 7 = .pv (.bool (a.list == b.list))) :
    EX Try.prog plains F G 10000 124 (codeAt (bodyOf Try.f17) [true, true, true]) g hp nb fun x g' hp' nb' => x = .ret ∧ g' 4 = .pv (.bool (sameM a b)) ∧ hp' = hp ∧ nb' = nb := by
  by_cases hk : 2 ≤ a.kind ∧ a.kind ≤ 12
  · have : a.kind = 2 ∨ a.kind = 3 ∨ a.kind = 4 ∨ a.kind = 5 ∨ a.kind = 6 ∨ a.kind = 7 ∨ a.kind = 8 ∨ a.kind = 9 ∨ a.kind = 10 ∨ a.kind = 11 ∨ a.kind = 12 := by omega
    rcases this with h | h | h | h | h | h | h | h | h | h | h
    · exact rest17_2 ka kb h (by omega) h1 h2 g2 g3 g5 g6 g7
    · exact rest17_3 ka kb h (by omega) h1 h2 g2 g3 g5 g6 g7
    · exact rest17_4 ka kb h (by omega) h1 h2 g2 g3 g5 g6 g7
    · exact rest17_5 ka kb h (by omega) h1 h2 g2 g3 g5 g6 g7
    · exact rest17_6 ka kb h (by omega) h1 h2 g2 g3 g5 g6 g7
    · exact rest17_7 ka kb h (by omega) h1 h2 g2 g3 g5 g6 g7
    · exact rest17_8 ka kb h (by omega) h1 h2 g2 g3 g5 g6 g7
    · exact rest17_9 ka kb h (by omega) h1 h2 g2 g3 g5 g6 g7
    · exact rest17_10 ka kb h (by omega) h1 h2 g2 g3 g5 g6 g7
    · exact rest17_11 ka kb h (by omega) h1 h2 g2 g3 g5 g6 g7
    · exact rest17_12 ka kb h (by omega) h1 h2 g2 g3 g5 g6 g7
  · exact rest17_n ka kb hab hk h1 h2 g2 g3 g5 g6 g7

theorem refNeeds : needs (regOf Try.f17 3) = [(1, 7), (3, 7), (7, 9), (1, 10), (3, 10), (6, 10), (7, 10), (7, 13), (10, 13), (7, 15), (10, 15), (1, 16), (3, 16), (6, 16), (7, 16), (9, 16), (10, 16)] := by kernel_rfl
theorem refStat : statOk (regOf Try.f17 3) = true := by kernel_rfl

theorem eql_str {x y : List Nat} : binOpA Try.prog .eql 9 (.pv (.str x)) (.pv (.str y)) = some (.pv (.bool (x == y))) := rfl
theorem neq_str {x y : List Nat} : binOpA Try.prog .neq 9 (.pv (.str x)) (.pv (.str y)) = some (.pv (.bool (!(x == y)))) := rfl

theorem own_lt {hp : Hp} {nb : Nat} {v : AV} {l : List PV} (r : Row hp nb v l) : ∀ id ∈ idOf v, id < nb := by
  intro id h
  cases r with
  | own id' ver off n mc xc cs l hn hi hc ho hm hl => simp [idOf] at h; omega
  | _ => simp [idOf] at h

/-- latticeref4.Same. -/
theorem same17 (d : Nat) {hp : Hp} {nb : Nat} {a b : M} {L D L2 D2 : AV} (htd : Tidy hp nb) (t : Two hp nb a b L D L2 D2) :
    CA (callA Try.prog facts plains 10000 (d + 2)) 17 [.agg (mcells a L D), .agg (mcells b L2 D2)] hp nb (BoolOk (sameM a b) hp nb) := by
  refine ca_body (fn := Try.f17) (c := bodyOf Try.f17) Try.func17 rfl (by show 2 ≤ 124; omega) ?_
  show EX _ _ _ _ _ 124 _ _ _ _ _
  unfold bodyOf Try.f17
  refine ex_seq (ex_region ?_)
  refine ro_box (v := .agg (mcells a L D)) (by simp [evalF, argsF]) (mc_all (row_cell t.l1).1 (row_cell t.d1).1) (by decide) ?_
  refine ro_box (v := .agg (mcells b L2 D2)) (by simp [evalF, argsF, upd]) (mc_all (row_cell t.l2).1 (row_cell t.d2).1) (by decide) ?_
  refine ro_assign (by simp only [evalF, upd, arg0, argS, ofConst, ofCell, Nat.reduceEqDiff, reduceIte] <;> rfl) (by decide) ?_
  refine ro_nil ?_
  try simp only
  obtain ⟨ha, h1, h2⟩ := two_boxes t
  have t2 := t.keep ha
  have htd2 := ha.2.2 htd
  show EX _ _ _ _ _ 124 _ _ (setHp (setHp hp nb (.cells 1 (mcells a L D))) (nb + 1) (.cells 1 (mcells b L2 D2))) _ _
  generalize setHp (setHp hp nb (.cells 1 (mcells a L D))) (nb + 1) (.cells 1 (mcells b L2 D2)) = hp2 at ha h1 h2 t2 htd2 ⊢
  have ka := t.ka
  have kb := t.kb
  refine ex_seq (ex_seq (ex_region ?_))
  refine ro_fieldAddr (by simp only [evalF, upd, arg0, argS, ofConst, ofCell, Nat.reduceEqDiff, reduceIte] <;> rfl) (by exact (fa30_0 _ _ _)) (by decide) ?_
  refine ro_load (by simp only [evalF, upd, arg0, argS, ofConst, ofCell, Nat.reduceEqDiff, reduceIte] <;> rfl) (by exact (load1 ag3 h1 mc0)) (by decide) ?_
  refine ro_fieldAddr (by simp only [evalF, upd, arg0, argS, ofConst, ofCell, Nat.reduceEqDiff, reduceIte] <;> rfl) (by exact (fa30_0 _ _ _)) (by decide) ?_
  refine ro_load (by simp only [evalF, upd, arg0, argS, ofConst, ofCell, Nat.reduceEqDiff, reduceIte] <;> rfl) (by exact (load1 ag3 h2 mc0)) (by decide) ?_
  refine ro_bin (by simp only [evalF, upd, arg0, argS, ofConst, ofCell, Nat.reduceEqDiff, reduceIte] <;> rfl) (by simp only [evalF, upd, arg0, argS, ofConst, ofCell, Nat.reduceEqDiff, reduceIte] <;> rfl) (by exact (neq_v)) (by decide) ?_
  refine ro_nil ?_
  try simp only
  refine ex_cond (t := (a.kind != b.kind)) (by simp only [evalF, upd, arg0, argS, ofConst, ofCell, Nat.reduceEqDiff, reduceIte] <;> rfl) (fun ht => ?_) (fun ht => ?_)
  · refine ex_seq (ex_region ?_)
    refine ro_assign (by simp only [evalF, upd, arg0, argS, ofConst, ofCell, Nat.reduceEqDiff, reduceIte] <;> rfl) (by decide) ?_
    refine ro_nil ?_
    try simp only
    refine ex_ret ?_
    refine ⟨_, rfl, ?_, ha⟩
    have : (a.kind == b.kind) = false := by simpa using ht
    simp [upd, sameM, this, ofConst, ofCell, evalF]
  refine ex_skip ?_
  try simp only
  have hab : a.kind = b.kind := by simpa using ht
  refine ex_seq (ex_draw refStat ?_)
  refine rdw_fieldAddr rfl (by simp only [evalF, upd, arg0, argS, ofConst, ofCell, Nat.reduceEqDiff, reduceIte] <;> rfl) (by exact (fa30_5 _ _ _)) (by decide) ?_
  refine rdw_load rfl (by simp only [evalF, upd, arg0, argS, ofConst, ofCell, Nat.reduceEqDiff, reduceIte] <;> rfl) (by exact (load_key ka h1)) (by decide) ?_
  refine rdw_fieldAddr rfl (by simp only [evalF, upd, arg0, argS, ofConst, ofCell, Nat.reduceEqDiff, reduceIte] <;> rfl) (by exact (fa30_5 _ _ _)) (by decide) ?_
  refine rdw_load rfl (by simp only [evalF, upd, arg0, argS, ofConst, ofCell, Nat.reduceEqDiff, reduceIte] <;> rfl) (by exact (load_key kb h2)) (by decide) ?_
  refine rdw_bin rfl (by simp only [evalF, upd, arg0, argS, ofConst, ofCell, Nat.reduceEqDiff, reduceIte] <;> rfl) (by simp only [evalF, upd, arg0, argS, ofConst, ofCell, Nat.reduceEqDiff, reduceIte] <;> rfl) (by exact (eq_keys ka kb)) (by decide) ?_
  refine rdw_fieldAddr rfl (by simp only [evalF, upd, arg0, argS, ofConst, ofCell, Nat.reduceEqDiff, reduceIte] <;> rfl) (by exact (fa30_6 _ _ _)) (by decide) ?_
  refine rdw_load rfl (by simp only [evalF, upd, arg0, argS, ofConst, ofCell, Nat.reduceEqDiff, reduceIte] <;> rfl) (by exact (load1 ag27 h1 (mc37 ka))) (by decide) ?_
  refine rdw_conv rfl (by simp only [evalF, upd, arg0, argS, ofConst, ofCell, Nat.reduceEqDiff, reduceIte] <;> rfl) (by exact (conv_str t2.d1 t.ab (fun _ _ => rfl))) (by decide) ?_
  refine rdw_fieldAddr rfl (by simp only [evalF, upd, arg0, argS, ofConst, ofCell, Nat.reduceEqDiff, reduceIte] <;> rfl) (by exact (fa30_6 _ _ _)) (by decide) ?_
  refine rdw_load rfl (by simp only [evalF, upd, arg0, argS, ofConst, ofCell, Nat.reduceEqDiff, reduceIte] <;> rfl) (by exact (load1 ag27 h2 (mc37 kb))) (by decide) ?_
  refine rdw_conv rfl (by simp only [evalF, upd, arg0, argS, ofConst, ofCell, Nat.reduceEqDiff, reduceIte] <;> rfl) (by exact (conv_str t2.d2 t.bb (fun _ _ => rfl))) (by decide) ?_
  refine rdw_bin rfl (by simp only [evalF, upd, arg0, argS, ofConst, ofCell, Nat.reduceEqDiff, reduceIte] <;> rfl) (by simp only [evalF, upd, arg0, argS, ofConst, ofCell, Nat.reduceEqDiff, reduceIte] <;> rfl) (by exact (eql_str)) (by decide) ?_
  refine rdw_fieldAddr rfl (by simp only [evalF, upd, arg0, argS, ofConst, ofCell, Nat.reduceEqDiff, reduceIte] <;> rfl) (by exact (fa30_3 _ _ _)) (by decide) ?_
  refine rdw_load rfl (by simp only [evalF, upd, arg0, argS, ofConst, ofCell, Nat.reduceEqDiff, reduceIte] <;> rfl) (by exact (load1 ag24 h1 mc3)) (by decide) ?_
  refine rdw_fieldAddr rfl (by simp only [evalF, upd, arg0, argS, ofConst, ofCell, Nat.reduceEqDiff, reduceIte] <;> rfl) (by exact (fa30_3 _ _ _)) (by decide) ?_
  refine rdw_load rfl (by simp only [evalF, upd, arg0, argS, ofConst, ofCell, Nat.reduceEqDiff, reduceIte] <;> rfl) (by exact (load1 ag24 h2 mc3)) (by decide) ?_
  refine rdw_bool (f := 35) (xs := [L, L2]) (r := a.list == b.list) rfl (by simp [calleeA, evalF, upd]) rfl htd2 (still35 d t2.l1 t2.l2 t.al).1 (still35 d t2.l1 t2.l2 t.al).2 (by decide) ?_
  intro ch hp3 nb3 ha3 hch
  refine rdw_assign rfl (by simp only [evalF, upd, arg0, argS, ofConst, ofCell, Nat.reduceEqDiff, reduceIte] <;> rfl) (by decide) ?_
  refine rdw_assign rfl (by simp only [evalF, upd, arg0, argS, ofConst, ofCell, Nat.reduceEqDiff, reduceIte] <;> rfl) (by decide) ?_
  refine rdw_assign rfl (by simp only [evalF, upd, arg0, argS, ofConst, ofCell, Nat.reduceEqDiff, reduceIte] <;> rfl) (by decide) ?_
  refine rd_nil ⟨dyn_of rfl (fun p hp' => ?_), ?_⟩
  · have hp'' : p ∈ needs (regOf Try.f17 3) := hp'
    rw [refNeeds] at hp''
    simp only [List.mem_cons, List.not_mem_nil, or_false] at hp''
    have o1 := own_lt t2.d1
    have o2 := own_lt t2.d2
    have o3 := own_lt t2.l1
    have o4 := own_lt t2.l2
    rcases hp'' with rfl | rfl | rfl | rfl | rfl | rfl | rfl | rfl | rfl | rfl | rfl | rfl | rfl | rfl | rfl | rfl | rfl <;> intro x y hx hy <;> cases hx <;> cases hy <;>
      first
      | exact heapPart_no rfl rfl
      | (refine heapPart_quiet' (m := nb + 1 + 1) hch rfl (fun id hid => ?_)
         simp [footF, looksIn, Op.operands, evalF, upd, idOf] at hid
         first | omega | exact o1 id hid | exact o2 id hid)
  try simp only
  have hax := after_nil ha ha3 (fun id h => by simp [ownOf] at h)
  have k : ∀ id, id < nb + 1 + 1 → hp3 id = hp2 id := fun id hid => ha3.2.1 id hid (by simp [ownOf])
  refine ex_weaken (rest17 (a := a) (b := b) (i1 := nb) (i2 := nb + 1) (L := L) (D := D) (L2 := L2) (D2 := D2) ka kb hab (by rw [look_at 1 (k nb (by omega))]; exact h1) (by rw [look_at 1 (k (nb + 1) (by omega))]; exact h2) (by simp [upd]) (by simp [upd]) (by simp [upd]) ?_ (by simp [upd])) ?_
  · have := toNat_inj (a := a.data) (b := b.data) (fun x hx => (t.ab x hx).1) (fun x hx => (t.bb x hx).1)
    simp only [upd, Nat.reduceEqDiff, reduceIte, this]
  · rintro x g' hp' nb' ⟨rfl, e1, rfl, rfl⟩
    exact ⟨_, rfl, e1, hax⟩

theorem both17 (d : Nat) {hp : Hp} {nb : Nat} {a b : M} {L D L2 D2 : AV} (htd : Tidy hp nb) (t : Two hp nb a b L D L2 D2) :
    (([.agg (mcells a L D), .agg (mcells b L2 D2)] : List AV).all plainV = false → CA (callA Try.prog facts plains 10000 (d + 2)) 17 [.agg (mcells a L D), .agg (mcells b L2 D2)] hp nb (BoolOk (sameM a b) hp nb)) ∧
    (([.agg (mcells a L D), .agg (mcells b L2 D2)] : List AV).all plainV = true → CA (callA Try.prog facts plains 10000 (d + 2)) 17 [.agg (mcells a L D), .agg (mcells b L2 D2)] (AI.hf []) 0 (BoolOk (sameM a b) (AI.hf []) 0)) :=
  ⟨fun _ => same17 d htd t, fun h => by
    simp only [List.all_cons, List.all_nil, Bool.and_true, Bool.and_eq_true] at h
    exact same17 d tidy_nil (t.plain h.1 h.2 _ _)⟩
end Go.Proofs.Ytlinbbjobjnipaa
