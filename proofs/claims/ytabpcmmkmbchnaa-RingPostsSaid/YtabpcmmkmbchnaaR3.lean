/- The posts of a ring: the document's next message; how many were sent; copies. -/
import Derived.Test.YtabpcmmkmbchnaaR2
set_option linter.unusedVariables false
set_option linter.unusedSimpArgs false
set_option linter.unusedSectionVars false
namespace Go.Proofs.Ytabpcmmkmbchnaa
open Go AI

set_option maxHeartbeats 4000000
set_option maxRecDepth 10000

theorem sent_calls (S : CallG) (pure : Nat → Bool) (lim d : Nat) (hp : Hp) (nb idp : Nat) (k : Int) (x l : AV) (hpp : AI.look hp idp 1 = some [x, l, .pv (.int .i64 k)]) :
    CA (callA Try.prog S pure lim (d + 1)) 17 [.ptr idp 1 0] hp nb fun v hp' nb' => v = .pv (.int .i64 k) ∧ hp' = hp ∧ nb' = nb := by
  refine ca_body (fn := Try.f17) (c := bodyOf Try.f17) Try.func17 rfl (by show 1 ≤ 7; omega) ?_
  show EX _ _ _ _ _ 7 _ _ _ _ _
  unfold bodyOf Try.f17
  refine ex_seq (ex_region ?_)
  refine ro_assign (by simp only [evalF, upd, argsF, ofConst, ofCell, Nat.reduceEqDiff, reduceIte, List.getD_cons_zero, List.getD_cons_succ, List.getD_nil] <;> rfl) (by decide) ?_
  refine ro_nil ?_
  simp only
  refine ex_seq (ex_region ?_)
  refine ro_move (by simp only [evalF, upd, argsF, ofConst, ofCell, Nat.reduceEqDiff, reduceIte, List.getD_cons_zero, List.getD_cons_succ, List.getD_nil] <;> rfl) (by decide) ?_
  refine ro_nilCheck (by simp only [evalF, upd, argsF, ofConst, ofCell, Nat.reduceEqDiff, reduceIte, List.getD_cons_zero, List.getD_cons_succ, List.getD_nil] <;> rfl) (by decide) ?_
  refine ro_fieldAddr (by simp only [evalF, upd, argsF, ofConst, ofCell, Nat.reduceEqDiff, reduceIte, List.getD_cons_zero, List.getD_cons_succ, List.getD_nil] <;> rfl) (by exact (fa73_1 _ _ _)) (by decide) ?_
  refine ro_load (by simp only [evalF, upd, argsF, ofConst, ofCell, Nat.reduceEqDiff, reduceIte, List.getD_cons_zero, List.getD_cons_succ, List.getD_nil] <;> rfl) (by exact (load1 ag3 hpp rfl)) (by decide) ?_
  refine ro_assign (by simp only [evalF, upd, argsF, ofConst, ofCell, Nat.reduceEqDiff, reduceIte, List.getD_cons_zero, List.getD_cons_succ, List.getD_nil] <;> rfl) (by decide) ?_
  refine ro_nil ?_
  simp only
  refine ex_ret ?_
  exact ⟨_, rfl, by simp [upd], rfl, rfl⟩

theorem conv_74 (k : Int) (hk : 0 ≤ k ∧ k < 1000) (hp : Hp) (nb : Nat) : convertA Try.prog hp nb 3 74 (.pv (.int .i64 k)) = some (.val (.pv (.int .u64 k))) := by
  have h : convertA Try.prog hp nb 3 74 (.pv (.int .i64 k)) = some (.val (.pv (.int .u64 (IntKind.u64.wrap k)))) := by kernel_rfl
  rw [h, IntWalk.u64_in _ (by omega)]

theorem statN8 : statOk (match bodyOf Try.f16 with
  | .seq _ (.seq _ (.seq _ (.seq _ (.seq (.seq _ (.block _ (.loop (.seq _ (.seq (.block _ (.seq _ (.cond _ (.seq (.region _ a _) _) _))) _))))) _)))) => a.toList
  | _ => []) = true := by kernel_rfl

theorem refNext_calls (S : CallG) (pure : Nat → Bool) (lim d : Nat) (hp : Hp) (nb idp : Nat) (k x : Int) (l : AV) (cs : List (Int × PV)) (hk0 : 0 ≤ k ∧ k < 1000) (hlim : cs.length < lim) (hcs : cs.length < 1000)
    (hpp : AI.look hp idp 1 = some [.pv (.int .u64 x), l, .pv (.int .i64 k)]) (hid : idp < nb) (hL : ∀ hp', Keeps idp nb hp hp' → Lies hp' l cs) :
    CA (callA Try.prog S pure lim (d + 1)) 16 [.ptr idp 1 0] hp nb fun v hp' nb' => v = .tuple [.pv (.bool (lostB x k)), .pv (.bool (said cs k).1), .pv (said cs k).2] ∧
      AI.look hp' idp 1 = some [.pv (.int .u64 x), l, .pv (.int .i64 (k + 1))] ∧ Keeps idp nb hp hp' ∧ nb' = nb := by
  refine ca_body (fn := Try.f16) (c := bodyOf Try.f16) Try.func16 rfl (by show 1 ≤ 65; omega) ?_
  show EX _ _ _ _ _ 65 _ _ _ _ _
  have hst8 := statN8
  unfold bodyOf Try.f16 at hst8 ⊢
  simp only at hst8
  refine ex_seq (ex_region ?_)
  refine ro_assign (by simp only [evalF, upd, argsF, ofConst, ofCell, Nat.reduceEqDiff, reduceIte, List.getD_cons_zero, List.getD_cons_succ, List.getD_nil] <;> rfl) (by decide) ?_
  refine ro_assign (by simp only [evalF, upd, argsF, ofConst, ofCell, Nat.reduceEqDiff, reduceIte, List.getD_cons_zero, List.getD_cons_succ, List.getD_nil] <;> rfl) (by decide) ?_
  refine ro_assign (by simp only [evalF, upd, argsF, ofConst, ofCell, Nat.reduceEqDiff, reduceIte, List.getD_cons_zero, List.getD_cons_succ, List.getD_nil] <;> rfl) (by decide) ?_
  refine ro_nil ?_
  simp only
  refine ex_seq (ex_region ?_)
  refine ro_move (by simp only [evalF, upd, argsF, ofConst, ofCell, Nat.reduceEqDiff, reduceIte, List.getD_cons_zero, List.getD_cons_succ, List.getD_nil] <;> rfl) (by decide) ?_
  refine ro_nilCheck (by simp only [evalF, upd, argsF, ofConst, ofCell, Nat.reduceEqDiff, reduceIte, List.getD_cons_zero, List.getD_cons_succ, List.getD_nil] <;> rfl) (by decide) ?_
  refine ro_fieldAddr (by simp only [evalF, upd, argsF, ofConst, ofCell, Nat.reduceEqDiff, reduceIte, List.getD_cons_zero, List.getD_cons_succ, List.getD_nil] <;> rfl) (by exact (fa55_1 _ _ _)) (by decide) ?_
  refine ro_load (by simp only [evalF, upd, argsF, ofConst, ofCell, Nat.reduceEqDiff, reduceIte, List.getD_cons_zero, List.getD_cons_succ, List.getD_nil] <;> rfl) (by exact (load1 ag3 hpp rfl)) (by decide) ?_
  refine ro_assign (by simp only [evalF, upd, argsF, ofConst, ofCell, Nat.reduceEqDiff, reduceIte, List.getD_cons_zero, List.getD_cons_succ, List.getD_nil] <;> rfl) (by decide) ?_
  refine ro_nil ?_
  simp only
  refine ex_seq (ex_region ?_)
  refine ro_move (by simp only [evalF, upd, argsF, ofConst, ofCell, Nat.reduceEqDiff, reduceIte, List.getD_cons_zero, List.getD_cons_succ, List.getD_nil] <;> rfl) (by decide) ?_
  refine ro_nilCheck (by simp only [evalF, upd, argsF, ofConst, ofCell, Nat.reduceEqDiff, reduceIte, List.getD_cons_zero, List.getD_cons_succ, List.getD_nil] <;> rfl) (by decide) ?_
  refine ro_fieldAddr (by simp only [evalF, upd, argsF, ofConst, ofCell, Nat.reduceEqDiff, reduceIte, List.getD_cons_zero, List.getD_cons_succ, List.getD_nil] <;> rfl) (by exact (fa55_1 _ _ _)) (by decide) ?_
  refine ro_load (by simp only [evalF, upd, argsF, ofConst, ofCell, Nat.reduceEqDiff, reduceIte, List.getD_cons_zero, List.getD_cons_succ, List.getD_nil] <;> rfl) (by exact (load1 ag3 hpp rfl)) (by decide) ?_
  refine ro_bin (by simp only [evalF, upd, argsF, ofConst, ofCell, Nat.reduceEqDiff, reduceIte, List.getD_cons_zero, List.getD_cons_succ, List.getD_nil] <;> rfl) (by simp only [evalF, upd, argsF, ofConst, ofCell, Nat.reduceEqDiff, reduceIte, List.getD_cons_zero, List.getD_cons_succ, List.getD_nil] <;> rfl) (by exact (show _ = some (AV.pv (.int .i64 (k + 1))) from by show some (AV.pv (.int .i64 (IntKind.i64.wrap (k + 1)))) = _; rw [IntWalk.i64_in _ (by omega)])) (by decide) ?_
  refine ro_nilCheck (by simp only [evalF, upd, argsF, ofConst, ofCell, Nat.reduceEqDiff, reduceIte, List.getD_cons_zero, List.getD_cons_succ, List.getD_nil] <;> rfl) (by decide) ?_
  refine ro_fieldAddr (by simp only [evalF, upd, argsF, ofConst, ofCell, Nat.reduceEqDiff, reduceIte, List.getD_cons_zero, List.getD_cons_succ, List.getD_nil] <;> rfl) (by exact (fa55_1 _ _ _)) (by decide) ?_
  refine ro_store (by simp only [evalF, upd, argsF, ofConst, ofCell, Nat.reduceEqDiff, reduceIte, List.getD_cons_zero, List.getD_cons_succ, List.getD_nil] <;> rfl) (by simp only [evalF, upd, argsF, ofConst, ofCell, Nat.reduceEqDiff, reduceIte, List.getD_cons_zero, List.getD_cons_succ, List.getD_nil] <;> rfl) (store1 sz3 hpp rfl rfl (by show 0 + 2 + 1 ≤ 3; omega)) ?_
  refine ro_nil ?_
  simp only
  generalize hhp1 : setHp hp idp _ = hp1
  have hpp1 : AI.look hp1 idp 1 = some [.pv (.int .u64 x), l, .pv (.int .i64 (k + 1))] := by
    rw [← hhp1]; exact look_same _ _ _ _
  have hkeep1 : Keeps idp nb hp hp1 := by
    intro id _ hne
    rw [← hhp1]; simp [setHp, hne]
  clear hhp1
  refine ex_seq (ex_weaken (K := fun xa g' hp' nb' => xa = .normal ∧ g' 0 = .ptr idp 1 0 ∧ g' 6 = .pv (.bool (lostB x k)) ∧ g' 5 = .pv (.int .i64 k) ∧ hp' = hp1 ∧ nb' = nb) ?_ ?_)
  · by_cases hk : k < 64
    · refine ex_region ?_
      refine ro_move (by simp only [evalF, upd, argsF, ofConst, ofCell, Nat.reduceEqDiff, reduceIte, List.getD_cons_zero, List.getD_cons_succ, List.getD_nil] <;> rfl) (by decide) ?_
      refine ro_bin (by simp only [evalF, upd, argsF, ofConst, ofCell, Nat.reduceEqDiff, reduceIte, List.getD_cons_zero, List.getD_cons_succ, List.getD_nil] <;> rfl) (by simp only [evalF, upd, argsF, ofConst, ofCell, Nat.reduceEqDiff, reduceIte, List.getD_cons_zero, List.getD_cons_succ, List.getD_nil] <;> rfl) (by exact (show some (AV.pv (.bool (decide (k < 64)))) = some (AV.pv (.bool true)) from by rw [decide_eq_true hk])) (by decide) ?_
      refine ro_move (by simp only [evalF, upd, argsF, ofConst, ofCell, Nat.reduceEqDiff, reduceIte, List.getD_cons_zero, List.getD_cons_succ, List.getD_nil] <;> rfl) (by decide) ?_
      refine ro_guard rfl (by simp only [evalF, upd, argsF, ofConst, ofCell, Nat.reduceEqDiff, reduceIte, List.getD_cons_zero, List.getD_cons_succ, List.getD_nil] <;> rfl) rfl ?_
      refine ro_move (by simp only [evalF, upd, argsF, ofConst, ofCell, Nat.reduceEqDiff, reduceIte, List.getD_cons_zero, List.getD_cons_succ, List.getD_nil] <;> rfl) (by decide) ?_
      refine ro_guard rfl (by simp only [evalF, upd, argsF, ofConst, ofCell, Nat.reduceEqDiff, reduceIte, List.getD_cons_zero, List.getD_cons_succ, List.getD_nil] <;> rfl) rfl ?_
      refine ro_nilCheck (by simp only [evalF, upd, argsF, ofConst, ofCell, Nat.reduceEqDiff, reduceIte, List.getD_cons_zero, List.getD_cons_succ, List.getD_nil] <;> rfl) (by decide) ?_
      refine ro_guard rfl (by simp only [evalF, upd, argsF, ofConst, ofCell, Nat.reduceEqDiff, reduceIte, List.getD_cons_zero, List.getD_cons_succ, List.getD_nil] <;> rfl) rfl ?_
      refine ro_fieldAddr (by simp only [evalF, upd, argsF, ofConst, ofCell, Nat.reduceEqDiff, reduceIte, List.getD_cons_zero, List.getD_cons_succ, List.getD_nil] <;> rfl) (by exact (fa55_0 _ _ _)) (by decide) ?_
      refine ro_guard rfl (by simp only [evalF, upd, argsF, ofConst, ofCell, Nat.reduceEqDiff, reduceIte, List.getD_cons_zero, List.getD_cons_succ, List.getD_nil] <;> rfl) rfl ?_
      refine ro_fieldAddr (by simp only [evalF, upd, argsF, ofConst, ofCell, Nat.reduceEqDiff, reduceIte, List.getD_cons_zero, List.getD_cons_succ, List.getD_nil] <;> rfl) (by exact (fa47_0 _ _ _)) (by decide) ?_
      refine ro_guard rfl (by simp only [evalF, upd, argsF, ofConst, ofCell, Nat.reduceEqDiff, reduceIte, List.getD_cons_zero, List.getD_cons_succ, List.getD_nil] <;> rfl) rfl ?_
      refine ro_load (by simp only [evalF, upd, argsF, ofConst, ofCell, Nat.reduceEqDiff, reduceIte, List.getD_cons_zero, List.getD_cons_succ, List.getD_nil] <;> rfl) (by exact (load1 ag44 hpp1 rfl)) (by decide) ?_
      refine ro_guard rfl (by simp only [evalF, upd, argsF, ofConst, ofCell, Nat.reduceEqDiff, reduceIte, List.getD_cons_zero, List.getD_cons_succ, List.getD_nil] <;> rfl) rfl ?_
      refine ro_move (by simp only [evalF, upd, argsF, ofConst, ofCell, Nat.reduceEqDiff, reduceIte, List.getD_cons_zero, List.getD_cons_succ, List.getD_nil] <;> rfl) (by decide) ?_
      refine ro_guard rfl (by simp only [evalF, upd, argsF, ofConst, ofCell, Nat.reduceEqDiff, reduceIte, List.getD_cons_zero, List.getD_cons_succ, List.getD_nil] <;> rfl) rfl ?_
      refine ro_conv (by simp only [evalF, upd, argsF, ofConst, ofCell, Nat.reduceEqDiff, reduceIte, List.getD_cons_zero, List.getD_cons_succ, List.getD_nil] <;> rfl) (by exact (conv_74 k hk0 _ _)) (by decide) ?_
      refine ro_guard rfl (by simp only [evalF, upd, argsF, ofConst, ofCell, Nat.reduceEqDiff, reduceIte, List.getD_cons_zero, List.getD_cons_succ, List.getD_nil] <;> rfl) rfl ?_
      refine ro_bin (by simp only [evalF, upd, argsF, ofConst, ofCell, Nat.reduceEqDiff, reduceIte, List.getD_cons_zero, List.getD_cons_succ, List.getD_nil] <;> rfl) (by simp only [evalF, upd, argsF, ofConst, ofCell, Nat.reduceEqDiff, reduceIte, List.getD_cons_zero, List.getD_cons_succ, List.getD_nil] <;> rfl) (by exact (show _ = some (AV.pv (.int .u64 (x.fdiv (2 ^ (min k.toNat IntKind.u64.bits))))) from by simp only [binOpA, shiftA, if_neg (show ¬ k < 0 by omega), Option.map_some])) (by decide) ?_
      refine ro_guard rfl (by simp only [evalF, upd, argsF, ofConst, ofCell, Nat.reduceEqDiff, reduceIte, List.getD_cons_zero, List.getD_cons_succ, List.getD_nil] <;> rfl) rfl ?_
      refine ro_bin (by simp only [evalF, upd, argsF, ofConst, ofCell, Nat.reduceEqDiff, reduceIte, List.getD_cons_zero, List.getD_cons_succ, List.getD_nil] <;> rfl) (by simp only [evalF, upd, argsF, ofConst, ofCell, Nat.reduceEqDiff, reduceIte, List.getD_cons_zero, List.getD_cons_succ, List.getD_nil] <;> rfl) (by exact (rfl)) (by decide) ?_
      refine ro_guard rfl (by simp only [evalF, upd, argsF, ofConst, ofCell, Nat.reduceEqDiff, reduceIte, List.getD_cons_zero, List.getD_cons_succ, List.getD_nil] <;> rfl) rfl ?_
      refine ro_bin (by simp only [evalF, upd, argsF, ofConst, ofCell, Nat.reduceEqDiff, reduceIte, List.getD_cons_zero, List.getD_cons_succ, List.getD_nil] <;> rfl) (by simp only [evalF, upd, argsF, ofConst, ofCell, Nat.reduceEqDiff, reduceIte, List.getD_cons_zero, List.getD_cons_succ, List.getD_nil] <;> rfl) (by exact (rfl)) (by decide) ?_
      refine ro_pick (by simp only [evalF, upd, argsF, ofConst, ofCell, Nat.reduceEqDiff, reduceIte, List.getD_cons_zero, List.getD_cons_succ, List.getD_nil] <;> rfl) (by simp only [evalF, upd, argsF, ofConst, ofCell, Nat.reduceEqDiff, reduceIte, List.getD_cons_zero, List.getD_cons_succ, List.getD_nil] <;> rfl) (by simp only [evalF, upd, argsF, ofConst, ofCell, Nat.reduceEqDiff, reduceIte, List.getD_cons_zero, List.getD_cons_succ, List.getD_nil] <;> rfl) (by decide) ?_
      refine ro_assign (by simp only [evalF, upd, argsF, ofConst, ofCell, Nat.reduceEqDiff, reduceIte, List.getD_cons_zero, List.getD_cons_succ, List.getD_nil] <;> rfl) (by decide) ?_
      refine ro_nil ?_
      refine ⟨by first | rfl | trivial, by simp [upd, argsF], ?_, by simp [upd], rfl, rfl⟩
      simp only [upd, Nat.reduceEqDiff, reduceIte, lostB, if_pos hk]
    · refine ex_region ?_
      refine ro_move (by simp only [evalF, upd, argsF, ofConst, ofCell, Nat.reduceEqDiff, reduceIte, List.getD_cons_zero, List.getD_cons_succ, List.getD_nil] <;> rfl) (by decide) ?_
      refine ro_bin (by simp only [evalF, upd, argsF, ofConst, ofCell, Nat.reduceEqDiff, reduceIte, List.getD_cons_zero, List.getD_cons_succ, List.getD_nil] <;> rfl) (by simp only [evalF, upd, argsF, ofConst, ofCell, Nat.reduceEqDiff, reduceIte, List.getD_cons_zero, List.getD_cons_succ, List.getD_nil] <;> rfl) (by exact (show some (AV.pv (.bool (decide (k < 64)))) = some (AV.pv (.bool false)) from by rw [decide_eq_false hk])) (by decide) ?_
      refine ro_move (by simp only [evalF, upd, argsF, ofConst, ofCell, Nat.reduceEqDiff, reduceIte, List.getD_cons_zero, List.getD_cons_succ, List.getD_nil] <;> rfl) (by decide) ?_
      refine ro_skip rfl (by simp only [evalF, upd, argsF, ofConst, ofCell, Nat.reduceEqDiff, reduceIte, List.getD_cons_zero, List.getD_cons_succ, List.getD_nil] <;> rfl) rfl (fun e he => by cases he; decide) ?_
      simp only [putF]
      refine ro_skip rfl (by simp only [evalF, upd, argsF, ofConst, ofCell, Nat.reduceEqDiff, reduceIte, List.getD_cons_zero, List.getD_cons_succ, List.getD_nil] <;> rfl) rfl (fun e he => by cases he; decide) ?_
      simp only [putF]
      refine ro_skip rfl (by simp only [evalF, upd, argsF, ofConst, ofCell, Nat.reduceEqDiff, reduceIte, List.getD_cons_zero, List.getD_cons_succ, List.getD_nil] <;> rfl) rfl (fun e he => by cases he; decide) ?_
      simp only [putF]
      refine ro_skip rfl (by simp only [evalF, upd, argsF, ofConst, ofCell, Nat.reduceEqDiff, reduceIte, List.getD_cons_zero, List.getD_cons_succ, List.getD_nil] <;> rfl) rfl (fun e he => by cases he; decide) ?_
      simp only [putF]
      refine ro_skip rfl (by simp only [evalF, upd, argsF, ofConst, ofCell, Nat.reduceEqDiff, reduceIte, List.getD_cons_zero, List.getD_cons_succ, List.getD_nil] <;> rfl) rfl (fun e he => by cases he; decide) ?_
      simp only [putF]
      refine ro_skip rfl (by simp only [evalF, upd, argsF, ofConst, ofCell, Nat.reduceEqDiff, reduceIte, List.getD_cons_zero, List.getD_cons_succ, List.getD_nil] <;> rfl) rfl (fun e he => by cases he; decide) ?_
      simp only [putF]
      refine ro_skip rfl (by simp only [evalF, upd, argsF, ofConst, ofCell, Nat.reduceEqDiff, reduceIte, List.getD_cons_zero, List.getD_cons_succ, List.getD_nil] <;> rfl) rfl (fun e he => by cases he; decide) ?_
      simp only [putF]
      refine ro_skip rfl (by simp only [evalF, upd, argsF, ofConst, ofCell, Nat.reduceEqDiff, reduceIte, List.getD_cons_zero, List.getD_cons_succ, List.getD_nil] <;> rfl) rfl (fun e he => by cases he; decide) ?_
      simp only [putF]
      refine ro_skip rfl (by simp only [evalF, upd, argsF, ofConst, ofCell, Nat.reduceEqDiff, reduceIte, List.getD_cons_zero, List.getD_cons_succ, List.getD_nil] <;> rfl) rfl (fun e he => by cases he; decide) ?_
      simp only [putF]
      refine ro_skip rfl (by simp only [evalF, upd, argsF, ofConst, ofCell, Nat.reduceEqDiff, reduceIte, List.getD_cons_zero, List.getD_cons_succ, List.getD_nil] <;> rfl) rfl (fun e he => by cases he; decide) ?_
      simp only [putF]
      refine ro_pick (by simp only [evalF, upd, argsF, ofConst, ofCell, Nat.reduceEqDiff, reduceIte, List.getD_cons_zero, List.getD_cons_succ, List.getD_nil] <;> rfl) (by simp only [evalF, upd, argsF, ofConst, ofCell, Nat.reduceEqDiff, reduceIte, List.getD_cons_zero, List.getD_cons_succ, List.getD_nil] <;> rfl) (by simp only [evalF, upd, argsF, ofConst, ofCell, Nat.reduceEqDiff, reduceIte, List.getD_cons_zero, List.getD_cons_succ, List.getD_nil] <;> rfl) (by decide) ?_
      refine ro_assign (by simp only [evalF, upd, argsF, ofConst, ofCell, Nat.reduceEqDiff, reduceIte, List.getD_cons_zero, List.getD_cons_succ, List.getD_nil] <;> rfl) (by decide) ?_
      refine ro_nil ?_
      refine ⟨by first | rfl | trivial, by simp [upd, argsF], ?_, by simp [upd], rfl, rfl⟩
      simp [upd, lostB, if_neg hk]
  rintro xa g1 hpx nbx ⟨rfl, h0, h6, h5, hx1, hx2⟩
  rw [hx1, hx2]
  clear hx1 hx2 hpx nbx
  simp only
  refine ex_seq ?_
  refine ex_seq (ex_region ?_)
  refine ro_assign (by simp only [evalF, upd, argsF, ofConst, ofCell, Nat.reduceEqDiff, reduceIte, List.getD_cons_zero, List.getD_cons_succ, List.getD_nil] <;> rfl) (by decide) ?_
  refine ro_nil ?_
  simp only
  refine ex_block (ex_loop (I := fun m g hpx nbx => ∃ i : Nat, m = cs.length - i ∧ i ≤ cs.length ∧ (∀ (j : Nat) (q : Int × PV), j < i → cs[j]? = some q → q.1 ≠ k) ∧ g 0 = .ptr idp 1 0 ∧ g 6 = .pv (.bool (lostB x k)) ∧ g 5 = .pv (.int .i64 k) ∧
    g 7 = .pv (.int .i64 i) ∧ hpx = hp1 ∧ nbx = nb)
    (m := cs.length) ⟨0, rfl, Nat.zero_le _, fun j q hj => by omega, by simp [upd, h0], by simp [upd, h6], by simp [upd, h5], by simp [upd], rfl, rfl⟩ hlim ?_)
  rintro m g hpx nbx ⟨i, hm, hi, hno, h0, h6, h5, h7, rfl, rfl⟩
  refine ex_seq ?_
  refine ex_seq (ex_region ?_)
  refine ro_move (by simp only [evalF, upd, argsF, ofConst, ofCell, Nat.reduceEqDiff, reduceIte, List.getD_cons_zero, List.getD_cons_succ, List.getD_nil, h0, h6, h5, h7] <;> rfl) (by decide) ?_
  refine ro_move (by simp only [evalF, upd, argsF, ofConst, ofCell, Nat.reduceEqDiff, reduceIte, List.getD_cons_zero, List.getD_cons_succ, List.getD_nil, h0, h6, h5, h7] <;> rfl) (by decide) ?_
  refine ro_nilCheck (by simp only [evalF, upd, argsF, ofConst, ofCell, Nat.reduceEqDiff, reduceIte, List.getD_cons_zero, List.getD_cons_succ, List.getD_nil, h0, h6, h5, h7] <;> rfl) (by decide) ?_
  refine ro_fieldAddr (by simp only [evalF, upd, argsF, ofConst, ofCell, Nat.reduceEqDiff, reduceIte, List.getD_cons_zero, List.getD_cons_succ, List.getD_nil, h0, h6, h5, h7] <;> rfl) (by exact (fa55_0 _ _ _)) (by decide) ?_
  refine ro_fieldAddr (by simp only [evalF, upd, argsF, ofConst, ofCell, Nat.reduceEqDiff, reduceIte, List.getD_cons_zero, List.getD_cons_succ, List.getD_nil, h0, h6, h5, h7] <;> rfl) (by exact (fa47_1 _ _ _)) (by decide) ?_
  refine ro_load (by simp only [evalF, upd, argsF, ofConst, ofCell, Nat.reduceEqDiff, reduceIte, List.getD_cons_zero, List.getD_cons_succ, List.getD_nil, h0, h6, h5, h7] <;> rfl) (by exact (load1 ag45 hpp1 rfl)) (by decide) ?_
  refine ro_builtin rfl (by simp only [List.map_cons, List.map_nil, evalF, upd, argsF, ofConst, ofCell, Nat.reduceEqDiff, reduceIte, List.getD_cons_zero, List.getD_cons_succ, List.getD_nil, h0, h6, h5, h7] <;> rfl) (by exact (len45 (hL _ hkeep1).len)) (by decide) ?_
  refine ro_bin (by simp only [evalF, upd, argsF, ofConst, ofCell, Nat.reduceEqDiff, reduceIte, List.getD_cons_zero, List.getD_cons_succ, List.getD_nil, h0, h6, h5, h7] <;> rfl) (by simp only [evalF, upd, argsF, ofConst, ofCell, Nat.reduceEqDiff, reduceIte, List.getD_cons_zero, List.getD_cons_succ, List.getD_nil, h0, h6, h5, h7] <;> rfl) (by exact (rfl)) (by decide) ?_
  refine ro_nil ?_
  simp only
  refine ex_cond (t := decide ((i : Int) < cs.length)) (by simp only [evalF, upd, argsF, ofConst, ofCell, Nat.reduceEqDiff, reduceIte, List.getD_cons_zero, List.getD_cons_succ, List.getD_nil, h0, h6, h5, h7] <;> rfl) (fun ht => ?_) (fun ht => ?_)
  rotate_left
  · -- all have been looked at
    have hie : i = cs.length := by
      have := of_decide_eq_false ht
      omega
    refine ex_exit ?_
    simp only [if_true]
    refine ex_seq (ex_region ?_)
    refine ro_move (by simp only [evalF, upd, argsF, ofConst, ofCell, Nat.reduceEqDiff, reduceIte, List.getD_cons_zero, List.getD_cons_succ, List.getD_nil, h0, h6, h5, h7] <;> rfl) (by decide) ?_
    refine ro_assign (by simp only [evalF, upd, argsF, ofConst, ofCell, Nat.reduceEqDiff, reduceIte, List.getD_cons_zero, List.getD_cons_succ, List.getD_nil, h0, h6, h5, h7] <;> rfl) (by decide) ?_
    refine ro_assign (by simp only [evalF, upd, argsF, ofConst, ofCell, Nat.reduceEqDiff, reduceIte, List.getD_cons_zero, List.getD_cons_succ, List.getD_nil, h0, h6, h5, h7] <;> rfl) (by decide) ?_
    refine ro_assign (by simp only [evalF, upd, argsF, ofConst, ofCell, Nat.reduceEqDiff, reduceIte, List.getD_cons_zero, List.getD_cons_succ, List.getD_nil, h0, h6, h5, h7] <;> rfl) (by decide) ?_
    refine ro_nil ?_
    simp only
    refine ex_ret ?_
    refine ⟨_, rfl, ?_, hpp1, hkeep1, rfl⟩
    have hs := said_miss (cs := cs) (k := k) (fun j q hq => hno j q (by
      have := (List.getElem?_eq_some_iff.1 hq).1
      omega) hq)
    rw [hs]
    simp [upd, resOneF, h6]
  · refine ex_skip ?_
    simp only
    have hil : i < cs.length := by
      have := of_decide_eq_true ht
      omega
    obtain ⟨a, ha, hla, ⟨a0, hf0, hl0⟩, ⟨a1, hf1, hl1⟩⟩ := (hL _ hkeep1).at_ i cs[i] (List.getElem?_eq_getElem hil)
    refine ex_seq (ex_block ?_)
    refine ex_seq (ex_region ?_)
    refine ro_move (by simp only [evalF, upd, argsF, ofConst, ofCell, Nat.reduceEqDiff, reduceIte, List.getD_cons_zero, List.getD_cons_succ, List.getD_nil, h0, h6, h5, h7] <;> rfl) (by decide) ?_
    refine ro_nilCheck (by simp only [evalF, upd, argsF, ofConst, ofCell, Nat.reduceEqDiff, reduceIte, List.getD_cons_zero, List.getD_cons_succ, List.getD_nil, h0, h6, h5, h7] <;> rfl) (by decide) ?_
    refine ro_fieldAddr (by simp only [evalF, upd, argsF, ofConst, ofCell, Nat.reduceEqDiff, reduceIte, List.getD_cons_zero, List.getD_cons_succ, List.getD_nil, h0, h6, h5, h7] <;> rfl) (by exact (fa55_0 _ _ _)) (by decide) ?_
    refine ro_fieldAddr (by simp only [evalF, upd, argsF, ofConst, ofCell, Nat.reduceEqDiff, reduceIte, List.getD_cons_zero, List.getD_cons_succ, List.getD_nil, h0, h6, h5, h7] <;> rfl) (by exact (fa47_1 _ _ _)) (by decide) ?_
    refine ro_load (by simp only [evalF, upd, argsF, ofConst, ofCell, Nat.reduceEqDiff, reduceIte, List.getD_cons_zero, List.getD_cons_succ, List.getD_nil, h0, h6, h5, h7] <;> rfl) (by exact (load1 ag45 hpp1 rfl)) (by decide) ?_
    refine ro_move (by simp only [evalF, upd, argsF, ofConst, ofCell, Nat.reduceEqDiff, reduceIte, List.getD_cons_zero, List.getD_cons_succ, List.getD_nil, h0, h6, h5, h7] <;> rfl) (by decide) ?_
    refine ro_indexAddr (by simp only [evalF, upd, argsF, ofConst, ofCell, Nat.reduceEqDiff, reduceIte, List.getD_cons_zero, List.getD_cons_succ, List.getD_nil, h0, h6, h5, h7] <;> rfl) (by simp only [evalF, upd, argsF, ofConst, ofCell, Nat.reduceEqDiff, reduceIte, List.getD_cons_zero, List.getD_cons_succ, List.getD_nil, h0, h6, h5, h7] <;> rfl) (by exact (ha)) (by decide) ?_
    refine ro_fieldAddr (by simp only [evalF, upd, argsF, ofConst, ofCell, Nat.reduceEqDiff, reduceIte, List.getD_cons_zero, List.getD_cons_succ, List.getD_nil, h0, h6, h5, h7] <;> rfl) (by exact (hf0)) (by decide) ?_
    refine ro_load (by simp only [evalF, upd, argsF, ofConst, ofCell, Nat.reduceEqDiff, reduceIte, List.getD_cons_zero, List.getD_cons_succ, List.getD_nil, h0, h6, h5, h7] <;> rfl) (by exact (hl0)) (by decide) ?_
    refine ro_move (by simp only [evalF, upd, argsF, ofConst, ofCell, Nat.reduceEqDiff, reduceIte, List.getD_cons_zero, List.getD_cons_succ, List.getD_nil, h0, h6, h5, h7] <;> rfl) (by decide) ?_
    refine ro_bin (by simp only [evalF, upd, argsF, ofConst, ofCell, Nat.reduceEqDiff, reduceIte, List.getD_cons_zero, List.getD_cons_succ, List.getD_nil, h0, h6, h5, h7] <;> rfl) (by simp only [evalF, upd, argsF, ofConst, ofCell, Nat.reduceEqDiff, reduceIte, List.getD_cons_zero, List.getD_cons_succ, List.getD_nil, h0, h6, h5, h7] <;> rfl) (by exact (rfl)) (by decide) ?_
    refine ro_nil ?_
    simp only
    refine ex_cond (t := cs[i].1 == k) (by simp only [evalF, upd, argsF, ofConst, ofCell, Nat.reduceEqDiff, reduceIte, List.getD_cons_zero, List.getD_cons_succ, List.getD_nil, h0, h6, h5, h7] <;> rfl) (fun hb => ?_) (fun hb => ?_)
    · have hpe : cs[i].1 = k := by simpa using hb
      refine ex_seq (ex_draw hst8 ?_)
      have hev : ∀ {g : Gm} {hp : Hp} {nb : Nat} {op : Op} {v : AV}, primA Try.prog (evalF g) hp nb op = some (.val v) → primA Try.prog (evalF g) hp nb op = some (.val v) := fun h => h
      refine rd_val (v := .pv (.bool (lostB x k))) rfl (by simp [primA, evalF, upd, h6]) (by decide) ?_
      refine rd_val (v := .ptr idp 1 0) rfl (by simp [primA, evalF, upd, h0]) (by decide) ?_
      refine rd_val (v := .ptr idp 1 0) rfl (by simp [primA, evalF, upd]) (by decide) ?_
      refine rd_val (v := .ptr idp 1 0) rfl (by simp [primA, evalF, upd, fa55_0]) (by decide) ?_
      refine rd_val (v := .ptr idp 1 1) rfl (by simp [primA, evalF, upd, fa47_1]) (by decide) ?_
      refine rd_val (v := l) rfl (by simp only [primA, evalF, upd, Nat.reduceEqDiff, reduceIte, load1 ag45 hpp1 (show ([.pv (.int .u64 x), l, .pv (.int .i64 (k + 1))] : List AV)[1]? = some l from rfl), Option.map_some]) (by decide) ?_
      refine rd_val (v := .pv (.int .i64 i)) rfl (by simp [primA, evalF, upd, h7]) (by decide) ?_
      refine rd_val (v := a) rfl (by simp only [primA, evalF, upd, Nat.reduceEqDiff, reduceIte, ha, Option.map_some]) (by decide) ?_
      refine rd_val (v := a1) rfl (by simp only [primA, evalF, upd, Nat.reduceEqDiff, reduceIte, hf1, Option.map_some]) (by decide) ?_
      refine rd_val (v := .pv cs[i].2) rfl (by simp only [primA, evalF, upd, Nat.reduceEqDiff, reduceIte, hl1, Option.map_some]) (by decide) ?_
      refine rd_val (v := .pv (.bool (lostB x k))) rfl (by simp [primA, evalF, upd]) (by decide) ?_
      refine rd_val (v := .pv (.bool true)) rfl (by simp [primA, evalF, upd, ofConst, ofCell]) (by decide) ?_
      refine rd_val (v := .pv cs[i].2) rfl (by simp [primA, evalF, upd]) (by decide) ?_
      refine rd_nil ⟨rfl, ?_⟩
      simp only
      refine ex_ret ?_
      refine ⟨_, rfl, ?_, hpp1, hkeep1, rfl⟩
      rw [said_hit (List.getElem?_eq_getElem hil) hpe hno]
      simp [upd, resOneF]
    · refine ex_skip ?_
      simp only
      refine ex_region ?_
      refine ro_move (by simp only [evalF, upd, argsF, ofConst, ofCell, Nat.reduceEqDiff, reduceIte, List.getD_cons_zero, List.getD_cons_succ, List.getD_nil, h0, h6, h5, h7] <;> rfl) (by decide) ?_
      refine ro_bin (by simp only [evalF, upd, argsF, ofConst, ofCell, Nat.reduceEqDiff, reduceIte, List.getD_cons_zero, List.getD_cons_succ, List.getD_nil, h0, h6, h5, h7] <;> rfl) (by simp only [evalF, upd, argsF, ofConst, ofCell, Nat.reduceEqDiff, reduceIte, List.getD_cons_zero, List.getD_cons_succ, List.getD_nil, h0, h6, h5, h7] <;> rfl) (by exact (show _ = some (AV.pv (.int .i64 ((i : Int) + 1))) from by show some (AV.pv (.int .i64 (IntKind.i64.wrap ((i : Int) + 1)))) = _; rw [IntWalk.i64_in _ (by omega)])) (by decide) ?_
      refine ro_assign (by simp only [evalF, upd, argsF, ofConst, ofCell, Nat.reduceEqDiff, reduceIte, List.getD_cons_zero, List.getD_cons_succ, List.getD_nil, h0, h6, h5, h7] <;> rfl) (by decide) ?_
      refine ro_nil ?_
      refine ⟨cs.length - (i + 1), by omega, i + 1, rfl, by omega, ?_, by simp [upd, h0], by simp [upd, h6], by simp [upd, h5], by simp [upd], rfl, rfl⟩
      intro j q hj hq
      rcases Nat.lt_or_ge j i with h | h
      · exact hno j q h hq
      · have : j = i := by omega
        subst this
        rw [List.getElem?_eq_getElem hil] at hq
        cases hq
        simpa using hb
end Go.Proofs.Ytabpcmmkmbchnaa
