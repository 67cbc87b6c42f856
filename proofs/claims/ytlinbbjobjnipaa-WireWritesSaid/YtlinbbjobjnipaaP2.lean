/- Reading: a node or none; numbers. -/
import Derived.Test.YtlinbbjobjnipaaP1
set_option linter.unusedVariables false
set_option linter.unusedSimpArgs false
set_option linter.unusedSectionVars false
namespace Go.Proofs.Ytlinbbjobjnipaa
open Go AI

set_option maxHeartbeats 4000000
set_option maxRecDepth 10000

def predR (b : List Int) (e : Int) : Int × List Int × Int :=
  match b with
  | x :: r => if e = 0 ∧ x = 255 then (-1, r, 0) else byteR b e 9
  | [] => byteR b e 9

theorem eql5 (x y : Int) : binOpA Try.prog .eql 5 (.pv (.int .u8 x)) (.pv (.int .u8 y)) = some (.pv (.bool (x == y))) := rfl

theorem pred_calls (S : CallG) (pure : Nat → Bool) (lim d : Nat) (hpu : pure 27 = false) (hpu2 : pure 44 = false) (hpu3 : pure 43 = false) (hlim : 2 ≤ lim) {hp : Hp} {nb idr q : Nat} {b : List Int} {e : Int} (hb : ∀ x ∈ b, 0 ≤ x ∧ x ≤ 255) (h : Rd hp nb idr q b e) :
    CA (callA Try.prog S pure lim (d + 4)) 42 [.ptr idr 1 0] hp nb fun v hp' nb' => v = .pv (.int .i64 (predR b e).1) ∧ Rd hp' nb idr q (predR b e).2.1 (predR b e).2.2 ∧ KeepR hp nb idr hp' nb' := by
  obtain ⟨v, hl, hr, ho⟩ := h.ex
  have hlen : (u8s b).length = b.length := by simp [u8s]
  refine ca_body (fn := Try.f42) (c := bodyOf Try.f42) Try.func42 rfl (by show 1 ≤ 35; omega) ?_
  show EX _ _ _ _ _ 35 _ _ _ _ _
  unfold bodyOf Try.f42
  refine ex_seq (ex_region ?_)
  refine ro_assign (by simp only [evalF, upd, arg0, argS, ofConst, ofCell, Nat.reduceEqDiff, reduceIte] <;> rfl) (by decide) ?_
  refine ro_nil ?_
  try simp only
  refine ex_seq (ex_seq (ex_weaken (K := fun xa g' hp' nb' => xa = .normal ∧ g' 0 = .ptr idr 1 0 ∧ g' 24 = .pv (.bool (decide (e = 0) && (b.head? == some 255))) ∧ hp' = hp ∧ nb' = nb) ?_ ?_))
  · cases hbb : b with
    | nil =>
      subst hbb
      refine ex_region ?_
      refine ro_move (by simp only [evalF, upd, arg0, argS, ofConst, ofCell, Nat.reduceEqDiff, reduceIte] <;> rfl) (by decide) ?_
      refine ro_nilCheck (by simp only [evalF, upd, arg0, argS, ofConst, ofCell, Nat.reduceEqDiff, reduceIte] <;> rfl) (by decide) ?_
      refine ro_fieldAddr (by simp only [evalF, upd, arg0, argS, ofConst, ofCell, Nat.reduceEqDiff, reduceIte] <;> rfl) (by exact (fa58_0 _ _ _)) (by decide) ?_
      refine ro_load (by simp only [evalF, upd, arg0, argS, ofConst, ofCell, Nat.reduceEqDiff, reduceIte] <;> rfl) (by exact (load1 ag27 hl rfl)) (by decide) ?_
      refine ro_builtin rfl (by simp only [List.map_cons, List.map_nil, evalF, upd, arg0, argS, ofConst, ofCell, Nat.reduceEqDiff, reduceIte] <;> rfl) (by exact (row_len st27 hr)) (by decide) ?_
      refine ro_bin (by simp only [evalF, upd, arg0, argS, ofConst, ofCell, Nat.reduceEqDiff, reduceIte] <;> rfl) (by simp only [evalF, upd, arg0, argS, ofConst, ofCell, Nat.reduceEqDiff, reduceIte] <;> rfl) (by exact (gtr_f (by simp [u8s]))) (by decide) ?_
      refine ro_move (by simp only [evalF, upd, arg0, argS, ofConst, ofCell, Nat.reduceEqDiff, reduceIte] <;> rfl) (by decide) ?_
      refine ro_skip rfl (by simp only [evalF, upd, arg0, argS, ofConst, ofCell, Nat.reduceEqDiff, reduceIte] <;> rfl) rfl (fun e he => by cases he; decide) ?_
      simp only [putF]
      refine ro_skip rfl (by simp only [evalF, upd, arg0, argS, ofConst, ofCell, Nat.reduceEqDiff, reduceIte] <;> rfl) rfl (fun e he => by cases he; decide) ?_
      simp only [putF]
      refine ro_skip rfl (by simp only [evalF, upd, arg0, argS, ofConst, ofCell, Nat.reduceEqDiff, reduceIte] <;> rfl) rfl (fun e he => by cases he; decide) ?_
      simp only [putF]
      refine ro_skip rfl (by simp only [evalF, upd, arg0, argS, ofConst, ofCell, Nat.reduceEqDiff, reduceIte] <;> rfl) rfl (fun e he => by cases he; decide) ?_
      simp only [putF]
      refine ro_skip rfl (by simp only [evalF, upd, arg0, argS, ofConst, ofCell, Nat.reduceEqDiff, reduceIte] <;> rfl) rfl (fun e he => by cases he; decide) ?_
      simp only [putF]
      refine ro_pick (by simp only [evalF, upd, arg0, argS, ofConst, ofCell, Nat.reduceEqDiff, reduceIte] <;> rfl) (by simp only [evalF, upd, arg0, argS, ofConst, ofCell, Nat.reduceEqDiff, reduceIte] <;> rfl) (by simp only [evalF, upd, arg0, argS, ofConst, ofCell, Nat.reduceEqDiff, reduceIte] <;> rfl) (by decide) ?_
      refine ro_move (by simp only [evalF, upd, arg0, argS, ofConst, ofCell, Nat.reduceEqDiff, reduceIte] <;> rfl) (by decide) ?_
      refine ro_skip rfl (by simp only [evalF, upd, arg0, argS, ofConst, ofCell, Nat.reduceEqDiff, reduceIte] <;> rfl) rfl (fun e he => by cases he; decide) ?_
      simp only [putF]
      refine ro_skip rfl (by simp only [evalF, upd, arg0, argS, ofConst, ofCell, Nat.reduceEqDiff, reduceIte] <;> rfl) rfl (fun e he => by cases he; decide) ?_
      simp only [putF]
      refine ro_skip rfl (by simp only [evalF, upd, arg0, argS, ofConst, ofCell, Nat.reduceEqDiff, reduceIte] <;> rfl) rfl (fun e he => by cases he; decide) ?_
      simp only [putF]
      refine ro_skip rfl (by simp only [evalF, upd, arg0, argS, ofConst, ofCell, Nat.reduceEqDiff, reduceIte] <;> rfl) rfl (fun e he => by cases he; decide) ?_
      simp only [putF]
      refine ro_skip rfl (by simp only [evalF, upd, arg0, argS, ofConst, ofCell, Nat.reduceEqDiff, reduceIte] <;> rfl) rfl (fun e he => by cases he; decide) ?_
      simp only [putF]
      refine ro_skip rfl (by simp only [evalF, upd, arg0, argS, ofConst, ofCell, Nat.reduceEqDiff, reduceIte] <;> rfl) rfl (fun e he => by cases he; decide) ?_
      simp only [putF]
      refine ro_skip rfl (by simp only [evalF, upd, arg0, argS, ofConst, ofCell, Nat.reduceEqDiff, reduceIte] <;> rfl) rfl (fun e he => by cases he; decide) ?_
      simp only [putF]
      refine ro_pick (by simp only [evalF, upd, arg0, argS, ofConst, ofCell, Nat.reduceEqDiff, reduceIte] <;> rfl) (by simp only [evalF, upd, arg0, argS, ofConst, ofCell, Nat.reduceEqDiff, reduceIte] <;> rfl) (by simp only [evalF, upd, arg0, argS, ofConst, ofCell, Nat.reduceEqDiff, reduceIte] <;> rfl) (by decide) ?_
      refine ro_nil ?_
      refine ⟨by first | rfl | trivial, by simp [upd, argsF], ?_, by first | rfl | trivial, by first | rfl | trivial⟩
      simp [upd]
    | cons x t =>
      subst hbb
      obtain ⟨a, ha, hla⟩ := row_at st27 hr (i := 0) (x := .int .u8 x) rfl
      by_cases he : e = 0
      · refine ex_region ?_
        refine ro_move (by simp only [evalF, upd, arg0, argS, ofConst, ofCell, Nat.reduceEqDiff, reduceIte] <;> rfl) (by decide) ?_
        refine ro_nilCheck (by simp only [evalF, upd, arg0, argS, ofConst, ofCell, Nat.reduceEqDiff, reduceIte] <;> rfl) (by decide) ?_
        refine ro_fieldAddr (by simp only [evalF, upd, arg0, argS, ofConst, ofCell, Nat.reduceEqDiff, reduceIte] <;> rfl) (by exact (fa58_0 _ _ _)) (by decide) ?_
        refine ro_load (by simp only [evalF, upd, arg0, argS, ofConst, ofCell, Nat.reduceEqDiff, reduceIte] <;> rfl) (by exact (load1 ag27 hl rfl)) (by decide) ?_
        refine ro_builtin rfl (by simp only [List.map_cons, List.map_nil, evalF, upd, arg0, argS, ofConst, ofCell, Nat.reduceEqDiff, reduceIte] <;> rfl) (by exact (row_len st27 hr)) (by decide) ?_
        refine ro_bin (by simp only [evalF, upd, arg0, argS, ofConst, ofCell, Nat.reduceEqDiff, reduceIte] <;> rfl) (by simp only [evalF, upd, arg0, argS, ofConst, ofCell, Nat.reduceEqDiff, reduceIte] <;> rfl) (by exact (gtr_t (by simp [u8s] <;> omega))) (by decide) ?_
        refine ro_move (by simp only [evalF, upd, arg0, argS, ofConst, ofCell, Nat.reduceEqDiff, reduceIte] <;> rfl) (by decide) ?_
        refine ro_guard rfl (by simp only [evalF, upd, arg0, argS, ofConst, ofCell, Nat.reduceEqDiff, reduceIte] <;> rfl) rfl ?_
        refine ro_move (by simp only [evalF, upd, arg0, argS, ofConst, ofCell, Nat.reduceEqDiff, reduceIte] <;> rfl) (by decide) ?_
        refine ro_guard rfl (by simp only [evalF, upd, arg0, argS, ofConst, ofCell, Nat.reduceEqDiff, reduceIte] <;> rfl) rfl ?_
        refine ro_nilCheck (by simp only [evalF, upd, arg0, argS, ofConst, ofCell, Nat.reduceEqDiff, reduceIte] <;> rfl) (by decide) ?_
        refine ro_guard rfl (by simp only [evalF, upd, arg0, argS, ofConst, ofCell, Nat.reduceEqDiff, reduceIte] <;> rfl) rfl ?_
        refine ro_fieldAddr (by simp only [evalF, upd, arg0, argS, ofConst, ofCell, Nat.reduceEqDiff, reduceIte] <;> rfl) (by exact (fa58_1 _ _ _)) (by decide) ?_
        refine ro_guard rfl (by simp only [evalF, upd, arg0, argS, ofConst, ofCell, Nat.reduceEqDiff, reduceIte] <;> rfl) rfl ?_
        refine ro_load (by simp only [evalF, upd, arg0, argS, ofConst, ofCell, Nat.reduceEqDiff, reduceIte] <;> rfl) (by exact (load1 ag28 hl rfl)) (by decide) ?_
        refine ro_guard rfl (by simp only [evalF, upd, arg0, argS, ofConst, ofCell, Nat.reduceEqDiff, reduceIte] <;> rfl) rfl ?_
        refine ro_bin (by simp only [evalF, upd, arg0, argS, ofConst, ofCell, Nat.reduceEqDiff, reduceIte] <;> rfl) (by simp only [evalF, upd, arg0, argS, ofConst, ofCell, Nat.reduceEqDiff, reduceIte] <;> rfl) (by exact (show binOpA Try.prog .eql 28 (.pv (.int .i64 e)) (.pv (.int .i64 0)) = _ from eql_t he)) (by decide) ?_
        refine ro_pick (by simp only [evalF, upd, arg0, argS, ofConst, ofCell, Nat.reduceEqDiff, reduceIte] <;> rfl) (by simp only [evalF, upd, arg0, argS, ofConst, ofCell, Nat.reduceEqDiff, reduceIte] <;> rfl) (by simp only [evalF, upd, arg0, argS, ofConst, ofCell, Nat.reduceEqDiff, reduceIte] <;> rfl) (by decide) ?_
        refine ro_move (by simp only [evalF, upd, arg0, argS, ofConst, ofCell, Nat.reduceEqDiff, reduceIte] <;> rfl) (by decide) ?_
        refine ro_guard rfl (by simp only [evalF, upd, arg0, argS, ofConst, ofCell, Nat.reduceEqDiff, reduceIte] <;> rfl) rfl ?_
        refine ro_move (by simp only [evalF, upd, arg0, argS, ofConst, ofCell, Nat.reduceEqDiff, reduceIte] <;> rfl) (by decide) ?_
        refine ro_guard rfl (by simp only [evalF, upd, arg0, argS, ofConst, ofCell, Nat.reduceEqDiff, reduceIte] <;> rfl) rfl ?_
        refine ro_nilCheck (by simp only [evalF, upd, arg0, argS, ofConst, ofCell, Nat.reduceEqDiff, reduceIte] <;> rfl) (by decide) ?_
        refine ro_guard rfl (by simp only [evalF, upd, arg0, argS, ofConst, ofCell, Nat.reduceEqDiff, reduceIte] <;> rfl) rfl ?_
        refine ro_fieldAddr (by simp only [evalF, upd, arg0, argS, ofConst, ofCell, Nat.reduceEqDiff, reduceIte] <;> rfl) (by exact (fa58_0 _ _ _)) (by decide) ?_
        refine ro_guard rfl (by simp only [evalF, upd, arg0, argS, ofConst, ofCell, Nat.reduceEqDiff, reduceIte] <;> rfl) rfl ?_
        refine ro_load (by simp only [evalF, upd, arg0, argS, ofConst, ofCell, Nat.reduceEqDiff, reduceIte] <;> rfl) (by exact (load1 ag27 hl rfl)) (by decide) ?_
        refine ro_guard rfl (by simp only [evalF, upd, arg0, argS, ofConst, ofCell, Nat.reduceEqDiff, reduceIte] <;> rfl) rfl ?_
        refine ro_indexAddr (by simp only [evalF, upd, arg0, argS, ofConst, ofCell, Nat.reduceEqDiff, reduceIte] <;> rfl) (by simp only [evalF, upd, arg0, argS, ofConst, ofCell, Nat.reduceEqDiff, reduceIte] <;> rfl) (by exact (show indexAddrA Try.prog 27 v (.pv (.int .i64 0)) = some a from ha)) (by decide) ?_
        refine ro_guard rfl (by simp only [evalF, upd, arg0, argS, ofConst, ofCell, Nat.reduceEqDiff, reduceIte] <;> rfl) rfl ?_
        refine ro_load (by simp only [evalF, upd, arg0, argS, ofConst, ofCell, Nat.reduceEqDiff, reduceIte] <;> rfl) (by exact (hla)) (by decide) ?_
        refine ro_guard rfl (by simp only [evalF, upd, arg0, argS, ofConst, ofCell, Nat.reduceEqDiff, reduceIte] <;> rfl) rfl ?_
        refine ro_bin (by simp only [evalF, upd, arg0, argS, ofConst, ofCell, Nat.reduceEqDiff, reduceIte] <;> rfl) (by simp only [evalF, upd, arg0, argS, ofConst, ofCell, Nat.reduceEqDiff, reduceIte] <;> rfl) (by exact (eql5 _ _)) (by decide) ?_
        refine ro_pick (by simp only [evalF, upd, arg0, argS, ofConst, ofCell, Nat.reduceEqDiff, reduceIte] <;> rfl) (by simp only [evalF, upd, arg0, argS, ofConst, ofCell, Nat.reduceEqDiff, reduceIte] <;> rfl) (by simp only [evalF, upd, arg0, argS, ofConst, ofCell, Nat.reduceEqDiff, reduceIte] <;> rfl) (by decide) ?_
        refine ro_nil ?_
        refine ⟨by first | rfl | trivial, by simp [upd, argsF], ?_, by first | rfl | trivial, by first | rfl | trivial⟩
        simp [upd, he]
      · refine ex_region ?_
        refine ro_move (by simp only [evalF, upd, arg0, argS, ofConst, ofCell, Nat.reduceEqDiff, reduceIte] <;> rfl) (by decide) ?_
        refine ro_nilCheck (by simp only [evalF, upd, arg0, argS, ofConst, ofCell, Nat.reduceEqDiff, reduceIte] <;> rfl) (by decide) ?_
        refine ro_fieldAddr (by simp only [evalF, upd, arg0, argS, ofConst, ofCell, Nat.reduceEqDiff, reduceIte] <;> rfl) (by exact (fa58_0 _ _ _)) (by decide) ?_
        refine ro_load (by simp only [evalF, upd, arg0, argS, ofConst, ofCell, Nat.reduceEqDiff, reduceIte] <;> rfl) (by exact (load1 ag27 hl rfl)) (by decide) ?_
        refine ro_builtin rfl (by simp only [List.map_cons, List.map_nil, evalF, upd, arg0, argS, ofConst, ofCell, Nat.reduceEqDiff, reduceIte] <;> rfl) (by exact (row_len st27 hr)) (by decide) ?_
        refine ro_bin (by simp only [evalF, upd, arg0, argS, ofConst, ofCell, Nat.reduceEqDiff, reduceIte] <;> rfl) (by simp only [evalF, upd, arg0, argS, ofConst, ofCell, Nat.reduceEqDiff, reduceIte] <;> rfl) (by exact (gtr_t (by simp [u8s] <;> omega))) (by decide) ?_
        refine ro_move (by simp only [evalF, upd, arg0, argS, ofConst, ofCell, Nat.reduceEqDiff, reduceIte] <;> rfl) (by decide) ?_
        refine ro_guard rfl (by simp only [evalF, upd, arg0, argS, ofConst, ofCell, Nat.reduceEqDiff, reduceIte] <;> rfl) rfl ?_
        refine ro_move (by simp only [evalF, upd, arg0, argS, ofConst, ofCell, Nat.reduceEqDiff, reduceIte] <;> rfl) (by decide) ?_
        refine ro_guard rfl (by simp only [evalF, upd, arg0, argS, ofConst, ofCell, Nat.reduceEqDiff, reduceIte] <;> rfl) rfl ?_
        refine ro_nilCheck (by simp only [evalF, upd, arg0, argS, ofConst, ofCell, Nat.reduceEqDiff, reduceIte] <;> rfl) (by decide) ?_
        refine ro_guard rfl (by simp only [evalF, upd, arg0, argS, ofConst, ofCell, Nat.reduceEqDiff, reduceIte] <;> rfl) rfl ?_
        refine ro_fieldAddr (by simp only [evalF, upd, arg0, argS, ofConst, ofCell, Nat.reduceEqDiff, reduceIte] <;> rfl) (by exact (fa58_1 _ _ _)) (by decide) ?_
        refine ro_guard rfl (by simp only [evalF, upd, arg0, argS, ofConst, ofCell, Nat.reduceEqDiff, reduceIte] <;> rfl) rfl ?_
        refine ro_load (by simp only [evalF, upd, arg0, argS, ofConst, ofCell, Nat.reduceEqDiff, reduceIte] <;> rfl) (by exact (load1 ag28 hl rfl)) (by decide) ?_
        refine ro_guard rfl (by simp only [evalF, upd, arg0, argS, ofConst, ofCell, Nat.reduceEqDiff, reduceIte] <;> rfl) rfl ?_
        refine ro_bin (by simp only [evalF, upd, arg0, argS, ofConst, ofCell, Nat.reduceEqDiff, reduceIte] <;> rfl) (by simp only [evalF, upd, arg0, argS, ofConst, ofCell, Nat.reduceEqDiff, reduceIte] <;> rfl) (by exact (show binOpA Try.prog .eql 28 (.pv (.int .i64 e)) (.pv (.int .i64 0)) = _ from eql_f he)) (by decide) ?_
        refine ro_pick (by simp only [evalF, upd, arg0, argS, ofConst, ofCell, Nat.reduceEqDiff, reduceIte] <;> rfl) (by simp only [evalF, upd, arg0, argS, ofConst, ofCell, Nat.reduceEqDiff, reduceIte] <;> rfl) (by simp only [evalF, upd, arg0, argS, ofConst, ofCell, Nat.reduceEqDiff, reduceIte] <;> rfl) (by decide) ?_
        refine ro_move (by simp only [evalF, upd, arg0, argS, ofConst, ofCell, Nat.reduceEqDiff, reduceIte] <;> rfl) (by decide) ?_
        refine ro_skip rfl (by simp only [evalF, upd, arg0, argS, ofConst, ofCell, Nat.reduceEqDiff, reduceIte] <;> rfl) rfl (fun e he => by cases he; decide) ?_
        simp only [putF]
        refine ro_skip rfl (by simp only [evalF, upd, arg0, argS, ofConst, ofCell, Nat.reduceEqDiff, reduceIte] <;> rfl) rfl (fun e he => by cases he; decide) ?_
        simp only [putF]
        refine ro_skip rfl (by simp only [evalF, upd, arg0, argS, ofConst, ofCell, Nat.reduceEqDiff, reduceIte] <;> rfl) rfl (fun e he => by cases he; decide) ?_
        simp only [putF]
        refine ro_skip rfl (by simp only [evalF, upd, arg0, argS, ofConst, ofCell, Nat.reduceEqDiff, reduceIte] <;> rfl) rfl (fun e he => by cases he; decide) ?_
        simp only [putF]
        refine ro_skip rfl (by simp only [evalF, upd, arg0, argS, ofConst, ofCell, Nat.reduceEqDiff, reduceIte] <;> rfl) rfl (fun e he => by cases he; decide) ?_
        simp only [putF]
        refine ro_skip rfl (by simp only [evalF, upd, arg0, argS, ofConst, ofCell, Nat.reduceEqDiff, reduceIte] <;> rfl) rfl (fun e he => by cases he; decide) ?_
        simp only [putF]
        refine ro_skip rfl (by simp only [evalF, upd, arg0, argS, ofConst, ofCell, Nat.reduceEqDiff, reduceIte] <;> rfl) rfl (fun e he => by cases he; decide) ?_
        simp only [putF]
        refine ro_pick (by simp only [evalF, upd, arg0, argS, ofConst, ofCell, Nat.reduceEqDiff, reduceIte] <;> rfl) (by simp only [evalF, upd, arg0, argS, ofConst, ofCell, Nat.reduceEqDiff, reduceIte] <;> rfl) (by simp only [evalF, upd, arg0, argS, ofConst, ofCell, Nat.reduceEqDiff, reduceIte] <;> rfl) (by decide) ?_
        refine ro_nil ?_
        refine ⟨by first | rfl | trivial, by simp [upd, argsF], ?_, by first | rfl | trivial, by first | rfl | trivial⟩
        simp [upd, he]
  rintro xa g1 hpx nbx ⟨rfl, h0, h24, e1, e2⟩
  rw [e1, e2]
  clear e1 e2 hpx nbx
  try simp only
  refine ex_cond (t := decide (e = 0) && (b.head? == some 255)) (by simp only [evalF, upd, arg0, argS, ofConst, ofCell, Nat.reduceEqDiff, reduceIte, h0, h24] <;> rfl) (fun ht => ?_) (fun ht => ?_)
  · simp only [Bool.and_eq_true, decide_eq_true_eq, beq_iff_eq] at ht
    obtain ⟨he, hh⟩ := ht
    cases b with
    | nil => simp at hh
    | cons x t =>
      simp at hh
      subst hh
      obtain ⟨v2, s2, r2, o2⟩ := row_slice st27 hr (lo := 1) (hi := t.length + 1) (lv := some (.pv (.int .i64 (1 : Nat)))) (hv := none) (.inl rfl) (.inr ⟨rfl, by simp [u8s]⟩) (by omega) (by simp [u8s])
      refine ex_seq (ex_region ?_)
      refine ro_move (by simp only [evalF, upd, arg0, argS, ofConst, ofCell, Nat.reduceEqDiff, reduceIte, h0, h24] <;> rfl) (by decide) ?_
      refine ro_move (by simp only [evalF, upd, arg0, argS, ofConst, ofCell, Nat.reduceEqDiff, reduceIte, h0, h24] <;> rfl) (by decide) ?_
      refine ro_nilCheck (by simp only [evalF, upd, arg0, argS, ofConst, ofCell, Nat.reduceEqDiff, reduceIte, h0, h24] <;> rfl) (by decide) ?_
      refine ro_fieldAddr (by simp only [evalF, upd, arg0, argS, ofConst, ofCell, Nat.reduceEqDiff, reduceIte, h0, h24] <;> rfl) (by exact (fa58_0 _ _ _)) (by decide) ?_
      refine ro_load (by simp only [evalF, upd, arg0, argS, ofConst, ofCell, Nat.reduceEqDiff, reduceIte, h0, h24] <;> rfl) (by exact (load1 ag27 hl rfl)) (by decide) ?_
      refine ro_slice (by simp only [evalF, upd, arg0, argS, ofConst, ofCell, Nat.reduceEqDiff, reduceIte, h0, h24] <;> rfl) (by simp only [Option.map_some, evalF, ofConst, ofCell]; rfl) rfl rfl s2 (by decide) ?_
      refine ro_nilCheck (by simp only [evalF, upd, arg0, argS, ofConst, ofCell, Nat.reduceEqDiff, reduceIte, h0, h24] <;> rfl) (by decide) ?_
      refine ro_fieldAddr (by simp only [evalF, upd, arg0, argS, ofConst, ofCell, Nat.reduceEqDiff, reduceIte, h0, h24] <;> rfl) (by exact (fa58_0 _ _ _)) (by decide) ?_
      refine ro_store (by simp only [evalF, upd, arg0, argS, ofConst, ofCell, Nat.reduceEqDiff, reduceIte, h0, h24] <;> rfl) (by simp only [evalF, upd, arg0, argS, ofConst, ofCell, Nat.reduceEqDiff, reduceIte, h0, h24] <;> rfl) (store1 sz27 hl (row_cell r2).2 (row_cell r2).1 (by show 0 + 1 ≤ 2; omega)) ?_
      refine ro_nil ?_
      try simp only
      refine ex_seq (ex_region ?_)
      refine ro_assign (by simp only [evalF, upd, arg0, argS, ofConst, ofCell, Nat.reduceEqDiff, reduceIte, h0, h24] <;> rfl) (by decide) ?_
      refine ro_nil ?_
      try simp only
      refine ex_ret ?_
      have e2 : ((u8s (255 :: t)).drop 1).take (t.length + 1 - 1) = u8s t := by
        simp [u8s, List.take_of_length_le]
      rw [e2] at r2
      have hx := rd_put (e := 0) h.lt h.le r2 (fun id h => ho id (o2 _ h))
      have hcell : splice [v, .pv (.int .i64 e)] 0 [v2] = [v2, .pv (.int .i64 0)] := by rw [he]; rfl
      refine ⟨_, rfl, ?_⟩
      rw [hcell]
      have hp1 : predR (255 :: t) e = (-1, t, 0) := by rw [predR, if_pos ⟨he, rfl⟩]
      rw [hp1]
      simp only [upd, Nat.reduceEqDiff, reduceIte]
      exact ⟨by first | rfl | trivial, hx.1, hx.2⟩
  · refine ex_skip ?_
    try simp only
    have hp1 : predR b e = byteR b e 9 := by
      unfold predR
      cases b with
      | nil => rfl
      | cons x t =>
        simp only
        rw [if_neg]
        rintro ⟨h1, h2⟩
        subst h1; subst h2
        simp at ht
    refine ex_seq (ex_region ?_)
    refine ro_move (by simp only [evalF, upd, arg0, argS, ofConst, ofCell, Nat.reduceEqDiff, reduceIte, h0, h24] <;> rfl) (by decide) ?_
    refine ro_call (f := 43) («as» := [.ptr idr 1 0, .pv (.int .i64 9)]) rfl (by simp [evalF, upd, h0, ofConst, ofCell]) hpu3 rfl (byte_calls S pure lim d hpu hpu2 hlim 9 hb h) (by decide) ?_
    rintro v2 hp2 nb2 ⟨rfl, hr2, hk2⟩
    refine ro_assign (by simp only [evalF, upd, arg0, argS, ofConst, ofCell, Nat.reduceEqDiff, reduceIte, h0, h24] <;> rfl) (by decide) ?_
    refine ro_nil ?_
    try simp only
    refine ex_ret ?_
    refine ⟨_, rfl, ?_⟩
    rw [hp1]
    simp only [upd, Nat.reduceEqDiff, reduceIte]
    exact ⟨by first | rfl | trivial, hr2, hk2⟩

/-- Bytes as a number. -/
def numOf (t : List Int) : Int := t.foldl (fun n x => n * 256 + x) 0

def numR (b : List Int) (e : Int) (size : Nat) (least most : Int) : Int × List Int × Int :=
  match takeR b e size with
  | (t, b', e') => (numOf t, b', if e' = 0 ∧ (numOf t < least ∨ numOf t > most) then 11 else e')

theorem shl8 (n : Int) (h : 0 ≤ n ∧ n < 16777216) : binOpA Try.prog .shl 3 (.pv (.int .i64 n)) (.pv (.int .u64 8)) = some (.pv (.int .i64 (n * 256))) := by
  show (shiftA .shl .i64 n 8).map AV.pv = _
  unfold shiftA
  rw [if_neg (by omega)]
  simp only [Option.map_some]
  have e : (2 : Int) ^ (min (8 : Int).toNat IntKind.i64.bits) = 256 := by rfl
  rw [e, IntWalk.i64_in _ (by omega)]

theorem or8 (n x : Int) (h : 0 ≤ n ∧ n < 16777216) (hx : 0 ≤ x ∧ x ≤ 255) : binOpA Try.prog .or 3 (.pv (.int .i64 (n * 256))) (.pv (.int .i64 x)) = some (.pv (.int .i64 (n * 256 + x))) := by
  show some (AV.pv (.int .i64 (IntKind.i64.wrap ((BitVec.ofInt 64 (n * 256) ||| BitVec.ofInt 64 x).toNat : Int)))) = _
  obtain ⟨a, rfl⟩ := Int.eq_ofNat_of_zero_le h.1
  obtain ⟨c, rfl⟩ := Int.eq_ofNat_of_zero_le hx.1
  have e1 : BitVec.ofInt 64 ((a : Int) * 256) = BitVec.ofNat 64 (a * 256) := by
    rw [show ((a : Int) * 256) = ((a * 256 : Nat) : Int) by omega]
    exact BitVec.ofInt_natCast 64 _
  have e2 : BitVec.ofInt 64 (c : Int) = BitVec.ofNat 64 c := BitVec.ofInt_natCast 64 _
  rw [e1, e2, BitVec.toNat_or, BitVec.toNat_ofNat, BitVec.toNat_ofNat, Nat.mod_eq_of_lt (by omega), Nat.mod_eq_of_lt (by omega)]
  have e3 : a * 256 ||| c = a * 256 + c := by
    have := Nat.shiftLeft_add_eq_or_of_lt (show c < 2 ^ 8 by omega) a
    rw [Nat.shiftLeft_eq] at this
    exact this.symm
  rw [e3, IntWalk.i64_in _ (by omega)]
  congr 3

theorem take_len {b : List Int} {e : Int} {n : Nat} (hb : ∀ x ∈ b, 0 ≤ x ∧ x ≤ 255) : (takeR b e n).1.length ≤ n ∧ (∀ x ∈ (takeR b e n).1, 0 ≤ x ∧ x ≤ 255) ∧ ∀ x ∈ (takeR b e n).2.1, 0 ≤ x ∧ x ≤ 255 := by
  unfold takeR
  split
  · exact ⟨by simp, by simp, hb⟩
  · exact ⟨by simp; omega, fun x hx => hb x (List.mem_of_mem_take hx), fun x hx => hb x (List.mem_of_mem_drop hx)⟩

theorem num_bound : ∀ (t : List Int), (∀ x ∈ t, 0 ≤ x ∧ x ≤ 255) → 0 ≤ numOf t ∧ numOf t < 256 ^ t.length := by
  have key : ∀ (t : List Int) (a : Int), 0 ≤ a → (∀ x ∈ t, 0 ≤ x ∧ x ≤ 255) → 0 ≤ t.foldl (fun n x => n * 256 + x) a ∧ t.foldl (fun n x => n * 256 + x) a < (a + 1) * 256 ^ t.length := by
    intro t
    induction t with
    | nil => intro a ha h; simp; omega
    | cons x t ih =>
      intro a ha h
      have hx := h x List.mem_cons_self
      obtain ⟨h1, h2⟩ := ih (a * 256 + x) (by omega) (fun y hy => h y (List.mem_cons_of_mem _ hy))
      refine ⟨h1, ?_⟩
      simp only [List.foldl_cons, List.length_cons]
      refine Int.lt_of_lt_of_le h2 ?_
      rw [Int.pow_succ, Int.mul_comm (256 ^ t.length) 256, ← Int.mul_assoc]
      exact Int.mul_le_mul_of_nonneg_right (by omega) (Int.le_of_lt (Int.pow_pos (by omega)))
  intro t h
  have := key t 0 (by omega) h
  simpa [numOf] using this

theorem num_small {t : List Int} (h : ∀ x ∈ t, 0 ≤ x ∧ x ≤ 255) (hl : t.length ≤ 3) : 0 ≤ numOf t ∧ numOf t < 16777216 := by
  obtain ⟨h1, h2⟩ := num_bound t h
  refine ⟨h1, Int.lt_of_lt_of_le h2 ?_⟩
  have : t.length = 0 ∨ t.length = 1 ∨ t.length = 2 ∨ t.length = 3 := by omega
  rcases this with h | h | h | h <;> rw [h] <;> decide

theorem num_snoc (t : List Int) (x : Int) : numOf (t ++ [x]) = numOf t * 256 + x := by simp [numOf]

theorem ro_skipU {P : Program} {pure : Nat → Bool} {F : CallF} {G : CallG} {n : Nat} {ops rest : List Oper} {g : Gm} {hp : Hp} {nb : Nat} {Q : Gm → Hp → Nat → Prop} {j : Nat} {want : Bool} {d : Nat} {op : Op} {ty : TypeId} {pos : String} {aft : Array Edge} {e : Nat} (he : (ops[j]?).bind (·.dst) = some e) (hg : g e = undefA) (hd : d < n)
    (h2 : RO P pure F G n ops rest (upd g d undefA) hp nb Q) : RO P pure F G n ops ({ dst := some d, op := op, type := ty, pos := pos, after := aft, guard := some (j, want) } :: rest) g hp nb Q := by
  intro T h r
  have hst : stepOp P pure F G ops { dst := some d, op := op, type := ty, pos := pos, after := aft, guard := some (j, want) } (T, h) = some (undefA, .no) := by
    unfold stepOp
    rw [rel_want r]
    unfold wantF
    simp only [he, hg, undefA]
  obtain ⟨T', h', g', hp1, nb1, e1, e2, e3⟩ := h2 _ _ (rel_put r hd undefA r.hp r.nb)
  refine ⟨T', h', g', hp1, nb1, ?_, e2, e3⟩
  rw [runOps_cons, hst]
  exact e1

theorem number_calls (S : CallG) (pure : Nat → Bool) (lim d : Nat) (hpu : pure 27 = false) (hpu2 : pure 44 = false) (hlim : 10 ≤ lim) {hp : Hp} {nb idr q : Nat} {b : List Int} {e : Int} (size : Nat) (hsz : size ≤ 4) (least most : Int) (hb : ∀ x ∈ b, 0 ≤ x ∧ x ≤ 255) (h : Rd hp nb idr q b e) :
    CA (callA Try.prog S pure lim (d + 3)) 46 [.ptr idr 1 0, .pv (.int .i64 size), .pv (.int .i64 least), .pv (.int .i64 most)] hp nb fun v hp' nb' => v = .pv (.int .i64 (numR b e size least most).1) ∧ Rd hp' nb idr q (numR b e size least most).2.1 (numR b e size least most).2.2 ∧ KeepR hp nb idr hp' nb' := by
  refine ca_body (fn := Try.f46) (c := bodyOf Try.f46) Try.func46 rfl (by show 4 ≤ 44; omega) ?_
  show EX _ _ _ _ _ 44 _ _ _ _ _
  unfold bodyOf Try.f46
  refine ex_seq (ex_region ?_)
  refine ro_assign (by simp only [evalF, upd, arg0, argS, ofConst, ofCell, Nat.reduceEqDiff, reduceIte] <;> rfl) (by decide) ?_
  refine ro_nil ?_
  try simp only
  refine ex_seq (ex_region ?_)
  refine ro_assign (by simp only [evalF, upd, arg0, argS, ofConst, ofCell, Nat.reduceEqDiff, reduceIte] <;> rfl) (by decide) ?_
  refine ro_nil ?_
  try simp only
  refine ex_seq ?_
  refine ex_seq (ex_region ?_)
  refine ro_move (by simp only [evalF, upd, arg0, argS, ofConst, ofCell, Nat.reduceEqDiff, reduceIte] <;> rfl) (by decide) ?_
  refine ro_move (by simp only [evalF, upd, arg0, argS, ofConst, ofCell, Nat.reduceEqDiff, reduceIte] <;> rfl) (by decide) ?_
  refine ro_call (f := 44) («as» := [.ptr idr 1 0, .pv (.int .i64 size)]) rfl (by simp [evalF, upd, argsF]) hpu2 rfl (take_calls S pure lim d hpu size h) (by decide) ?_
  rintro v1 hp1 nb1 ⟨hr1, ho1, hrd1, hk1⟩
  obtain rfl := hk1.1
  refine ro_builtin rfl (by simp only [List.map_cons, List.map_nil, evalF, upd, arg0, argS, ofConst, ofCell, Nat.reduceEqDiff, reduceIte] <;> rfl) (by exact (row_len st27 hr1)) (by decide) ?_
  refine ro_move (by simp only [evalF, upd, arg0, argS, ofConst, ofCell, Nat.reduceEqDiff, reduceIte] <;> rfl) (by decide) ?_
  refine ro_nil ?_
  try simp only
  obtain ⟨htl, htb, _⟩ := take_len (e := e) (n := size) hb
  have hnum : numR b e size least most = (numOf (takeR b e size).1, (takeR b e size).2.1, if (takeR b e size).2.2 = 0 ∧ (numOf (takeR b e size).1 < least ∨ numOf (takeR b e size).1 > most) then 11 else (takeR b e size).2.2) := rfl
  generalize htk : takeR b e size = tk at *
  obtain ⟨t, b', e'⟩ := tk
  simp only at *
  have hul : (u8s t).length = t.length := by simp [u8s]
  refine ex_block (ex_loop (I := fun k g hpx nbx => ∃ i : Nat, k = t.length - i ∧ i ≤ t.length ∧ g 0 = .ptr idr 1 0 ∧ g 2 = .pv (.int .i64 least) ∧ g 3 = .pv (.int .i64 most) ∧ g 9 = .pv (.int .i64 (numOf (t.take i))) ∧ g 14 = v1 ∧ g 15 = .pv (.int .i64 t.length) ∧ g 16 = .pv (.int .i64 i) ∧ hpx = hp1 ∧ nbx = nb1) (m := t.length)
    ⟨0, rfl, Nat.zero_le _, by simp [upd, argsF], by simp [upd, argsF], by simp [upd, argsF], by simp [upd, numOf], by simp [upd], by simp [upd, hul], by simp [upd], rfl, rfl⟩ (by omega) ?_)
  rintro k g hpx nbx ⟨i, hkk, hi, h0, h2, h3, h9, h14, h15, h16, e1, e2⟩
  rw [e1, e2]
  refine ex_seq (ex_region ?_)
  refine ro_bin (by simp only [evalF, upd, arg0, argS, ofConst, ofCell, Nat.reduceEqDiff, reduceIte, h0, h2, h3, h9, h14, h15, h16] <;> rfl) (by simp only [evalF, upd, arg0, argS, ofConst, ofCell, Nat.reduceEqDiff, reduceIte, h0, h2, h3, h9, h14, h15, h16] <;> rfl) (by exact (lss_v)) (by decide) ?_
  refine ro_nil ?_
  try simp only
  refine ex_seq (ex_cond (t := decide ((i : Int) < t.length)) (by simp only [evalF, upd, arg0, argS, ofConst, ofCell, Nat.reduceEqDiff, reduceIte, h0, h2, h3, h9, h14, h15, h16] <;> rfl) (fun ht => ?_) (fun ht => ?_))
  rotate_left
  · have hie : i = t.length := by
      have := of_decide_eq_false ht
      omega
    subst hie
    rw [List.take_length] at h9
    refine ex_exit ?_
    simp only [if_true]
    obtain ⟨vr, hlr, hrr, hor⟩ := hrd1.ex
    have hfin : ∀ (bo : Bool), bo = (decide (e' = 0) && (decide (numOf t < least) || decide (numOf t > most))) → (if e' = 0 ∧ (numOf t < least ∨ numOf t > most) then (11 : Int) else e') = if bo then firstE e' 11 else e' := by
      intro bo hbo
      by_cases h1 : e' = 0
      · by_cases h2 : numOf t < least ∨ numOf t > most
        · rw [if_pos ⟨h1, h2⟩]
          have : bo = true := by
            rw [hbo]
            simp only [h1, decide_true, Bool.true_and, Bool.or_eq_true, decide_eq_true_eq]
            exact h2
          rw [this, firstE, if_pos rfl, if_pos h1]
        · rw [if_neg (fun h => h2 h.2)]
          have : bo = false := by
            rw [hbo]
            simp only [h1, decide_true, Bool.true_and, Bool.or_eq_false_iff, decide_eq_false_iff_not]
            exact ⟨fun h => h2 (.inl h), fun h => h2 (.inr h)⟩
          rw [this]; rfl
      · rw [if_neg (fun h => h1 h.1)]
        have : bo = false := by rw [hbo]; simp [h1]
        rw [this]; rfl
    refine ex_seq (ex_seq (ex_weaken (K := fun xa g' hp' nb' => xa = .normal ∧ g' 0 = .ptr idr 1 0 ∧ g' 9 = .pv (.int .i64 (numOf t)) ∧ g' 40 = .pv (.bool (decide (e' = 0) && (decide (numOf t < least) || decide (numOf t > most)))) ∧ hp' = hp1 ∧ nb' = nb1) ?_ ?_))
    · by_cases he : e' = 0
      · by_cases hlo : numOf t < least
        · refine ex_region ?_
          refine ro_move (by simp only [evalF, upd, arg0, argS, ofConst, ofCell, Nat.reduceEqDiff, reduceIte, h0, h2, h3, h9] <;> rfl) (by decide) ?_
          refine ro_nilCheck (by simp only [evalF, upd, arg0, argS, ofConst, ofCell, Nat.reduceEqDiff, reduceIte, h0, h2, h3, h9] <;> rfl) (by decide) ?_
          refine ro_fieldAddr (by simp only [evalF, upd, arg0, argS, ofConst, ofCell, Nat.reduceEqDiff, reduceIte, h0, h2, h3, h9] <;> rfl) (by exact (fa58_1 _ _ _)) (by decide) ?_
          refine ro_load (by simp only [evalF, upd, arg0, argS, ofConst, ofCell, Nat.reduceEqDiff, reduceIte, h0, h2, h3, h9] <;> rfl) (by exact (load1 ag28 hlr rfl)) (by decide) ?_
          refine ro_bin (by simp only [evalF, upd, arg0, argS, ofConst, ofCell, Nat.reduceEqDiff, reduceIte, h0, h2, h3, h9] <;> rfl) (by simp only [evalF, upd, arg0, argS, ofConst, ofCell, Nat.reduceEqDiff, reduceIte, h0, h2, h3, h9] <;> rfl) (by exact (show binOpA Try.prog .eql 28 (.pv (.int .i64 e')) (.pv (.int .i64 0)) = _ from eql_t he)) (by decide) ?_
          refine ro_move (by simp only [evalF, upd, arg0, argS, ofConst, ofCell, Nat.reduceEqDiff, reduceIte, h0, h2, h3, h9] <;> rfl) (by decide) ?_
          refine ro_guard rfl (by simp only [evalF, upd, arg0, argS, ofConst, ofCell, Nat.reduceEqDiff, reduceIte, h0, h2, h3, h9] <;> rfl) rfl ?_
          refine ro_move (by simp only [evalF, upd, arg0, argS, ofConst, ofCell, Nat.reduceEqDiff, reduceIte, h0, h2, h3, h9] <;> rfl) (by decide) ?_
          refine ro_guard rfl (by simp only [evalF, upd, arg0, argS, ofConst, ofCell, Nat.reduceEqDiff, reduceIte, h0, h2, h3, h9] <;> rfl) rfl ?_
          refine ro_move (by simp only [evalF, upd, arg0, argS, ofConst, ofCell, Nat.reduceEqDiff, reduceIte, h0, h2, h3, h9] <;> rfl) (by decide) ?_
          refine ro_guard rfl (by simp only [evalF, upd, arg0, argS, ofConst, ofCell, Nat.reduceEqDiff, reduceIte, h0, h2, h3, h9] <;> rfl) rfl ?_
          refine ro_bin (by simp only [evalF, upd, arg0, argS, ofConst, ofCell, Nat.reduceEqDiff, reduceIte, h0, h2, h3, h9] <;> rfl) (by simp only [evalF, upd, arg0, argS, ofConst, ofCell, Nat.reduceEqDiff, reduceIte, h0, h2, h3, h9] <;> rfl) (by exact (lss_t hlo)) (by decide) ?_
          refine ro_guard rfl (by simp only [evalF, upd, arg0, argS, ofConst, ofCell, Nat.reduceEqDiff, reduceIte, h0, h2, h3, h9] <;> rfl) rfl ?_
          refine ro_move (by simp only [evalF, upd, arg0, argS, ofConst, ofCell, Nat.reduceEqDiff, reduceIte, h0, h2, h3, h9] <;> rfl) (by decide) ?_
          refine ro_skip rfl (by simp only [evalF, upd, arg0, argS, ofConst, ofCell, Nat.reduceEqDiff, reduceIte, h0, h2, h3, h9] <;> rfl) rfl (fun e he => by cases he; decide) ?_
          simp only [putF]
          refine ro_skip rfl (by simp only [evalF, upd, arg0, argS, ofConst, ofCell, Nat.reduceEqDiff, reduceIte, h0, h2, h3, h9] <;> rfl) rfl (fun e he => by cases he; decide) ?_
          simp only [putF]
          refine ro_skip rfl (by simp only [evalF, upd, arg0, argS, ofConst, ofCell, Nat.reduceEqDiff, reduceIte, h0, h2, h3, h9] <;> rfl) rfl (fun e he => by cases he; decide) ?_
          simp only [putF]
          refine ro_guard rfl (by simp only [evalF, upd, arg0, argS, ofConst, ofCell, Nat.reduceEqDiff, reduceIte, h0, h2, h3, h9] <;> rfl) rfl ?_
          refine ro_pick (by simp only [evalF, upd, arg0, argS, ofConst, ofCell, Nat.reduceEqDiff, reduceIte, h0, h2, h3, h9] <;> rfl) (by simp only [evalF, upd, arg0, argS, ofConst, ofCell, Nat.reduceEqDiff, reduceIte, h0, h2, h3, h9] <;> rfl) (by simp only [evalF, upd, arg0, argS, ofConst, ofCell, Nat.reduceEqDiff, reduceIte, h0, h2, h3, h9] <;> rfl) (by decide) ?_
          refine ro_pick (by simp only [evalF, upd, arg0, argS, ofConst, ofCell, Nat.reduceEqDiff, reduceIte, h0, h2, h3, h9] <;> rfl) (by simp only [evalF, upd, arg0, argS, ofConst, ofCell, Nat.reduceEqDiff, reduceIte, h0, h2, h3, h9] <;> rfl) (by simp only [evalF, upd, arg0, argS, ofConst, ofCell, Nat.reduceEqDiff, reduceIte, h0, h2, h3, h9] <;> rfl) (by decide) ?_
          refine ro_nil ?_
          refine ⟨by first | rfl | trivial, by simp [upd, h0], by simp [upd, h9], ?_, by first | rfl | trivial, by first | rfl | trivial⟩
          simp [upd, he, hlo]
        · refine ex_region ?_
          refine ro_move (by simp only [evalF, upd, arg0, argS, ofConst, ofCell, Nat.reduceEqDiff, reduceIte, h0, h2, h3, h9] <;> rfl) (by decide) ?_
          refine ro_nilCheck (by simp only [evalF, upd, arg0, argS, ofConst, ofCell, Nat.reduceEqDiff, reduceIte, h0, h2, h3, h9] <;> rfl) (by decide) ?_
          refine ro_fieldAddr (by simp only [evalF, upd, arg0, argS, ofConst, ofCell, Nat.reduceEqDiff, reduceIte, h0, h2, h3, h9] <;> rfl) (by exact (fa58_1 _ _ _)) (by decide) ?_
          refine ro_load (by simp only [evalF, upd, arg0, argS, ofConst, ofCell, Nat.reduceEqDiff, reduceIte, h0, h2, h3, h9] <;> rfl) (by exact (load1 ag28 hlr rfl)) (by decide) ?_
          refine ro_bin (by simp only [evalF, upd, arg0, argS, ofConst, ofCell, Nat.reduceEqDiff, reduceIte, h0, h2, h3, h9] <;> rfl) (by simp only [evalF, upd, arg0, argS, ofConst, ofCell, Nat.reduceEqDiff, reduceIte, h0, h2, h3, h9] <;> rfl) (by exact (show binOpA Try.prog .eql 28 (.pv (.int .i64 e')) (.pv (.int .i64 0)) = _ from eql_t he)) (by decide) ?_
          refine ro_move (by simp only [evalF, upd, arg0, argS, ofConst, ofCell, Nat.reduceEqDiff, reduceIte, h0, h2, h3, h9] <;> rfl) (by decide) ?_
          refine ro_guard rfl (by simp only [evalF, upd, arg0, argS, ofConst, ofCell, Nat.reduceEqDiff, reduceIte, h0, h2, h3, h9] <;> rfl) rfl ?_
          refine ro_move (by simp only [evalF, upd, arg0, argS, ofConst, ofCell, Nat.reduceEqDiff, reduceIte, h0, h2, h3, h9] <;> rfl) (by decide) ?_
          refine ro_guard rfl (by simp only [evalF, upd, arg0, argS, ofConst, ofCell, Nat.reduceEqDiff, reduceIte, h0, h2, h3, h9] <;> rfl) rfl ?_
          refine ro_move (by simp only [evalF, upd, arg0, argS, ofConst, ofCell, Nat.reduceEqDiff, reduceIte, h0, h2, h3, h9] <;> rfl) (by decide) ?_
          refine ro_guard rfl (by simp only [evalF, upd, arg0, argS, ofConst, ofCell, Nat.reduceEqDiff, reduceIte, h0, h2, h3, h9] <;> rfl) rfl ?_
          refine ro_bin (by simp only [evalF, upd, arg0, argS, ofConst, ofCell, Nat.reduceEqDiff, reduceIte, h0, h2, h3, h9] <;> rfl) (by simp only [evalF, upd, arg0, argS, ofConst, ofCell, Nat.reduceEqDiff, reduceIte, h0, h2, h3, h9] <;> rfl) (by exact (lss_f hlo)) (by decide) ?_
          refine ro_guard rfl (by simp only [evalF, upd, arg0, argS, ofConst, ofCell, Nat.reduceEqDiff, reduceIte, h0, h2, h3, h9] <;> rfl) rfl ?_
          refine ro_move (by simp only [evalF, upd, arg0, argS, ofConst, ofCell, Nat.reduceEqDiff, reduceIte, h0, h2, h3, h9] <;> rfl) (by decide) ?_
          refine ro_guard rfl (by simp only [evalF, upd, arg0, argS, ofConst, ofCell, Nat.reduceEqDiff, reduceIte, h0, h2, h3, h9] <;> rfl) rfl ?_
          refine ro_move (by simp only [evalF, upd, arg0, argS, ofConst, ofCell, Nat.reduceEqDiff, reduceIte, h0, h2, h3, h9] <;> rfl) (by decide) ?_
          refine ro_guard rfl (by simp only [evalF, upd, arg0, argS, ofConst, ofCell, Nat.reduceEqDiff, reduceIte, h0, h2, h3, h9] <;> rfl) rfl ?_
          refine ro_move (by simp only [evalF, upd, arg0, argS, ofConst, ofCell, Nat.reduceEqDiff, reduceIte, h0, h2, h3, h9] <;> rfl) (by decide) ?_
          refine ro_guard rfl (by simp only [evalF, upd, arg0, argS, ofConst, ofCell, Nat.reduceEqDiff, reduceIte, h0, h2, h3, h9] <;> rfl) rfl ?_
          refine ro_bin (by simp only [evalF, upd, arg0, argS, ofConst, ofCell, Nat.reduceEqDiff, reduceIte, h0, h2, h3, h9] <;> rfl) (by simp only [evalF, upd, arg0, argS, ofConst, ofCell, Nat.reduceEqDiff, reduceIte, h0, h2, h3, h9] <;> rfl) (by exact (gtr_v)) (by decide) ?_
          refine ro_guard rfl (by simp only [evalF, upd, arg0, argS, ofConst, ofCell, Nat.reduceEqDiff, reduceIte, h0, h2, h3, h9] <;> rfl) rfl ?_
          refine ro_pick (by simp only [evalF, upd, arg0, argS, ofConst, ofCell, Nat.reduceEqDiff, reduceIte, h0, h2, h3, h9] <;> rfl) (by simp only [evalF, upd, arg0, argS, ofConst, ofCell, Nat.reduceEqDiff, reduceIte, h0, h2, h3, h9] <;> rfl) (by simp only [evalF, upd, arg0, argS, ofConst, ofCell, Nat.reduceEqDiff, reduceIte, h0, h2, h3, h9] <;> rfl) (by decide) ?_
          refine ro_pick (by simp only [evalF, upd, arg0, argS, ofConst, ofCell, Nat.reduceEqDiff, reduceIte, h0, h2, h3, h9] <;> rfl) (by simp only [evalF, upd, arg0, argS, ofConst, ofCell, Nat.reduceEqDiff, reduceIte, h0, h2, h3, h9] <;> rfl) (by simp only [evalF, upd, arg0, argS, ofConst, ofCell, Nat.reduceEqDiff, reduceIte, h0, h2, h3, h9] <;> rfl) (by decide) ?_
          refine ro_nil ?_
          refine ⟨by first | rfl | trivial, by simp [upd, h0], by simp [upd, h9], ?_, by first | rfl | trivial, by first | rfl | trivial⟩
          simp only [upd, Nat.reduceEqDiff, reduceIte, he, decide_true, Bool.true_and, decide_eq_false hlo, Bool.false_or, Bool.false_eq_true, if_false, if_true]
      · refine ex_region ?_
        refine ro_move (by simp only [evalF, upd, arg0, argS, ofConst, ofCell, Nat.reduceEqDiff, reduceIte, h0, h2, h3, h9] <;> rfl) (by decide) ?_
        refine ro_nilCheck (by simp only [evalF, upd, arg0, argS, ofConst, ofCell, Nat.reduceEqDiff, reduceIte, h0, h2, h3, h9] <;> rfl) (by decide) ?_
        refine ro_fieldAddr (by simp only [evalF, upd, arg0, argS, ofConst, ofCell, Nat.reduceEqDiff, reduceIte, h0, h2, h3, h9] <;> rfl) (by exact (fa58_1 _ _ _)) (by decide) ?_
        refine ro_load (by simp only [evalF, upd, arg0, argS, ofConst, ofCell, Nat.reduceEqDiff, reduceIte, h0, h2, h3, h9] <;> rfl) (by exact (load1 ag28 hlr rfl)) (by decide) ?_
        refine ro_bin (by simp only [evalF, upd, arg0, argS, ofConst, ofCell, Nat.reduceEqDiff, reduceIte, h0, h2, h3, h9] <;> rfl) (by simp only [evalF, upd, arg0, argS, ofConst, ofCell, Nat.reduceEqDiff, reduceIte, h0, h2, h3, h9] <;> rfl) (by exact (show binOpA Try.prog .eql 28 (.pv (.int .i64 e')) (.pv (.int .i64 0)) = _ from eql_f he)) (by decide) ?_
        refine ro_move (by simp only [evalF, upd, arg0, argS, ofConst, ofCell, Nat.reduceEqDiff, reduceIte, h0, h2, h3, h9] <;> rfl) (by decide) ?_
        refine ro_skip rfl (by simp only [evalF, upd, arg0, argS, ofConst, ofCell, Nat.reduceEqDiff, reduceIte, h0, h2, h3, h9] <;> rfl) rfl (fun e he => by cases he; decide) ?_
        simp only [putF]
        refine ro_skip rfl (by simp only [evalF, upd, arg0, argS, ofConst, ofCell, Nat.reduceEqDiff, reduceIte, h0, h2, h3, h9] <;> rfl) rfl (fun e he => by cases he; decide) ?_
        simp only [putF]
        refine ro_skip rfl (by simp only [evalF, upd, arg0, argS, ofConst, ofCell, Nat.reduceEqDiff, reduceIte, h0, h2, h3, h9] <;> rfl) rfl (fun e he => by cases he; decide) ?_
        simp only [putF]
        refine ro_skip rfl (by simp only [evalF, upd, arg0, argS, ofConst, ofCell, Nat.reduceEqDiff, reduceIte, h0, h2, h3, h9] <;> rfl) rfl (fun e he => by cases he; decide) ?_
        simp only [putF]
        refine ro_skipU rfl (by simp only [evalF, upd, Nat.reduceEqDiff, reduceIte]) (by decide) ?_
        refine ro_skipU rfl (by simp only [evalF, upd, Nat.reduceEqDiff, reduceIte]) (by decide) ?_
        refine ro_skipU rfl (by simp only [evalF, upd, Nat.reduceEqDiff, reduceIte]) (by decide) ?_
        refine ro_skip rfl (by simp only [evalF, upd, arg0, argS, ofConst, ofCell, Nat.reduceEqDiff, reduceIte, h0, h2, h3, h9] <;> rfl) rfl (fun e he => by cases he; decide) ?_
        simp only [putF]
        refine ro_pick (by simp only [evalF, upd, arg0, argS, ofConst, ofCell, Nat.reduceEqDiff, reduceIte, h0, h2, h3, h9] <;> rfl) (by simp only [evalF, upd, arg0, argS, ofConst, ofCell, Nat.reduceEqDiff, reduceIte, h0, h2, h3, h9] <;> rfl) (by simp only [evalF, upd, arg0, argS, ofConst, ofCell, Nat.reduceEqDiff, reduceIte, h0, h2, h3, h9] <;> rfl) (by decide) ?_
        refine ro_nil ?_
        refine ⟨by first | rfl | trivial, by simp [upd, h0], by simp [upd, h9], ?_, by first | rfl | trivial, by first | rfl | trivial⟩
        simp [upd, he]
    rintro xa g5 hpx nbx ⟨rfl, h0, h9, h40, e1, e2⟩
    rw [e1, e2]
    clear e1 e2 hpx nbx
    try simp only
    have hb11 := hfin _ rfl
    refine ex_cond (t := decide (e' = 0) && (decide (numOf t < least) || decide (numOf t > most))) (by simp only [evalF, upd, arg0, argS, ofConst, ofCell, Nat.reduceEqDiff, reduceIte, h0, h9, h40] <;> rfl) (fun ht => ?_) (fun ht => ?_)
    · refine ex_region ?_
      refine ro_move (by simp only [evalF, upd, arg0, argS, ofConst, ofCell, Nat.reduceEqDiff, reduceIte, h0, h9, h40] <;> rfl) (by decide) ?_
      refine ro_call (f := 27) («as» := [.ptr idr 1 0, .pv (.int .i64 11)]) rfl (by simp [evalF, upd, h0, ofConst, ofCell]) hpu rfl (fail_calls S pure lim (d + 1) 11 hrd1) (by decide) ?_
      rintro v2 hp2 nb2 ⟨_, hr2, hk2⟩
      refine ro_nil ?_
      try simp only
      refine ex_seq (ex_region ?_)
      refine ro_move (by simp only [evalF, upd, arg0, argS, ofConst, ofCell, Nat.reduceEqDiff, reduceIte, h0, h9, h40] <;> rfl) (by decide) ?_
      refine ro_assign (by simp only [evalF, upd, arg0, argS, ofConst, ofCell, Nat.reduceEqDiff, reduceIte, h0, h9, h40] <;> rfl) (by decide) ?_
      refine ro_nil ?_
      try simp only
      refine ex_ret ?_
      refine ⟨_, rfl, ?_⟩
      rw [hnum, hb11, ht]
      simp only [upd, Nat.reduceEqDiff, reduceIte, h9, if_true]
      exact ⟨by first | rfl | trivial, hr2, keepR_trans hk1 hk2⟩
    · refine ex_skip ?_
      try simp only
      refine ex_seq (ex_region ?_)
      refine ro_move (by simp only [evalF, upd, arg0, argS, ofConst, ofCell, Nat.reduceEqDiff, reduceIte, h0, h9, h40] <;> rfl) (by decide) ?_
      refine ro_assign (by simp only [evalF, upd, arg0, argS, ofConst, ofCell, Nat.reduceEqDiff, reduceIte, h0, h9, h40] <;> rfl) (by decide) ?_
      refine ro_nil ?_
      try simp only
      refine ex_ret ?_
      refine ⟨_, rfl, ?_⟩
      rw [hnum, hb11, ht]
      simp only [upd, Nat.reduceEqDiff, reduceIte, h9, Bool.false_eq_true, if_false]
      exact ⟨by first | rfl | trivial, hrd1, hk1⟩
  · refine ex_skip ?_
    try simp only
    have hil : i < t.length := by
      have := of_decide_eq_true ht
      omega
    obtain ⟨a, ha, hla⟩ := row_at st27 hr1 (i := i) (x := .int .u8 t[i]) (by unfold u8s; rw [List.getElem?_map, List.getElem?_eq_getElem hil]; rfl)
    have hx := htb t[i] (List.getElem_mem hil)
    have hns := num_small (t := t.take i) (fun x hx => htb x (List.mem_of_mem_take hx)) (by simp; omega)
    refine ex_seq (ex_block ?_)
    refine ex_seq (ex_region ?_)
    refine ro_indexAddr (by simp only [evalF, upd, arg0, argS, ofConst, ofCell, Nat.reduceEqDiff, reduceIte, h0, h2, h3, h9, h14, h15, h16] <;> rfl) (by simp only [evalF, upd, arg0, argS, ofConst, ofCell, Nat.reduceEqDiff, reduceIte, h0, h2, h3, h9, h14, h15, h16] <;> rfl) (by exact (ha)) (by decide) ?_
    refine ro_load (by simp only [evalF, upd, arg0, argS, ofConst, ofCell, Nat.reduceEqDiff, reduceIte, h0, h2, h3, h9, h14, h15, h16] <;> rfl) (by exact (hla)) (by decide) ?_
    refine ro_assign (by simp only [evalF, upd, arg0, argS, ofConst, ofCell, Nat.reduceEqDiff, reduceIte, h0, h2, h3, h9, h14, h15, h16] <;> rfl) (by decide) ?_
    refine ro_nil ?_
    try simp only
    refine ex_region ?_
    refine ro_move (by simp only [evalF, upd, arg0, argS, ofConst, ofCell, Nat.reduceEqDiff, reduceIte, h0, h2, h3, h9, h14, h15, h16] <;> rfl) (by decide) ?_
    refine ro_bin (by simp only [evalF, upd, arg0, argS, ofConst, ofCell, Nat.reduceEqDiff, reduceIte, h0, h2, h3, h9, h14, h15, h16] <;> rfl) (by simp only [evalF, upd, arg0, argS, ofConst, ofCell, Nat.reduceEqDiff, reduceIte, h0, h2, h3, h9, h14, h15, h16] <;> rfl) (by exact (shl8 _ hns)) (by decide) ?_
    refine ro_move (by simp only [evalF, upd, arg0, argS, ofConst, ofCell, Nat.reduceEqDiff, reduceIte, h0, h2, h3, h9, h14, h15, h16] <;> rfl) (by decide) ?_
    refine ro_conv (by simp only [evalF, upd, arg0, argS, ofConst, ofCell, Nat.reduceEqDiff, reduceIte, h0, h2, h3, h9, h14, h15, h16] <;> rfl) (by exact (conv53 _ hx _ _)) (by decide) ?_
    refine ro_bin (by simp only [evalF, upd, arg0, argS, ofConst, ofCell, Nat.reduceEqDiff, reduceIte, h0, h2, h3, h9, h14, h15, h16] <;> rfl) (by simp only [evalF, upd, arg0, argS, ofConst, ofCell, Nat.reduceEqDiff, reduceIte, h0, h2, h3, h9, h14, h15, h16] <;> rfl) (by exact (or8 _ _ hns hx)) (by decide) ?_
    refine ro_assign (by simp only [evalF, upd, arg0, argS, ofConst, ofCell, Nat.reduceEqDiff, reduceIte, h0, h2, h3, h9, h14, h15, h16] <;> rfl) (by decide) ?_
    refine ro_nil ?_
    try simp only
    refine ex_region ?_
    refine ro_bin (by simp only [evalF, upd, arg0, argS, ofConst, ofCell, Nat.reduceEqDiff, reduceIte, h0, h2, h3, h9, h14, h15, h16] <;> rfl) (by simp only [evalF, upd, arg0, argS, ofConst, ofCell, Nat.reduceEqDiff, reduceIte, h0, h2, h3, h9, h14, h15, h16] <;> rfl) (by exact (add_v (by omega))) (by decide) ?_
    refine ro_move (by simp only [evalF, upd, arg0, argS, ofConst, ofCell, Nat.reduceEqDiff, reduceIte, h0, h2, h3, h9, h14, h15, h16] <;> rfl) (by decide) ?_
    refine ro_nil ?_
    refine ⟨t.length - (i + 1), by omega, i + 1, rfl, by omega, by simp [upd, h0], by simp [upd, h2], by simp [upd, h3], ?_, by simp [upd, h14], by simp [upd, h15], by simp [upd], by first | rfl | trivial, by first | rfl | trivial⟩
    have e0 : t.take (i + 1) = t.take i ++ [t[i]] := by
      rw [List.take_add_one, List.getElem?_eq_getElem hil]
      rfl
    rw [e0, num_snoc]
    simp [upd]
end Go.Proofs.Ytlinbbjobjnipaa
