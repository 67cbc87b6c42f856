/- What the proof needs, part 4. Joined by pack.py. -/
import Derived.Test.YtlinbbjobjnipaaV3
set_option linter.unusedVariables false
set_option linter.unusedSimpArgs false
set_option linter.unusedSectionVars false
namespace Go.Proofs.Ytlinbbjobjnipaa
open Go AI
set_option maxHeartbeats 4000000
set_option maxRecDepth 10000
def predR (b : List Int) (e : Int) : Int × List Int × Int :=
  match b with
  | x :: r => if e = 0 ∧ x = 255 then (-1, r, 0) else byteR b e 9
  | [] => byteR b e 9
theorem eql5 (x y : Int) : binOpA Try.prog .eql 5 (.pv (.int .u8 x)) (.pv (.int .u8 y)) = some (.pv (.bool (x == y))) := rfl
theorem pred_calls (S : CallG) (pure : Nat → Bool) (lim d : Nat) (hpu : pure 27 = false) (hpu2 : pure 44 = false) (hpu3 : pure 43 = false) (hlim : 2 ≤ lim) {hp : Hp} {nb idr q : Nat} {b : List Int} {e : Int} (hb : ∀ x ∈ b, 0 ≤ x ∧ x ≤ 255) (h : Rd hp nb idr q b e) :
    CA (callA Try.prog S pure lim (d + 4)) 42 [.ptr idr 1 0] hp nb fun v hp' nb' => v = .pv (.int .i64 (predR b e).1) ∧ Rd hp' nb idr q (predR b e).2.1 (predR b e).2.2 ∧ KeepR hp nb idr hp' nb' := by
  obtain ⟨v, hl, hr, ho⟩ := h.ex
  have hlen : (u8s b).length = b.length := by simp [u8s]
  refine ca_body (fn := Try.f42) (c := bodyOf Try.f42) Try.func42 rfl (by show 1 ≤ 35; omega) ?_
  show EX _ _ _ _ _ 35 _ _ _ _ _
  unfold bodyOf Try.f42
  refine ex_seq (ex_region ?_)
  refine ro_assign (by simp only [evalF, upd, arg0, argS, ofConst, ofCell, Nat.reduceEqDiff, reduceIte] <;> rfl) (by decide) ?_
  refine ro_nil ?_
  try simp only
  refine ex_seq (ex_seq (ex_weaken (K := fun xa g' hp' nb' => xa = .normal ∧ g' 0 = .ptr idr 1 0 ∧ g' 24 = .pv (.bool (decide (e = 0) && (b.head? == some 255))) ∧ hp' = hp ∧ nb' = nb) ?_ ?_))
  · cases hbb : b with
    | nil =>
      subst hbb
      refine ex_region ?_
      refine ro_move (by simp only [evalF, upd, arg0, argS, ofConst, ofCell, Nat.reduceEqDiff, reduceIte] <;> rfl) (by decide) ?_
      refine ro_nilCheck (by simp only [evalF, upd, arg0, argS, ofConst, ofCell, Nat.reduceEqDiff, reduceIte] <;> rfl) (by decide) ?_
      refine ro_fieldAddr (by simp only [evalF, upd, arg0, argS, ofConst, ofCell, Nat.reduceEqDiff, reduceIte] <;> rfl) (by exact (fa58_0 _ _ _)) (by decide) ?_
      refine ro_load (by simp only [evalF, upd, arg0, argS, ofConst, ofCell, Nat.reduceEqDiff, reduceIte] <;> rfl) (by exact (load1 ag27 hl rfl)) (by decide) ?_
      refine ro_builtin rfl (by simp only [List.map_cons, List.map_nil, evalF, upd, arg0, argS, ofConst, ofCell, Nat.reduceEqDiff, reduceIte] <;> rfl) (by exact (row_len st27 hr)) (by decide) ?_
      refine ro_bin (by simp only [evalF, upd, arg0, argS, ofConst, ofCell, Nat.reduceEqDiff, reduceIte] <;> rfl) (by simp only [evalF, upd, arg0, argS, ofConst, ofCell, Nat.reduceEqDiff, reduceIte] <;> rfl) (by exact (gtr_f (by simp [u8s]))) (by decide) ?_
      refine ro_move (by simp only [evalF, upd, arg0, argS, ofConst, ofCell, Nat.reduceEqDiff, reduceIte] <;> rfl) (by decide) ?_
      refine ro_skip rfl (by simp only [evalF, upd, arg0, argS, ofConst, ofCell, Nat.reduceEqDiff, reduceIte] <;> rfl) rfl (fun e he => by cases he; decide) ?_
      simp only [putF]
      refine ro_skip rfl (by simp only [evalF, upd, arg0, argS, ofConst, ofCell, Nat.reduceEqDiff, reduceIte] <;> rfl) rfl (fun e he => by cases he; decide) ?_
      simp only [putF]
      refine ro_skip rfl (by simp only [evalF, upd, arg0, argS, ofConst, ofCell, Nat.reduceEqDiff, reduceIte] <;> rfl) rfl (fun e he => by cases he; decide) ?_
      simp only [putF]
      refine ro_skip rfl (by simp only [evalF, upd, arg0, argS, ofConst, ofCell, Nat.reduceEqDiff, reduceIte] <;> rfl) rfl (fun e he => by cases he; decide) ?_
      simp only [putF]
      refine ro_skip rfl (by simp only [evalF, upd, arg0, argS, ofConst, ofCell, Nat.reduceEqDiff, reduceIte] <;> rfl) rfl (fun e he => by cases he; decide) ?_
      simp only [putF]
      refine ro_pick (by simp only [evalF, upd, arg0, argS, ofConst, ofCell, Nat.reduceEqDiff, reduceIte] <;> rfl) (by simp only [evalF, upd, arg0, argS, ofConst, ofCell, Nat.reduceEqDiff, reduceIte] <;> rfl) (by simp only [evalF, upd, arg0, argS, ofConst, ofCell, Nat.reduceEqDiff, reduceIte] <;> rfl) (by decide) ?_
      refine ro_move (by simp only [evalF, upd, arg0, argS, ofConst, ofCell, Nat.reduceEqDiff, reduceIte] <;> rfl) (by decide) ?_
      refine ro_skip rfl (by simp only [evalF, upd, arg0, argS, ofConst, ofCell, Nat.reduceEqDiff, reduceIte] <;> rfl) rfl (fun e he => by cases he; decide) ?_
      simp only [putF]
      refine ro_skip rfl (by simp only [evalF, upd, arg0, argS, ofConst, ofCell, Nat.reduceEqDiff, reduceIte] <;> rfl) rfl (fun e he => by cases he; decide) ?_
      simp only [putF]
      refine ro_skip rfl (by simp only [evalF, upd, arg0, argS, ofConst, ofCell, Nat.reduceEqDiff, reduceIte] <;> rfl) rfl (fun e he => by cases he; decide) ?_
      simp only [putF]
      refine ro_skip rfl (by simp only [evalF, upd, arg0, argS, ofConst, ofCell, Nat.reduceEqDiff, reduceIte] <;> rfl) rfl (fun e he => by cases he; decide) ?_
      simp only [putF]
      refine ro_skip rfl (by simp only [evalF, upd, arg0, argS, ofConst, ofCell, Nat.reduceEqDiff, reduceIte] <;> rfl) rfl (fun e he => by cases he; decide) ?_
      simp only [putF]
      refine ro_skip rfl (by simp only [evalF, upd, arg0, argS, ofConst, ofCell, Nat.reduceEqDiff, reduceIte] <;> rfl) rfl (fun e he => by cases he; decide) ?_
      simp only [putF]
      refine ro_skip rfl (by simp only [evalF, upd, arg0, argS, ofConst, ofCell, Nat.reduceEqDiff, reduceIte] <;> rfl) rfl (fun e he => by cases he; decide) ?_
      simp only [putF]
      refine ro_pick (by simp only [evalF, upd, arg0, argS, ofConst, ofCell, Nat.reduceEqDiff, reduceIte] <;> rfl) (by simp only [evalF, upd, arg0, argS, ofConst, ofCell, Nat.reduceEqDiff, reduceIte] <;> rfl) (by simp only [evalF, upd, arg0, argS, ofConst, ofCell, Nat.reduceEqDiff, reduceIte] <;> rfl) (by decide) ?_
      refine ro_nil ?_
      refine ⟨by first | rfl | trivial, by simp [upd, argsF], ?_, by first | rfl | trivial, by first | rfl | trivial⟩
      simp [upd]
    | cons x t =>
      subst hbb
      obtain ⟨a, ha, hla⟩ := row_at st27 hr (i := 0) (x := .int .u8 x) rfl
      by_cases he : e = 0
      · refine ex_region ?_
        refine ro_move (by simp only [evalF, upd, arg0, argS, ofConst, ofCell, Nat.reduceEqDiff, reduceIte] <;> rfl) (by decide) ?_
        refine ro_nilCheck (by simp only [evalF, upd, arg0, argS, ofConst, ofCell, Nat.reduceEqDiff, reduceIte] <;> rfl) (by decide) ?_
        refine ro_fieldAddr (by simp only [evalF, upd, arg0, argS, ofConst, ofCell, Nat.reduceEqDiff, reduceIte] <;> rfl) (by exact (fa58_0 _ _ _)) (by decide) ?_
        refine ro_load (by simp only [evalF, upd, arg0, argS, ofConst, ofCell, Nat.reduceEqDiff, reduceIte] <;> rfl) (by exact (load1 ag27 hl rfl)) (by decide) ?_
        refine ro_builtin rfl (by simp only [List.map_cons, List.map_nil, evalF, upd, arg0, argS, ofConst, ofCell, Nat.reduceEqDiff, reduceIte] <;> rfl) (by exact (row_len st27 hr)) (by decide) ?_
        refine ro_bin (by simp only [evalF, upd, arg0, argS, ofConst, ofCell, Nat.reduceEqDiff, reduceIte] <;> rfl) (by simp only [evalF, upd, arg0, argS, ofConst, ofCell, Nat.reduceEqDiff, reduceIte] <;> rfl) (by exact (gtr_t (by simp [u8s] <;> omega))) (by decide) ?_
        refine ro_move (by simp only [evalF, upd, arg0, argS, ofConst, ofCell, Nat.reduceEqDiff, reduceIte] <;> rfl) (by decide) ?_
        refine ro_guard rfl (by simp only [evalF, upd, arg0, argS, ofConst, ofCell, Nat.reduceEqDiff, reduceIte] <;> rfl) rfl ?_
        refine ro_move (by simp only [evalF, upd, arg0, argS, ofConst, ofCell, Nat.reduceEqDiff, reduceIte] <;> rfl) (by decide) ?_
        refine ro_guard rfl (by simp only [evalF, upd, arg0, argS, ofConst, ofCell, Nat.reduceEqDiff, reduceIte] <;> rfl) rfl ?_
        refine ro_nilCheck (by simp only [evalF, upd, arg0, argS, ofConst, ofCell, Nat.reduceEqDiff, reduceIte] <;> rfl) (by decide) ?_
        refine ro_guard rfl (by simp only [evalF, upd, arg0, argS, ofConst, ofCell, Nat.reduceEqDiff, reduceIte] <;> rfl) rfl ?_
        refine ro_fieldAddr (by simp only [evalF, upd, arg0, argS, ofConst, ofCell, Nat.reduceEqDiff, reduceIte] <;> rfl) (by exact (fa58_1 _ _ _)) (by decide) ?_
        refine ro_guard rfl (by simp only [evalF, upd, arg0, argS, ofConst, ofCell, Nat.reduceEqDiff, reduceIte] <;> rfl) rfl ?_
        refine ro_load (by simp only [evalF, upd, arg0, argS, ofConst, ofCell, Nat.reduceEqDiff, reduceIte] <;> rfl) (by exact (load1 ag28 hl rfl)) (by decide) ?_
        refine ro_guard rfl (by simp only [evalF, upd, arg0, argS, ofConst, ofCell, Nat.reduceEqDiff, reduceIte] <;> rfl) rfl ?_
        refine ro_bin (by simp only [evalF, upd, arg0, argS, ofConst, ofCell, Nat.reduceEqDiff, reduceIte] <;> rfl) (by simp only [evalF, upd, arg0, argS, ofConst, ofCell, Nat.reduceEqDiff, reduceIte] <;> rfl) (by exact (show binOpA Try.prog .eql 28 (.pv (.int .i64 e)) (.pv (.int .i64 0)) = _ from eql_t he)) (by decide) ?_
        refine ro_pick (by simp only [evalF, upd, arg0, argS, ofConst, ofCell, Nat.reduceEqDiff, reduceIte] <;> rfl) (by simp only [evalF, upd, arg0, argS, ofConst, ofCell, Nat.reduceEqDiff, reduceIte] <;> rfl) (by simp only [evalF, upd, arg0, argS, ofConst, ofCell, Nat.reduceEqDiff, reduceIte] <;> rfl) (by decide) ?_
        refine ro_move (by simp only [evalF, upd, arg0, argS, ofConst, ofCell, Nat.reduceEqDiff, reduceIte] <;> rfl) (by decide) ?_
        refine ro_guard rfl (by simp only [evalF, upd, arg0, argS, ofConst, ofCell, Nat.reduceEqDiff, reduceIte] <;> rfl) rfl ?_
        refine ro_move (by simp only [evalF, upd, arg0, argS, ofConst, ofCell, Nat.reduceEqDiff, reduceIte] <;> rfl) (by decide) ?_
        refine ro_guard rfl (by simp only [evalF, upd, arg0, argS, ofConst, ofCell, Nat.reduceEqDiff, reduceIte] <;> rfl) rfl ?_
        refine ro_nilCheck (by simp only [evalF, upd, arg0, argS, ofConst, ofCell, Nat.reduceEqDiff, reduceIte] <;> rfl) (by decide) ?_
        refine ro_guard rfl (by simp only [evalF, upd, arg0, argS, ofConst, ofCell, Nat.reduceEqDiff, reduceIte] <;> rfl) rfl ?_
        refine ro_fieldAddr (by simp only [evalF, upd, arg0, argS, ofConst, ofCell, Nat.reduceEqDiff, reduceIte] <;> rfl) (by exact (fa58_0 _ _ _)) (by decide) ?_
        refine ro_guard rfl (by simp only [evalF, upd, arg0, argS, ofConst, ofCell, Nat.reduceEqDiff, reduceIte] <;> rfl) rfl ?_
        refine ro_load (by simp only [evalF, upd, arg0, argS, ofConst, ofCell, Nat.reduceEqDiff, reduceIte] <;> rfl) (by exact (load1 ag27 hl rfl)) (by decide) ?_
        refine ro_guard rfl (by simp only [evalF, upd, arg0, argS, ofConst, ofCell, Nat.reduceEqDiff, reduceIte] <;> rfl) rfl ?_
        refine ro_indexAddr (by simp only [evalF, upd, arg0, argS, ofConst, ofCell, Nat.reduceEqDiff, reduceIte] <;> rfl) (by simp only [evalF, upd, arg0, argS, ofConst, ofCell, Nat.reduceEqDiff, reduceIte] <;> rfl) (by exact (show indexAddrA Try.prog 27 v (.pv (.int .i64 0)) = some a from ha)) (by decide) ?_
        refine ro_guard rfl (by simp only [evalF, upd, arg0, argS, ofConst, ofCell, Nat.reduceEqDiff, reduceIte] <;> rfl) rfl ?_
        refine ro_load (by simp only [evalF, upd, arg0, argS, ofConst, ofCell, Nat.reduceEqDiff, reduceIte] <;> rfl) (by exact (hla)) (by decide) ?_
        refine ro_guard rfl (by simp only [evalF, upd, arg0, argS, ofConst, ofCell, Nat.reduceEqDiff, reduceIte] <;> rfl) rfl ?_
        refine ro_bin (by simp only [evalF, upd, arg0, argS, ofConst, ofCell, Nat.reduceEqDiff, reduceIte] <;> rfl) (by simp only [evalF, upd, arg0, argS, ofConst, ofCell, Nat.reduceEqDiff, reduceIte] <;> rfl) (by exact (eql5 _ _)) (by decide) ?_
        refine ro_pick (by simp only [evalF, upd, arg0, argS, ofConst, ofCell, Nat.reduceEqDiff, reduceIte] <;> rfl) (by simp only [evalF, upd, arg0, argS, ofConst, ofCell, Nat.reduceEqDiff, reduceIte] <;> rfl) (by simp only [evalF, upd, arg0, argS, ofConst, ofCell, Nat.reduceEqDiff, reduceIte] <;> rfl) (by decide) ?_
        refine ro_nil ?_
        refine ⟨by first | rfl | trivial, by simp [upd, argsF], ?_, by first | rfl | trivial, by first | rfl | trivial⟩
        simp [upd, he]
      · refine ex_region ?_
        refine ro_move (by simp only [evalF, upd, arg0, argS, ofConst, ofCell, Nat.reduceEqDiff, reduceIte] <;> rfl) (by decide) ?_
        refine ro_nilCheck (by simp only [evalF, upd, arg0, argS, ofConst, ofCell, Nat.reduceEqDiff, reduceIte] <;> rfl) (by decide) ?_
        refine ro_fieldAddr (by simp only [evalF, upd, arg0, argS, ofConst, ofCell, Nat.reduceEqDiff, reduceIte] <;> rfl) (by exact (fa58_0 _ _ _)) (by decide) ?_
        refine ro_load (by simp only [evalF, upd, arg0, argS, ofConst, ofCell, Nat.reduceEqDiff, reduceIte] <;> rfl) (by exact (load1 ag27 hl rfl)) (by decide) ?_
        refine ro_builtin rfl (by simp only [List.map_cons, List.map_nil, evalF, upd, arg0, argS, ofConst, ofCell, Nat.reduceEqDiff, reduceIte] <;> rfl) (by exact (row_len st27 hr)) (by decide) ?_
        refine ro_bin (by simp only [evalF, upd, arg0, argS, ofConst, ofCell, Nat.reduceEqDiff, reduceIte] <;> rfl) (by simp only [evalF, upd, arg0, argS, ofConst, ofCell, Nat.reduceEqDiff, reduceIte] <;> rfl) (by exact (gtr_t (by simp [u8s] <;> omega))) (by decide) ?_
        refine ro_move (by simp only [evalF, upd, arg0, argS, ofConst, ofCell, Nat.reduceEqDiff, reduceIte] <;> rfl) (by decide) ?_
        refine ro_guard rfl (by simp only [evalF, upd, arg0, argS, ofConst, ofCell, Nat.reduceEqDiff, reduceIte] <;> rfl) rfl ?_
        refine ro_move (by simp only [evalF, upd, arg0, argS, ofConst, ofCell, Nat.reduceEqDiff, reduceIte] <;> rfl) (by decide) ?_
        refine ro_guard rfl (by simp only [evalF, upd, arg0, argS, ofConst, ofCell, Nat.reduceEqDiff, reduceIte] <;> rfl) rfl ?_
        refine ro_nilCheck (by simp only [evalF, upd, arg0, argS, ofConst, ofCell, Nat.reduceEqDiff, reduceIte] <;> rfl) (by decide) ?_
        refine ro_guard rfl (by simp only [evalF, upd, arg0, argS, ofConst, ofCell, Nat.reduceEqDiff, reduceIte] <;> rfl) rfl ?_
        refine ro_fieldAddr (by simp only [evalF, upd, arg0, argS, ofConst, ofCell, Nat.reduceEqDiff, reduceIte] <;> rfl) (by exact (fa58_1 _ _ _)) (by decide) ?_
        refine ro_guard rfl (by simp only [evalF, upd, arg0, argS, ofConst, ofCell, Nat.reduceEqDiff, reduceIte] <;> rfl) rfl ?_
        refine ro_load (by simp only [evalF, upd, arg0, argS, ofConst, ofCell, Nat.reduceEqDiff, reduceIte] <;> rfl) (by exact (load1 ag28 hl rfl)) (by decide) ?_
        refine ro_guard rfl (by simp only [evalF, upd, arg0, argS, ofConst, ofCell, Nat.reduceEqDiff, reduceIte] <;> rfl) rfl ?_
        refine ro_bin (by simp only [evalF, upd, arg0, argS, ofConst, ofCell, Nat.reduceEqDiff, reduceIte] <;> rfl) (by simp only [evalF, upd, arg0, argS, ofConst, ofCell, Nat.reduceEqDiff, reduceIte] <;> rfl) (by exact (show binOpA Try.prog .eql 28 (.pv (.int .i64 e)) (.pv (.int .i64 0)) = _ from eql_f he)) (by decide) ?_
        refine ro_pick (by simp only [evalF, upd, arg0, argS, ofConst, ofCell, Nat.reduceEqDiff, reduceIte] <;> rfl) (by simp only [evalF, upd, arg0, argS, ofConst, ofCell, Nat.reduceEqDiff, reduceIte] <;> rfl) (by simp only [evalF, upd, arg0, argS, ofConst, ofCell, Nat.reduceEqDiff, reduceIte] <;> rfl) (by decide) ?_
        refine ro_move (by simp only [evalF, upd, arg0, argS, ofConst, ofCell, Nat.reduceEqDiff, reduceIte] <;> rfl) (by decide) ?_
        refine ro_skip rfl (by simp only [evalF, upd, arg0, argS, ofConst, ofCell, Nat.reduceEqDiff, reduceIte] <;> rfl) rfl (fun e he => by cases he; decide) ?_
        simp only [putF]
        refine ro_skip rfl (by simp only [evalF, upd, arg0, argS, ofConst, ofCell, Nat.reduceEqDiff, reduceIte] <;> rfl) rfl (fun e he => by cases he; decide) ?_
        simp only [putF]
        refine ro_skip rfl (by simp only [evalF, upd, arg0, argS, ofConst, ofCell, Nat.reduceEqDiff, reduceIte] <;> rfl) rfl (fun e he => by cases he; decide) ?_
        simp only [putF]
        refine ro_skip rfl (by simp only [evalF, upd, arg0, argS, ofConst, ofCell, Nat.reduceEqDiff, reduceIte] <;> rfl) rfl (fun e he => by cases he; decide) ?_
        simp only [putF]
        refine ro_skip rfl (by simp only [evalF, upd, arg0, argS, ofConst, ofCell, Nat.reduceEqDiff, reduceIte] <;> rfl) rfl (fun e he => by cases he; decide) ?_
        simp only [putF]
        refine ro_skip rfl (by simp only [evalF, upd, arg0, argS, ofConst, ofCell, Nat.reduceEqDiff, reduceIte] <;> rfl) rfl (fun e he => by cases he; decide) ?_
        simp only [putF]
        refine ro_skip rfl (by simp only [evalF, upd, arg0, argS, ofConst, ofCell, Nat.reduceEqDiff, reduceIte] <;> rfl) rfl (fun e he => by cases he; decide) ?_
        simp only [putF]
        refine ro_pick (by simp only [evalF, upd, arg0, argS, ofConst, ofCell, Nat.reduceEqDiff, reduceIte] <;> rfl) (by simp only [evalF, upd, arg0, argS, ofConst, ofCell, Nat.reduceEqDiff, reduceIte] <;> rfl) (by simp only [evalF, upd, arg0, argS, ofConst, ofCell, Nat.reduceEqDiff, reduceIte] <;> rfl) (by decide) ?_
        refine ro_nil ?_
        refine ⟨by first | rfl | trivial, by simp [upd, argsF], ?_, by first | rfl | trivial, by first | rfl | trivial⟩
        simp [upd, he]
  rintro xa g1 hpx nbx ⟨rfl, h0, h24, e1, e2⟩
  rw [e1, e2]
  clear e1 e2 hpx nbx
  try simp only
  refine ex_cond (t := decide (e = 0) && (b.head? == some 255)) (by simp only [evalF, upd, arg0, argS, ofConst, ofCell, Nat.reduceEqDiff, reduceIte, h0, h24] <;> rfl) (fun ht => ?_) (fun ht => ?_)
  · simp only [Bool.and_eq_true, decide_eq_true_eq, beq_iff_eq] at ht
    obtain ⟨he, hh⟩ := ht
    cases b with
    | nil => simp at hh
    | cons x t =>
      simp at hh
      subst hh
      obtain ⟨v2, s2, r2, o2⟩ := row_slice st27 hr (lo := 1) (hi := t.length + 1) (lv := some (.pv (.int .i64 (1 : Nat)))) (hv := none) (.inl rfl) (.inr ⟨rfl, by simp [u8s]⟩) (by omega) (by simp [u8s])
      refine ex_seq (ex_region ?_)
      refine ro_move (by simp only [evalF, upd, arg0, argS, ofConst, ofCell, Nat.reduceEqDiff, reduceIte, h0, h24] <;> rfl) (by decide) ?_
      refine ro_move (by simp only [evalF, upd, arg0, argS, ofConst, ofCell, Nat.reduceEqDiff, reduceIte, h0, h24] <;> rfl) (by decide) ?_
      refine ro_nilCheck (by simp only [evalF, upd, arg0, argS, ofConst, ofCell, Nat.reduceEqDiff, reduceIte, h0, h24] <;> rfl) (by decide) ?_
      refine ro_fieldAddr (by simp only [evalF, upd, arg0, argS, ofConst, ofCell, Nat.reduceEqDiff, reduceIte, h0, h24] <;> rfl) (by exact (fa58_0 _ _ _)) (by decide) ?_
      refine ro_load (by simp only [evalF, upd, arg0, argS, ofConst, ofCell, Nat.reduceEqDiff, reduceIte, h0, h24] <;> rfl) (by exact (load1 ag27 hl rfl)) (by decide) ?_
      refine ro_slice (by simp only [evalF, upd, arg0, argS, ofConst, ofCell, Nat.reduceEqDiff, reduceIte, h0, h24] <;> rfl) (by simp only [Option.map_some, evalF, ofConst, ofCell]; rfl) rfl rfl s2 (by decide) ?_
      refine ro_nilCheck (by simp only [evalF, upd, arg0, argS, ofConst, ofCell, Nat.reduceEqDiff, reduceIte, h0, h24] <;> rfl) (by decide) ?_
      refine ro_fieldAddr (by simp only [evalF, upd, arg0, argS, ofConst, ofCell, Nat.reduceEqDiff, reduceIte, h0, h24] <;> rfl) (by exact (fa58_0 _ _ _)) (by decide) ?_
      refine ro_store (by simp only [evalF, upd, arg0, argS, ofConst, ofCell, Nat.reduceEqDiff, reduceIte, h0, h24] <;> rfl) (by simp only [evalF, upd, arg0, argS, ofConst, ofCell, Nat.reduceEqDiff, reduceIte, h0, h24] <;> rfl) (store1 sz27 hl (row_cell r2).2 (row_cell r2).1 (by show 0 + 1 ≤ 2; omega)) ?_
      refine ro_nil ?_
      try simp only
      refine ex_seq (ex_region ?_)
      refine ro_assign (by simp only [evalF, upd, arg0, argS, ofConst, ofCell, Nat.reduceEqDiff, reduceIte, h0, h24] <;> rfl) (by decide) ?_
      refine ro_nil ?_
      try simp only
      refine ex_ret ?_
      have e2 : ((u8s (255 :: t)).drop 1).take (t.length + 1 - 1) = u8s t := by
        simp [u8s, List.take_of_length_le]
      rw [e2] at r2
      have hx := rd_put (e := 0) h.lt h.le r2 (fun id h => ho id (o2 _ h))
      have hcell : splice [v, .pv (.int .i64 e)] 0 [v2] = [v2, .pv (.int .i64 0)] := by rw [he]; rfl
      refine ⟨_, rfl, ?_⟩
      rw [hcell]
      have hp1 : predR (255 :: t) e = (-1, t, 0) := by rw [predR, if_pos ⟨he, rfl⟩]
      rw [hp1]
      simp only [upd, Nat.reduceEqDiff, reduceIte]
      exact ⟨by first | rfl | trivial, hx.1, hx.2⟩
  · refine ex_skip ?_
    try simp only
    have hp1 : predR b e = byteR b e 9 := by
      unfold predR
      cases b with
      | nil => rfl
      | cons x t =>
        simp only
        rw [if_neg]
        rintro ⟨h1, h2⟩
        subst h1; subst h2
        simp at ht
    refine ex_seq (ex_region ?_)
    refine ro_move (by simp only [evalF, upd, arg0, argS, ofConst, ofCell, Nat.reduceEqDiff, reduceIte, h0, h24] <;> rfl) (by decide) ?_
    refine ro_call (f := 43) («as» := [.ptr idr 1 0, .pv (.int .i64 9)]) rfl (by simp [evalF, upd, h0, ofConst, ofCell]) hpu3 rfl (byte_calls S pure lim d hpu hpu2 hlim 9 hb h) (by decide) ?_
    rintro v2 hp2 nb2 ⟨rfl, hr2, hk2⟩
    refine ro_assign (by simp only [evalF, upd, arg0, argS, ofConst, ofCell, Nat.reduceEqDiff, reduceIte, h0, h24] <;> rfl) (by decide) ?_
    refine ro_nil ?_
    try simp only
    refine ex_ret ?_
    refine ⟨_, rfl, ?_⟩
    rw [hp1]
    simp only [upd, Nat.reduceEqDiff, reduceIte]
    exact ⟨by first | rfl | trivial, hr2, hk2⟩
/-- Bytes as a number. -/
def numOf (t : List Int) : Int := t.foldl (fun n x => n * 256 + x) 0
def numR (b : List Int) (e : Int) (size : Nat) (least most : Int) : Int × List Int × Int :=
  match takeR b e size with
  | (t, b', e') => (numOf t, b', if e' = 0 ∧ (numOf t < least ∨ numOf t > most) then 11 else e')
theorem shl8 (n : Int) (h : 0 ≤ n ∧ n < 16777216) : binOpA Try.prog .shl 3 (.pv (.int .i64 n)) (.pv (.int .u64 8)) = some (.pv (.int .i64 (n * 256))) := by
  show (shiftA .shl .i64 n 8).map AV.pv = _
  unfold shiftA
  rw [if_neg (by omega)]
  simp only [Option.map_some]
  have e : (2 : Int) ^ (min (8 : Int).toNat IntKind.i64.bits) = 256 := by rfl
  rw [e, IntWalk.i64_in _ (by omega)]
theorem or8 (n x : Int) (h : 0 ≤ n ∧ n < 16777216) (hx : 0 ≤ x ∧ x ≤ 255) : binOpA Try.prog .or 3 (.pv (.int .i64 (n * 256))) (.pv (.int .i64 x)) = some (.pv (.int .i64 (n * 256 + x))) := by
  show some (AV.pv (.int .i64 (IntKind.i64.wrap ((BitVec.ofInt 64 (n * 256) ||| BitVec.ofInt 64 x).toNat : Int)))) = _
  obtain ⟨a, rfl⟩ := Int.eq_ofNat_of_zero_le h.1
  obtain ⟨c, rfl⟩ := Int.eq_ofNat_of_zero_le hx.1
  have e1 : BitVec.ofInt 64 ((a : Int) * 256) = BitVec.ofNat 64 (a * 256) := by
    rw [show ((a : Int) * 256) = ((a * 256 : Nat) : Int) by omega]
    exact BitVec.ofInt_natCast 64 _
  have e2 : BitVec.ofInt 64 (c : Int) = BitVec.ofNat 64 c := BitVec.ofInt_natCast 64 _
  rw [e1, e2, BitVec.toNat_or, BitVec.toNat_ofNat, BitVec.toNat_ofNat, Nat.mod_eq_of_lt (by omega), Nat.mod_eq_of_lt (by omega)]
  have e3 : a * 256 ||| c = a * 256 + c := by
    have := Nat.shiftLeft_add_eq_or_of_lt (show c < 2 ^ 8 by omega) a
    rw [Nat.shiftLeft_eq] at this
    exact this.symm
  rw [e3, IntWalk.i64_in _ (by omega)]
  congr 3
theorem take_len {b : List Int} {e : Int} {n : Nat} (hb : ∀ x ∈ b, 0 ≤ x ∧ x ≤ 255) : (takeR b e n).1.length ≤ n ∧ (∀ x ∈ (takeR b e n).1, 0 ≤ x ∧ x ≤ 255) ∧ ∀ x ∈ (takeR b e n).2.1, 0 ≤ x ∧ x ≤ 255 := by
  unfold takeR
  split
  · exact ⟨by simp, by simp, hb⟩
  · exact ⟨by simp; omega, fun x hx => hb x (List.mem_of_mem_take hx), fun x hx => hb x (List.mem_of_mem_drop hx)⟩
theorem num_bound : ∀ (t : List Int), (∀ x ∈ t, 0 ≤ x ∧ x ≤ 255) → 0 ≤ numOf t ∧ numOf t < 256 ^ t.length := by
  have key : ∀ (t : List Int) (a : Int), 0 ≤ a → (∀ x ∈ t, 0 ≤ x ∧ x ≤ 255) → 0 ≤ t.foldl (fun n x => n * 256 + x) a ∧ t.foldl (fun n x => n * 256 + x) a < (a + 1) * 256 ^ t.length := by
    intro t
    induction t with
    | nil => intro a ha h; simp; omega
    | cons x t ih =>
      intro a ha h
      have hx := h x List.mem_cons_self
      obtain ⟨h1, h2⟩ := ih (a * 256 + x) (by omega) (fun y hy => h y (List.mem_cons_of_mem _ hy))
      refine ⟨h1, ?_⟩
      simp only [List.foldl_cons, List.length_cons]
      refine Int.lt_of_lt_of_le h2 ?_
      rw [Int.pow_succ, Int.mul_comm (256 ^ t.length) 256, ← Int.mul_assoc]
      exact Int.mul_le_mul_of_nonneg_right (by omega) (Int.le_of_lt (Int.pow_pos (by omega)))
  intro t h
  have := key t 0 (by omega) h
  simpa [numOf] using this
theorem num_small {t : List Int} (h : ∀ x ∈ t, 0 ≤ x ∧ x ≤ 255) (hl : t.length ≤ 3) : 0 ≤ numOf t ∧ numOf t < 16777216 := by
  obtain ⟨h1, h2⟩ := num_bound t h
  refine ⟨h1, Int.lt_of_lt_of_le h2 ?_⟩
  have : t.length = 0 ∨ t.length = 1 ∨ t.length = 2 ∨ t.length = 3 := by omega
  rcases this with h | h | h | h <;> rw [h] <;> decide
theorem num_snoc (t : List Int) (x : Int) : numOf (t ++ [x]) = numOf t * 256 + x := by simp [numOf]
theorem ro_skipU {P : Program} {pure : Nat → Bool} {F : CallF} {G : CallG} {n : Nat} {ops rest : List Oper} {g : Gm} {hp : Hp} {nb : Nat} {Q : Gm → Hp → Nat → Prop} {j : Nat} {want : Bool} {d : Nat} {op : Op} {ty : TypeId} {pos : String} {aft : Array Edge} {e : Nat} (he : (ops[j]?).bind (·.dst) = some e) (hg : g e = undefA) (hd : d < n)
    (h2 : RO P pure F G n ops rest (upd g d undefA) hp nb Q) : RO P pure F G n ops ({ dst := some d, op := op, type := ty, pos := pos, after := aft, guard := some (j, want) } :: rest) g hp nb Q := by
  intro T h r
  have hst : stepOp P pure F G ops { dst := some d, op := op, type := ty, pos := pos, after := aft, guard := some (j, want) } (T, h) = some (undefA, .no) := by
    unfold stepOp
    rw [rel_want r]
    unfold wantF
    simp only [he, hg, undefA]
  obtain ⟨T', h', g', hp1, nb1, e1, e2, e3⟩ := h2 _ _ (rel_put r hd undefA r.hp r.nb)
  refine ⟨T', h', g', hp1, nb1, ?_, e2, e3⟩
  rw [runOps_cons, hst]
  exact e1
theorem number_calls (S : CallG) (pure : Nat → Bool) (lim d : Nat) (hpu : pure 27 = false) (hpu2 : pure 44 = false) (hlim : 10 ≤ lim) {hp : Hp} {nb idr q : Nat} {b : List Int} {e : Int} (size : Nat) (hsz : size ≤ 4) (least most : Int) (hb : ∀ x ∈ b, 0 ≤ x ∧ x ≤ 255) (h : Rd hp nb idr q b e) :
    CA (callA Try.prog S pure lim (d + 3)) 46 [.ptr idr 1 0, .pv (.int .i64 size), .pv (.int .i64 least), .pv (.int .i64 most)] hp nb fun v hp' nb' => v = .pv (.int .i64 (numR b e size least most).1) ∧ Rd hp' nb idr q (numR b e size least most).2.1 (numR b e size least most).2.2 ∧ KeepR hp nb idr hp' nb' := by
  refine ca_body (fn := Try.f46) (c := bodyOf Try.f46) Try.func46 rfl (by show 4 ≤ 44; omega) ?_
  show EX _ _ _ _ _ 44 _ _ _ _ _
  unfold bodyOf Try.f46
  refine ex_seq (ex_region ?_)
  refine ro_assign (by simp only [evalF, upd, arg0, argS, ofConst, ofCell, Nat.reduceEqDiff, reduceIte] <;> rfl) (by decide) ?_
  refine ro_nil ?_
  try simp only
  refine ex_seq (ex_region ?_)
  refine ro_assign (by simp only [evalF, upd, arg0, argS, ofConst, ofCell, Nat.reduceEqDiff, reduceIte] <;> rfl) (by decide) ?_
  refine ro_nil ?_
  try simp only
  refine ex_seq ?_
  refine ex_seq (ex_region ?_)
  refine ro_move (by simp only [evalF, upd, arg0, argS, ofConst, ofCell, Nat.reduceEqDiff, reduceIte] <;> rfl) (by decide) ?_
  refine ro_move (by simp only [evalF, upd, arg0, argS, ofConst, ofCell, Nat.reduceEqDiff, reduceIte] <;> rfl) (by decide) ?_
  refine ro_call (f := 44) («as» := [.ptr idr 1 0, .pv (.int .i64 size)]) rfl (by simp [evalF, upd, argsF]) hpu2 rfl (take_calls S pure lim d hpu size h) (by decide) ?_
  rintro v1 hp1 nb1 ⟨hr1, ho1, hrd1, hk1⟩
  obtain rfl := hk1.1
  refine ro_builtin rfl (by simp only [List.map_cons, List.map_nil, evalF, upd, arg0, argS, ofConst, ofCell, Nat.reduceEqDiff, reduceIte] <;> rfl) (by exact (row_len st27 hr1)) (by decide) ?_
  refine ro_move (by simp only [evalF, upd, arg0, argS, ofConst, ofCell, Nat.reduceEqDiff, reduceIte] <;> rfl) (by decide) ?_
  refine ro_nil ?_
  try simp only
  obtain ⟨htl, htb, _⟩ := take_len (e := e) (n := size) hb
  have hnum : numR b e size least most = (numOf (takeR b e size).1, (takeR b e size).2.1, if (takeR b e size).2.2 = 0 ∧ (numOf (takeR b e size).1 < least ∨ numOf (takeR b e size).1 > most) then 11 else (takeR b e size).2.2) := rfl
  generalize htk : takeR b e size = tk at *
  obtain ⟨t, b', e'⟩ := tk
  simp only at *
  have hul : (u8s t).length = t.length := by simp [u8s]
  refine ex_block (ex_loop (I := fun k g hpx nbx => ∃ i : Nat, k = t.length - i ∧ i ≤ t.length ∧ g 0 = .ptr idr 1 0 ∧ g 2 = .pv (.int .i64 least) ∧ g 3 = .pv (.int .i64 most) ∧ g 9 = .pv (.int .i64 (numOf (t.take i))) ∧ g 14 = v1 ∧ g 15 = .pv (.int .i64 t.length) ∧ g 16 = .pv (.int .i64 i) ∧ hpx = hp1 ∧ nbx = nb1) (m := t.length)
    ⟨0, rfl, Nat.zero_le _, by simp [upd, argsF], by simp [upd, argsF], by simp [upd, argsF], by simp [upd, numOf], by simp [upd], by simp [upd, hul], by simp [upd], rfl, rfl⟩ (by omega) ?_)
  rintro k g hpx nbx ⟨i, hkk, hi, h0, h2, h3, h9, h14, h15, h16, e1, e2⟩
  rw [e1, e2]
  refine ex_seq (ex_region ?_)
  refine ro_bin (by simp only [evalF, upd, arg0, argS, ofConst, ofCell, Nat.reduceEqDiff, reduceIte, h0, h2, h3, h9, h14, h15, h16] <;> rfl) (by simp only [evalF, upd, arg0, argS, ofConst, ofCell, Nat.reduceEqDiff, reduceIte, h0, h2, h3, h9, h14, h15, h16] <;> rfl) (by exact (lss_v)) (by decide) ?_
  refine ro_nil ?_
  try simp only
  refine ex_seq (ex_cond (t := decide ((i : Int) < t.length)) (by simp only [evalF, upd, arg0, argS, ofConst, ofCell, Nat.reduceEqDiff, reduceIte, h0, h2, h3, h9, h14, h15, h16] <;> rfl) (fun ht => ?_) (fun ht => ?_))
  rotate_left
  · have hie : i = t.length := by
      have := of_decide_eq_false ht
      omega
    subst hie
    rw [List.take_length] at h9
    refine ex_exit ?_
    simp only [if_true]
    obtain ⟨vr, hlr, hrr, hor⟩ := hrd1.ex
    have hfin : ∀ (bo : Bool), bo = (decide (e' = 0) && (decide (numOf t < least) || decide (numOf t > most))) → (if e' = 0 ∧ (numOf t < least ∨ numOf t > most) then (11 : Int) else e') = if bo then firstE e' 11 else e' := by
      intro bo hbo
      by_cases h1 : e' = 0
      · by_cases h2 : numOf t < least ∨ numOf t > most
        · rw [if_pos ⟨h1, h2⟩]
          have : bo = true := by
            rw [hbo]
            simp only [h1, decide_true, Bool.true_and, Bool.or_eq_true, decide_eq_true_eq]
            exact h2
          rw [this, firstE, if_pos rfl, if_pos h1]
        · rw [if_neg (fun h => h2 h.2)]
          have : bo = false := by
            rw [hbo]
            simp only [h1, decide_true, Bool.true_and, Bool.or_eq_false_iff, decide_eq_false_iff_not]
            exact ⟨fun h => h2 (.inl h), fun h => h2 (.inr h)⟩
          rw [this]; rfl
      · rw [if_neg (fun h => h1 h.1)]
        have : bo = false := by rw [hbo]; simp [h1]
        rw [this]; rfl
    refine ex_seq (ex_seq (ex_weaken (K := fun xa g' hp' nb' => xa = .normal ∧ g' 0 = .ptr idr 1 0 ∧ g' 9 = .pv (.int .i64 (numOf t)) ∧ g' 40 = .pv (.bool (decide (e' = 0) && (decide (numOf t < least) || decide (numOf t > most)))) ∧ hp' = hp1 ∧ nb' = nb1) ?_ ?_))
    · by_cases he : e' = 0
      · by_cases hlo : numOf t < least
        · refine ex_region ?_
          refine ro_move (by simp only [evalF, upd, arg0, argS, ofConst, ofCell, Nat.reduceEqDiff, reduceIte, h0, h2, h3, h9] <;> rfl) (by decide) ?_
          refine ro_nilCheck (by simp only [evalF, upd, arg0, argS, ofConst, ofCell, Nat.reduceEqDiff, reduceIte, h0, h2, h3, h9] <;> rfl) (by decide) ?_
          refine ro_fieldAddr (by simp only [evalF, upd, arg0, argS, ofConst, ofCell, Nat.reduceEqDiff, reduceIte, h0, h2, h3, h9] <;> rfl) (by exact (fa58_1 _ _ _)) (by decide) ?_
          refine ro_load (by simp only [evalF, upd, arg0, argS, ofConst, ofCell, Nat.reduceEqDiff, reduceIte, h0, h2, h3, h9] <;> rfl) (by exact (load1 ag28 hlr rfl)) (by decide) ?_
          refine ro_bin (by simp only [evalF, upd, arg0, argS, ofConst, ofCell, Nat.reduceEqDiff, reduceIte, h0, h2, h3, h9] <;> rfl) (by simp only [evalF, upd, arg0, argS, ofConst, ofCell, Nat.reduceEqDiff, reduceIte, h0, h2, h3, h9] <;> rfl) (by exact (show binOpA Try.prog .eql 28 (.pv (.int .i64 e')) (.pv (.int .i64 0)) = _ from eql_t he)) (by decide) ?_
          refine ro_move (by simp only [evalF, upd, arg0, argS, ofConst, ofCell, Nat.reduceEqDiff, reduceIte, h0, h2, h3, h9] <;> rfl) (by decide) ?_
          refine ro_guard rfl (by simp only [evalF, upd, arg0, argS, ofConst, ofCell, Nat.reduceEqDiff, reduceIte, h0, h2, h3, h9] <;> rfl) rfl ?_
          refine ro_move (by simp only [evalF, upd, arg0, argS, ofConst, ofCell, Nat.reduceEqDiff, reduceIte, h0, h2, h3, h9] <;> rfl) (by decide) ?_
          refine ro_guard rfl (by simp only [evalF, upd, arg0, argS, ofConst, ofCell, Nat.reduceEqDiff, reduceIte, h0, h2, h3, h9] <;> rfl) rfl ?_
          refine ro_move (by simp only [evalF, upd, arg0, argS, ofConst, ofCell, Nat.reduceEqDiff, reduceIte, h0, h2, h3, h9] <;> rfl) (by decide) ?_
          refine ro_guard rfl (by simp only [evalF, upd, arg0, argS, ofConst, ofCell, Nat.reduceEqDiff, reduceIte, h0, h2, h3, h9] <;> rfl) rfl ?_
          refine ro_bin (by simp only [evalF, upd, arg0, argS, ofConst, ofCell, Nat.reduceEqDiff, reduceIte, h0, h2, h3, h9] <;> rfl) (by simp only [evalF, upd, arg0, argS, ofConst, ofCell, Nat.reduceEqDiff, reduceIte, h0, h2, h3, h9] <;> rfl) (by exact (lss_t hlo)) (by decide) ?_
          refine ro_guard rfl (by simp only [evalF, upd, arg0, argS, ofConst, ofCell, Nat.reduceEqDiff, reduceIte, h0, h2, h3, h9] <;> rfl) rfl ?_
          refine ro_move (by simp only [evalF, upd, arg0, argS, ofConst, ofCell, Nat.reduceEqDiff, reduceIte, h0, h2, h3, h9] <;> rfl) (by decide) ?_
          refine ro_skip rfl (by simp only [evalF, upd, arg0, argS, ofConst, ofCell, Nat.reduceEqDiff, reduceIte, h0, h2, h3, h9] <;> rfl) rfl (fun e he => by cases he; decide) ?_
          simp only [putF]
          refine ro_skip rfl (by simp only [evalF, upd, arg0, argS, ofConst, ofCell, Nat.reduceEqDiff, reduceIte, h0, h2, h3, h9] <;> rfl) rfl (fun e he => by cases he; decide) ?_
          simp only [putF]
          refine ro_skip rfl (by simp only [evalF, upd, arg0, argS, ofConst, ofCell, Nat.reduceEqDiff, reduceIte, h0, h2, h3, h9] <;> rfl) rfl (fun e he => by cases he; decide) ?_
          simp only [putF]
          refine ro_guard rfl (by simp only [evalF, upd, arg0, argS, ofConst, ofCell, Nat.reduceEqDiff, reduceIte, h0, h2, h3, h9] <;> rfl) rfl ?_
          refine ro_pick (by simp only [evalF, upd, arg0, argS, ofConst, ofCell, Nat.reduceEqDiff, reduceIte, h0, h2, h3, h9] <;> rfl) (by simp only [evalF, upd, arg0, argS, ofConst, ofCell, Nat.reduceEqDiff, reduceIte, h0, h2, h3, h9] <;> rfl) (by simp only [evalF, upd, arg0, argS, ofConst, ofCell, Nat.reduceEqDiff, reduceIte, h0, h2, h3, h9] <;> rfl) (by decide) ?_
          refine ro_pick (by simp only [evalF, upd, arg0, argS, ofConst, ofCell, Nat.reduceEqDiff, reduceIte, h0, h2, h3, h9] <;> rfl) (by simp only [evalF, upd, arg0, argS, ofConst, ofCell, Nat.reduceEqDiff, reduceIte, h0, h2, h3, h9] <;> rfl) (by simp only [evalF, upd, arg0, argS, ofConst, ofCell, Nat.reduceEqDiff, reduceIte, h0, h2, h3, h9] <;> rfl) (by decide) ?_
          refine ro_nil ?_
          refine ⟨by first | rfl | trivial, by simp [upd, h0], by simp [upd, h9], ?_, by first | rfl | trivial, by first | rfl | trivial⟩
          simp [upd, he, hlo]
        · refine ex_region ?_
          refine ro_move (by simp only [evalF, upd, arg0, argS, ofConst, ofCell, Nat.reduceEqDiff, reduceIte, h0, h2, h3, h9] <;> rfl) (by decide) ?_
          refine ro_nilCheck (by simp only [evalF, upd, arg0, argS, ofConst, ofCell, Nat.reduceEqDiff, reduceIte, h0, h2, h3, h9] <;> rfl) (by decide) ?_
          refine ro_fieldAddr (by simp only [evalF, upd, arg0, argS, ofConst, ofCell, Nat.reduceEqDiff, reduceIte, h0, h2, h3, h9] <;> rfl) (by exact (fa58_1 _ _ _)) (by decide) ?_
          refine ro_load (by simp only [evalF, upd, arg0, argS, ofConst, ofCell, Nat.reduceEqDiff, reduceIte, h0, h2, h3, h9] <;> rfl) (by exact (load1 ag28 hlr rfl)) (by decide) ?_
          refine ro_bin (by simp only [evalF, upd, arg0, argS, ofConst, ofCell, Nat.reduceEqDiff, reduceIte, h0, h2, h3, h9] <;> rfl) (by simp only [evalF, upd, arg0, argS, ofConst, ofCell, Nat.reduceEqDiff, reduceIte, h0, h2, h3, h9] <;> rfl) (by exact (show binOpA Try.prog .eql 28 (.pv (.int .i64 e')) (.pv (.int .i64 0)) = _ from eql_t he)) (by decide) ?_
          refine ro_move (by simp only [evalF, upd, arg0, argS, ofConst, ofCell, Nat.reduceEqDiff, reduceIte, h0, h2, h3, h9] <;> rfl) (by decide) ?_
          refine ro_guard rfl (by simp only [evalF, upd, arg0, argS, ofConst, ofCell, Nat.reduceEqDiff, reduceIte, h0, h2, h3, h9] <;> rfl) rfl ?_
          refine ro_move (by simp only [evalF, upd, arg0, argS, ofConst, ofCell, Nat.reduceEqDiff, reduceIte, h0, h2, h3, h9] <;> rfl) (by decide) ?_
          refine ro_guard rfl (by simp only [evalF, upd, arg0, argS, ofConst, ofCell, Nat.reduceEqDiff, reduceIte, h0, h2, h3, h9] <;> rfl) rfl ?_
          refine ro_move (by simp only [evalF, upd, arg0, argS, ofConst, ofCell, Nat.reduceEqDiff, reduceIte, h0, h2, h3, h9] <;> rfl) (by decide) ?_
          refine ro_guard rfl (by simp only [evalF, upd, arg0, argS, ofConst, ofCell, Nat.reduceEqDiff, reduceIte, h0, h2, h3, h9] <;> rfl) rfl ?_
          refine ro_bin (by simp only [evalF, upd, arg0, argS, ofConst, ofCell, Nat.reduceEqDiff, reduceIte, h0, h2, h3, h9] <;> rfl) (by simp only [evalF, upd, arg0, argS, ofConst, ofCell, Nat.reduceEqDiff, reduceIte, h0, h2, h3, h9] <;> rfl) (by exact (lss_f hlo)) (by decide) ?_
          refine ro_guard rfl (by simp only [evalF, upd, arg0, argS, ofConst, ofCell, Nat.reduceEqDiff, reduceIte, h0, h2, h3, h9] <;> rfl) rfl ?_
          refine ro_move (by simp only [evalF, upd, arg0, argS, ofConst, ofCell, Nat.reduceEqDiff, reduceIte, h0, h2, h3, h9] <;> rfl) (by decide) ?_
          refine ro_guard rfl (by simp only [evalF, upd, arg0, argS, ofConst, ofCell, Nat.reduceEqDiff, reduceIte, h0, h2, h3, h9] <;> rfl) rfl ?_
          refine ro_move (by simp only [evalF, upd, arg0, argS, ofConst, ofCell, Nat.reduceEqDiff, reduceIte, h0, h2, h3, h9] <;> rfl) (by decide) ?_
          refine ro_guard rfl (by simp only [evalF, upd, arg0, argS, ofConst, ofCell, Nat.reduceEqDiff, reduceIte, h0, h2, h3, h9] <;> rfl) rfl ?_
          refine ro_move (by simp only [evalF, upd, arg0, argS, ofConst, ofCell, Nat.reduceEqDiff, reduceIte, h0, h2, h3, h9] <;> rfl) (by decide) ?_
          refine ro_guard rfl (by simp only [evalF, upd, arg0, argS, ofConst, ofCell, Nat.reduceEqDiff, reduceIte, h0, h2, h3, h9] <;> rfl) rfl ?_
          refine ro_bin (by simp only [evalF, upd, arg0, argS, ofConst, ofCell, Nat.reduceEqDiff, reduceIte, h0, h2, h3, h9] <;> rfl) (by simp only [evalF, upd, arg0, argS, ofConst, ofCell, Nat.reduceEqDiff, reduceIte, h0, h2, h3, h9] <;> rfl) (by exact (gtr_v)) (by decide) ?_
          refine ro_guard rfl (by simp only [evalF, upd, arg0, argS, ofConst, ofCell, Nat.reduceEqDiff, reduceIte, h0, h2, h3, h9] <;> rfl) rfl ?_
          refine ro_pick (by simp only [evalF, upd, arg0, argS, ofConst, ofCell, Nat.reduceEqDiff, reduceIte, h0, h2, h3, h9] <;> rfl) (by simp only [evalF, upd, arg0, argS, ofConst, ofCell, Nat.reduceEqDiff, reduceIte, h0, h2, h3, h9] <;> rfl) (by simp only [evalF, upd, arg0, argS, ofConst, ofCell, Nat.reduceEqDiff, reduceIte, h0, h2, h3, h9] <;> rfl) (by decide) ?_
          refine ro_pick (by simp only [evalF, upd, arg0, argS, ofConst, ofCell, Nat.reduceEqDiff, reduceIte, h0, h2, h3, h9] <;> rfl) (by simp only [evalF, upd, arg0, argS, ofConst, ofCell, Nat.reduceEqDiff, reduceIte, h0, h2, h3, h9] <;> rfl) (by simp only [evalF, upd, arg0, argS, ofConst, ofCell, Nat.reduceEqDiff, reduceIte, h0, h2, h3, h9] <;> rfl) (by decide) ?_
          refine ro_nil ?_
          refine ⟨by first | rfl | trivial, by simp [upd, h0], by simp [upd, h9], ?_, by first | rfl | trivial, by first | rfl | trivial⟩
          simp only [upd, Nat.reduceEqDiff, reduceIte, he, decide_true, Bool.true_and, decide_eq_false hlo, Bool.false_or, Bool.false_eq_true, if_false, if_true]
      · refine ex_region ?_
        refine ro_move (by simp only [evalF, upd, arg0, argS, ofConst, ofCell, Nat.reduceEqDiff, reduceIte, h0, h2, h3, h9] <;> rfl) (by decide) ?_
        refine ro_nilCheck (by simp only [evalF, upd, arg0, argS, ofConst, ofCell, Nat.reduceEqDiff, reduceIte, h0, h2, h3, h9] <;> rfl) (by decide) ?_
        refine ro_fieldAddr (by simp only [evalF, upd, arg0, argS, ofConst, ofCell, Nat.reduceEqDiff, reduceIte, h0, h2, h3, h9] <;> rfl) (by exact (fa58_1 _ _ _)) (by decide) ?_
        refine ro_load (by simp only [evalF, upd, arg0, argS, ofConst, ofCell, Nat.reduceEqDiff, reduceIte, h0, h2, h3, h9] <;> rfl) (by exact (load1 ag28 hlr rfl)) (by decide) ?_
        refine ro_bin (by simp only [evalF, upd, arg0, argS, ofConst, ofCell, Nat.reduceEqDiff, reduceIte, h0, h2, h3, h9] <;> rfl) (by simp only [evalF, upd, arg0, argS, ofConst, ofCell, Nat.reduceEqDiff, reduceIte, h0, h2, h3, h9] <;> rfl) (by exact (show binOpA Try.prog .eql 28 (.pv (.int .i64 e')) (.pv (.int .i64 0)) = _ from eql_f he)) (by decide) ?_
        refine ro_move (by simp only [evalF, upd, arg0, argS, ofConst, ofCell, Nat.reduceEqDiff, reduceIte, h0, h2, h3, h9] <;> rfl) (by decide) ?_
        refine ro_skip rfl (by simp only [evalF, upd, arg0, argS, ofConst, ofCell, Nat.reduceEqDiff, reduceIte, h0, h2, h3, h9] <;> rfl) rfl (fun e he => by cases he; decide) ?_
        simp only [putF]
        refine ro_skip rfl (by simp only [evalF, upd, arg0, argS, ofConst, ofCell, Nat.reduceEqDiff, reduceIte, h0, h2, h3, h9] <;> rfl) rfl (fun e he => by cases he; decide) ?_
        simp only [putF]
        refine ro_skip rfl (by simp only [evalF, upd, arg0, argS, ofConst, ofCell, Nat.reduceEqDiff, reduceIte, h0, h2, h3, h9] <;> rfl) rfl (fun e he => by cases he; decide) ?_
        simp only [putF]
        refine ro_skip rfl (by simp only [evalF, upd, arg0, argS, ofConst, ofCell, Nat.reduceEqDiff, reduceIte, h0, h2, h3, h9] <;> rfl) rfl (fun e he => by cases he; decide) ?_
        simp only [putF]
        refine ro_skipU rfl (by simp only [evalF, upd, Nat.reduceEqDiff, reduceIte]) (by decide) ?_
        refine ro_skipU rfl (by simp only [evalF, upd, Nat.reduceEqDiff, reduceIte]) (by decide) ?_
        refine ro_skipU rfl (by simp only [evalF, upd, Nat.reduceEqDiff, reduceIte]) (by decide) ?_
        refine ro_skip rfl (by simp only [evalF, upd, arg0, argS, ofConst, ofCell, Nat.reduceEqDiff, reduceIte, h0, h2, h3, h9] <;> rfl) rfl (fun e he => by cases he; decide) ?_
        simp only [putF]
        refine ro_pick (by simp only [evalF, upd, arg0, argS, ofConst, ofCell, Nat.reduceEqDiff, reduceIte, h0, h2, h3, h9] <;> rfl) (by simp only [evalF, upd, arg0, argS, ofConst, ofCell, Nat.reduceEqDiff, reduceIte, h0, h2, h3, h9] <;> rfl) (by simp only [evalF, upd, arg0, argS, ofConst, ofCell, Nat.reduceEqDiff, reduceIte, h0, h2, h3, h9] <;> rfl) (by decide) ?_
        refine ro_nil ?_
        refine ⟨by first | rfl | trivial, by simp [upd, h0], by simp [upd, h9], ?_, by first | rfl | trivial, by first | rfl | trivial⟩
        simp [upd, he]
    rintro xa g5 hpx nbx ⟨rfl, h0, h9, h40, e1, e2⟩
    rw [e1, e2]
    clear e1 e2 hpx nbx
    try simp only
    have hb11 := hfin _ rfl
    refine ex_cond (t := decide (e' = 0) && (decide (numOf t < least) || decide (numOf t > most))) (by simp only [evalF, upd, arg0, argS, ofConst, ofCell, Nat.reduceEqDiff, reduceIte, h0, h9, h40] <;> rfl) (fun ht => ?_) (fun ht => ?_)
    · refine ex_region ?_
      refine ro_move (by simp only [evalF, upd, arg0, argS, ofConst, ofCell, Nat.reduceEqDiff, reduceIte, h0, h9, h40] <;> rfl) (by decide) ?_
      refine ro_call (f := 27) («as» := [.ptr idr 1 0, .pv (.int .i64 11)]) rfl (by simp [evalF, upd, h0, ofConst, ofCell]) hpu rfl (fail_calls S pure lim (d + 1) 11 hrd1) (by decide) ?_
      rintro v2 hp2 nb2 ⟨_, hr2, hk2⟩
      refine ro_nil ?_
      try simp only
      refine ex_seq (ex_region ?_)
      refine ro_move (by simp only [evalF, upd, arg0, argS, ofConst, ofCell, Nat.reduceEqDiff, reduceIte, h0, h9, h40] <;> rfl) (by decide) ?_
      refine ro_assign (by simp only [evalF, upd, arg0, argS, ofConst, ofCell, Nat.reduceEqDiff, reduceIte, h0, h9, h40] <;> rfl) (by decide) ?_
      refine ro_nil ?_
      try simp only
      refine ex_ret ?_
      refine ⟨_, rfl, ?_⟩
      rw [hnum, hb11, ht]
      simp only [upd, Nat.reduceEqDiff, reduceIte, h9, if_true]
      exact ⟨by first | rfl | trivial, hr2, keepR_trans hk1 hk2⟩
    · refine ex_skip ?_
      try simp only
      refine ex_seq (ex_region ?_)
      refine ro_move (by simp only [evalF, upd, arg0, argS, ofConst, ofCell, Nat.reduceEqDiff, reduceIte, h0, h9, h40] <;> rfl) (by decide) ?_
      refine ro_assign (by simp only [evalF, upd, arg0, argS, ofConst, ofCell, Nat.reduceEqDiff, reduceIte, h0, h9, h40] <;> rfl) (by decide) ?_
      refine ro_nil ?_
      try simp only
      refine ex_ret ?_
      refine ⟨_, rfl, ?_⟩
      rw [hnum, hb11, ht]
      simp only [upd, Nat.reduceEqDiff, reduceIte, h9, Bool.false_eq_true, if_false]
      exact ⟨by first | rfl | trivial, hrd1, hk1⟩
  · refine ex_skip ?_
    try simp only
    have hil : i < t.length := by
      have := of_decide_eq_true ht
      omega
    obtain ⟨a, ha, hla⟩ := row_at st27 hr1 (i := i) (x := .int .u8 t[i]) (by unfold u8s; rw [List.getElem?_map, List.getElem?_eq_getElem hil]; rfl)
    have hx := htb t[i] (List.getElem_mem hil)
    have hns := num_small (t := t.take i) (fun x hx => htb x (List.mem_of_mem_take hx)) (by simp; omega)
    refine ex_seq (ex_block ?_)
    refine ex_seq (ex_region ?_)
    refine ro_indexAddr (by simp only [evalF, upd, arg0, argS, ofConst, ofCell, Nat.reduceEqDiff, reduceIte, h0, h2, h3, h9, h14, h15, h16] <;> rfl) (by simp only [evalF, upd, arg0, argS, ofConst, ofCell, Nat.reduceEqDiff, reduceIte, h0, h2, h3, h9, h14, h15, h16] <;> rfl) (by exact (ha)) (by decide) ?_
    refine ro_load (by simp only [evalF, upd, arg0, argS, ofConst, ofCell, Nat.reduceEqDiff, reduceIte, h0, h2, h3, h9, h14, h15, h16] <;> rfl) (by exact (hla)) (by decide) ?_
    refine ro_assign (by simp only [evalF, upd, arg0, argS, ofConst, ofCell, Nat.reduceEqDiff, reduceIte, h0, h2, h3, h9, h14, h15, h16] <;> rfl) (by decide) ?_
    refine ro_nil ?_
    try simp only
    refine ex_region ?_
    refine ro_move (by simp only [evalF, upd, arg0, argS, ofConst, ofCell, Nat.reduceEqDiff, reduceIte, h0, h2, h3, h9, h14, h15, h16] <;> rfl) (by decide) ?_
    refine ro_bin (by simp only [evalF, upd, arg0, argS, ofConst, ofCell, Nat.reduceEqDiff, reduceIte, h0, h2, h3, h9, h14, h15, h16] <;> rfl) (by simp only [evalF, upd, arg0, argS, ofConst, ofCell, Nat.reduceEqDiff, reduceIte, h0, h2, h3, h9, h14, h15, h16] <;> rfl) (by exact (shl8 _ hns)) (by decide) ?_
    refine ro_move (by simp only [evalF, upd, arg0, argS, ofConst, ofCell, Nat.reduceEqDiff, reduceIte, h0, h2, h3, h9, h14, h15, h16] <;> rfl) (by decide) ?_
    refine ro_conv (by simp only [evalF, upd, arg0, argS, ofConst, ofCell, Nat.reduceEqDiff, reduceIte, h0, h2, h3, h9, h14, h15, h16] <;> rfl) (by exact (conv53 _ hx _ _)) (by decide) ?_
    refine ro_bin (by simp only [evalF, upd, arg0, argS, ofConst, ofCell, Nat.reduceEqDiff, reduceIte, h0, h2, h3, h9, h14, h15, h16] <;> rfl) (by simp only [evalF, upd, arg0, argS, ofConst, ofCell, Nat.reduceEqDiff, reduceIte, h0, h2, h3, h9, h14, h15, h16] <;> rfl) (by exact (or8 _ _ hns hx)) (by decide) ?_
    refine ro_assign (by simp only [evalF, upd, arg0, argS, ofConst, ofCell, Nat.reduceEqDiff, reduceIte, h0, h2, h3, h9, h14, h15, h16] <;> rfl) (by decide) ?_
    refine ro_nil ?_
    try simp only
    refine ex_region ?_
    refine ro_bin (by simp only [evalF, upd, arg0, argS, ofConst, ofCell, Nat.reduceEqDiff, reduceIte, h0, h2, h3, h9, h14, h15, h16] <;> rfl) (by simp only [evalF, upd, arg0, argS, ofConst, ofCell, Nat.reduceEqDiff, reduceIte, h0, h2, h3, h9, h14, h15, h16] <;> rfl) (by exact (add_v (by omega))) (by decide) ?_
    refine ro_move (by simp only [evalF, upd, arg0, argS, ofConst, ofCell, Nat.reduceEqDiff, reduceIte, h0, h2, h3, h9, h14, h15, h16] <;> rfl) (by decide) ?_
    refine ro_nil ?_
    refine ⟨t.length - (i + 1), by omega, i + 1, rfl, by omega, by simp [upd, h0], by simp [upd, h2], by simp [upd, h3], ?_, by simp [upd, h14], by simp [upd, h15], by simp [upd], by first | rfl | trivial, by first | rfl | trivial⟩
    have e0 : t.take (i + 1) = t.take i ++ [t[i]] := by
      rw [List.take_add_one, List.getElem?_eq_getElem hil]
      rfl
    rw [e0, num_snoc]
    simp [upd]
end Go.Proofs.Ytlinbbjobjnipaa

set_option linter.unusedVariables false
set_option linter.unusedSimpArgs false
set_option linter.unusedSectionVars false
namespace Go.Proofs.Ytlinbbjobjnipaa
open Go AI
set_option maxHeartbeats 4000000
set_option maxRecDepth 10000
theorem eq27_nil : binOpA Try.prog .eql 27 (.pv .nilSlice) (.pv .nilSlice) = some (.pv (.bool true)) := by kernel_rfl
theorem eq27_zcap : binOpA Try.prog .eql 27 (.pv .zcap) (.pv .nilSlice) = some (.pv (.bool false)) := by kernel_rfl
theorem eq27_ros (a b : Nat) (c : List PV) : binOpA Try.prog .eql 27 (.pv (.ros a b c)) (.pv .nilSlice) = some (.pv (.bool false)) := by kernel_rfl
theorem eq27_own (a b c d e f : Nat) (x : Bool) : binOpA Try.prog .eql 27 (.slice a b c d e f x) (.pv .nilSlice) = some (.pv (.bool false)) := by kernel_rfl
theorem bs27_0 (nb : Nat) : buildSliceA Try.prog nb 27 0 [] = some (.new (.slice nb 1 0 0 0 1 true) (.cells 1 [])) := by kernel_rfl
def CloneOk (l : List PV) (hp : Hp) (nb : Nat) (v : AV) (hp' : Hp) (nb' : Nat) : Prop :=
  Row hp' nb' v l ∧ (∀ id, ownOf v = some id → nb ≤ id) ∧ After hp nb (.pv .nilSlice) hp' nb'
theorem clone_calls (lim d : Nat) {hp : Hp} {nb : Nat} {v : AV} {l : List PV} (hr : Row hp nb v l) (hl : l.length ≤ 100000) : CA (callA Try.prog facts plains lim (d + 1)) 45 [v] hp nb (CloneOk l hp nb) := by
  refine ca_body (fn := Try.f45) (c := bodyOf Try.f45) Try.func45 rfl (by show 1 ≤ 8; omega) ?_
  show EX _ _ _ _ _ 8 _ _ _ _ _
  unfold bodyOf Try.f45
  refine ex_seq (ex_region ?_)
  refine ro_assign (by simp only [evalF, upd, arg0, argS, ofConst, ofCell, Nat.reduceEqDiff, reduceIte] <;> rfl) (by decide) ?_
  refine ro_nil ?_
  try simp only
  by_cases hn : v = .pv .nilSlice
  · subst hn
    obtain rfl : l = [] := by cases hr; rfl
    refine ex_seq (ex_seq (ex_region ?_))
    refine ro_move (by simp only [evalF, upd, arg0, argS, ofConst, ofCell, Nat.reduceEqDiff, reduceIte] <;> rfl) (by decide) ?_
    refine ro_bin (by simp only [evalF, upd, arg0, argS, ofConst, ofCell, Nat.reduceEqDiff, reduceIte] <;> rfl) (by simp only [evalF, upd, arg0, argS, ofConst, ofCell, Nat.reduceEqDiff, reduceIte] <;> rfl) (by exact (eq27_nil)) (by decide) ?_
    refine ro_nil ?_
    try simp only
    refine ex_cond (t := true) (by simp only [evalF, upd, arg0, argS, ofConst, ofCell, Nat.reduceEqDiff, reduceIte] <;> rfl) (fun _ => ?_) (fun h => by simp at h)
    refine ex_seq (ex_region ?_)
    refine ro_assign (by simp only [evalF, upd, arg0, argS, ofConst, ofCell, Nat.reduceEqDiff, reduceIte] <;> rfl) (by decide) ?_
    refine ro_nil ?_
    try simp only
    refine ex_ret ?_
    refine ⟨_, rfl, ?_⟩
    simp only [upd, Nat.reduceEqDiff, reduceIte]
    exact ⟨.nil, by simp [ownOf], after_refl _ _ _⟩
  · have heq : binOpA Try.prog .eql 27 v (.pv .nilSlice) = some (.pv (.bool false)) := by
      cases hr with
      | nil => exact absurd rfl hn
      | zcap => exact eq27_zcap
      | ros n l h => exact eq27_ros _ _ _
      | own => exact eq27_own _ _ _ _ _ _ _
    refine ex_seq (ex_seq (ex_region ?_))
    refine ro_move (by simp only [evalF, upd, arg0, argS, ofConst, ofCell, Nat.reduceEqDiff, reduceIte] <;> rfl) (by decide) ?_
    refine ro_bin (by simp only [evalF, upd, arg0, argS, ofConst, ofCell, Nat.reduceEqDiff, reduceIte] <;> rfl) (by simp only [evalF, upd, arg0, argS, ofConst, ofCell, Nat.reduceEqDiff, reduceIte] <;> rfl) (by exact (heq)) (by decide) ?_
    refine ro_nil ?_
    try simp only
    refine ex_cond (t := false) (by simp only [evalF, upd, arg0, argS, ofConst, ofCell, Nat.reduceEqDiff, reduceIte] <;> rfl) (fun h => by simp at h) (fun _ => ex_skip ?_)
    try simp only
    refine ex_seq (ex_region ?_)
    refine ro_buildSlice rfl (bs27_0 _) (by decide) ?_
    refine ro_move (by simp only [evalF, upd, arg0, argS, ofConst, ofCell, Nat.reduceEqDiff, reduceIte] <;> rfl) (by decide) ?_
    have ha0 : After hp nb (.pv .nilSlice) (setHp hp nb (.cells 1 [])) (nb + 1) := after_new hp nb _ _ (by simp)
    have hr1 : Row (setHp hp nb (.cells 1 [])) (nb + 1) v l := hr.keep (Nat.le_succ _) (fun id hid _ => by simp [setHp, show id ≠ nb by omega])
    refine ro_append (r := l) (l := []) st27 Try.underlying27 (by simp only [evalF, upd, arg0, argS, ofConst, ofCell, Nat.reduceEqDiff, reduceIte] <;> rfl) (by simp only [evalF, upd, arg0, argS, ofConst, ofCell, Nat.reduceEqDiff, reduceIte] <;> rfl) (.own nb 1 0 true [] rfl (by omega) (by simp [setHp])) (row_src hr1) (by simp; omega) (by decide) ?_
    intro v' hp' nb' hg' ha' ho'
    refine ro_assign (by simp only [evalF, upd, arg0, argS, ofConst, ofCell, Nat.reduceEqDiff, reduceIte] <;> rfl) (by decide) ?_
    refine ro_nil ?_
    try simp only
    refine ex_ret ?_
    refine ⟨v', by simp [resF, resOneF, upd], hg'.row, fun id h => ?_, after_trans ha0 ha' (fun id h => .inr (by simp [ownOf] at h; omega))⟩
    rcases ho' id h with h | h
    · simp [ownOf] at h; omega
    · omega
section
variable {lim n : Nat} {ops rest : List Oper} {g : Gm} {hp : Hp} {nb : Nat} {Q : Gm → Hp → Nat → Prop}
theorem ro_clone (d0 : Nat) {d : Nat} {x : Operand} {ats : Array TypeId} {ty : TypeId} {pos : String} {aft : Array Edge} {v : AV} {l : List PV} (hr : Row hp nb v l) (hl : l.length ≤ 100000)
    (hx : evalF g x = v) (hd : d < n)
    (h2 : ∀ v' hp' nb', CloneOk l hp nb v' hp' nb' → RO Try.prog plains (callA Try.prog facts plains lim (d0 + 1)) (orS facts (pureOf (callA Try.prog facts plains lim (d0 + 1)))) n ops rest (upd g d v') hp' nb' Q) :
    RO Try.prog plains (callA Try.prog facts plains lim (d0 + 1)) (orS facts (pureOf (callA Try.prog facts plains lim (d0 + 1)))) n ops ({ dst := some d, op := .call { callee := .value (.func 45), args := #[x], argTypes := ats }, type := ty, pos := pos, after := aft, guard := none } :: rest) g hp nb Q := by
  have hxs : (#[x] : Array Operand).toList.map (evalF g) = [v] := by simp [hx]
  cases ho : ownOf v with
  | some id =>
    have hpl : ([v] : List AV).all plainV = false := by
      cases hr with
      | own => rfl
      | _ => simp [ownOf] at ho
    exact ro_call rfl hxs rfl hpl (clone_calls lim d0 hr hl) hd h2
  | none =>
    have hpl : ([v] : List AV).all plainV = true := by
      cases hr with
      | own => simp [ownOf] at ho
      | _ => rfl
    refine ro_add hxs rfl hpl (clone_calls lim d0 (row_any hr ho) hl) hd ?_
    rintro v0 h' ⟨r1, _, ha⟩
    obtain ⟨bs, e1, e2, e3, e4, e5, e6⟩ := add_all (ha.2.2 tidy_nil) hp nb
    obtain ⟨v1, f1, f2, f3, _⟩ := e5 _ _ r1
    refine ⟨v1, bs, ?_, e1, h2 v1 _ _ ⟨f2, f3, by omega, fun id hid _ => e3 id hid, e4⟩⟩
    cases v0 with
    | agg cs => simp [shA] at f1
    | tuple cs => simp [shA] at f1
    | _ => exact f1
end
end Go.Proofs.Ytlinbbjobjnipaa

set_option linter.unusedVariables false
set_option linter.unusedSimpArgs false
set_option linter.unusedSectionVars false
namespace Go.Proofs.Ytlinbbjobjnipaa
open Go AI
set_option maxHeartbeats 4000000
set_option maxRecDepth 10000
/-- A message that is being read. -/
structure Pm (hp : Hp) (nb idm idr q : Nat) (m : M) : Prop where
  lt : idm < nb
  le : q ≤ idm
  ne : idm ≠ idr
  key : m.key.length = 32
  ex : ∃ L D, AI.look hp idm 1 = some (mcells m L D) ∧ Grow hp nb L (ints m.list) ∧ Row hp nb D (u8s m.data) ∧ (∀ id, ownOf L = some id → q ≤ id ∧ id ≠ idm ∧ id ≠ idr ∧ ownOf D ≠ some id) ∧ (∀ id, ownOf D = some id → q ≤ id ∧ id ≠ idm ∧ id ≠ idr)
/-- What reading a field gives. -/
def FldOk (hp : Hp) (nb idm idr q : Nat) (m : M) (b : List Int) (e : Int) (v : AV) (hp' : Hp) (nb' : Nat) : Prop :=
  v = .tuple [] ∧ Pm hp' nb' idm idr q m ∧ Rd hp' nb' idr q b e ∧ nb ≤ nb' ∧ (∀ id, id < q → hp' id = hp id) ∧ (Tidy hp nb → Tidy hp' nb')
theorem rd_keep {hp hp' : Hp} {nb nb' idr q : Nat} {b : List Int} {e : Int} (h : Rd hp nb idr q b e) (hn : nb ≤ nb') (hk : ∀ id, id < q ∨ id = idr → hp' id = hp id) : Rd hp' nb' idr q b e := by
  obtain ⟨v, h1, h2, h3⟩ := h.ex
  exact ⟨by have := h.lt; omega, h.le, v, by rw [look_at 1 (hk idr (.inr rfl))]; exact h1, h2.keep hn (fun id hid ho => hk id (.inl (h3 id ho))), h3⟩
theorem pm_keepR {hp hp' : Hp} {nb nb' idm idr q : Nat} {m : M} (h : Pm hp nb idm idr q m) (hk : KeepR hp nb idr hp' nb') : Pm hp' nb' idm idr q m := by
  obtain ⟨L, D, h1, h2, h3, h4, h5⟩ := h.ex
  obtain ⟨rfl, k2, _⟩ := hk
  exact ⟨h.lt, h.le, h.ne, h.key, L, D, by rw [look_at 1 (k2 idm h.ne)]; exact h1, h2.keep (Nat.le_refl _) (fun id hid ho => k2 id (h4 id ho).2.2.1), h3.keep (Nat.le_refl _) (fun id hid ho => k2 id (h5 id ho).2.2), h4, h5⟩
/-- A number is stored into a field of the message. -/
theorem fld_store {hp : Hp} {nb idm idr q : Nat} {m m' : M} {b : List Int} {e : Int} {L D : AV} (hpm : Pm hp nb idm idr q m) (hrd : Rd hp nb idr q b e) (hL : Grow hp nb L (ints m.list)) (hD : Row hp nb D (u8s m.data))
    (h4 : ∀ id, ownOf L = some id → q ≤ id ∧ id ≠ idm ∧ id ≠ idr ∧ ownOf D ≠ some id) (h5 : ∀ id, ownOf D = some id → q ≤ id ∧ id ≠ idm ∧ id ≠ idr) (hk : m'.key.length = 32) (hl' : m'.list = m.list) (hd' : m'.data = m.data) :
    FldOk hp nb idm idr q m' b e (.tuple []) (setHp hp idm (.cells 1 (mcells m' L D))) nb := by
  have hk' : ∀ id, id ≠ idm → setHp hp idm (.cells 1 (mcells m' L D)) id = hp id := fun id h => by simp [setHp, h]
  refine ⟨rfl, ⟨hpm.lt, hpm.le, hpm.ne, hk, L, D, look_same _ _ _ _, ?_, ?_, h4, h5⟩, rd_keep hrd (Nat.le_refl _) (fun id h => hk' id ?_), Nat.le_refl _, fun id hid => hk' id ?_, fun ht => tidy_put ht (ok_cells (grow_okC hL) (row_ok' hD))⟩
  · rw [hl']; exact hL.keep (Nat.le_refl _) (fun id hid ho => hk' id (h4 id ho).2.1)
  · rw [hd']; exact hD.keep (Nat.le_refl _) (fun id hid ho => hk' id (h5 id ho).2.1)
  · have := hpm.le
    have := hpm.ne
    rcases h with h | h <;> omega
  · have := hpm.le; omega
theorem fld_trans {hp hp1 hp2 : Hp} {nb nb1 nb2 idm idr q : Nat} {m2 : M} {b : List Int} {e : Int} {v : AV} (hq : q ≤ idr) (hk : KeepR hp nb idr hp1 nb1) (h : FldOk hp1 nb1 idm idr q m2 b e v hp2 nb2) : FldOk hp nb idm idr q m2 b e v hp2 nb2 := by
  obtain ⟨h1, h2, h3, h4, h5, h6⟩ := h
  obtain ⟨rfl, k2, k3⟩ := hk
  exact ⟨h1, h2, h3, h4, fun id hid => by rw [h5 id hid, k2 id (by omega)], fun ht => h6 (k3 ht)⟩
theorem sz4 : szA Try.prog 4 = some 1 := by kernel_rfl
theorem spl4 {m : M} {L D : AV} (z : Bool) : splice (mcells m L D) 4 [.pv (.bool z)] = mcells { m with done := z } L D := rfl
theorem plains_27 : plains 27 = false := rfl
theorem plains_42 : plains 42 = false := rfl
theorem plains_43 : plains 43 = false := rfl
theorem plains_44 : plains 44 = false := rfl
theorem plains_46 : plains 46 = false := rfl
theorem read_0 (d : Nat) {hp : Hp} {nb idm idr q : Nat} {m : M} {b : List Int} {e : Int} (hb : ∀ x ∈ b, 0 ≤ x ∧ x ≤ 255) (hpm : Pm hp nb idm idr q m) (hrd : Rd hp nb idr q b e) :
    CA (callA Try.prog facts plains 10000 (d + 5)) 26 [.ptr idr 1 0, .ptr idm 1 0, .pv (.int .i64 0)] hp nb (FldOk hp nb idm idr q { m with pred := (predR b e).1 } (predR b e).2.1 (predR b e).2.2) := by
  refine ca_body (fn := Try.f26) (c := bodyOf Try.f26) Try.func26 rfl (by show 3 ≤ 82; omega) ?_
  show EX _ _ _ _ _ 82 _ _ _ _ _
  unfold bodyOf Try.f26
  refine ex_seq (ex_region ?_)
  refine ro_move (by simp only [evalF, upd, arg0, argS, ofConst, ofCell, Nat.reduceEqDiff, reduceIte] <;> rfl) (by decide) ?_
  refine ro_nil ?_
  try simp only
  refine ex_block ?_
  refine ex_test_t (by simp only [evalF, upd, arg0, argS, ofConst, ofCell, Nat.reduceEqDiff, reduceIte] <;> rfl) (by omega) (by decide) (by decide) ?_
  refine ex_region ?_
  refine ro_move (by simp only [evalF, upd, arg0, argS, ofConst, ofCell, Nat.reduceEqDiff, reduceIte] <;> rfl) (by decide) ?_
  refine ro_move (by simp only [evalF, upd, arg0, argS, ofConst, ofCell, Nat.reduceEqDiff, reduceIte] <;> rfl) (by decide) ?_
  refine ro_call (f := 42) («as» := [.ptr idr 1 0]) rfl (by simp [evalF, upd, argsF]) plains_42 rfl (pred_calls facts plains 10000 d plains_27 plains_44 plains_43 (by omega) hb hrd) (by decide) ?_
  rintro v2 hp2 nb2 ⟨rfl, hr2, hk2⟩
  obtain rfl := hk2.1
  have hpm2 := pm_keepR hpm hk2
  obtain ⟨L, D, g1, g2, g3, g4, g5⟩ := hpm2.ex
  refine ro_nilCheck (by simp only [evalF, upd, arg0, argS, ofConst, ofCell, Nat.reduceEqDiff, reduceIte] <;> rfl) (by decide) ?_
  refine ro_fieldAddr (by simp only [evalF, upd, arg0, argS, ofConst, ofCell, Nat.reduceEqDiff, reduceIte] <;> rfl) (by exact (fa30_2 _ _ _)) (by decide) ?_
  refine ro_store (by simp only [evalF, upd, arg0, argS, ofConst, ofCell, Nat.reduceEqDiff, reduceIte] <;> rfl) (by simp only [evalF, upd, arg0, argS, ofConst, ofCell, Nat.reduceEqDiff, reduceIte] <;> rfl) (put_field hpm.key sz3 g1 ⟨rfl, rfl⟩ (by omega) (spl2 _)) ?_
  refine ro_nil ?_
  try simp only
  refine ⟨.tuple [], rfl, ?_⟩
  exact fld_trans hrd.le hk2 (fld_store (m := m) hpm2 hr2 g2 g3 g4 g5 hpm.key rfl rfl)
theorem read_1 (d : Nat) {hp : Hp} {nb idm idr q : Nat} {m : M} {b : List Int} {e : Int} (hb : ∀ x ∈ b, 0 ≤ x ∧ x ≤ 255) (hpm : Pm hp nb idm idr q m) (hrd : Rd hp nb idr q b e) :
    CA (callA Try.prog facts plains 10000 (d + 5)) 26 [.ptr idr 1 0, .ptr idm 1 0, .pv (.int .i64 1)] hp nb (FldOk hp nb idm idr q { m with node := (byteR b e 9).1 } (byteR b e 9).2.1 (byteR b e 9).2.2) := by
  refine ca_body (fn := Try.f26) (c := bodyOf Try.f26) Try.func26 rfl (by show 3 ≤ 82; omega) ?_
  show EX _ _ _ _ _ 82 _ _ _ _ _
  unfold bodyOf Try.f26
  refine ex_seq (ex_region ?_)
  refine ro_move (by simp only [evalF, upd, arg0, argS, ofConst, ofCell, Nat.reduceEqDiff, reduceIte] <;> rfl) (by decide) ?_
  refine ro_nil ?_
  try simp only
  refine ex_block ?_
  refine ex_test_f (by simp only [evalF, upd, arg0, argS, ofConst, ofCell, Nat.reduceEqDiff, reduceIte] <;> rfl) (by omega) (by decide) (by decide) ?_
  refine ex_test_t (by simp only [evalF, upd, arg0, argS, ofConst, ofCell, Nat.reduceEqDiff, reduceIte] <;> rfl) (by omega) (by decide) (by decide) ?_
  refine ex_region ?_
  refine ro_move (by simp only [evalF, upd, arg0, argS, ofConst, ofCell, Nat.reduceEqDiff, reduceIte] <;> rfl) (by decide) ?_
  refine ro_move (by simp only [evalF, upd, arg0, argS, ofConst, ofCell, Nat.reduceEqDiff, reduceIte] <;> rfl) (by decide) ?_
  refine ro_call (f := 43) («as» := [.ptr idr 1 0, .pv (.int .i64 9)]) rfl (by simp [evalF, upd, argsF, ofConst, ofCell]) plains_43 rfl (byte_calls facts plains 10000 (d + 1) plains_27 plains_44 (by omega) 9 hb hrd) (by decide) ?_
  rintro v2 hp2 nb2 ⟨rfl, hr2, hk2⟩
  obtain rfl := hk2.1
  have hpm2 := pm_keepR hpm hk2
  obtain ⟨L, D, g1, g2, g3, g4, g5⟩ := hpm2.ex
  refine ro_nilCheck (by simp only [evalF, upd, arg0, argS, ofConst, ofCell, Nat.reduceEqDiff, reduceIte] <;> rfl) (by decide) ?_
  refine ro_fieldAddr (by simp only [evalF, upd, arg0, argS, ofConst, ofCell, Nat.reduceEqDiff, reduceIte] <;> rfl) (by exact (fa30_1 _ _ _)) (by decide) ?_
  refine ro_store (by simp only [evalF, upd, arg0, argS, ofConst, ofCell, Nat.reduceEqDiff, reduceIte] <;> rfl) (by simp only [evalF, upd, arg0, argS, ofConst, ofCell, Nat.reduceEqDiff, reduceIte] <;> rfl) (put_field hpm.key sz3 g1 ⟨rfl, rfl⟩ (by omega) (spl1 _)) ?_
  refine ro_nil ?_
  try simp only
  refine ⟨.tuple [], rfl, ?_⟩
  exact fld_trans hrd.le hk2 (fld_store (m := m) hpm2 hr2 g2 g3 g4 g5 hpm.key rfl rfl)
theorem read_3 (d : Nat) {hp : Hp} {nb idm idr q : Nat} {m : M} {b : List Int} {e : Int} (hb : ∀ x ∈ b, 0 ≤ x ∧ x ≤ 255) (hpm : Pm hp nb idm idr q m) (hrd : Rd hp nb idr q b e) :
    CA (callA Try.prog facts plains 10000 (d + 5)) 26 [.ptr idr 1 0, .ptr idm 1 0, .pv (.int .i64 3)] hp nb (FldOk hp nb idm idr q { m with done := (byteR b e 1).1 == 1 } (byteR b e 1).2.1 (byteR b e 1).2.2) := by
  refine ca_body (fn := Try.f26) (c := bodyOf Try.f26) Try.func26 rfl (by show 3 ≤ 82; omega) ?_
  show EX _ _ _ _ _ 82 _ _ _ _ _
  unfold bodyOf Try.f26
  refine ex_seq (ex_region ?_)
  refine ro_move (by simp only [evalF, upd, arg0, argS, ofConst, ofCell, Nat.reduceEqDiff, reduceIte] <;> rfl) (by decide) ?_
  refine ro_nil ?_
  try simp only
  refine ex_block ?_
  refine ex_test_f (by simp only [evalF, upd, arg0, argS, ofConst, ofCell, Nat.reduceEqDiff, reduceIte] <;> rfl) (by omega) (by decide) (by decide) ?_
  refine ex_test_f (by simp only [evalF, upd, arg0, argS, ofConst, ofCell, Nat.reduceEqDiff, reduceIte] <;> rfl) (by omega) (by decide) (by decide) ?_
  refine ex_test_f (by simp only [evalF, upd, arg0, argS, ofConst, ofCell, Nat.reduceEqDiff, reduceIte] <;> rfl) (by omega) (by decide) (by decide) ?_
  refine ex_test_t (by simp only [evalF, upd, arg0, argS, ofConst, ofCell, Nat.reduceEqDiff, reduceIte] <;> rfl) (by omega) (by decide) (by decide) ?_
  refine ex_region ?_
  refine ro_move (by simp only [evalF, upd, arg0, argS, ofConst, ofCell, Nat.reduceEqDiff, reduceIte] <;> rfl) (by decide) ?_
  refine ro_move (by simp only [evalF, upd, arg0, argS, ofConst, ofCell, Nat.reduceEqDiff, reduceIte] <;> rfl) (by decide) ?_
  refine ro_call (f := 43) («as» := [.ptr idr 1 0, .pv (.int .i64 1)]) rfl (by simp [evalF, upd, argsF, ofConst, ofCell]) plains_43 rfl (byte_calls facts plains 10000 (d + 1) plains_27 plains_44 (by omega) 1 hb hrd) (by decide) ?_
  rintro v2 hp2 nb2 ⟨rfl, hr2, hk2⟩
  obtain rfl := hk2.1
  have hpm2 := pm_keepR hpm hk2
  obtain ⟨L, D, g1, g2, g3, g4, g5⟩ := hpm2.ex
  refine ro_bin (by simp only [evalF, upd, arg0, argS, ofConst, ofCell, Nat.reduceEqDiff, reduceIte] <;> rfl) (by simp only [evalF, upd, arg0, argS, ofConst, ofCell, Nat.reduceEqDiff, reduceIte] <;> rfl) (by exact (eql_v)) (by decide) ?_
  refine ro_nilCheck (by simp only [evalF, upd, arg0, argS, ofConst, ofCell, Nat.reduceEqDiff, reduceIte] <;> rfl) (by decide) ?_
  refine ro_fieldAddr (by simp only [evalF, upd, arg0, argS, ofConst, ofCell, Nat.reduceEqDiff, reduceIte] <;> rfl) (by exact (fa30_4 _ _ _)) (by decide) ?_
  refine ro_store (by simp only [evalF, upd, arg0, argS, ofConst, ofCell, Nat.reduceEqDiff, reduceIte] <;> rfl) (by simp only [evalF, upd, arg0, argS, ofConst, ofCell, Nat.reduceEqDiff, reduceIte] <;> rfl) (put_field hpm.key sz4 g1 ⟨rfl, rfl⟩ (by omega) (spl4 _)) ?_
  refine ro_nil ?_
  try simp only
  refine ⟨.tuple [], rfl, ?_⟩
  exact fld_trans hrd.le hk2 (fld_store (m := m) hpm2 hr2 g2 g3 g4 g5 hpm.key rfl rfl)
theorem read_4 (d : Nat) {hp : Hp} {nb idm idr q : Nat} {m : M} {b : List Int} {e : Int} (hb : ∀ x ∈ b, 0 ≤ x ∧ x ≤ 255) (hpm : Pm hp nb idm idr q m) (hrd : Rd hp nb idr q b e) :
    CA (callA Try.prog facts plains 10000 (d + 5)) 26 [.ptr idr 1 0, .ptr idm 1 0, .pv (.int .i64 4)] hp nb (FldOk hp nb idm idr q { m with err := (byteR b e 20).1 } (byteR b e 20).2.1 (byteR b e 20).2.2) := by
  refine ca_body (fn := Try.f26) (c := bodyOf Try.f26) Try.func26 rfl (by show 3 ≤ 82; omega) ?_
  show EX _ _ _ _ _ 82 _ _ _ _ _
  unfold bodyOf Try.f26
  refine ex_seq (ex_region ?_)
  refine ro_move (by simp only [evalF, upd, arg0, argS, ofConst, ofCell, Nat.reduceEqDiff, reduceIte] <;> rfl) (by decide) ?_
  refine ro_nil ?_
  try simp only
  refine ex_block ?_
  refine ex_test_f (by simp only [evalF, upd, arg0, argS, ofConst, ofCell, Nat.reduceEqDiff, reduceIte] <;> rfl) (by omega) (by decide) (by decide) ?_
  refine ex_test_f (by simp only [evalF, upd, arg0, argS, ofConst, ofCell, Nat.reduceEqDiff, reduceIte] <;> rfl) (by omega) (by decide) (by decide) ?_
  refine ex_test_f (by simp only [evalF, upd, arg0, argS, ofConst, ofCell, Nat.reduceEqDiff, reduceIte] <;> rfl) (by omega) (by decide) (by decide) ?_
  refine ex_test_f (by simp only [evalF, upd, arg0, argS, ofConst, ofCell, Nat.reduceEqDiff, reduceIte] <;> rfl) (by omega) (by decide) (by decide) ?_
  refine ex_test_t (by simp only [evalF, upd, arg0, argS, ofConst, ofCell, Nat.reduceEqDiff, reduceIte] <;> rfl) (by omega) (by decide) (by decide) ?_
  refine ex_region ?_
  refine ro_move (by simp only [evalF, upd, arg0, argS, ofConst, ofCell, Nat.reduceEqDiff, reduceIte] <;> rfl) (by decide) ?_
  refine ro_move (by simp only [evalF, upd, arg0, argS, ofConst, ofCell, Nat.reduceEqDiff, reduceIte] <;> rfl) (by decide) ?_
  refine ro_call (f := 43) («as» := [.ptr idr 1 0, .pv (.int .i64 20)]) rfl (by simp [evalF, upd, argsF, ofConst, ofCell]) plains_43 rfl (byte_calls facts plains 10000 (d + 1) plains_27 plains_44 (by omega) 20 hb hrd) (by decide) ?_
  rintro v2 hp2 nb2 ⟨rfl, hr2, hk2⟩
  obtain rfl := hk2.1
  have hpm2 := pm_keepR hpm hk2
  obtain ⟨L, D, g1, g2, g3, g4, g5⟩ := hpm2.ex
  refine ro_nilCheck (by simp only [evalF, upd, arg0, argS, ofConst, ofCell, Nat.reduceEqDiff, reduceIte] <;> rfl) (by decide) ?_
  refine ro_fieldAddr (by simp only [evalF, upd, arg0, argS, ofConst, ofCell, Nat.reduceEqDiff, reduceIte] <;> rfl) (by exact (fa30_8 _ _ _)) (by decide) ?_
  refine ro_store (by simp only [evalF, upd, arg0, argS, ofConst, ofCell, Nat.reduceEqDiff, reduceIte] <;> rfl) (by simp only [evalF, upd, arg0, argS, ofConst, ofCell, Nat.reduceEqDiff, reduceIte] <;> rfl) (put_field hpm.key sz28 g1 ⟨rfl, rfl⟩ (by omega) (spl39 hpm.key _)) ?_
  refine ro_nil ?_
  try simp only
  refine ⟨.tuple [], rfl, ?_⟩
  exact fld_trans hrd.le hk2 (fld_store (m := m) hpm2 hr2 g2 g3 g4 g5 hpm.key rfl rfl)
theorem read_7 (d : Nat) {hp : Hp} {nb idm idr q : Nat} {m : M} {b : List Int} {e : Int} (hb : ∀ x ∈ b, 0 ≤ x ∧ x ≤ 255) (hpm : Pm hp nb idm idr q m) (hrd : Rd hp nb idr q b e) :
    CA (callA Try.prog facts plains 10000 (d + 5)) 26 [.ptr idr 1 0, .ptr idm 1 0, .pv (.int .i64 7)] hp nb (FldOk hp nb idm idr q { m with lease := (numR b e 4 1 1000).1 } (numR b e 4 1 1000).2.1 (numR b e 4 1 1000).2.2) := by
  refine ca_body (fn := Try.f26) (c := bodyOf Try.f26) Try.func26 rfl (by show 3 ≤ 82; omega) ?_
  show EX _ _ _ _ _ 82 _ _ _ _ _
  unfold bodyOf Try.f26
  refine ex_seq (ex_region ?_)
  refine ro_move (by simp only [evalF, upd, arg0, argS, ofConst, ofCell, Nat.reduceEqDiff, reduceIte] <;> rfl) (by decide) ?_
  refine ro_nil ?_
  try simp only
  refine ex_block ?_
  refine ex_test_f (by simp only [evalF, upd, arg0, argS, ofConst, ofCell, Nat.reduceEqDiff, reduceIte] <;> rfl) (by omega) (by decide) (by decide) ?_
  refine ex_test_f (by simp only [evalF, upd, arg0, argS, ofConst, ofCell, Nat.reduceEqDiff, reduceIte] <;> rfl) (by omega) (by decide) (by decide) ?_
  refine ex_test_f (by simp only [evalF, upd, arg0, argS, ofConst, ofCell, Nat.reduceEqDiff, reduceIte] <;> rfl) (by omega) (by decide) (by decide) ?_
  refine ex_test_f (by simp only [evalF, upd, arg0, argS, ofConst, ofCell, Nat.reduceEqDiff, reduceIte] <;> rfl) (by omega) (by decide) (by decide) ?_
  refine ex_test_f (by simp only [evalF, upd, arg0, argS, ofConst, ofCell, Nat.reduceEqDiff, reduceIte] <;> rfl) (by omega) (by decide) (by decide) ?_
  refine ex_test_f (by simp only [evalF, upd, arg0, argS, ofConst, ofCell, Nat.reduceEqDiff, reduceIte] <;> rfl) (by omega) (by decide) (by decide) ?_
  refine ex_test_f (by simp only [evalF, upd, arg0, argS, ofConst, ofCell, Nat.reduceEqDiff, reduceIte] <;> rfl) (by omega) (by decide) (by decide) ?_
  refine ex_test_t (by simp only [evalF, upd, arg0, argS, ofConst, ofCell, Nat.reduceEqDiff, reduceIte] <;> rfl) (by omega) (by decide) (by decide) ?_
  refine ex_region ?_
  refine ro_move (by simp only [evalF, upd, arg0, argS, ofConst, ofCell, Nat.reduceEqDiff, reduceIte] <;> rfl) (by decide) ?_
  refine ro_move (by simp only [evalF, upd, arg0, argS, ofConst, ofCell, Nat.reduceEqDiff, reduceIte] <;> rfl) (by decide) ?_
  refine ro_call (f := 46) («as» := [.ptr idr 1 0, .pv (.int .i64 (4 : Nat)), .pv (.int .i64 1), .pv (.int .i64 1000)]) rfl (by simp [evalF, upd, argsF, ofConst, ofCell]) plains_46 rfl (number_calls facts plains 10000 (d + 1) plains_27 plains_44 (by omega) 4 (by omega) 1 1000 hb hrd) (by decide) ?_
  rintro v2 hp2 nb2 ⟨rfl, hr2, hk2⟩
  obtain rfl := hk2.1
  have hpm2 := pm_keepR hpm hk2
  obtain ⟨L, D, g1, g2, g3, g4, g5⟩ := hpm2.ex
  refine ro_nilCheck (by simp only [evalF, upd, arg0, argS, ofConst, ofCell, Nat.reduceEqDiff, reduceIte] <;> rfl) (by decide) ?_
  refine ro_fieldAddr (by simp only [evalF, upd, arg0, argS, ofConst, ofCell, Nat.reduceEqDiff, reduceIte] <;> rfl) (by exact (fa30_7 _ _ _)) (by decide) ?_
  refine ro_store (by simp only [evalF, upd, arg0, argS, ofConst, ofCell, Nat.reduceEqDiff, reduceIte] <;> rfl) (by simp only [evalF, upd, arg0, argS, ofConst, ofCell, Nat.reduceEqDiff, reduceIte] <;> rfl) (put_field hpm.key sz3 g1 ⟨rfl, rfl⟩ (by omega) (spl38 hpm.key _)) ?_
  refine ro_nil ?_
  try simp only
  refine ⟨.tuple [], rfl, ?_⟩
  exact fld_trans hrd.le hk2 (fld_store (m := m) hpm2 hr2 g2 g3 g4 g5 hpm.key rfl rfl)
end Go.Proofs.Ytlinbbjobjnipaa

set_option linter.unusedVariables false
set_option linter.unusedSimpArgs false
set_option linter.unusedSectionVars false
namespace Go.Proofs.Ytlinbbjobjnipaa
open Go AI
set_option maxHeartbeats 4000000
set_option maxRecDepth 10000
def dataR (b : List Int) (e : Int) : List Int × List Int × Int := takeR (numR b e 2 0 6000).2.1 (numR b e 2 0 6000).2.2 (numR b e 2 0 6000).1.toNat
theorem fld_data {hp hp1 : Hp} {nb nb1 idm idr q : Nat} {m : M} {b : List Int} {e : Int} {L D v : AV} {l : List Int} (hpm : Pm hp nb idm idr q m) (hrd : Rd hp nb idr q b e) (g1 : AI.look hp idm 1 = some (mcells m L D)) (hL : Grow hp nb L (ints m.list)) 
    (h4 : ∀ id, ownOf L = some id → q ≤ id ∧ id ≠ idm ∧ id ≠ idr ∧ ownOf D ≠ some id) (hc : CloneOk (u8s l) hp nb v hp1 nb1) :
    FldOk hp nb idm idr q { m with data := l } b e (.tuple []) (setHp hp1 idm (.cells 1 (mcells { m with data := l } L v))) nb1 := by
  obtain ⟨c1, c2, c3⟩ := hc
  have hold : ∀ id, id < nb → hp1 id = hp id := fun id hid => c3.2.1 id hid (by simp [ownOf])
  have hnb := c3.1
  have hk' : ∀ id, id ≠ idm → setHp hp1 idm (.cells 1 (mcells { m with data := l } L v)) id = hp1 id := fun id h => by simp [setHp, h]
  have hlt := hpm.lt
  have hle := hpm.le
  have hrl := hrd.lt
  have hLn : ∀ id, ownOf L = some id → id < nb := fun id ho => row_own hL.row ho
  refine ⟨rfl, ⟨by omega, hpm.le, hpm.ne, hpm.key, L, v, look_same _ _ _ _, hL.keep hnb (fun id hid ho => by rw [hk' id (h4 id ho).2.1, hold id hid]), c1.keep (Nat.le_refl _) (fun id hid ho => hk' id (by have := c2 id ho; omega)), fun id ho => ⟨(h4 id ho).1, (h4 id ho).2.1, (h4 id ho).2.2.1, fun h => by have := c2 id h; have := hLn id ho; omega⟩, fun id ho => by have := c2 id ho; omega⟩, ?_, hnb, ?_, ?_⟩
  · refine rd_keep hrd hnb (fun id h => ?_)
    have := hpm.ne
    have hne : id ≠ idm := by rcases h with h | h <;> omega
    rw [hk' id hne, hold id (by rcases h with h | h <;> omega)]
  · intro id hid
    rw [hk' id (by omega), hold id (by omega)]
  · intro ht
    exact tidy_put (c3.2.2 ht) (ok_cells (okC_mono hnb (grow_okC hL)) (row_ok' c1))
theorem read_6 (d : Nat) {hp : Hp} {nb idm idr q : Nat} {m : M} {b : List Int} {e : Int} (hb : ∀ x ∈ b, 0 ≤ x ∧ x ≤ 255) (hpm : Pm hp nb idm idr q m) (hrd : Rd hp nb idr q b e) :
    CA (callA Try.prog facts plains 10000 (d + 5)) 26 [.ptr idr 1 0, .ptr idm 1 0, .pv (.int .i64 6)] hp nb (FldOk hp nb idm idr q { m with data := (dataR b e).1 } (dataR b e).2.1 (dataR b e).2.2) := by
  refine ca_body (fn := Try.f26) (c := bodyOf Try.f26) Try.func26 rfl (by show 3 ≤ 82; omega) ?_
  show EX _ _ _ _ _ 82 _ _ _ _ _
  unfold bodyOf Try.f26
  refine ex_seq (ex_region ?_)
  refine ro_move (by simp only [evalF, upd, arg0, argS, ofConst, ofCell, Nat.reduceEqDiff, reduceIte] <;> rfl) (by decide) ?_
  refine ro_nil ?_
  try simp only
  refine ex_block ?_
  refine ex_test_f (by simp only [evalF, upd, arg0, argS, ofConst, ofCell, Nat.reduceEqDiff, reduceIte] <;> rfl) (by omega) (by decide) (by decide) ?_
  refine ex_test_f (by simp only [evalF, upd, arg0, argS, ofConst, ofCell, Nat.reduceEqDiff, reduceIte] <;> rfl) (by omega) (by decide) (by decide) ?_
  refine ex_test_f (by simp only [evalF, upd, arg0, argS, ofConst, ofCell, Nat.reduceEqDiff, reduceIte] <;> rfl) (by omega) (by decide) (by decide) ?_
  refine ex_test_f (by simp only [evalF, upd, arg0, argS, ofConst, ofCell, Nat.reduceEqDiff, reduceIte] <;> rfl) (by omega) (by decide) (by decide) ?_
  refine ex_test_f (by simp only [evalF, upd, arg0, argS, ofConst, ofCell, Nat.reduceEqDiff, reduceIte] <;> rfl) (by omega) (by decide) (by decide) ?_
  refine ex_test_f (by simp only [evalF, upd, arg0, argS, ofConst, ofCell, Nat.reduceEqDiff, reduceIte] <;> rfl) (by omega) (by decide) (by decide) ?_
  refine ex_test_t (by simp only [evalF, upd, arg0, argS, ofConst, ofCell, Nat.reduceEqDiff, reduceIte] <;> rfl) (by omega) (by decide) (by decide) ?_
  refine ex_region ?_
  refine ro_move (by simp only [evalF, upd, arg0, argS, ofConst, ofCell, Nat.reduceEqDiff, reduceIte] <;> rfl) (by decide) ?_
  refine ro_move (by simp only [evalF, upd, arg0, argS, ofConst, ofCell, Nat.reduceEqDiff, reduceIte] <;> rfl) (by decide) ?_
  refine ro_move (by simp only [evalF, upd, arg0, argS, ofConst, ofCell, Nat.reduceEqDiff, reduceIte] <;> rfl) (by decide) ?_
  refine ro_call (f := 46) («as» := [.ptr idr 1 0, .pv (.int .i64 (2 : Nat)), .pv (.int .i64 0), .pv (.int .i64 6000)]) rfl (by simp [evalF, upd, argsF, ofConst, ofCell]) plains_46 rfl (number_calls facts plains 10000 (d + 1) plains_27 plains_44 (by omega) 2 (by omega) 0 6000 hb hrd) (by decide) ?_
  rintro v2 hp2 nb2 ⟨rfl, hr2, hk2⟩
  obtain rfl := hk2.1
  have hpm2 := pm_keepR hpm hk2
  have hnum : (numR b e 2 0 6000).1 = numOf (takeR b e 2).1 := rfl
  obtain ⟨tl1, tl2, tl3⟩ := take_len (e := e) (n := 2) hb
  obtain ⟨nb0, nb1⟩ := num_bound _ tl2
  have hn6 : numOf (takeR b e 2).1 < 65536 := by
    refine Int.lt_of_lt_of_le nb1 ?_
    have : (takeR b e 2).1.length = 0 ∨ (takeR b e 2).1.length = 1 ∨ (takeR b e 2).1.length = 2 := by omega
    rcases this with h | h | h <;> rw [h] <;> decide
  have hnn : (numR b e 2 0 6000).1 = (((numR b e 2 0 6000).1.toNat : Nat) : Int) := by rw [hnum]; omega
  rw [hnn]
  refine ro_call (f := 44) («as» := [.ptr idr 1 0, .pv (.int .i64 ((numR b e 2 0 6000).1.toNat : Nat))]) rfl (by simp [evalF, upd, argsF]) plains_44 rfl (take_calls facts plains 10000 (d + 2) plains_27 (numR b e 2 0 6000).1.toNat hr2) (by decide) ?_
  rintro v3 hp3 nb3 ⟨hr3, _, hrd3, hk3⟩
  obtain rfl := hk3.1
  have hpm3 := pm_keepR hpm2 hk3
  have hlen3 : (takeR (numR b e 2 0 6000).2.1 (numR b e 2 0 6000).2.2 (numR b e 2 0 6000).1.toNat).1.length ≤ 65535 := by
    unfold takeR
    split
    · simp
    · simp; rw [hnum]; omega
  obtain ⟨L, D, g1, g2, g3, g4, g5⟩ := hpm3.ex
  refine ro_clone (d + 3) hr3 (by simp [u8s]; omega) (by simp only [evalF, upd, arg0, argS, ofConst, ofCell, Nat.reduceEqDiff, reduceIte] <;> rfl) (by decide) ?_
  intro v4 hp4 nb4 hc4
  have hm4 : AI.look hp4 idm 1 = some (mcells m L D) := by rw [look_at 1 (hc4.2.2.2.1 idm hpm3.lt (by simp [ownOf]))]; exact g1
  refine ro_nilCheck (by simp only [evalF, upd, arg0, argS, ofConst, ofCell, Nat.reduceEqDiff, reduceIte] <;> rfl) (by decide) ?_
  refine ro_fieldAddr (by simp only [evalF, upd, arg0, argS, ofConst, ofCell, Nat.reduceEqDiff, reduceIte] <;> rfl) (by exact (fa30_6 _ _ _)) (by decide) ?_
  refine ro_store (by simp only [evalF, upd, arg0, argS, ofConst, ofCell, Nat.reduceEqDiff, reduceIte] <;> rfl) (by simp only [evalF, upd, arg0, argS, ofConst, ofCell, Nat.reduceEqDiff, reduceIte] <;> rfl) (put_field hpm.key sz27 hm4 ⟨(row_cell hc4.1).2, (row_cell hc4.1).1⟩ (by omega) (spl37 hpm.key _ (dataR b e).1)) ?_
  refine ro_nil ?_
  try simp only
  refine ⟨.tuple [], rfl, ?_⟩
  exact fld_trans hrd.le (keepR_trans hk2 hk3) (fld_data hpm3 hrd3 g1 g2 g4 hc4)
theorem keyStat : statOk (regOf Try.f26 15) = true := by kernel_rfl
theorem keyNeeds : needs (regOf Try.f26 15) = [] := by kernel_rfl
end Go.Proofs.Ytlinbbjobjnipaa

set_option linter.unusedVariables false
set_option linter.unusedSimpArgs false
set_option linter.unusedSectionVars false
namespace Go.Proofs.Ytlinbbjobjnipaa
open Go AI
set_option maxHeartbeats 4000000
set_option maxRecDepth 10000
def keyR (m : M) (b : List Int) (e : Int) : List Int := if (takeR b e 32).1.length = 32 then (takeR b e 32).1 else m.key
theorem take_all {b : List Int} {e : Int} {n : Nat} : (takeR b e n).1 = [] ∨ (takeR b e n).1.length = n := by
  unfold takeR
  split
  · exact .inl rfl
  · rename_i h
    right
    simp only [not_or, Nat.not_lt] at h
    simp; omega
theorem splKey {m : M} {L D : AV} {t : List Int} (hk : m.key.length = 32) (ht : t.length = 32) : splice (mcells m L D) 5 ((u8s t).map .pv) = mcells { m with key := t } L D := by
  unfold splice mcells
  have h1 : (([.pv (.int .i64 m.kind), .pv (.int .i64 m.node), .pv (.int .i64 m.pred), L, .pv (.bool m.done)] : List AV) ++ ((u8s m.key).map AV.pv ++ [D, .pv (.int .i64 m.lease), .pv (.int .i64 m.err)])).take 5 = [.pv (.int .i64 m.kind), .pv (.int .i64 m.node), .pv (.int .i64 m.pred), L, .pv (.bool m.done)] := rfl
  have h2 : (([.pv (.int .i64 m.kind), .pv (.int .i64 m.node), .pv (.int .i64 m.pred), L, .pv (.bool m.done)] : List AV) ++ ((u8s m.key).map AV.pv ++ [D, .pv (.int .i64 m.lease), .pv (.int .i64 m.err)])).drop (5 + ((u8s t).map AV.pv).length) = [D, .pv (.int .i64 m.lease), .pv (.int .i64 m.err)] := by
    rw [show ((u8s t).map AV.pv).length = 32 by simp [u8s, ht], ← List.drop_drop]
    show List.drop 32 ((u8s m.key).map AV.pv ++ _) = _
    rw [List.drop_append_of_le_length (by simp [u8s, hk]), List.drop_of_length_le (by simp [u8s, hk])]
    rfl
  rw [h1, h2]
  simp
theorem splice_nil {α : Type} (l : List α) (i : Nat) : splice l i [] = l := by simp [splice]
/-- A copy into the key. -/
theorem copy_key {hp : Hp} {nb idm : Nat} {m : M} {L D v : AV} {t : List Int} (hk : m.key.length = 32) (hl : AI.look hp idm 1 = some (mcells m L D)) (hr : Row hp nb v (u8s t)) (ht : t = [] ∨ t.length = 32) :
    ∃ z, builtinA Try.prog hp nb .copy #[27, 27] [.slice idm 1 (0 + 5 + 0) 32 32 1 true, v] = some (.upd z idm (.cells 1 (mcells { m with key := if t.length = 32 then t else m.key } L D))) := by
  refine ⟨.pv (.int .i64 (Nat.min t.length 32 : Nat)), ?_⟩
  have hb : ∀ z, (copyA Try.prog hp #[27, 27] (.slice idm 1 (0 + 5 + 0) 32 32 1 true) v = some z → builtinA Try.prog hp nb .copy #[27, 27] [.slice idm 1 (0 + 5 + 0) 32 32 1 true, v] = some z) := fun z h => h
  refine hb _ ?_
  unfold copyA
  have hul : (u8s t).length = t.length := by simp [u8s]
  simp only [show (#[27, 27] : Array TypeId)[0]? = some 27 from rfl, st27.und, st27.sz, Option.bind_some, row_src hr, hl, ne_eq, not_true, if_false]
  have hall : ∀ l : List PV, (l.map AV.pv).all AV.isCell = true := by
    intro l
    induction l with
    | nil => rfl
    | cons a l ih => rw [List.map_cons, List.all_cons, ih]; rfl
  rw [hul]
  rcases ht with rfl | ht
  · rw [if_pos ⟨by rw [mc_length hk]; omega, by simp [u8s]⟩]
    simp [u8s, splice_nil]
  · rw [ht]
    have h32 : ((u8s t).map AV.pv).take (Nat.min 32 32 * 1) = (u8s t).map AV.pv := List.take_of_length_le (by simp [u8s, ht])
    rw [h32, if_pos ⟨by rw [mc_length hk]; omega, hall _⟩]
    show some (Eff.upd _ idm (.cells 1 (splice (mcells m L D) 5 ((u8s t).map AV.pv)))) = _
    rw [splKey hk ht]
    simp
theorem read_5 (d : Nat) {hp : Hp} {nb idm idr q : Nat} {m : M} {b : List Int} {e : Int} (hb : ∀ x ∈ b, 0 ≤ x ∧ x ≤ 255) (hpm : Pm hp nb idm idr q m) (hrd : Rd hp nb idr q b e) :
    CA (callA Try.prog facts plains 10000 (d + 5)) 26 [.ptr idr 1 0, .ptr idm 1 0, .pv (.int .i64 5)] hp nb (FldOk hp nb idm idr q { m with key := keyR m b e } (takeR b e 32).2.1 (takeR b e 32).2.2) := by
  refine ca_body (fn := Try.f26) (c := bodyOf Try.f26) Try.func26 rfl (by show 3 ≤ 82; omega) ?_
  show EX _ _ _ _ _ 82 _ _ _ _ _
  unfold bodyOf Try.f26
  refine ex_seq (ex_region ?_)
  refine ro_move (by simp only [evalF, upd, arg0, argS, ofConst, ofCell, Nat.reduceEqDiff, reduceIte] <;> rfl) (by decide) ?_
  refine ro_nil ?_
  try simp only
  refine ex_block ?_
  refine ex_test_f (by simp only [evalF, upd, arg0, argS, ofConst, ofCell, Nat.reduceEqDiff, reduceIte] <;> rfl) (by omega) (by decide) (by decide) ?_
  refine ex_test_f (by simp only [evalF, upd, arg0, argS, ofConst, ofCell, Nat.reduceEqDiff, reduceIte] <;> rfl) (by omega) (by decide) (by decide) ?_
  refine ex_test_f (by simp only [evalF, upd, arg0, argS, ofConst, ofCell, Nat.reduceEqDiff, reduceIte] <;> rfl) (by omega) (by decide) (by decide) ?_
  refine ex_test_f (by simp only [evalF, upd, arg0, argS, ofConst, ofCell, Nat.reduceEqDiff, reduceIte] <;> rfl) (by omega) (by decide) (by decide) ?_
  refine ex_test_f (by simp only [evalF, upd, arg0, argS, ofConst, ofCell, Nat.reduceEqDiff, reduceIte] <;> rfl) (by omega) (by decide) (by decide) ?_
  refine ex_test_t (by simp only [evalF, upd, arg0, argS, ofConst, ofCell, Nat.reduceEqDiff, reduceIte] <;> rfl) (by omega) (by decide) (by decide) ?_
  refine ex_draw keyStat ?_
  refine rd_val (v := .ptr idm 1 0) rfl (by simp [primA, evalF, upd, argsF]) (by decide) ?_
  refine rd_val (v := .ptr idm 1 0) rfl (by simp [primA, evalF, upd]) (by decide) ?_
  refine rd_val (v := .ptr idm 1 (0 + 5)) rfl (by simp only [primA, evalF, upd, Nat.reduceEqDiff, reduceIte, fa30_5, Option.map_some]) (by decide) ?_
  refine rd_val (v := .slice idm 1 (0 + 5 + 0) 32 32 1 true) rfl (by simp only [primA, evalF, upd, Nat.reduceEqDiff, reduceIte, Option.map_none, slice26, Option.map_some]) (by decide) ?_
  refine rd_val (v := .ptr idr 1 0) rfl (by simp [primA, evalF, upd, argsF]) (by decide) ?_
  refine rd_call (f := 44) («as» := [.ptr idr 1 0, .pv (.int .i64 (32 : Nat))]) (by simp [evalF, upd, ofConst, ofCell]) plains_44 rfl (take_calls facts plains 10000 (d + 2) plains_27 32 hrd) (by decide) ?_
  rintro v2 h h' hh hn ⟨hr2, ho2, hrd2, hk2⟩
  have hnb := hk2.1
  have hpm2 := pm_keepR hpm hk2
  obtain ⟨L, D, g1, g2, g3, g4, g5⟩ := hpm2.ex
  obtain ⟨z, hcp⟩ := copy_key hpm.key g1 hr2 take_all
  refine rd_upd (dst := some 64) (v := z) rfl (by simp only [primA, List.map_cons, List.map_nil, evalF, upd, Nat.reduceEqDiff, reduceIte]; exact hcp) (look_live g1) (fun e he => by cases he; decide) ?_
  refine rd_nil ⟨dyn_of rfl (fun p hp' => ?_), ?_⟩
  · have hp'' : p ∈ needs (regOf Try.f26 15) := hp'
    rw [keyNeeds] at hp''
    simp at hp''
  try simp only
  refine ⟨.tuple [], rfl, ?_⟩
  have hkl : (keyR m b e).length = 32 := by
    unfold keyR
    split
    · assumption
    · exact hpm.key
  have hrd3 : Rd (hf h') h'.length idr q (takeR b e 32).2.1 (takeR b e 32).2.2 := by rw [hnb]; exact hrd2
  exact fld_trans hrd.le hk2 (fld_store (m := m) (m' := { m with key := keyR m b e }) hpm2 hrd3 g2 g3 g4 g5 hkl rfl rfl)
end Go.Proofs.Ytlinbbjobjnipaa

set_option linter.unusedVariables false
set_option linter.unusedSimpArgs false
set_option linter.unusedSectionVars false
namespace Go.Proofs.Ytlinbbjobjnipaa
open Go AI
set_option maxHeartbeats 4000000
set_option maxRecDepth 10000
theorem take_sub {b : List Int} {e : Int} {n : Nat} : ∀ x ∈ (takeR b e n).2.1, x ∈ b := by
  unfold takeR
  split
  · exact fun x h => h
  · exact fun x h => List.mem_of_mem_drop h
theorem byte_rest {b : List Int} {e most : Int} (hb : ∀ x ∈ b, 0 ≤ x ∧ x ≤ 255) : ∀ x ∈ (byteR b e most).2.1, 0 ≤ x ∧ x ≤ 255 := by
  have h1 : (byteR b e most).2.1 = (takeR b e 1).2.1 := by
    unfold byteR
    split
    · rename_i h; rw [h]
    · rename_i h; rw [h]; split <;> rfl
  rw [h1]
  exact fun x h => hb x (take_sub x h)
theorem byte_val {b : List Int} {e most : Int} (hm : 0 ≤ most) (hb : ∀ x ∈ b, 0 ≤ x ∧ x ≤ 255) : 0 ≤ (byteR b e most).1 ∧ (byteR b e most).1 ≤ most := by
  obtain ⟨_, h2, _⟩ := take_len (e := e) (n := 1) hb
  unfold byteR
  split
  · exact ⟨Int.le_refl _, hm⟩
  · rename_i x _ _ _ h
    rw [h] at h2
    have := h2 x List.mem_cons_self
    split
    · exact ⟨Int.le_refl _, hm⟩
    · simp only; omega
def listN : Nat → List Int → List Int → Int → List Int × List Int × Int
  | 0, acc, b, e => (acc, b, e)
  | n + 1, acc, b, e => listN n (acc ++ [(byteR b e 9).1]) (byteR b e 9).2.1 (byteR b e 9).2.2
def listR (m : M) (b : List Int) (e : Int) : List Int × List Int × Int := listN (byteR b e 10).1.toNat m.list (byteR b e 10).2.1 (byteR b e 10).2.2
theorem listStat : statOk (regOf Try.f26 9) = true := by kernel_rfl
theorem listNeeds : needs (regOf Try.f26 9) = [(4, 6), (4, 7)] := by kernel_rfl
theorem look_blk {hp : Hp} {id ver : Nat} {cs : List AV} (h : AI.look hp id ver = some cs) : hp id = .cells ver cs := by
  unfold AI.look at h
  split at h
  · rename_i v cs' hb
    split at h
    · rename_i hv
      simp only [Option.some.injEq] at h
      subst h; rw [hb, hv]
    · simp at h
  · simp at h
theorem fld_seq {hp hp1 hp2 : Hp} {nb nb1 nb2 idm idr q : Nat} {m1 m2 : M} {b1 b2 : List Int} {e1 e2 : Int} {v1 v2 : AV} (h1 : FldOk hp nb idm idr q m1 b1 e1 v1 hp1 nb1) (h2 : FldOk hp1 nb1 idm idr q m2 b2 e2 v2 hp2 nb2) : FldOk hp nb idm idr q m2 b2 e2 v2 hp2 nb2 := by
  obtain ⟨_, _, _, a4, a5, a6⟩ := h1
  obtain ⟨c1, c2, c3, c4, c5, c6⟩ := h2
  exact ⟨c1, c2, c3, by omega, fun id hid => (c5 id hid).trans (a5 id hid), fun ht => c6 (a6 ht)⟩
theorem fld_push {hp hp2 : Hp} {nb nb2 idm idr q : Nat} {m : M} {b : List Int} {e : Int} {L D L' : AV} (x : Int) (hpm : Pm hp nb idm idr q m) (hrd : Rd hp nb idr q b e) (hD : Row hp nb D (u8s m.data)) 
    (h4 : ∀ id, ownOf L = some id → q ≤ id ∧ id ≠ idm ∧ id ≠ idr ∧ ownOf D ≠ some id) (h5 : ∀ id, ownOf D = some id → q ≤ id ∧ id ≠ idm ∧ id ≠ idr)
    (hg : Grow hp2 nb2 L' (ints (m.list ++ [x]))) (ax : After hp nb L hp2 nb2) (ho : ∀ id, ownOf L' = some id → ownOf L = some id ∨ nb ≤ id) :
    FldOk hp nb idm idr q { m with list := m.list ++ [x] } b e (.tuple []) (setHp hp2 idm (.cells 1 (mcells { m with list := m.list ++ [x] } L' D))) nb2 := by
  have hk' : ∀ id, id ≠ idm → setHp hp2 idm (.cells 1 (mcells { m with list := m.list ++ [x] } L' D)) id = hp2 id := fun id h => by simp [setHp, h]
  have hlt := hpm.lt
  have hle := hpm.le
  have hrl := hrd.lt
  have hql := hrd.le
  have hnb := ax.1
  have hD2 : Row hp2 nb2 D (u8s m.data) := hD.keep hnb (fun id hid ho => ax.2.1 id hid (fun h => (h4 id h).2.2.2 ho))
  refine ⟨rfl, ⟨by omega, hpm.le, hpm.ne, hpm.key, L', D, look_same _ _ _ _, hg.keep (Nat.le_refl _) (fun id hid h => hk' id ?_), hD2.keep (Nat.le_refl _) (fun id hid h => hk' id (h5 id h).2.1), ?_, h5⟩, ?_, hnb, ?_, ?_⟩
  · rcases ho id h with h | h
    · exact (h4 id h).2.1
    · omega
  · intro id h
    rcases ho id h with h | h
    · exact h4 id h
    · refine ⟨by omega, by omega, by omega, fun hd => ?_⟩
      have := row_own hD hd
      omega
  · refine rd_keep hrd hnb (fun id h => ?_)
    have := hpm.ne
    have hne : id ≠ idm := by rcases h with h | h <;> omega
    rw [hk' id hne]
    refine ax.2.1 id (by rcases h with h | h <;> omega) (fun hh => ?_)
    have := h4 id hh
    rcases h with h | h <;> omega
  · intro id hid
    rw [hk' id (by omega)]
    refine ax.2.1 id (by omega) (fun hh => ?_)
    have := h4 id hh
    omega
  · intro ht
    exact tidy_put (ax.2.2 ht) (ok_cells (grow_okC hg) (row_ok' hD2))
theorem read_2 (d : Nat) {hp : Hp} {nb idm idr q : Nat} {m : M} {b : List Int} {e : Int} (hb : ∀ x ∈ b, 0 ≤ x ∧ x ≤ 255) (hml : m.list.length ≤ 1000) (hpm : Pm hp nb idm idr q m) (hrd : Rd hp nb idr q b e) :
    CA (callA Try.prog facts plains 10000 (d + 5)) 26 [.ptr idr 1 0, .ptr idm 1 0, .pv (.int .i64 2)] hp nb (FldOk hp nb idm idr q { m with list := (listR m b e).1 } (listR m b e).2.1 (listR m b e).2.2) := by
  refine ca_body (fn := Try.f26) (c := bodyOf Try.f26) Try.func26 rfl (by show 3 ≤ 82; omega) ?_
  show EX _ _ _ _ _ 82 _ _ _ _ _
  unfold bodyOf Try.f26
  refine ex_seq (ex_region ?_)
  refine ro_move (by simp only [evalF, upd, arg0, argS, ofConst, ofCell, Nat.reduceEqDiff, reduceIte] <;> rfl) (by decide) ?_
  refine ro_nil ?_
  try simp only
  refine ex_block ?_
  refine ex_test_f (by simp only [evalF, upd, arg0, argS, ofConst, ofCell, Nat.reduceEqDiff, reduceIte] <;> rfl) (by omega) (by decide) (by decide) ?_
  refine ex_test_f (by simp only [evalF, upd, arg0, argS, ofConst, ofCell, Nat.reduceEqDiff, reduceIte] <;> rfl) (by omega) (by decide) (by decide) ?_
  refine ex_test_t (by simp only [evalF, upd, arg0, argS, ofConst, ofCell, Nat.reduceEqDiff, reduceIte] <;> rfl) (by omega) (by decide) (by decide) ?_
  refine ex_seq (ex_region ?_)
  refine ro_move (by simp only [evalF, upd, arg0, argS, ofConst, ofCell, Nat.reduceEqDiff, reduceIte] <;> rfl) (by decide) ?_
  refine ro_call (f := 43) («as» := [.ptr idr 1 0, .pv (.int .i64 10)]) rfl (by simp [evalF, upd, argsF, ofConst, ofCell]) plains_43 rfl (byte_calls facts plains 10000 (d + 1) plains_27 plains_44 (by omega) 10 hb hrd) (by decide) ?_
  rintro v2 hp2 nb2 ⟨rfl, hr2, hk2⟩
  obtain rfl := hk2.1
  have hpm2 := pm_keepR hpm hk2
  have hb2 := byte_rest (e := e) (most := 10) hb
  have hv2 := byte_val (e := e) (most := 10) (by omega) hb
  refine ro_assign (by simp only [evalF, upd, arg0, argS, ofConst, ofCell, Nat.reduceEqDiff, reduceIte] <;> rfl) (by decide) ?_
  refine ro_nil ?_
  try simp only
  have hlr : listR m b e = listN (byteR b e 10).1.toNat m.list (byteR b e 10).2.1 (byteR b e 10).2.2 := rfl
  generalize byteR b e 10 = w at *
  obtain ⟨w1, w2, w3⟩ := w
  simp only at hr2 hb2 hv2 hlr
  rw [hlr]
  clear hlr
  have hfirst : FldOk hp nb2 idm idr q m w2 w3 (.tuple []) hp2 nb2 := ⟨rfl, hpm2, hr2, Nat.le_refl _, fun id hid => hk2.2.1 id (by have := hrd.le; omega), hk2.2.2⟩
  refine ex_block (ex_loop (I := fun k g hpx nbx => ∃ acc b' e', g 0 = .ptr idr 1 0 ∧ g 1 = .ptr idm 1 0 ∧ g 6 = .pv (.int .i64 k) ∧ k ≤ 10 ∧ acc.length + k ≤ 1010 ∧ (∀ x ∈ b', 0 ≤ x ∧ x ≤ 255) ∧ listN k acc b' e' = listN w1.toNat m.list w2 w3 ∧ FldOk hp nb2 idm idr q { m with list := acc } b' e' (.tuple []) hpx nbx) (m := w1.toNat)
    ⟨m.list, w2, w3, by simp [upd, argsF], by simp [upd, argsF], by simp [upd]; omega, by omega, by omega, hb2, rfl, hfirst⟩ (by omega) ?_)
  rintro k g hpx nbx ⟨acc, b', e', h0, h1, h6, hk10, hacc, hb', hls, hfo⟩
  refine ex_seq (ex_seq (ex_region ?_))
  refine ro_move (by simp only [evalF, upd, arg0, argS, ofConst, ofCell, Nat.reduceEqDiff, reduceIte, h0, h1, h6] <;> rfl) (by decide) ?_
  refine ro_bin (by simp only [evalF, upd, arg0, argS, ofConst, ofCell, Nat.reduceEqDiff, reduceIte, h0, h1, h6] <;> rfl) (by simp only [evalF, upd, arg0, argS, ofConst, ofCell, Nat.reduceEqDiff, reduceIte, h0, h1, h6] <;> rfl) (by exact (gtr_v)) (by decide) ?_
  refine ro_nil ?_
  try simp only
  refine ex_cond (t := decide ((k : Int) > 0)) (by simp only [evalF, upd, arg0, argS, ofConst, ofCell, Nat.reduceEqDiff, reduceIte, h0, h1, h6] <;> rfl) (fun ht => ?_) (fun ht => ?_)
  rotate_left
  · have hk0 : k = 0 := by
      have := of_decide_eq_false ht
      omega
    subst hk0
    refine ex_exit ?_
    simp only [if_true]
    refine ⟨.tuple [], rfl, ?_⟩
    rw [← hls]
    exact hfo
  · refine ex_skip ?_
    try simp only
    obtain ⟨k', rfl⟩ : ∃ k', k = k' + 1 := ⟨k - 1, by have := of_decide_eq_true ht; omega⟩
    have hfo3 := hfo
    obtain ⟨_, hpm3, hrd3, _⟩ := hfo3
    obtain ⟨L, D, g1, g2, g3, g4, g5⟩ := hpm3.ex
    refine ex_seq (ex_block (ex_draw listStat ?_))
    refine rd_val (v := .ptr idm 1 0) rfl (by simp [primA, evalF, upd, h1]) (by decide) ?_
    refine rd_val (v := .ptr idm 1 0) rfl (by simp [primA, evalF, upd, h1]) (by decide) ?_
    refine rd_val (v := .ptr idm 1 0) rfl (by simp [primA, evalF, upd]) (by decide) ?_
    refine rd_val (v := .ptr idm 1 (0 + 3)) rfl (by simp only [primA, evalF, upd, Nat.reduceEqDiff, reduceIte, fa30_3, Option.map_some]) (by decide) ?_
    refine rd_val (v := L) rfl (by simp only [primA, evalF, upd, Nat.reduceEqDiff, reduceIte, load1 ag24 g1 mc3, Option.map_some]) (by decide) ?_
    refine rd_val (v := .ptr idr 1 0) rfl (by simp [primA, evalF, upd, h0]) (by decide) ?_
    refine rd_call (f := 43) («as» := [.ptr idr 1 0, .pv (.int .i64 9)]) (by simp [evalF, upd, ofConst, ofCell]) plains_43 rfl (byte_calls facts plains 10000 (d + 1) plains_27 plains_44 (by omega) 9 hb' hrd3) (by decide) ?_
    rintro v4 h h' hh hn ⟨rfl, hr4, hk4⟩
    have hnb := hk4.1
    have hpm4 : Pm (hf h') h'.length idm idr q { m with list := acc } := pm_keepR hpm3 hk4
    have g1' : AI.look (hf h') idm 1 = some (mcells { m with list := acc } L D) := by rw [look_at 1 (hk4.2.1 idm hpm3.ne)]; exact g1
    have g2' : Grow (hf h') h'.length L (ints acc) := g2.keep (by omega) (fun id hid ho => hk4.2.1 id (g4 id ho).2.2.1)
    have g3' : Row (hf h') h'.length D (u8s m.data) := g3.keep (by omega) (fun id hid ho => hk4.2.1 id (g5 id ho).2.2)
    have hr4' : Rd (hf h') h'.length idr q (byteR b' e' 9).2.1 (byteR b' e' 9).2.2 := by rw [hnb]; exact hr4
    have hb4 := byte_rest (e := e') (most := 9) hb'
    have hln : listN k' (acc ++ [(byteR b' e' 9).1]) (byteR b' e' 9).2.1 (byteR b' e' 9).2.2 = listN w1.toNat m.list w2 w3 := hls
    have hmid : FldOk hpx nbx idm idr q { m with list := acc } (byteR b' e' 9).2.1 (byteR b' e' 9).2.2 (.tuple []) (hf h') h'.length := ⟨rfl, hpm4, hr4', by omega, fun id hid => hk4.2.1 id (by have := hrd3.le; omega), by rw [hnb]; rw [hnb] at hk4; exact hk4.2.2⟩
    generalize byteR b' e' 9 = y at *
    obtain ⟨y1, y2, y3⟩ := y
    simp only at hr4' hb4 hln hmid
    refine rd_new (v := .slice h'.length 1 0 1 1 1 true) (b := .cells 1 [.pv (.int .i64 y1)]) rfl (by simp only [primA, List.map_cons, List.map_nil, evalF, upd, Nat.reduceEqDiff, reduceIte]; exact bs24_1 _ _) (by decide) ?_
    refine rd_append (r := [.int .i64 y1]) st24 Try.underlying24 (v := L) (by simp [evalF, upd]) (by simp only [evalF, upd, Nat.reduceEqDiff, reduceIte]; rfl) (g2'.keep (Nat.le_succ _) (fun id hid _ => by simp [setHp, show id ≠ h'.length by omega])) (src_built rfl (by simp [setHp])) (by simp [ints]; omega) (by decide) ?_
    intro L2 hp5 nb5 c5 hg5 ha5 hc5 ho5
    have hax := after_trans (after_new (hf h') h'.length L [.pv (.int .i64 y1)] (pvs_ok [.int .i64 y1])) ha5 (fun id h => .inl h)
    have hLi : ∀ id, ownOf L = some id → id < h'.length := fun id h => row_own g2'.row h
    have hm5 : AI.look hp5 idm 1 = some (mcells { m with list := acc } L D) := by
      rw [look_at 1 (hax.2.1 idm (by have := hpm4.lt; omega) (fun h => (g4 idm h).2.1 rfl))]
      exact g1'
    refine rd_val (v := .ptr idm 1 0) rfl (by simp [primA, evalF, upd]) (by decide) ?_
    refine rd_val (v := .ptr idm 1 (0 + 3)) rfl (by simp only [primA, evalF, upd, Nat.reduceEqDiff, reduceIte, fa30_3, Option.map_some]) (by decide) ?_
    have hst := put_field (v := L2) (m' := { m with list := acc ++ [y1] }) (L' := L2) (D' := D) (off := 0 + 3) hpm.key sz24 hm5 ⟨(row_cell hg5.row).2, (row_cell hg5.row).1⟩ (by omega) (spl3 _ _)
    refine rd_upd (dst := none) (v := undefA) rfl (by simp only [primA, evalF, upd, Nat.reduceEqDiff, reduceIte]; exact hst) (look_live hm5) (fun e he => by cases he) ?_
    refine rd_nil ⟨dyn_of rfl (fun p hp' => ?_), ?_⟩
    · have hp'' : p ∈ needs (regOf Try.f26 9) := hp'
      rw [listNeeds] at hp''
      simp only [List.mem_cons, List.not_mem_nil, or_false] at hp''
      rcases hp'' with rfl | rfl <;> intro x y hx hy <;> cases hx <;> cases hy
      · refine heapPart_load_all rfl rfl (fun id hid => ?_)
        simp [footF, looksIn, Op.operands, evalF, upd, idOf] at hid
        subst hid
        rw [hh, look_blk g1, look_blk g1']
        exact eqBlk_refl (ok_cells (grow_okC g2) (row_ok' g3))
      · have hlt4 := hpm4.lt
        simp [heapPart, footF, Chg.isAll, Chg.ids, disjointL, looksIn, Op.operands, evalF, upd, idOf, heapful]
        omega
    try simp only
    simp only [putF]
    refine ex_region ?_
    refine ro_move (by simp only [evalF, upd, arg0, argS, ofConst, ofCell, Nat.reduceEqDiff, reduceIte, h0, h1, h6] <;> rfl) (by decide) ?_
    refine ro_bin (by simp only [evalF, upd, arg0, argS, ofConst, ofCell, Nat.reduceEqDiff, reduceIte, h0, h1, h6] <;> rfl) (by simp only [evalF, upd, arg0, argS, ofConst, ofCell, Nat.reduceEqDiff, reduceIte, h0, h1, h6] <;> rfl) (by exact (sub_v (by omega))) (by decide) ?_
    refine ro_assign (by simp only [evalF, upd, arg0, argS, ofConst, ofCell, Nat.reduceEqDiff, reduceIte, h0, h1, h6] <;> rfl) (by decide) ?_
    refine ro_nil ?_
    have hgi : Grow hp5 nb5 L2 (ints (acc ++ [y1])) := by
      have : ints (acc ++ [y1]) = ints acc ++ [.int .i64 y1] := by simp [ints]
      rw [this]; exact hg5
    have hstep := fld_push (m := { m with list := acc }) y1 hpm4 hr4' g3' g4 g5 hgi hax (fun id h => (ho5 id h).imp (fun h => h) (fun h => by omega))
    refine ⟨k', by omega, acc ++ [y1], y2, y3, by simp [putF, upd, h0], by simp [putF, upd, h1], by simp [putF, upd], by omega, by simp; omega, hb4, hln, ?_⟩
    exact fld_seq hfo (fld_seq hmid hstep)
end Go.Proofs.Ytlinbbjobjnipaa

set_option linter.unusedVariables false
set_option linter.unusedSimpArgs false
set_option linter.unusedSectionVars false
namespace Go.Proofs.Ytlinbbjobjnipaa
open Go AI
set_option maxHeartbeats 4000000
set_option maxRecDepth 10000
/-- A step of a reader that keeps the first thing that was wrong. -/
def readS (f : Nat) (m : M) (b : List Int) (e : Int) : M × List Int × Int :=
  match f with
  | 0 => ({ m with pred := (predR b e).1 }, (predR b e).2)
  | 1 => ({ m with node := (byteR b e 9).1 }, (byteR b e 9).2)
  | 2 => ({ m with list := (listR m b e).1 }, (listR m b e).2)
  | 3 => ({ m with done := (byteR b e 1).1 == 1 }, (byteR b e 1).2)
  | 4 => ({ m with err := (byteR b e 20).1 }, (byteR b e 20).2)
  | 5 => ({ m with key := keyR m b e }, (takeR b e 32).2)
  | 6 => ({ m with data := (dataR b e).1 }, (dataR b e).2)
  | _ => ({ m with lease := (numR b e 4 1 1000).1 }, (numR b e 4 1 1000).2)
theorem read_calls (d f : Nat) (hf : f < 8) {hp : Hp} {nb idm idr q : Nat} {m : M} {b : List Int} {e : Int} (hb : ∀ x ∈ b, 0 ≤ x ∧ x ≤ 255) (hml : m.list.length ≤ 1000) (hpm : Pm hp nb idm idr q m) (hrd : Rd hp nb idr q b e) :
    CA (callA Try.prog facts plains 10000 (d + 5)) 26 [.ptr idr 1 0, .ptr idm 1 0, .pv (.int .i64 f)] hp nb (FldOk hp nb idm idr q (readS f m b e).1 (readS f m b e).2.1 (readS f m b e).2.2) := by
  match f, hf with
  | 0, _ => exact read_0 d hb hpm hrd
  | 1, _ => exact read_1 d hb hpm hrd
  | 2, _ => exact read_2 d hb hml hpm hrd
  | 3, _ => exact read_3 d hb hpm hrd
  | 4, _ => exact read_4 d hb hpm hrd
  | 5, _ => exact read_5 d hb hpm hrd
  | 6, _ => exact read_6 d hb hpm hrd
  | 7, _ => exact read_7 d hb hpm hrd
theorem byteR_eq (b : List Int) (e most : Int) : byteR b e most = match takeR b e 1 with
    | ([], b', e') => (0, b', e')
    | (x :: _, b', e') => if x > most then (0, b', firstE e' 11) else (x, b', e') := rfl
theorem take_stuck (b : List Int) {e : Int} (n : Nat) (h : e ≠ 0) : takeR b e n = ([], b, e) := by
  rw [takeR, if_pos (.inl h), firstE, if_neg h]
theorem byte_stuck (b : List Int) {e : Int} (most : Int) (h : e ≠ 0) : byteR b e most = (0, b, e) := by
  rw [byteR_eq, take_stuck b 1 h]
theorem pred_stuck (b : List Int) {e : Int} (h : e ≠ 0) : predR b e = (0, b, e) := by
  unfold predR
  split
  · rw [if_neg (fun hh => h hh.1), byte_stuck _ _ h]
  · rw [byte_stuck _ _ h]
theorem num_stuck (b : List Int) {e : Int} (n : Nat) (l k : Int) (h : e ≠ 0) : numR b e n l k = (0, b, e) := by
  unfold numR
  rw [take_stuck b n h]
  simp only
  rw [if_neg (fun hh => h hh.1)]
  rfl
theorem list_stuck {e : Int} (h : e ≠ 0) : ∀ (n : Nat) (acc b : List Int), (listN n acc b e).2 = (b, e)
  | 0, acc, b => rfl
  | n + 1, acc, b => by
    rw [listN, byte_stuck b 9 h]
    exact list_stuck h n _ b
/-- What was wrong first stays. -/
theorem read_stuck (f : Nat) (m : M) (b : List Int) {e : Int} (h : e ≠ 0) : (readS f m b e).2.2 = e := by
  unfold readS
  split
  · rw [pred_stuck b h]
  · rw [byte_stuck b 9 h]
  · unfold listR
    rw [byte_stuck b 10 h, list_stuck h]
  · rw [byte_stuck b 1 h]
  · rw [byte_stuck b 20 h]
  · rw [take_stuck b 32 h]
  · unfold dataR
    rw [num_stuck b 2 0 6000 h, take_stuck b _ h]
  · rw [num_stuck b 4 1 1000 h]
theorem byte_nil (most : Int) : byteR [] 0 most = (0, [], 8) := rfl
theorem byte_cons (x : Int) (r : List Int) (most : Int) : byteR (x :: r) 0 most = if x > most then (0, r, 11) else (x, r, 0) := by
  rw [byteR_eq]
  rfl
theorem list_ok : ∀ (n : Nat) (acc b : List Int), match readList n b acc with
    | .ok (l, r) => listN n acc b 0 = (l, r, 0)
    | .error x => (listN n acc b 0).2.2 = x ∧ x ≠ 0
  | 0, acc, b => rfl
  | n + 1, acc, [] => by
    rw [readList]
    simp only
    rw [listN, byte_nil, list_stuck (by show (8 : Int) ≠ 0; decide)]
    exact ⟨rfl, by decide⟩
  | n + 1, acc, x :: r => by
    rw [readList]
    by_cases hx : x > 9
    · rw [if_pos hx]
      simp only
      rw [listN, byte_cons, if_pos hx, list_stuck (by show (11 : Int) ≠ 0; decide)]
      exact ⟨rfl, by decide⟩
    · rw [if_neg hx, listN, byte_cons, if_neg hx]
      exact list_ok n _ r
def Agree (r : Except Int (M × List Int)) (s : M × List Int × Int) : Prop :=
  match r with
  | .ok p => s = (p.1, p.2, 0)
  | .error x => s.2.2 = x ∧ x ≠ 0
theorem agree_if {c : Prop} [Decidable c] {r1 r2 : Except Int (M × List Int)} {s : M × List Int × Int} (h1 : c → Agree r1 s) (h2 : ¬ c → Agree r2 s) : Agree (if c then r1 else r2) s := by
  split
  · exact h1 ‹_›
  · exact h2 ‹_›
theorem bad {s : M × List Int × Int} {x : Int} (h : s.2.2 = x) (hx : x ≠ 0) : Agree (.error x) s := ⟨h, hx⟩
theorem fine {s : M × List Int × Int} {m : M} {r : List Int} (h : s = (m, r, 0)) : Agree (.ok (m, r)) s := h
theorem read_ok0 (m : M) (b : List Int) : Agree (readE 0 m b) (readS 0 m b 0) := by
  cases b with
  | nil => exact bad rfl (by decide)
  | cons x r =>
    refine agree_if (fun h1 => fine ?_) (fun h1 => agree_if (fun h2 => bad ?_ (by decide)) (fun h2 => fine ?_))
    · simp only [readS, predR]
      rw [if_pos ⟨trivial, h1⟩]
    · simp only [readS, predR]
      rw [if_neg (fun h => h1 h.2), byte_cons, if_pos h2]
    · simp only [readS, predR]
      rw [if_neg (fun h => h1 h.2), byte_cons, if_neg h2]
theorem read_ok1 (m : M) (b : List Int) : Agree (readE 1 m b) (readS 1 m b 0) := by
  cases b with
  | nil => exact bad rfl (by decide)
  | cons x r =>
    refine agree_if (fun h2 => bad ?_ (by decide)) (fun h2 => fine ?_)
    · simp only [readS, byte_cons]
      rw [if_pos h2]
    · simp only [readS, byte_cons]
      rw [if_neg h2]
theorem read_ok2 (m : M) (b : List Int) (hl : m.list = []) : Agree (readE 2 m b) (readS 2 m b 0) := by
  cases b with
  | nil => exact bad rfl (by decide)
  | cons x r =>
    refine agree_if (fun h2 => bad ?_ (by decide)) (fun h2 => ?_)
    · simp only [readS, listR, byte_cons]
      rw [if_pos h2]
      rfl
    · have hs : readS 2 m (x :: r) 0 = ({ m with list := (listN x.toNat [] r 0).1 }, (listN x.toNat [] r 0).2) := by
        simp only [readS, listR, byte_cons]
        rw [if_neg h2, hl]
      rw [hs]
      have := list_ok x.toNat [] r
      cases hh : readList x.toNat r [] with
      | ok p =>
        rw [hh] at this
        simp only at this
        refine fine ?_
        rw [this]
      | error e =>
        rw [hh] at this
        exact bad this.1 this.2
theorem read_ok3 (m : M) (b : List Int) : Agree (readE 3 m b) (readS 3 m b 0) := by
  cases b with
  | nil => exact bad rfl (by decide)
  | cons x r =>
    refine agree_if (fun h2 => bad ?_ (by decide)) (fun h2 => fine ?_)
    · simp only [readS, byte_cons]
      rw [if_pos h2]
    · simp only [readS, byte_cons]
      rw [if_neg h2]
      rfl
theorem read_ok4 (m : M) (b : List Int) : Agree (readE 4 m b) (readS 4 m b 0) := by
  cases b with
  | nil => exact bad rfl (by decide)
  | cons x r =>
    refine agree_if (fun h2 => bad ?_ (by decide)) (fun h2 => fine ?_)
    · simp only [readS, byte_cons]
      rw [if_pos h2]
    · simp only [readS, byte_cons]
      rw [if_neg h2]
theorem read_ok5 (m : M) (b : List Int) : Agree (readE 5 m b) (readS 5 m b 0) := by
  refine agree_if (fun h2 => bad ?_ (by decide)) (fun h2 => fine ?_)
  · simp only [readS, takeR]
    rw [if_pos (.inr h2)]
    rfl
  · have : takeR b 0 32 = (b.take 32, b.drop 32, 0) := by
      rw [takeR, if_neg]
      intro h
      rcases h with h | h
      · exact h rfl
      · exact h2 h
    simp only [readS, keyR, this]
    rw [if_pos (by simp; omega)]
theorem read_ok6 (m : M) (b : List Int) (hb : ∀ x ∈ b, 0 ≤ x ∧ x ≤ 255) : Agree (readE 6 m b) (readS 6 m b 0) := by
  match b, hb with
  | [], _ => exact bad rfl (by decide)
  | [x], _ => exact bad rfl (by decide)
  | x :: y :: r, hb =>
    have hx := hb x (by simp)
    have hy := hb y (by simp)
    have hn : numR (x :: y :: r) 0 2 0 6000 = (x * 256 + y, r, if x * 256 + y > 6000 then 11 else 0) := by
      have h3 : (x * 256 + y < 0 ∨ x * 256 + y > 6000) ↔ x * 256 + y > 6000 := by omega
      have ht : takeR (x :: y :: r) 0 2 = ([x, y], r, 0) := by rw [takeR, if_neg (by simp)]; rfl
      unfold numR
      rw [ht]
      simp [numOf, h3]
    refine agree_if (fun h2 => bad ?_ (by decide)) (fun h2 => agree_if (fun h3 => bad ?_ (by decide)) (fun h3 => fine ?_))
    · simp only [readS, dataR, hn]
      rw [if_pos h2, take_stuck _ _ (by decide)]
    · simp only [readS, dataR, hn]
      rw [if_neg h2, takeR, if_pos (.inr h3)]
      rfl
    · simp only [readS, dataR, hn]
      rw [if_neg h2, takeR, if_neg]
      intro h
      rcases h with h | h
      · exact h rfl
      · exact h3 h
theorem read_ok7 (f : Nat) (m : M) (b : List Int) : Agree (readE (f + 7) m b) (readS (f + 7) m b 0) := by
  match b with
  | [] => exact bad rfl (by decide)
  | [x] => exact bad rfl (by decide)
  | [x, y] => exact bad rfl (by decide)
  | [x, y, z] => exact bad rfl (by decide)
  | x :: y :: z :: w :: r =>
    have hn : numR (x :: y :: z :: w :: r) 0 4 1 1000 = (x * 16777216 + y * 65536 + z * 256 + w, r, if x * 16777216 + y * 65536 + z * 256 + w < 1 ∨ x * 16777216 + y * 65536 + z * 256 + w > 1000 then 11 else 0) := by
      have : ((x * 256 + y) * 256 + z) * 256 + w = x * 16777216 + y * 65536 + z * 256 + w := by omega
      have ht : takeR (x :: y :: z :: w :: r) 0 4 = ([x, y, z, w], r, 0) := by rw [takeR, if_neg (by simp)]; rfl
      unfold numR
      rw [ht]
      simp [numOf, this]
    refine agree_if (fun h2 => bad ?_ (by decide)) (fun h2 => fine ?_)
    · simp only [readS, hn]
      rw [if_pos h2]
    · simp only [readS, hn]
      rw [if_neg h2]
theorem read_ok (f : Nat) (m : M) (b : List Int) (hb : ∀ x ∈ b, 0 ≤ x ∧ x ≤ 255) (hl : f = 2 → m.list = []) : Agree (readE f m b) (readS f m b 0) :=
  match f, hl with
  | 0, _ => read_ok0 m b
  | 1, _ => read_ok1 m b
  | 2, hl => read_ok2 m b (hl rfl)
  | 3, _ => read_ok3 m b
  | 4, _ => read_ok4 m b
  | 5, _ => read_ok5 m b
  | 6, _ => read_ok6 m b hb
  | f + 7, _ => read_ok7 f m b
theorem byte_rest_sub {b : List Int} {e most : Int} : ∀ x ∈ (byteR b e most).2.1, x ∈ b := by
  have h1 : (byteR b e most).2.1 = (takeR b e 1).2.1 := by
    unfold byteR
    split
    · rename_i h; rw [h]
    · rename_i h; rw [h]; split <;> rfl
  rw [h1]
  exact take_sub
theorem listN_sub {e : Int} : ∀ (n : Nat) (acc b : List Int) (e : Int), (∀ x ∈ (listN n acc b e).2.1, x ∈ b) ∧ (listN n acc b e).1.length = acc.length + n
  | 0, acc, b, e => ⟨fun x h => h, rfl⟩
  | n + 1, acc, b, e => by
    rw [listN]
    obtain ⟨h1, h2⟩ := listN_sub (e := e) n (acc ++ [(byteR b e 9).1]) (byteR b e 9).2.1 (byteR b e 9).2.2
    exact ⟨fun x h => byte_rest_sub x (h1 x h), by rw [h2]; simp; omega⟩
theorem num_sub {b : List Int} {e l k : Int} {n : Nat} : ∀ x ∈ (numR b e n l k).2.1, x ∈ b := fun x h => take_sub (e := e) (n := n) x h
theorem read_sub (f : Nat) (m : M) (b : List Int) (e : Int) : ∀ x ∈ (readS f m b e).2.1, x ∈ b := by
  unfold readS
  split
  · unfold predR
    split
    · split
      · exact fun x h => List.mem_cons_of_mem _ h
      · exact byte_rest_sub
    · exact byte_rest_sub
  · exact byte_rest_sub
  · exact fun x h => byte_rest_sub x ((listN_sub (e := e) _ _ _ _).1 x h)
  · exact byte_rest_sub
  · exact byte_rest_sub
  · exact take_sub
  · exact fun x h => num_sub x (take_sub x h)
  · exact num_sub
theorem read_list (f : Nat) (m : M) (b : List Int) (e : Int) (hb : ∀ x ∈ b, 0 ≤ x ∧ x ≤ 255) : (readS f m b e).1.list.length ≤ m.list.length + 10 ∧ (f ≠ 2 → (readS f m b e).1.list = m.list) := by
  unfold readS
  split
  · exact ⟨by simp only; omega, fun _ => rfl⟩
  · exact ⟨by simp only; omega, fun _ => rfl⟩
  · refine ⟨?_, fun h => absurd rfl h⟩
    have := (listN_sub (e := e) (byteR b e 10).1.toNat m.list (byteR b e 10).2.1 (byteR b e 10).2.2).2
    have h2 := byte_val (e := e) (most := 10) (by omega) hb
    unfold listR
    rw [this]; omega
  · exact ⟨by simp only; omega, fun _ => rfl⟩
  · exact ⟨by simp only; omega, fun _ => rfl⟩
  · exact ⟨by simp only; omega, fun _ => rfl⟩
  · exact ⟨by simp only; omega, fun _ => rfl⟩
  · exact ⟨by simp only; omega, fun _ => rfl⟩
def fieldsS : List Nat → M → List Int → Int → M × List Int × Int
  | [], m, b, e => (m, b, e)
  | f :: fs, m, b, e => fieldsS fs (readS f m b e).1 (readS f m b e).2.1 (readS f m b e).2.2
theorem fields_stuck : ∀ (fs : List Nat) (m : M) (b : List Int) {e : Int}, e ≠ 0 → (fieldsS fs m b e).2.2 = e
  | [], m, b, e, h => rfl
  | f :: fs, m, b, e, h => by
    rw [fieldsS]
    have h1 := read_stuck f m b h
    have := fields_stuck fs (readS f m b e).1 (readS f m b e).2.1 (e := (readS f m b e).2.2) (by rw [h1]; exact h)
    rw [this, h1]
theorem fields_ok : ∀ (fs : List Nat) (m : M) (b : List Int), (∀ x ∈ b, 0 ≤ x ∧ x ≤ 255) → fs.Nodup → (2 ∈ fs → m.list = []) → Agree (fieldsR fs m b) (fieldsS fs m b 0)
  | [], m, b, hb, hn, hl => fine rfl
  | f :: fs, m, b, hb, hn, hl => by
    have h1 := read_ok f m b hb (fun h => hl (by simp [h]))
    rw [fieldsR, fieldsS]
    cases hr : readE f m b with
    | error e =>
      rw [hr] at h1
      obtain ⟨h2, h3⟩ := h1
      refine bad ?_ h3
      rw [fields_stuck _ _ _ (by rw [h2]; exact h3), h2]
    | ok p =>
      obtain ⟨m', r⟩ := p
      rw [hr] at h1
      have h1 : readS f m b 0 = (m', r, 0) := h1
      have h2 := read_sub f m b 0
      have h3 := (read_list f m b 0 hb).2
      rw [h1] at h2 h3 ⊢
      rw [List.nodup_cons] at hn
      exact fields_ok fs m' r (fun x hx => hb x (h2 x hx)) hn.2 (fun h => by
        have hne : f ≠ 2 := fun he => hn.1 (by rw [he]; exact h)
        have := h3 hne
        simp only at this
        rw [this]
        exact hl (List.mem_cons_of_mem _ h))
theorem row_nodup {k : Int} {fs : List Nat} (h : rowOf k = some fs) : fs.Nodup := by
  by_cases hk : 1 ≤ k ∧ k ≤ 12
  · have : k = 1 ∨ k = 2 ∨ k = 3 ∨ k = 4 ∨ k = 5 ∨ k = 6 ∨ k = 7 ∨ k = 8 ∨ k = 9 ∨ k = 10 ∨ k = 11 ∨ k = 12 := by omega
    rcases this with rfl | rfl | rfl | rfl | rfl | rfl | rfl | rfl | rfl | rfl | rfl | rfl <;> simp [rowOf] at h <;> subst h <;> decide
  · exfalso
    unfold rowOf at h
    rw [if_neg (by omega), if_neg (by omega), if_neg (by omega), if_neg (by omega), if_neg (by omega), if_neg (by omega), if_neg (by omega), if_neg (by omega), if_neg (by omega), if_neg (by omega), if_neg (by omega), if_neg (by omega)] at h
    simp at h
end Go.Proofs.Ytlinbbjobjnipaa

set_option linter.unusedVariables false
set_option linter.unusedSimpArgs false
set_option linter.unusedSectionVars false
namespace Go.Proofs.Ytlinbbjobjnipaa
open Go AI
set_option maxHeartbeats 4000000
set_option maxRecDepth 10000
def zcells : List AV := mcells zeroM (.pv .nilSlice) (.pv .nilSlice)
theorem bld30 : buildA Try.prog 30 [] = some (.agg zcells) := by kernel_rfl
theorem bld30k (k : Int) : buildA Try.prog 30 [(0, .pv (.int .i64 k))] = some (.agg (mcells { zeroM with kind := k } (.pv .nilSlice) (.pv .nilSlice))) := by kernel_rfl
theorem bld58 {hp : Hp} {nb : Nat} {v : AV} {l : List PV} (hr : Row hp nb v l) : buildA Try.prog 58 [(0, v)] = some (.agg [v, .pv (.int .i64 0)]) := by
  cases hr <;> kernel_rfl
theorem z_len : zcells.length = 40 := rfl
theorem z_all : zcells.all AV.isCell = true := by kernel_rfl
theorem z_ok (nb : Nat) : ∀ c ∈ zcells, okC nb c := ok_cells (okC_pv _ _) (okC_pv _ _)
theorem storeZ {hp : Hp} {id : Nat} {cs vs : List AV} (hl : AI.look hp id 1 = some cs) (hc : vs.all AV.isCell = true) (hn : vs.length = 40) (ho : cs.length = 40) : storeA Try.prog hp 30 (.ptr id 1 0) (.agg vs) = some (.upd undefA id (.cells 1 vs)) := by
  have h := storeN sz30 hl hc hn (off := 0) (by omega)
  have e : splice cs 0 vs = vs := by
    unfold splice
    rw [List.take_zero, List.nil_append, Nat.zero_add, List.drop_of_length_le (by omega), List.append_nil]
  rw [e] at h
  exact h
theorem loadZ {hp : Hp} {id : Nat} {cs : List AV} (hl : AI.look hp id 1 = some cs) (ho : cs.length = 40) : loadA Try.prog hp 30 (.ptr id 1 0) = some (.agg cs) := by
  rw [loadN ag30 sz30 hl (by omega), List.drop_zero, List.take_of_length_le (by omega)]
theorem res15 {g : Gm} {hp : Hp} {id : Nat} {cs : List AV} {e : Int} (h2 : g 2 = .ptr id 1 0) (h3 : g 3 = .pv (.int .i64 e)) (hl : AI.look hp id 1 = some cs) (ho : cs.length = 40) : resF Try.prog Try.f15 g hp = some (.tuple [.agg cs, .pv (.int .i64 e)]) := by
  show (([ResultVar.cell 2 30, ResultVar.tmp 3] : List ResultVar).mapM (resOneF Try.prog g hp)).map AV.tuple = _
  simp only [List.mapM_cons, List.mapM_nil, resOneF, h2, h3, loadZ hl ho]
  rfl
theorem after_put {hp hp1 : Hp} {nb nb1 id : Nat} {v : AV} {cs : List AV} (h : After hp nb v hp1 nb1) (hid : nb ≤ id) (hc : ∀ c ∈ cs, okC nb1 c) : After hp nb v (setHp hp1 id (.cells 1 cs)) nb1 :=
  ⟨h.1, fun j hj ho => by rw [show setHp hp1 id (.cells 1 cs) j = hp1 j by simp [setHp, show j ≠ id by omega]]; exact h.2.1 j hj ho, fun ht => tidy_put (h.2.2 ht) hc⟩
theorem after_box {hp hp1 : Hp} {nb nb1 : Nat} {cs : List AV} (h : After hp nb (.pv .nilSlice) hp1 nb1) (hc : ∀ c ∈ cs, okC nb1 c) : After hp nb (.pv .nilSlice) (setHp hp1 nb1 (.cells 1 cs)) (nb1 + 1) :=
  after_nil h (after_new hp1 nb1 (.pv .nilSlice) cs hc) (fun id h => by simp [ownOf] at h)
theorem fld_after {hp hp1 hp2 : Hp} {nb nb1 nb2 idm idr q : Nat} {m : M} {b : List Int} {e : Int} {v : AV} (h : After hp nb (.pv .nilSlice) hp1 nb1) (hq : nb ≤ q) (h2 : FldOk hp1 nb1 idm idr q m b e v hp2 nb2) : After hp nb (.pv .nilSlice) hp2 nb2 := by
  obtain ⟨_, _, _, a, b, c⟩ := h2
  exact ⟨Nat.le_trans h.1 a, fun id hid ho => (b id (by omega)).trans (h.2.1 id hid ho), fun ht => c (h.2.2 ht)⟩
theorem keep_after {hp hp1 hp2 : Hp} {nb nb1 nb2 idr : Nat} (h : After hp nb (.pv .nilSlice) hp1 nb1) (hq : nb ≤ idr) (h2 : KeepR hp1 nb1 idr hp2 nb2) : After hp nb (.pv .nilSlice) hp2 nb2 := by
  obtain ⟨a, b, c⟩ := h2
  exact ⟨Nat.le_trans h.1 (by omega), fun id hid ho => (b id (by omega)).trans (h.2.1 id hid ho), fun ht => c (h.2.2 ht)⟩
/-- What reading a message gives. -/
def ParseOk (b : List Int) (hp : Hp) (nb : Nat) (v : AV) (hp' : Hp) (nb' : Nat) : Prop :=
  After hp nb (.pv .nilSlice) hp' nb' ∧ match dec b with
    | .ok m => m.key.length = 32 ∧ ∃ L D, v = .tuple [.agg (mcells m L D), .pv (.int .i64 0)] ∧ Row hp' nb' L (ints m.list) ∧ Row hp' nb' D (u8s m.data) ∧ (∀ id, ownOf L = some id → nb ≤ id) ∧ (∀ id, ownOf D = some id → nb ≤ id)
    | .error e => v = .tuple [.agg zcells, .pv (.int .i64 e)]
theorem retNeeds : needs (regOf Try.f15 16) = [(4, 5)] := by kernel_rfl
theorem retStat : statOk (regOf Try.f15 16) = true := by kernel_rfl
def leftE (b : List Int) (e : Int) : Int := if (b.length : Int) > 0 then firstE e 9 else e
theorem dec_end {k : Int} {r : List Int} {fs : List Nat} (hr : rowOf k = some fs) (hb : ∀ x ∈ r, 0 ≤ x ∧ x ≤ 255) {m : M} {b : List Int} {e : Int} (h : fieldsS fs { zeroM with kind := k } r 0 = (m, b, e)) :
    (leftE b e = 0 → dec (k :: r) = .ok m) ∧ (leftE b e ≠ 0 → dec (k :: r) = .error (leftE b e)) := by
  have ha := fields_ok fs { zeroM with kind := k } r hb (row_nodup hr) (fun _ => rfl)
  rw [h] at ha
  have hd : dec (k :: r) = match fieldsR fs { zeroM with kind := k } r with
      | .ok (m, []) => .ok m
      | .ok (_, _ :: _) => .error 9
      | .error e => .error e := by
    rw [dec, hr]
    rfl
  cases hf : fieldsR fs { zeroM with kind := k } r with
  | ok p =>
    obtain ⟨m1, rest⟩ := p
    rw [hf] at ha hd
    have ha : (m, b, e) = (m1, rest, 0) := ha
    cases ha
    cases b with
    | nil => exact ⟨fun _ => hd, fun h => absurd rfl h⟩
    | cons y t =>
      have : leftE (y :: t) 0 = 9 := by
        unfold leftE
        rw [if_pos (by simp)]
        rfl
      rw [this]
      exact ⟨fun h => absurd h (by decide), fun _ => hd⟩
  | error x =>
    rw [hf] at ha hd
    obtain ⟨h1, h2⟩ := ha
    have h1 : e = x := h1
    subst h1
    have : leftE b e = e := by
      unfold leftE
      by_cases hh : (b.length : Int) > 0
      · rw [if_pos hh, firstE, if_neg h2]
      · rw [if_neg hh]
    rw [this]
    exact ⟨fun h => absurd h h2, fun _ => hd⟩
theorem parse_calls (d : Nat) {hp : Hp} {nb : Nat} {v : AV} {b : List Int} (hb : ∀ x ∈ b, 0 ≤ x ∧ x ≤ 255) (hr : Row hp nb v (u8s b)) :
    CA (callA Try.prog facts plains 10000 (d + 6)) 15 [v] hp nb (ParseOk b hp nb) := by
  have hlen : (u8s b).length = b.length := by simp [u8s]
  refine ca_body (fn := Try.f15) (c := bodyOf Try.f15) Try.func15 rfl (by show 1 ≤ 61; omega) ?_
  show EX _ _ _ _ _ 61 _ _ _ _ _
  unfold bodyOf Try.f15
  refine ex_seq (ex_region ?_)
  refine ro_alloc zero30 (by kernel_rfl) (by decide) ?_
  refine ro_assign (by simp only [evalF, upd, arg0, argS, ofConst, ofCell, Nat.reduceEqDiff, reduceIte] <;> rfl) (by decide) ?_
  refine ro_nil ?_
  try simp only
  have ha0 : After hp nb (.pv .nilSlice) (setHp hp nb (.cells 1 zcells)) (nb + 1) := after_new hp nb _ _ (z_ok _)
  have hl0 : AI.look (setHp hp nb (.cells 1 zcells)) nb 1 = some zcells := look_same _ _ _ _
  have hr0 : Row (setHp hp nb (.cells 1 zcells)) (nb + 1) v (u8s b) := hr.keep (Nat.le_succ _) (fun id hid _ => by simp [setHp, show id ≠ nb by omega])
  show EX _ _ _ _ _ 61 _ _ (setHp hp nb (.cells 1 zcells)) _ _
  generalize setHp hp nb (.cells 1 zcells) = hp1 at ha0 hl0 hr0 ⊢
  refine ex_seq (ex_seq (ex_region ?_))
  refine ro_move (by simp only [evalF, upd, arg0, argS, ofConst, ofCell, Nat.reduceEqDiff, reduceIte] <;> rfl) (by decide) ?_
  refine ro_builtin rfl (by simp only [List.map_cons, List.map_nil, evalF, upd, arg0, argS, ofConst, ofCell, Nat.reduceEqDiff, reduceIte] <;> rfl) (by exact (row_len st27 hr0)) (by decide) ?_
  refine ro_bin (by simp only [evalF, upd, arg0, argS, ofConst, ofCell, Nat.reduceEqDiff, reduceIte] <;> rfl) (by simp only [evalF, upd, arg0, argS, ofConst, ofCell, Nat.reduceEqDiff, reduceIte] <;> rfl) (by exact (eql_v)) (by decide) ?_
  refine ro_nil ?_
  try simp only
  cases b with
  | nil =>
    refine ex_cond (t := true) (by simp only [evalF, upd, arg0, argS, ofConst, ofCell, Nat.reduceEqDiff, reduceIte] <;> rfl) (fun _ => ?_) (fun h => by simp at h)
    refine ex_seq (ex_region ?_)
    refine ro_build rfl bld30 (by decide) ?_
    refine ro_store (by simp only [evalF, upd, arg0, argS, ofConst, ofCell, Nat.reduceEqDiff, reduceIte] <;> rfl) (by simp only [evalF, upd, arg0, argS, ofConst, ofCell, Nat.reduceEqDiff, reduceIte] <;> rfl) (storeZ hl0 z_all z_len z_len) ?_
    refine ro_assign (by simp only [evalF, upd, arg0, argS, ofConst, ofCell, Nat.reduceEqDiff, reduceIte] <;> rfl) (by decide) ?_
    refine ro_nil ?_
    try simp only
    refine ex_ret ?_
    refine ⟨_, res15 (id := nb) (by simp [upd]) (e := 8) (by simp [upd]) (look_same _ _ _ _) z_len, after_put ha0 (Nat.le_refl _) (z_ok _), rfl⟩
  | cons k r =>
    have hk := hb k List.mem_cons_self
    have hbr : ∀ x ∈ r, 0 ≤ x ∧ x ≤ 255 := fun x h => hb x (List.mem_cons_of_mem _ h)
    obtain ⟨a, hra, hla⟩ := row_at st27 hr0 (i := 0) (x := .int .u8 k) rfl
    refine ex_cond (t := false) (by simp only [evalF, upd, Nat.reduceEqDiff, reduceIte, hlen]; simp; omega) (fun h => by simp at h) (fun _ => ex_skip ?_)
    try simp only
    refine ex_seq (ex_region ?_)
    refine ro_move (by simp only [evalF, upd, arg0, argS, ofConst, ofCell, Nat.reduceEqDiff, reduceIte] <;> rfl) (by decide) ?_
    refine ro_indexAddr (by simp only [evalF, upd, arg0, argS, ofConst, ofCell, Nat.reduceEqDiff, reduceIte] <;> rfl) (by simp only [evalF, upd, arg0, argS, ofConst, ofCell, Nat.reduceEqDiff, reduceIte] <;> rfl) (by exact (show indexAddrA Try.prog 27 v (.pv (.int .i64 0)) = some a from hra)) (by decide) ?_
    refine ro_load (by simp only [evalF, upd, arg0, argS, ofConst, ofCell, Nat.reduceEqDiff, reduceIte] <;> rfl) (by exact (hla)) (by decide) ?_
    refine ro_conv (by simp only [evalF, upd, arg0, argS, ofConst, ofCell, Nat.reduceEqDiff, reduceIte] <;> rfl) (by exact (conv53 k hk _ _)) (by decide) ?_
    refine ro_build (by simp only [List.map_cons, List.map_nil, evalF, upd, Nat.reduceEqDiff, reduceIte]) (bld30k k) (by decide) ?_
    refine ro_alloc zero30 (by kernel_rfl) (by decide) ?_
    refine ro_store (by simp only [evalF, upd, arg0, argS, ofConst, ofCell, Nat.reduceEqDiff, reduceIte] <;> rfl) (by simp only [evalF, upd, arg0, argS, ofConst, ofCell, Nat.reduceEqDiff, reduceIte] <;> rfl) (storeZ (look_same _ _ _ _) (mc_all rfl rfl) rfl rfl) ?_
    refine ro_nil ?_
    try simp only
    have ha1 := after_put (after_box ha0 (z_ok (nb + 1))) (id := nb + 1) (by omega) (cs := mcells { zeroM with kind := k } (.pv .nilSlice) (.pv .nilSlice)) (ok_cells (okC_pv _ _) (okC_pv _ _))
    have hl1 : AI.look (setHp (setHp hp1 (nb + 1) (.cells 1 zcells)) (nb + 1) (.cells 1 (mcells { zeroM with kind := k } (.pv .nilSlice) (.pv .nilSlice)))) nb 1 = some zcells := by
      rw [look_ne _ _ _ (by omega), look_ne _ _ _ (by omega)]; exact hl0
    have hm1 : AI.look (setHp (setHp hp1 (nb + 1) (.cells 1 zcells)) (nb + 1) (.cells 1 (mcells { zeroM with kind := k } (.pv .nilSlice) (.pv .nilSlice)))) (nb + 1) 1 = some (mcells { zeroM with kind := k } (.pv .nilSlice) (.pv .nilSlice)) := look_same _ _ _ _
    have hr1 : Row (setHp (setHp hp1 (nb + 1) (.cells 1 zcells)) (nb + 1) (.cells 1 (mcells { zeroM with kind := k } (.pv .nilSlice) (.pv .nilSlice)))) (nb + 1 + 1) v (u8s (k :: r)) := hr0.keep (Nat.le_succ _) (fun id hid _ => by simp [setHp, show id ≠ nb + 1 by omega])
    show EX _ _ _ _ _ 61 _ _ (setHp (setHp hp1 (nb + 1) (.cells 1 zcells)) (nb + 1) (.cells 1 (mcells { zeroM with kind := k } (.pv .nilSlice) (.pv .nilSlice)))) _ _
    generalize setHp (setHp hp1 (nb + 1) (.cells 1 zcells)) (nb + 1) (.cells 1 (mcells { zeroM with kind := k } (.pv .nilSlice) (.pv .nilSlice))) = hp2 at ha1 hl1 hm1 hr1 ⊢
    cases hrow : rowOf k with
    | none =>
      refine ex_seq (ex_region ?_)
      refine ro_fieldAddr (by simp only [evalF, upd, arg0, argS, ofConst, ofCell, Nat.reduceEqDiff, reduceIte] <;> rfl) (by exact (fa30_0 _ _ _)) (by decide) ?_
      refine ro_load (by simp only [evalF, upd, arg0, argS, ofConst, ofCell, Nat.reduceEqDiff, reduceIte] <;> rfl) (by exact (load1 ag3 hm1 mc0)) (by decide) ?_
      refine ro_pure (f := 19) («as» := [.pv (.int .i64 k)]) (v := .tuple [.pv .nilSlice, .pv (.bool false)]) rfl (by simp [evalF, upd]) rfl (by
        unfold orS facts
        have := row_calls 10000 (d + 4) k hp2
        unfold rowV at this
        rw [hrow] at this
        exact this) (by decide) ?_
      refine ro_move (by simp only [evalF, upd, arg0, argS, ofConst, ofCell, Nat.reduceEqDiff, reduceIte] <;> rfl) (by decide) ?_
      refine ro_extract (by simp only [evalF, upd, arg0, argS, ofConst, ofCell, Nat.reduceEqDiff, reduceIte] <;> rfl) (by exact (rfl)) (by decide) ?_
      refine ro_extract (by simp only [evalF, upd, arg0, argS, ofConst, ofCell, Nat.reduceEqDiff, reduceIte] <;> rfl) (by exact (rfl)) (by decide) ?_
      refine ro_assign (by simp only [evalF, upd, arg0, argS, ofConst, ofCell, Nat.reduceEqDiff, reduceIte] <;> rfl) (by decide) ?_
      refine ro_assign (by simp only [evalF, upd, arg0, argS, ofConst, ofCell, Nat.reduceEqDiff, reduceIte] <;> rfl) (by decide) ?_
      refine ro_nil ?_
      try simp only
      refine ex_seq (ex_seq (ex_region ?_))
      refine ro_move (by simp only [evalF, upd, arg0, argS, ofConst, ofCell, Nat.reduceEqDiff, reduceIte] <;> rfl) (by decide) ?_
      refine ro_un (by simp only [evalF, upd, arg0, argS, ofConst, ofCell, Nat.reduceEqDiff, reduceIte] <;> rfl) (by exact (show unOpA .not (.pv (.bool false)) = some (.pv (.bool true)) from rfl)) (by decide) ?_
      refine ro_nil ?_
      try simp only
      refine ex_cond (t := true) (by simp only [evalF, upd, arg0, argS, ofConst, ofCell, Nat.reduceEqDiff, reduceIte] <;> rfl) (fun _ => ?_) (fun h => by simp at h)
      refine ex_seq (ex_region ?_)
      refine ro_build rfl bld30 (by decide) ?_
      refine ro_store (by simp only [evalF, upd, arg0, argS, ofConst, ofCell, Nat.reduceEqDiff, reduceIte] <;> rfl) (by simp only [evalF, upd, arg0, argS, ofConst, ofCell, Nat.reduceEqDiff, reduceIte] <;> rfl) (storeZ hl1 z_all z_len z_len) ?_
      refine ro_assign (by simp only [evalF, upd, arg0, argS, ofConst, ofCell, Nat.reduceEqDiff, reduceIte] <;> rfl) (by decide) ?_
      refine ro_nil ?_
      try simp only
      refine ex_ret ?_
      refine ⟨_, res15 (id := nb) (by simp [upd]) (e := 3) (by simp [upd]) (look_same _ _ _ _) z_len, after_put ha1 (Nat.le_refl _) (z_ok _), ?_⟩
      rw [dec, hrow]
    | some fs =>
      obtain ⟨hfs8, hfs4⟩ := row_small hrow
      obtain ⟨lv, hlv, hlr⟩ := rowV_some hrow
      obtain ⟨v2, s2, r2, o2⟩ := row_slice st27 hr1 (lo := 1) (hi := r.length + 1) (lv := some (.pv (.int .i64 (1 : Nat)))) (hv := none) (.inl rfl) (.inr ⟨rfl, by simp [u8s]⟩) (by omega) (by simp [u8s])
      have e2 : ((u8s (k :: r)).drop 1).take (r.length + 1 - 1) = u8s r := by simp [u8s, List.take_of_length_le]
      rw [e2] at r2
      refine ex_seq (ex_region ?_)
      refine ro_fieldAddr (by simp only [evalF, upd, arg0, argS, ofConst, ofCell, Nat.reduceEqDiff, reduceIte] <;> rfl) (by exact (fa30_0 _ _ _)) (by decide) ?_
      refine ro_load (by simp only [evalF, upd, arg0, argS, ofConst, ofCell, Nat.reduceEqDiff, reduceIte] <;> rfl) (by exact (load1 ag3 hm1 mc0)) (by decide) ?_
      refine ro_pure (f := 19) («as» := [.pv (.int .i64 k)]) (v := .tuple [lv, .pv (.bool true)]) rfl (by simp [evalF, upd]) rfl (by
        unfold orS facts
        have := row_calls 10000 (d + 4) k hp2
        rw [hlv] at this
        exact this) (by decide) ?_
      refine ro_move (by simp only [evalF, upd, arg0, argS, ofConst, ofCell, Nat.reduceEqDiff, reduceIte] <;> rfl) (by decide) ?_
      refine ro_extract (by simp only [evalF, upd, arg0, argS, ofConst, ofCell, Nat.reduceEqDiff, reduceIte] <;> rfl) (by exact (rfl)) (by decide) ?_
      refine ro_extract (by simp only [evalF, upd, arg0, argS, ofConst, ofCell, Nat.reduceEqDiff, reduceIte] <;> rfl) (by exact (rfl)) (by decide) ?_
      refine ro_assign (by simp only [evalF, upd, arg0, argS, ofConst, ofCell, Nat.reduceEqDiff, reduceIte] <;> rfl) (by decide) ?_
      refine ro_assign (by simp only [evalF, upd, arg0, argS, ofConst, ofCell, Nat.reduceEqDiff, reduceIte] <;> rfl) (by decide) ?_
      refine ro_nil ?_
      try simp only
      refine ex_seq (ex_seq (ex_region ?_))
      refine ro_move (by simp only [evalF, upd, arg0, argS, ofConst, ofCell, Nat.reduceEqDiff, reduceIte] <;> rfl) (by decide) ?_
      refine ro_un (by simp only [evalF, upd, arg0, argS, ofConst, ofCell, Nat.reduceEqDiff, reduceIte] <;> rfl) (by exact (show unOpA .not (.pv (.bool true)) = some (.pv (.bool false)) from rfl)) (by decide) ?_
      refine ro_nil ?_
      try simp only
      refine ex_cond (t := false) (by simp only [evalF, upd, arg0, argS, ofConst, ofCell, Nat.reduceEqDiff, reduceIte] <;> rfl) (fun h => by simp at h) (fun _ => ex_skip ?_)
      try simp only
      refine ex_seq (ex_region ?_)
      refine ro_move (by simp only [evalF, upd, arg0, argS, ofConst, ofCell, Nat.reduceEqDiff, reduceIte] <;> rfl) (by decide) ?_
      refine ro_slice (by simp only [evalF, upd, arg0, argS, ofConst, ofCell, Nat.reduceEqDiff, reduceIte] <;> rfl) (by simp only [Option.map_some, evalF, ofConst, ofCell]; rfl) rfl rfl s2 (by decide) ?_
      refine ro_build (by simp only [List.map_cons, List.map_nil, evalF, upd, Nat.reduceEqDiff, reduceIte]) (bld58 r2) (by decide) ?_
      refine ro_box (v := .agg [v2, .pv (.int .i64 0)]) (by simp only [evalF, upd, arg0, argS, ofConst, ofCell, Nat.reduceEqDiff, reduceIte] <;> rfl) (by simp only [AV.cells, List.all_cons, (row_cell r2).1]; rfl) (by decide) ?_
      refine ro_assign (by simp only [evalF, upd, arg0, argS, ofConst, ofCell, Nat.reduceEqDiff, reduceIte] <;> rfl) (by decide) ?_
      refine ro_nil ?_
      try simp only
      have ha2 := after_box ha1 (cs := [v2, .pv (.int .i64 0)]) (fun c hc => by
        simp at hc
        rcases hc with rfl | rfl
        · exact row_ok' r2
        · exact okC_pv _ _)
      have hother : ∀ id, id < nb + 1 + 1 → setHp hp2 (nb + 1 + 1) (.cells 1 [v2, .pv (.int .i64 0)]) id = hp2 id := fun id h => by simp [setHp, show id ≠ nb + 1 + 1 by omega]
      have hl2 : AI.look (setHp hp2 (nb + 1 + 1) (.cells 1 [v2, .pv (.int .i64 0)])) nb 1 = some zcells := by rw [look_at 1 (hother nb (by omega))]; exact hl1
      have hm2 : AI.look (setHp hp2 (nb + 1 + 1) (.cells 1 [v2, .pv (.int .i64 0)])) (nb + 1) 1 = some (mcells { zeroM with kind := k } (.pv .nilSlice) (.pv .nilSlice)) := by rw [look_at 1 (hother (nb + 1) (by omega))]; exact hm1
      have hov : ∀ id, ownOf v2 = some id → id < nb + 1 := fun id h => Nat.lt_succ_of_lt (row_own hr (o2 _ h))
      have hrd2 : Rd (setHp hp2 (nb + 1 + 1) (.cells 1 [v2, .pv (.int .i64 0)])) (nb + 1 + 1 + 1) (nb + 1 + 1) (nb + 1) r 0 := ⟨by omega, by omega, v2, look_same _ _ _ _, r2.keep (by omega) (fun id hid ho => hother id (by have := hov id ho; omega)), hov⟩
      have hpm2 : Pm (setHp hp2 (nb + 1 + 1) (.cells 1 [v2, .pv (.int .i64 0)])) (nb + 1 + 1 + 1) (nb + 1) (nb + 1 + 1) (nb + 1) { zeroM with kind := k } := ⟨by omega, by omega, by omega, rfl, .pv .nilSlice, .pv .nilSlice, hm2, .nil, .nil, fun id h => by simp [ownOf] at h, fun id h => by simp [ownOf] at h⟩
      show EX _ _ _ _ _ 61 _ _ (setHp hp2 (nb + 1 + 1) (.cells 1 [v2, .pv (.int .i64 0)])) _ _
      generalize setHp hp2 (nb + 1 + 1) (.cells 1 [v2, .pv (.int .i64 0)]) = hp3 at ha2 hl2 hm2 hrd2 hpm2 ⊢
      have hf0 : FldOk hp3 (nb + 1 + 1 + 1) (nb + 1) (nb + 1 + 1) (nb + 1) { zeroM with kind := k } r 0 (.tuple []) hp3 (nb + 1 + 1 + 1) := ⟨rfl, hpm2, hrd2, Nat.le_refl _, fun _ _ => rfl, fun h => h⟩
      refine ex_seq ?_
      refine ex_seq (ex_region ?_)
      refine ro_move (by simp only [evalF, upd, arg0, argS, ofConst, ofCell, Nat.reduceEqDiff, reduceIte] <;> rfl) (by decide) ?_
      refine ro_builtin rfl (by simp only [List.map_cons, List.map_nil, evalF, upd, arg0, argS, ofConst, ofCell, Nat.reduceEqDiff, reduceIte] <;> rfl) (by exact (row_len st24 (hlr hp3 (nb + 1 + 1 + 1)))) (by decide) ?_
      refine ro_move (by simp only [evalF, upd, arg0, argS, ofConst, ofCell, Nat.reduceEqDiff, reduceIte] <;> rfl) (by decide) ?_
      refine ro_nil ?_
      try simp only
      refine ex_block (ex_loop (I := fun j g hpx nbx => ∃ (i : Nat) (m' : M) (b' : List Int) (e' : Int), j = fs.length - i ∧ i ≤ fs.length ∧ g 2 = .ptr nb 1 0 ∧ g 4 = .ptr (nb + 1) 1 0 ∧ g 7 = .ptr (nb + 1 + 1) 1 0 ∧ g 32 = lv ∧ g 33 = .pv (.int .i64 fs.length) ∧ g 34 = .pv (.int .i64 i) ∧
        FldOk hp3 (nb + 1 + 1 + 1) (nb + 1) (nb + 1 + 1) (nb + 1) m' b' e' (.tuple []) hpx nbx ∧ (∀ x ∈ b', 0 ≤ x ∧ x ≤ 255) ∧ m'.list.length ≤ i * 10 ∧ fieldsS fs { zeroM with kind := k } r 0 = fieldsS (fs.drop i) m' b' e')
        (m := fs.length) ⟨0, _, r, 0, rfl, Nat.zero_le _, by simp [upd], by simp [upd], by simp [upd], by simp [upd], by simp [upd, ints], by simp [upd], hf0, hbr, by simp [zeroM], rfl⟩ (by omega) ?_)
      rintro j g hpx nbx ⟨i, m', b', e', hjj, hi, h2, h4, h7, h32, h33, h34, hfo, hbb, hml, hfe⟩
      refine ex_seq (ex_region ?_)
      refine ro_bin (by simp only [evalF, upd, arg0, argS, ofConst, ofCell, Nat.reduceEqDiff, reduceIte, h2, h4, h7, h32, h33, h34] <;> rfl) (by simp only [evalF, upd, arg0, argS, ofConst, ofCell, Nat.reduceEqDiff, reduceIte, h2, h4, h7, h32, h33, h34] <;> rfl) (by exact (lss_v)) (by decide) ?_
      refine ro_nil ?_
      try simp only
      refine ex_seq (ex_cond (t := decide ((i : Int) < fs.length)) (by simp only [evalF, upd, arg0, argS, ofConst, ofCell, Nat.reduceEqDiff, reduceIte, h2, h4, h7, h32, h33, h34] <;> rfl) (fun ht => ?_) (fun ht => ?_))
      rotate_left
      · have hie : i = fs.length := by
          have := of_decide_eq_false ht
          omega
        rw [hie, List.drop_length] at hfe
        have hfe : fieldsS fs { zeroM with kind := k } r 0 = (m', b', e') := hfe
        obtain ⟨hd1, hd2⟩ := dec_end hrow hbr hfe
        have hax := fld_after ha2 (by omega) hfo
        have hlx : AI.look hpx nb 1 = some zcells := by rw [look_at 1 (hfo.2.2.2.2.1 nb (by omega))]; exact hl2
        obtain ⟨_, hpm, hrd, _⟩ := hfo
        obtain ⟨vr, hlr1, hrr, hor⟩ := hrd.ex
        have hbl : (u8s b').length = b'.length := by simp [u8s]
        refine ex_exit ?_
        simp only [if_true]
        refine ex_seq (ex_weaken (K := fun xa g' hp' nb' => xa = .normal ∧ g' 2 = .ptr nb 1 0 ∧ g' 4 = .ptr (nb + 1) 1 0 ∧ g' 7 = .ptr (nb + 1 + 1) 1 0 ∧ Rd hp' nb' (nb + 1 + 1) (nb + 1) b' (leftE b' e') ∧ KeepR hpx nbx (nb + 1 + 1) hp' nb') ?_ ?_)
        · refine ex_seq (ex_region ?_)
          refine ro_move (by simp only [evalF, upd, arg0, argS, ofConst, ofCell, Nat.reduceEqDiff, reduceIte, h2, h4, h7, h32, h33, h34] <;> rfl) (by decide) ?_
          refine ro_nilCheck (by simp only [evalF, upd, arg0, argS, ofConst, ofCell, Nat.reduceEqDiff, reduceIte, h2, h4, h7, h32, h33, h34] <;> rfl) (by decide) ?_
          refine ro_fieldAddr (by simp only [evalF, upd, arg0, argS, ofConst, ofCell, Nat.reduceEqDiff, reduceIte, h2, h4, h7, h32, h33, h34] <;> rfl) (by exact (fa58_0 _ _ _)) (by decide) ?_
          refine ro_load (by simp only [evalF, upd, arg0, argS, ofConst, ofCell, Nat.reduceEqDiff, reduceIte, h2, h4, h7, h32, h33, h34] <;> rfl) (by exact (load1 ag27 hlr1 rfl)) (by decide) ?_
          refine ro_builtin rfl (by simp only [List.map_cons, List.map_nil, evalF, upd, arg0, argS, ofConst, ofCell, Nat.reduceEqDiff, reduceIte, h2, h4, h7, h32, h33, h34] <;> rfl) (by exact (row_len st27 hrr)) (by decide) ?_
          refine ro_bin (by simp only [evalF, upd, arg0, argS, ofConst, ofCell, Nat.reduceEqDiff, reduceIte, h2, h4, h7, h32, h33, h34] <;> rfl) (by simp only [evalF, upd, arg0, argS, ofConst, ofCell, Nat.reduceEqDiff, reduceIte, h2, h4, h7, h32, h33, h34] <;> rfl) (by exact (gtr_v)) (by decide) ?_
          refine ro_nil ?_
          try simp only
          refine ex_cond (t := decide ((b'.length : Int) > 0)) (by simp only [evalF, upd, Nat.reduceEqDiff, reduceIte, hbl]) (fun ht2 => ?_) (fun ht2 => ?_)
          · refine ex_region ?_
            refine ro_move (by simp only [evalF, upd, arg0, argS, ofConst, ofCell, Nat.reduceEqDiff, reduceIte, h2, h4, h7, h32, h33, h34] <;> rfl) (by decide) ?_
            refine ro_call (f := 27) («as» := [.ptr (nb + 1 + 1) 1 0, .pv (.int .i64 9)]) rfl (by simp [evalF, upd, h7, ofConst, ofCell]) plains_27 rfl (fail_calls facts plains 10000 (d + 4) 9 hrd) (by decide) ?_
            rintro v5 hp5 nb5 ⟨_, hr5, hk5⟩
            obtain rfl := hk5.1
            refine ro_nil ?_
            refine ⟨by first | rfl | trivial, by simp [upd, h2], by simp [upd, h4], by simp [upd, h7], ?_, hk5⟩
            rw [leftE, if_pos (of_decide_eq_true ht2)]
            exact hr5
          · refine ex_skip ?_
            refine ⟨by first | rfl | trivial, by simp [upd, h2], by simp [upd, h4], by simp [upd, h7], ?_, keepR_refl _ _ _⟩
            rw [leftE, if_neg (of_decide_eq_false ht2)]
            exact hrd
        rintro xa gm hp5 nb5 ⟨rfl, h2, h4, h7, hrd5, hk5⟩
        obtain rfl := hk5.1
        try simp only
        have hpm5 := pm_keepR hpm hk5
        have hax5 := keep_after hax (by omega) hk5
        have hlx5 : AI.look hp5 nb 1 = some zcells := by rw [look_at 1 (hk5.2.1 nb (by omega))]; exact hlx
        obtain ⟨vr5, hlr5, hrr5, hor5⟩ := hrd5.ex
        obtain ⟨L, D, g1, g2, g3, g4, g5⟩ := hpm5.ex
        generalize leftE b' e' = ee at *
        have hld5 : loadA Try.prog hp5 28 (.ptr (nb + 1 + 1) 1 (0 + 1)) = some (.pv (.int .i64 ee)) := load1 ag28 hlr5 rfl
        refine ex_seq (ex_seq (ex_region ?_))
        refine ro_move (by simp only [evalF, upd, arg0, argS, ofConst, ofCell, Nat.reduceEqDiff, reduceIte, h2, h4, h7] <;> rfl) (by decide) ?_
        refine ro_nilCheck (by simp only [evalF, upd, arg0, argS, ofConst, ofCell, Nat.reduceEqDiff, reduceIte, h2, h4, h7] <;> rfl) (by decide) ?_
        refine ro_fieldAddr (by simp only [evalF, upd, arg0, argS, ofConst, ofCell, Nat.reduceEqDiff, reduceIte, h2, h4, h7] <;> rfl) (by exact (fa58_1 _ _ _)) (by decide) ?_
        refine ro_load (by simp only [evalF, upd, arg0, argS, ofConst, ofCell, Nat.reduceEqDiff, reduceIte, h2, h4, h7] <;> rfl) (by exact (hld5)) (by decide) ?_
        refine ro_bin (by simp only [evalF, upd, arg0, argS, ofConst, ofCell, Nat.reduceEqDiff, reduceIte, h2, h4, h7] <;> rfl) (by simp only [evalF, upd, arg0, argS, ofConst, ofCell, Nat.reduceEqDiff, reduceIte, h2, h4, h7] <;> rfl) (by exact (neq_v)) (by decide) ?_
        refine ro_nil ?_
        try simp only
        refine ex_cond (t := ee != 0) (by simp only [evalF, upd, arg0, argS, ofConst, ofCell, Nat.reduceEqDiff, reduceIte, h2, h4, h7] <;> rfl) (fun ht2 => ?_) (fun ht2 => ?_)
        · have hee : ee ≠ 0 := by simpa using ht2
          refine ex_seq (ex_draw retStat ?_)
          refine rd_val (v := .agg zcells) rfl (by
            show (buildA Try.prog 30 []).map Eff.val = _
            rw [bld30]
            rfl) (by decide) ?_
          refine rd_val (v := .ptr (nb + 1 + 1) 1 0) rfl (by simp [primA, evalF, upd, h7]) (by decide) ?_
          refine rd_val (v := .ptr (nb + 1 + 1) 1 0) rfl (by simp [primA, evalF, upd]) (by decide) ?_
          refine rd_val (v := .ptr (nb + 1 + 1) 1 (0 + 1)) rfl (by simp only [primA, evalF, upd, Nat.reduceEqDiff, reduceIte, fa58_1, Option.map_some]) (by decide) ?_
          refine rd_val (v := .pv (.int .i64 ee)) rfl (by simp only [primA, evalF, upd, Nat.reduceEqDiff, reduceIte, hld5, Option.map_some]) (by decide) ?_
          refine rd_upd (dst := none) (v := undefA) rfl (by simp only [primA, evalF, upd, Nat.reduceEqDiff, reduceIte, h2]; exact storeZ hlx5 z_all z_len z_len) (look_live hlx5) (fun e he => by cases he) ?_
          refine rd_val (v := .pv (.int .i64 ee)) rfl (by simp [primA, evalF, upd, putF]) (by decide) ?_
          refine rd_nil ⟨dyn_of rfl (fun p hp' => ?_), ?_⟩
          · have hp'' : p ∈ needs (regOf Try.f15 16) := hp'
            rw [retNeeds] at hp''
            simp only [List.mem_cons, List.not_mem_nil, or_false] at hp''
            subst hp''
            intro x y hx hy
            cases hx; cases hy
            simp [heapPart, footF, Chg.isAll, Chg.ids, disjointL, looksIn, Op.operands, evalF, upd, idOf, heapful]
            omega
          try simp only
          refine ex_ret ?_
          refine ⟨_, res15 (id := nb) (by simp [upd, putF, h2]) (e := ee) (by simp [upd, putF]) (look_same _ _ _ _) z_len, after_put hax5 (Nat.le_refl _) (z_ok _), ?_⟩
          rw [hd2 hee]
        · have hee : ee = 0 := by simpa using ht2
          refine ex_skip ?_
          try simp only
          refine ex_seq (ex_region ?_)
          refine ro_load (by simp only [evalF, upd, arg0, argS, ofConst, ofCell, Nat.reduceEqDiff, reduceIte, h2, h4, h7] <;> rfl) (loadZ g1 (mc_length hpm5.key)) (by decide) ?_
          refine ro_store (by simp only [evalF, upd, arg0, argS, ofConst, ofCell, Nat.reduceEqDiff, reduceIte, h2, h4, h7] <;> rfl) (by simp only [evalF, upd, arg0, argS, ofConst, ofCell, Nat.reduceEqDiff, reduceIte, h2, h4, h7] <;> rfl) (storeZ hlx5 (mc_all (row_cell g2.row).1 (row_cell g3).1) (mc_length hpm5.key) z_len) ?_
          refine ro_assign (by simp only [evalF, upd, arg0, argS, ofConst, ofCell, Nat.reduceEqDiff, reduceIte, h2, h4, h7] <;> rfl) (by decide) ?_
          refine ro_nil ?_
          try simp only
          refine ex_ret ?_
          have hk' : ∀ id, id ≠ nb → setHp hp5 nb (.cells 1 (mcells m' L D)) id = hp5 id := fun id h => by simp [setHp, h]
          refine ⟨_, res15 (id := nb) (by simp [upd, h2]) (e := 0) (by simp [upd]) (look_same _ _ _ _) (mc_length hpm5.key), after_put hax5 (Nat.le_refl _) (ok_cells (grow_okC g2) (row_ok' g3)), ?_⟩
          rw [hd1 hee]
          exact ⟨hpm5.key, L, D, rfl, g2.row.keep (Nat.le_refl _) (fun id hid ho => hk' id (by have := (g4 id ho).1; omega)), g3.keep (Nat.le_refl _) (fun id hid ho => hk' id (by have := (g5 id ho).1; omega)), fun id ho => by have := (g4 id ho).1; omega, fun id ho => by have := (g5 id ho).1; omega⟩
      refine ex_skip ?_
      try simp only
      have hil : i < fs.length := by
        have := of_decide_eq_true ht
        omega
      have hgi : (ints (fs.map Int.ofNat))[i]? = some (.int .i64 (fs[i] : Nat)) := by
        unfold ints
        rw [List.getElem?_map, List.getElem?_map, List.getElem?_eq_getElem hil]
        rfl
      obtain ⟨a, ha, hla⟩ := row_at st24 (hlr hpx nbx) hgi
      obtain ⟨_, hpm, hrd, _⟩ := id hfo
      have hdrop : fs.drop i = fs[i] :: fs.drop (i + 1) := List.drop_eq_getElem_cons hil
      rw [hdrop, fieldsS] at hfe
      refine ex_seq (ex_block ?_)
      refine ex_seq (ex_region ?_)
      refine ro_indexAddr (by simp only [evalF, upd, arg0, argS, ofConst, ofCell, Nat.reduceEqDiff, reduceIte, h2, h4, h7, h32, h33, h34] <;> rfl) (by simp only [evalF, upd, arg0, argS, ofConst, ofCell, Nat.reduceEqDiff, reduceIte, h2, h4, h7, h32, h33, h34] <;> rfl) (by exact (ha)) (by decide) ?_
      refine ro_load (by simp only [evalF, upd, arg0, argS, ofConst, ofCell, Nat.reduceEqDiff, reduceIte, h2, h4, h7, h32, h33, h34] <;> rfl) (by exact (hla)) (by decide) ?_
      refine ro_assign (by simp only [evalF, upd, arg0, argS, ofConst, ofCell, Nat.reduceEqDiff, reduceIte, h2, h4, h7, h32, h33, h34] <;> rfl) (by decide) ?_
      refine ro_nil ?_
      try simp only
      refine ex_region ?_
      refine ro_move (by simp only [evalF, upd, arg0, argS, ofConst, ofCell, Nat.reduceEqDiff, reduceIte, h2, h4, h7, h32, h33, h34] <;> rfl) (by decide) ?_
      refine ro_move (by simp only [evalF, upd, arg0, argS, ofConst, ofCell, Nat.reduceEqDiff, reduceIte, h2, h4, h7, h32, h33, h34] <;> rfl) (by decide) ?_
      refine ro_call (f := 26) («as» := [.ptr (nb + 1 + 1) 1 0, .ptr (nb + 1) 1 0, .pv (.int .i64 (fs[i] : Nat))]) rfl (by simp only [List.map_cons, List.map_nil, evalF, upd, Nat.reduceEqDiff, reduceIte, h7, h4]) rfl rfl (read_calls d fs[i] (hfs8 _ (List.getElem_mem hil)) hbb (by omega) hpm hrd) (by decide) ?_
      rintro v5 hp5 nb5 hf5
      have hrs := read_sub fs[i] m' b' e'
      have hrl := (read_list fs[i] m' b' e' hbb).1
      refine ro_nil ?_
      try simp only
      refine ex_region ?_
      refine ro_bin (by simp only [evalF, upd, arg0, argS, ofConst, ofCell, Nat.reduceEqDiff, reduceIte, h2, h4, h7, h32, h33, h34] <;> rfl) (by simp only [evalF, upd, arg0, argS, ofConst, ofCell, Nat.reduceEqDiff, reduceIte, h2, h4, h7, h32, h33, h34] <;> rfl) (by exact (add_v (by omega))) (by decide) ?_
      refine ro_move (by simp only [evalF, upd, arg0, argS, ofConst, ofCell, Nat.reduceEqDiff, reduceIte, h2, h4, h7, h32, h33, h34] <;> rfl) (by decide) ?_
      refine ro_nil ?_
      refine ⟨fs.length - (i + 1), by omega, i + 1, _, _, _, rfl, by omega, by simp [upd, h2], by simp [upd, h4], by simp [upd, h7], by simp [upd, h32], by simp [upd, h33], by simp [upd], ?_, fun x hx => hbb x (hrs x hx), by omega, hfe⟩
      have := fld_seq hfo hf5
      exact ⟨rfl, this.2⟩
end Go.Proofs.Ytlinbbjobjnipaa

set_option linter.unusedVariables false
set_option linter.unusedSimpArgs false
set_option linter.unusedSectionVars false
namespace Go.Proofs.Ytlinbbjobjnipaa
open Go AI
set_option maxHeartbeats 4000000
set_option maxRecDepth 10000
theorem sh_app {n len : Nat} : ∀ {a b a' b' : List AV}, a.mapM (shA n len) = some a' → b.mapM (shA n len) = some b' → (a ++ b).mapM (shA n len) = some (a' ++ b')
  | [], b, a', b', h1, h2 => by simp at h1; subst h1; simpa using h2
  | y :: a, b, a', b', h1, h2 => by
    simp only [List.mapM_cons, Option.bind_eq_bind, Option.bind_eq_some_iff, Option.pure_def, Option.some.injEq] at h1
    obtain ⟨z, hz, r, hr, rfl⟩ := h1
    simp only [List.cons_append, List.mapM_cons, hz, sh_app hr h2]
    rfl
theorem sh_msg {n len : Nat} {m : M} {L D L2 D2 : AV} (f1 : shA n len L = some L2) (g1 : shA n len D = some D2) : (mcells m L D).mapM (shA n len) = some (mcells m L2 D2) := by
  unfold mcells
  refine sh_app ?_ (sh_app (sh_pvs _ _ _) ?_)
  · simp only [List.mapM_cons, List.mapM_nil, f1, shA_pv]
    rfl
  · simp only [List.mapM_cons, List.mapM_nil, g1, shA_pv]
    rfl
theorem row_pl {hp : Hp} {nb : Nat} {v : AV} {l : List PV} (r : Row hp nb v l) : ([v] : List AV).all plainV = (ownOf v).isNone := by
  cases r <;> rfl
section
variable {n : Nat} {ops rest : List Oper} {g : Gm} {hp : Hp} {nb : Nat} {Q : Gm → Hp → Nat → Prop}
theorem ro_parse (d0 : Nat) {d : Nat} {x : Operand} {ats : Array TypeId} {ty : TypeId} {pos : String} {aft : Array Edge} {v : AV} {b : List Int} (hb : ∀ x ∈ b, 0 ≤ x ∧ x ≤ 255) (hr : Row hp nb v (u8s b))
    (hx : evalF g x = v) (hd : d < n)
    (h2 : ∀ v' hp' nb', ParseOk b hp nb v' hp' nb' → RO Try.prog plains (callA Try.prog facts plains 10000 (d0 + 6)) (orS facts (pureOf (callA Try.prog facts plains 10000 (d0 + 6)))) n ops rest (upd g d v') hp' nb' Q) :
    RO Try.prog plains (callA Try.prog facts plains 10000 (d0 + 6)) (orS facts (pureOf (callA Try.prog facts plains 10000 (d0 + 6)))) n ops ({ dst := some d, op := .call { callee := .value (.func 15), args := #[x], argTypes := ats }, type := ty, pos := pos, after := aft, guard := none } :: rest) g hp nb Q := by
  have hxs : (#[x] : Array Operand).toList.map (evalF g) = [v] := by simp [hx]
  cases ho : ownOf v with
  | some id =>
    have hpl : ([v] : List AV).all plainV = false := by rw [row_pl hr, ho]; rfl
    exact ro_call rfl hxs rfl hpl (parse_calls d0 hb hr) hd h2
  | none =>
    have hpl : ([v] : List AV).all plainV = true := by rw [row_pl hr, ho]; rfl
    refine ro_add hxs rfl hpl (parse_calls d0 hb (row_any hr ho)) hd ?_
    rintro v0 h' ⟨ha, hres⟩
    obtain ⟨bs, e1, e2, e3, e4, e5, e6⟩ := add_all (ha.2.2 tidy_nil) hp nb
    have haf : After hp nb (.pv .nilSlice) (addHp hp nb bs) (nb + bs.length) := ⟨by omega, fun id hid _ => e3 id hid, e4⟩
    have hsh : ∀ {m : M} {L D L2 D2 : AV} (e : Int), shA nb h'.length L = some L2 → shA nb h'.length D = some D2 → shR nb h'.length (.tuple [.agg (mcells m L D), .pv (.int .i64 e)]) = some (.tuple [.agg (mcells m L2 D2), .pv (.int .i64 e)]) := by
      intro m L D L2 D2 e f1 g1
      have : shV nb h'.length (.agg (mcells m L D)) = some (.agg (mcells m L2 D2)) := by
        show Option.map AV.agg _ = _
        rw [sh_msg f1 g1]
        rfl
      simp only [shR, List.mapM_cons, List.mapM_nil, this, shV_pv]
      rfl
    cases hE : dec b with
    | ok m =>
      rw [hE] at hres
      obtain ⟨hk, L, D, rfl, hL, hD, _, _⟩ := hres
      obtain ⟨L2, f1, f2, f3, _⟩ := e5 _ _ hL
      obtain ⟨D2, g1, g2, g3, _⟩ := e5 _ _ hD
      refine ⟨_, bs, hsh 0 f1 g1, e1, h2 _ _ _ ⟨haf, ?_⟩⟩
      rw [hE]
      exact ⟨hk, L2, D2, rfl, f2, g2, f3, g3⟩
    | error e =>
      rw [hE] at hres
      subst hres
      refine ⟨_, bs, hsh e (shA_pv _ _ _) (shA_pv _ _ _), e1, h2 _ _ _ ⟨haf, ?_⟩⟩
      rw [hE]
      rfl
end
theorem u8_byte (z : Int) : 0 ≤ u8 z ∧ u8 z ≤ 255 := by unfold u8; omega
/-- What is written is bytes. -/
theorem field_bytes {m : M} (hk : ∀ z ∈ m.key, 0 ≤ z ∧ z ≤ 255) (hd : ∀ z ∈ m.data, 0 ≤ z ∧ z ≤ 255) {f : Nat} {r : List Int} (h : fieldE m f = .ok r) : ∀ z ∈ r, 0 ≤ z ∧ z ≤ 255 := by
  have one : ∀ (a z : Int), z ∈ [u8 a] → 0 ≤ z ∧ z ≤ 255 := fun a z hz => by
    rw [List.mem_singleton] at hz
    subst hz; exact u8_byte a
  unfold fieldE at h
  split at h
  · split at h
    · simp at h
    · simp only [Except.ok.injEq] at h; subst h; exact one _
  · split at h
    · simp at h
    · simp only [Except.ok.injEq] at h; subst h; exact one _
  · split at h
    · simp at h
    · split at h
      · simp only [Except.ok.injEq] at h; subst h
        intro z hz
        rcases List.mem_cons.1 hz with rfl | hz
        · exact u8_byte _
        · obtain ⟨y, _, rfl⟩ := List.mem_map.1 hz
          exact u8_byte _
      · simp at h
  · simp only [Except.ok.injEq] at h; subst h
    intro z hz
    rw [List.mem_singleton] at hz
    subst hz
    split <;> omega
  · split at h
    · simp at h
    · simp only [Except.ok.injEq] at h; subst h; exact one _
  · simp only [Except.ok.injEq] at h; subst h; exact hk
  · split at h
    · simp at h
    · simp only [Except.ok.injEq] at h; subst h
      intro z hz
      rcases List.mem_cons.1 hz with rfl | hz
      · exact u8_byte _
      rcases List.mem_cons.1 hz with rfl | hz
      · exact u8_byte _
      · exact hd z hz
  · split at h
    · simp at h
    · simp only [Except.ok.injEq] at h; subst h
      intro z hz
      simp only [List.mem_cons, List.not_mem_nil, or_false] at hz
      rcases hz with rfl | rfl | rfl | rfl <;> exact u8_byte _
theorem fields_bytes {m : M} (hk : ∀ z ∈ m.key, 0 ≤ z ∧ z ≤ 255) (hd : ∀ z ∈ m.data, 0 ≤ z ∧ z ≤ 255) : ∀ (fs : List Nat) {b r : List Int}, (∀ z ∈ b, 0 ≤ z ∧ z ≤ 255) → fieldsE m fs b = .ok r → ∀ z ∈ r, 0 ≤ z ∧ z ≤ 255
  | [], b, r, hb, h => by
    simp only [fieldsE, Except.ok.injEq] at h
    subst h; exact hb
  | f :: fs, b, r, hb, h => by
    rw [fieldsE] at h
    split at h
    · rename_i r1 h1
      refine fields_bytes hk hd fs (fun z hz => ?_) h
      rcases List.mem_append.1 hz with hz | hz
      · exact hb z hz
      · exact field_bytes hk hd h1 z hz
    · simp at h
theorem enc_bytes {m : M} (hk : ∀ z ∈ m.key, 0 ≤ z ∧ z ≤ 255) (hd : ∀ z ∈ m.data, 0 ≤ z ∧ z ≤ 255) {r : List Int} (h : enc m = .ok r) : ∀ z ∈ r, 0 ≤ z ∧ z ≤ 255 := by
  unfold enc at h
  split at h
  · simp at h
  · refine fields_bytes hk hd _ (fun z hz => ?_) h
    rw [List.mem_singleton] at hz
    subst hz; exact u8_byte _
end Go.Proofs.Ytlinbbjobjnipaa

set_option linter.unusedVariables false
set_option linter.unusedSimpArgs false
set_option linter.unusedSectionVars false
namespace Go.Proofs.Ytlinbbjobjnipaa
open Go AI
section
variable {P : Program} {pure : Nat → Bool} {F : CallF} {G : CallG} {lim n : Nat} {ops rest : List Oper} {g : Gm} {hp : Hp} {nb : Nat} {Q : Gm → Hp → Nat → Prop} {W : List Foot → Gm → Hp → Nat → Prop}
theorem ro_callV {d f : Nat} {c : Call} {ty : TypeId} {pos : String} {aft : Array Edge} {xs : List AV} {Qc : AV → Hp → Nat → Prop} (hcal : calleeA (evalF g) (.call c) = some (f, xs)) (hp0 : pure f = false) (hpl : xs.all plainV = false) (hv : CA F f xs hp nb Qc) (hd : d < n)
    (h2 : ∀ v hp' nb', Qc v hp' nb' → RO P pure F G n ops rest (upd g d v) hp' nb' Q) : RO P pure F G n ops ({ dst := some d, op := .call c, type := ty, pos := pos, after := aft, guard := none } :: rest) g hp nb Q := by
  intro T h r
  obtain ⟨v, h', e1, e2⟩ := hv h r.hp r.nb
  refine ro_one (v := v) (c := .all h h') (hp' := AI.hf h') (nb' := h'.length) rfl r ?_ rfl rfl (fun e he => by cases he; exact hd) (h2 v _ _ e2)
  unfold runOp
  rw [rel_eval r]
  simp only [hcal]
  rw [if_neg (by simp [hp0]), if_neg (by simp [hpl]), e1]
  rfl
theorem ro_addV {d f : Nat} {c : Call} {ty : TypeId} {pos : String} {aft : Array Edge} {xs : List AV} {Qc : AV → Hp → Nat → Prop} (hcal : calleeA (evalF g) (.call c) = some (f, xs)) (hp0 : pure f = false) (hpl : xs.all plainV = true)
    (hv : CA F f xs (AI.hf []) 0 Qc) (hd : d < n)
    (h2 : ∀ v0 h', Qc v0 (AI.hf h') h'.length → ∃ v bs, shR nb h'.length v0 = some v ∧ h'.mapM (shB nb h'.length) = some bs ∧ RO P pure F G n ops rest (upd g d v) (addHp hp nb bs) (nb + bs.length) Q) :
    RO P pure F G n ops ({ dst := some d, op := .call c, type := ty, pos := pos, after := aft, guard := none } :: rest) g hp nb Q := by
  intro T h r
  obtain ⟨v0, h', e1, e2⟩ := hv [] rfl rfl
  obtain ⟨v, bs, e3, e4, e5⟩ := h2 v0 h' e2
  refine ro_one (v := v) (c := .add nb bs) (hp' := addHp hp nb bs) (nb' := nb + bs.length) rfl r ?_ ?_ ?_ (fun e he => by cases he; exact hd) e5
  · unfold runOp
    rw [rel_eval r]
    simp only [hcal]
    rw [if_neg (by simp [hp0]), if_pos hpl, e1]
    simp only [Option.bind_some, addOf, r.nb, e3, e4, Option.map_some]
  · show AI.hf (addL h nb bs) = _
    rw [addL_hf0, r.hp]
  · show (addL h nb bs).length = _
    rw [← r.nb, addL_length]
/-- A call that answers a bool and leaves what was. -/
def BoolOk (r : Bool) (hp : Hp) (nb : Nat) (v : AV) (hp' : Hp) (nb' : Nat) : Prop := v = .pv (.bool r) ∧ After hp nb (.pv .nilSlice) hp' nb'
theorem ro_bool {d f : Nat} {c : Call} {ty : TypeId} {pos : String} {aft : Array Edge} {xs : List AV} {r : Bool} (hcal : calleeA (evalF g) (.call c) = some (f, xs)) (hp0 : pure f = false)
    (hc : xs.all plainV = false → CA F f xs hp nb (BoolOk r hp nb)) (hc0 : xs.all plainV = true → CA F f xs (AI.hf []) 0 (BoolOk r (AI.hf []) 0)) (hd : d < n)
    (h2 : ∀ hp' nb', After hp nb (.pv .nilSlice) hp' nb' → RO P pure F G n ops rest (upd g d (.pv (.bool r))) hp' nb' Q) : RO P pure F G n ops ({ dst := some d, op := .call c, type := ty, pos := pos, after := aft, guard := none } :: rest) g hp nb Q := by
  cases hpl : xs.all plainV with
  | false => exact ro_callV hcal hp0 hpl (hc hpl) hd (fun v hp' nb' ⟨hv, ha⟩ => by subst hv; exact h2 _ _ ha)
  | true =>
    refine ro_addV hcal hp0 hpl (hc0 hpl) hd ?_
    rintro v0 h' ⟨rfl, ha⟩
    obtain ⟨bs, e1, e2, e3, e4, e5, e6⟩ := add_all (ha.2.2 tidy_nil) hp nb
    exact ⟨_, bs, rfl, e1, h2 _ _ ⟨by omega, fun id hid _ => e3 id hid, e4⟩⟩
/-- A value behind a guard. -/
def selV (b want : Bool) (v : AV) : AV := if b == want then v else undefA
theorem selV_hit {b want : Bool} (h : (b == want) = true) {v : AV} : selV b want v = v := by unfold selV; rw [if_pos h]
/-- An operation behind a guard of which the wish is not known. -/
theorem ro_gsel {j e : Nat} {want b : Bool} {d : Nat} {op : Op} {ty : TypeId} {pos : String} {aft : Array Edge} {v : AV} (he : (ops[j]?).bind (·.dst) = some e) (hg : g e = .pv (.bool b))
    (hc : calleeA (evalF g) op = none) (hv : (b == want) = true → primA P (evalF g) hp nb op = some (.val v)) (hd : d < n)
    (h2 : RO P pure F G n ops rest (upd g d (selV b want v)) hp nb Q) : RO P pure F G n ops ({ dst := some d, op := op, type := ty, pos := pos, after := aft, guard := some (j, want) } :: rest) g hp nb Q := by
  cases hb : (b == want) with
  | true =>
    rw [selV_hit hb] at h2
    exact ro_guard he hg hb (ro_val hc (hv hb) hd h2)
  | false =>
    have : selV b want v = undefA := by unfold selV; rw [hb]; rfl
    rw [this] at h2
    exact ro_skip he hg hb (fun e he => by cases he; exact hd) h2
theorem ro_por {d : Nat} {c y : Operand} {ty : TypeId} {pos : String} {aft : Array Edge} {b z : Bool} (hc : evalF g c = .pv (.bool b)) (hy : evalF g y = selV b false (.pv (.bool z))) (hd : d < n)
    (h2 : RO P pure F G n ops rest (upd g d (.pv (.bool (b || z)))) hp nb Q) : RO P pure F G n ops ({ dst := some d, op := .pick c (.const (.bool true)) y, type := ty, pos := pos, after := aft, guard := none } :: rest) g hp nb Q := by
  refine ro_pick hc (vx := .pv (.bool true)) rfl hy hd ?_
  cases b <;> exact h2
theorem ro_pand {d : Nat} {c y : Operand} {ty : TypeId} {pos : String} {aft : Array Edge} {b z : Bool} (hc : evalF g c = .pv (.bool b)) (hy : evalF g y = selV b true (.pv (.bool z))) (hd : d < n)
    (h2 : RO P pure F G n ops rest (upd g d (.pv (.bool (b && z)))) hp nb Q) : RO P pure F G n ops ({ dst := some d, op := .pick c y (.const (.bool false)), type := ty, pos := pos, after := aft, guard := none } :: rest) g hp nb Q := by
  refine ro_pick hc hy (vy := .pv (.bool false)) rfl hd ?_
  cases b <;> exact h2
theorem rd_w {o : Oper} (hw : wantF ops g o = some true) {v : AV} {c : Chg} {hp' : Hp} {nb' : Nat} {T : List AV} {h : List Blk} (r : Rel n g hp nb T h)
    (h3 : runOp P pure F G T h o.op = some (v, c)) (h4 : AI.hf (c.st h) = hp') (h5 : (c.st h).length = nb')
    (hd : ∀ d, o.dst = some d → d < n) (h2 : RD P pure F G n ops rest (putF g o.dst v) hp' nb' fun fs => W (footF ops o.dst o.op g c o :: fs)) :
    ∃ fs T' h' g' hp' nb', traceD P pure F G ops (o :: rest) (T, h) = some (fs, (T', h')) ∧ Rel n g' hp' nb' T' h' ∧ W fs g' hp' nb' := by
  have hst : stepOp P pure F G ops o (T, h) = some (v, c) := by
    unfold stepOp
    rw [rel_want r, hw]
    exact h3
  have hr : Rel n (putF g o.dst v) hp' nb' (putA T o.dst v) (c.st h) := by
    unfold putF putA
    cases hdd : o.dst with
    | none => exact ⟨r.len, r.get, h4, h5⟩
    | some d => exact rel_put r (hd d hdd) v h4 h5
  obtain ⟨fs, T', h', g', hp1, nb1, e1, e2, e3⟩ := h2 _ _ hr
  refine ⟨_, T', h', g', hp1, nb1, ?_, e2, e3⟩
  rw [traceD_cons, hst]
  show Option.map _ (traceD P pure F G ops rest (putA T o.dst v, c.st h)) = _
  rw [e1]
  show some (footOf _ _ _ _ :: fs, _) = _
  congr 3
  unfold footOf footF opReads
  rw [rel_want r, rel_eval r, hw]
  rfl
theorem want_of {j e : Nat} {want b : Bool} {dst : Option Nat} {op : Op} {ty : TypeId} {pos : String} {aft : Array Edge} (he : (ops[j]?).bind (·.dst) = some e) (hg : g e = .pv (.bool b)) (hb : (b == want) = true) :
    wantF ops g { dst := dst, op := op, type := ty, pos := pos, after := aft, guard := some (j, want) } = some true := by
  unfold wantF
  simp only [he, hg, hb]
variable {gd : Option (Nat × Bool)}
theorem rdw_val {d : Nat} {op : Op} {ty : TypeId} {pos : String} {aft : Array Edge} {v : AV} (hw : wantF ops g { dst := some d, op := op, type := ty, pos := pos, after := aft, guard := gd } = some true)
    (hc : calleeA (evalF g) op = none) (hv : primA P (evalF g) hp nb op = some (.val v)) (hd : d < n)
    (h2 : RD P pure F G n ops rest (upd g d v) hp nb fun fs => W (footF ops (some d) op g .no { dst := some d, op := op, type := ty, pos := pos, after := aft, guard := gd } :: fs)) :
    RD P pure F G n ops ({ dst := some d, op := op, type := ty, pos := pos, after := aft, guard := gd } :: rest) g hp nb W := by
  intro T h r
  refine rd_w hw r (v := v) (c := .no) ?_ r.hp r.nb (fun e he => by cases he; exact hd) h2
  unfold runOp
  rw [rel_eval r]
  simp only [hc]
  rw [r.hp, r.nb, hv]
  rfl
theorem rdw_move {d : Nat} {x : Operand} {ty : TypeId} {pos : String} {aft : Array Edge} {v : AV} (hw : wantF ops g { dst := some d, op := .move x, type := ty, pos := pos, after := aft, guard := gd } = some true) (hv : evalF g x = v) (hd : d < n)
    (h2 : RD P pure F G n ops rest (upd g d v) hp nb fun fs => W (footF ops (some d) (.move x) g .no { dst := some d, op := .move x, type := ty, pos := pos, after := aft, guard := gd } :: fs)) :
    RD P pure F G n ops ({ dst := some d, op := .move x, type := ty, pos := pos, after := aft, guard := gd } :: rest) g hp nb W :=
  rdw_val hw rfl (by simp only [primA]; rw [hv]) hd h2
theorem rdw_assign {d : Nat} {x : Operand} {ty : TypeId} {pos : String} {aft : Array Edge} {v : AV} (hw : wantF ops g { dst := some d, op := .assign x, type := ty, pos := pos, after := aft, guard := gd } = some true) (hv : evalF g x = v) (hd : d < n)
    (h2 : RD P pure F G n ops rest (upd g d v) hp nb fun fs => W (footF ops (some d) (.assign x) g .no { dst := some d, op := .assign x, type := ty, pos := pos, after := aft, guard := gd } :: fs)) :
    RD P pure F G n ops ({ dst := some d, op := .assign x, type := ty, pos := pos, after := aft, guard := gd } :: rest) g hp nb W :=
  rdw_val hw rfl (by simp only [primA]; rw [hv]) hd h2
theorem rdw_nilCheck {d : Nat} {x : Operand} {ty : TypeId} {pos : String} {aft : Array Edge} {id ver off : Nat} (hw : wantF ops g { dst := some d, op := .nilCheck x, type := ty, pos := pos, after := aft, guard := gd } = some true) (hv : evalF g x = .ptr id ver off) (hd : d < n)
    (h2 : RD P pure F G n ops rest (upd g d (.ptr id ver off)) hp nb fun fs => W (footF ops (some d) (.nilCheck x) g .no { dst := some d, op := .nilCheck x, type := ty, pos := pos, after := aft, guard := gd } :: fs)) :
    RD P pure F G n ops ({ dst := some d, op := .nilCheck x, type := ty, pos := pos, after := aft, guard := gd } :: rest) g hp nb W :=
  rdw_val hw rfl (by simp only [primA]; rw [hv]) hd h2
theorem rdw_fieldAddr {d f : Nat} {s : TypeId} {x : Operand} {ty : TypeId} {pos : String} {aft : Array Edge} {a v : AV} (hw : wantF ops g { dst := some d, op := .fieldAddr s x f, type := ty, pos := pos, after := aft, guard := gd } = some true) (hx : evalF g x = a) (hv : fieldAddrA P s a f = some v) (hd : d < n)
    (h2 : RD P pure F G n ops rest (upd g d v) hp nb fun fs => W (footF ops (some d) (.fieldAddr s x f) g .no { dst := some d, op := .fieldAddr s x f, type := ty, pos := pos, after := aft, guard := gd } :: fs)) :
    RD P pure F G n ops ({ dst := some d, op := .fieldAddr s x f, type := ty, pos := pos, after := aft, guard := gd } :: rest) g hp nb W :=
  rdw_val hw rfl (by simp only [primA]; rw [hx, hv]; rfl) hd h2
theorem rdw_load {d : Nat} {t : TypeId} {x : Operand} {ty : TypeId} {pos : String} {aft : Array Edge} {a v : AV} (hw : wantF ops g { dst := some d, op := .load t x, type := ty, pos := pos, after := aft, guard := gd } = some true) (hx : evalF g x = a) (hv : loadA P hp t a = some v) (hd : d < n)
    (h2 : RD P pure F G n ops rest (upd g d v) hp nb fun fs => W (footF ops (some d) (.load t x) g .no { dst := some d, op := .load t x, type := ty, pos := pos, after := aft, guard := gd } :: fs)) :
    RD P pure F G n ops ({ dst := some d, op := .load t x, type := ty, pos := pos, after := aft, guard := gd } :: rest) g hp nb W :=
  rdw_val hw rfl (by simp only [primA]; rw [hx, hv]; rfl) hd h2
theorem rdw_bin {d : Nat} {op : BinOp} {t t2 : TypeId} {x y : Operand} {ty : TypeId} {pos : String} {aft : Array Edge} {a b v : AV} (hw : wantF ops g { dst := some d, op := .binOp op t x y t2, type := ty, pos := pos, after := aft, guard := gd } = some true) (hx : evalF g x = a) (hy : evalF g y = b) (hv : binOpA P op t a b = some v) (hd : d < n)
    (h2 : RD P pure F G n ops rest (upd g d v) hp nb fun fs => W (footF ops (some d) (.binOp op t x y t2) g .no { dst := some d, op := .binOp op t x y t2, type := ty, pos := pos, after := aft, guard := gd } :: fs)) :
    RD P pure F G n ops ({ dst := some d, op := .binOp op t x y t2, type := ty, pos := pos, after := aft, guard := gd } :: rest) g hp nb W :=
  rdw_val hw rfl (by simp only [primA]; rw [hx, hy, hv]; rfl) hd h2
theorem rdw_conv {d : Nat} {s t : TypeId} {x : Operand} {ty : TypeId} {pos : String} {aft : Array Edge} {a v : AV} (hw : wantF ops g { dst := some d, op := .convert s t x, type := ty, pos := pos, after := aft, guard := gd } = some true) (hx : evalF g x = a) (hv : convertA P hp nb s t a = some (.val v)) (hd : d < n)
    (h2 : RD P pure F G n ops rest (upd g d v) hp nb fun fs => W (footF ops (some d) (.convert s t x) g .no { dst := some d, op := .convert s t x, type := ty, pos := pos, after := aft, guard := gd } :: fs)) :
    RD P pure F G n ops ({ dst := some d, op := .convert s t x, type := ty, pos := pos, after := aft, guard := gd } :: rest) g hp nb W :=
  rdw_val hw rfl (by simp only [primA]; rw [hx, hv]) hd h2
theorem rdw_indexAddr {d : Nat} {t : TypeId} {x ix : Operand} {ty : TypeId} {pos : String} {aft : Array Edge} {a i v : AV} (hw : wantF ops g { dst := some d, op := .indexAddr t x ix, type := ty, pos := pos, after := aft, guard := gd } = some true) (hx : evalF g x = a) (hi : evalF g ix = i) (hv : indexAddrA P t a i = some v) (hd : d < n)
    (h2 : RD P pure F G n ops rest (upd g d v) hp nb fun fs => W (footF ops (some d) (.indexAddr t x ix) g .no { dst := some d, op := .indexAddr t x ix, type := ty, pos := pos, after := aft, guard := gd } :: fs)) :
    RD P pure F G n ops ({ dst := some d, op := .indexAddr t x ix, type := ty, pos := pos, after := aft, guard := gd } :: rest) g hp nb W :=
  rdw_val hw rfl (by simp only [primA]; rw [hx, hi, hv]; rfl) hd h2
theorem rdw_slice {d : Nat} {t : TypeId} {x : Operand} {lo hi mx : Option Operand} {ty : TypeId} {pos : String} {aft : Array Edge} {a v : AV} {l1 l2 l3 : Option AV} (hw : wantF ops g { dst := some d, op := .slice t x lo hi mx, type := ty, pos := pos, after := aft, guard := gd } = some true) (hx : evalF g x = a)
    (e1 : lo.map (evalF g) = l1) (e2 : hi.map (evalF g) = l2) (e3 : mx.map (evalF g) = l3) (hv : sliceOpA P t a l1 l2 l3 = some v) (hd : d < n)
    (h2 : RD P pure F G n ops rest (upd g d v) hp nb fun fs => W (footF ops (some d) (.slice t x lo hi mx) g .no { dst := some d, op := .slice t x lo hi mx, type := ty, pos := pos, after := aft, guard := gd } :: fs)) :
    RD P pure F G n ops ({ dst := some d, op := .slice t x lo hi mx, type := ty, pos := pos, after := aft, guard := gd } :: rest) g hp nb W :=
  rdw_val hw rfl (by simp only [primA]; rw [hx, e1, e2, e3, hv]; rfl) hd h2
theorem rdw_pick {d : Nat} {c x y : Operand} {ty : TypeId} {pos : String} {aft : Array Edge} {b : Bool} {vx vy : AV} (hw : wantF ops g { dst := some d, op := .pick c x y, type := ty, pos := pos, after := aft, guard := gd } = some true) (hc : evalF g c = .pv (.bool b)) (hx : evalF g x = vx) (hy : evalF g y = vy) (hd : d < n)
    (h2 : RD P pure F G n ops rest (upd g d (if b then vx else vy)) hp nb fun fs => W (footF ops (some d) (.pick c x y) g .no { dst := some d, op := .pick c x y, type := ty, pos := pos, after := aft, guard := gd } :: fs)) :
    RD P pure F G n ops ({ dst := some d, op := .pick c x y, type := ty, pos := pos, after := aft, guard := gd } :: rest) g hp nb W := by
  refine rdw_val hw rfl ?_ hd h2
  simp only [primA]
  rw [hc]
  cases b
  · simp only [hy]; rfl
  · simp only [hx]; rfl
theorem rdw_builtin {d : Nat} {b : Builtin} {args : Array Operand} {ts : Array TypeId} {ty : TypeId} {pos : String} {aft : Array Edge} {xs : List AV} {v : AV} (hw : wantF ops g { dst := some d, op := .call { callee := .builtin b, args := args, argTypes := ts }, type := ty, pos := pos, after := aft, guard := gd } = some true) (hx : args.toList.map (evalF g) = xs) (hv : builtinA P hp nb b ts xs = some (.val v)) (hd : d < n)
    (h2 : RD P pure F G n ops rest (upd g d v) hp nb fun fs => W (footF ops (some d) (.call { callee := .builtin b, args := args, argTypes := ts }) g .no { dst := some d, op := .call { callee := .builtin b, args := args, argTypes := ts }, type := ty, pos := pos, after := aft, guard := gd } :: fs)) :
    RD P pure F G n ops ({ dst := some d, op := .call { callee := .builtin b, args := args, argTypes := ts }, type := ty, pos := pos, after := aft, guard := gd } :: rest) g hp nb W :=
  rdw_val hw rfl (by simp only [primA]; rw [hx, hv]) hd h2
theorem rdw_pure {d f : Nat} {args : Array Operand} {ats : Array TypeId} {ty : TypeId} {pos : String} {aft : Array Edge} {xs : List AV} {v : AV} (hw : wantF ops g { dst := some d, op := .call { callee := .value (.func f), args := args, argTypes := ats }, type := ty, pos := pos, after := aft, guard := gd } = some true) (hx : args.toList.map (evalF g) = xs) (hp0 : pure f = true) (hv : G hp f xs = some v) (hd : d < n)
    (h2 : RD P pure F G n ops rest (upd g d v) hp nb fun fs => W (footF ops (some d) (.call { callee := .value (.func f), args := args, argTypes := ats }) g .no { dst := some d, op := .call { callee := .value (.func f), args := args, argTypes := ats }, type := ty, pos := pos, after := aft, guard := gd } :: fs)) :
    RD P pure F G n ops ({ dst := some d, op := .call { callee := .value (.func f), args := args, argTypes := ats }, type := ty, pos := pos, after := aft, guard := gd } :: rest) g hp nb W := by
  intro T h r
  refine rd_w hw r (v := v) (c := .no) ?_ r.hp r.nb (fun e he => by cases he; exact hd) h2
  unfold runOp
  rw [rel_eval r]
  have hcal : calleeA (evalF g) (.call { callee := .value (.func f), args := args, argTypes := ats }) = some (f, xs) := by
    rw [← hx]; rfl
  simp only [hcal]
  rw [if_pos hp0, r.hp, hv]
  rfl
theorem rdw_store {t : TypeId} {x y : Operand} {ty : TypeId} {pos : String} {aft : Array Edge} {a v : AV} {id : Nat} {b : Blk} (hw : wantF ops g { dst := none, op := .store t x y, type := ty, pos := pos, after := aft, guard := gd } = some true) (hx : evalF g x = a) (hy : evalF g y = v) (hv : storeA P hp t a v = some (.upd undefA id b)) (hl : (hp id).live = true)
    (h2 : RD P pure F G n ops rest g (setHp hp id b) nb fun fs => W (footF ops none (.store t x y) g (.one id b) { dst := none, op := .store t x y, type := ty, pos := pos, after := aft, guard := gd } :: fs)) :
    RD P pure F G n ops ({ dst := none, op := .store t x y, type := ty, pos := pos, after := aft, guard := gd } :: rest) g hp nb W := by
  intro T h r
  refine rd_w hw r (v := undefA) (c := .one id b) ?_ ?_ ?_ (fun e he => by cases he) h2
  · unfold runOp
    rw [rel_eval r]
    simp only [calleeA]
    rw [r.hp, r.nb]
    simp only [primA]
    rw [hx, hy, hv]
    rfl
  · show AI.hf (setL h id b) = _
    rw [setL_hf0, r.hp]
  · show (setL h id b).length = _
    have : id < h.length := hf_lt (by rw [r.hp]; exact hl)
    rw [setL_length, ← r.nb]; omega
theorem ids_all {old new : List Blk} {id : Nat} (h : id ∈ (Chg.all old new).ids) : eqBlk (AI.hf old id) (AI.hf new id) = false := by
  simp only [Chg.ids, List.mem_filter, Bool.not_eq_true'] at h
  exact h.2
/-- What a call that leaves what was does to the heap: nothing below. -/
theorem rdw_bool {d f : Nat} {c : Call} {ty : TypeId} {pos : String} {aft : Array Edge} {xs : List AV} {r : Bool} (hw : wantF ops g { dst := some d, op := .call c, type := ty, pos := pos, after := aft, guard := gd } = some true) (hcal : calleeA (evalF g) (.call c) = some (f, xs)) (hp0 : pure f = false) (htd : Tidy hp nb)
    (hc : xs.all plainV = false → CA F f xs hp nb (BoolOk r hp nb)) (hc0 : xs.all plainV = true → CA F f xs (AI.hf []) 0 (BoolOk r (AI.hf []) 0)) (hd : d < n)
    (h2 : ∀ ch hp' nb', After hp nb (.pv .nilSlice) hp' nb' → (∀ id, id < nb → id ∉ ch.ids) → RD P pure F G n ops rest (upd g d (.pv (.bool r))) hp' nb' fun fs => W (footF ops (some d) (.call c) g ch { dst := some d, op := .call c, type := ty, pos := pos, after := aft, guard := gd } :: fs)) :
    RD P pure F G n ops ({ dst := some d, op := .call c, type := ty, pos := pos, after := aft, guard := gd } :: rest) g hp nb W := by
  intro T h rl
  cases hpl : xs.all plainV with
  | false =>
    obtain ⟨v, h', e1, rfl, e2⟩ := hc hpl h rl.hp rl.nb
    refine rd_w hw rl (v := .pv (.bool r)) (c := .all h h') ?_ rfl rfl (fun e he => by cases he; exact hd) (h2 _ _ _ e2 (fun id hid hm => ?_))
    · unfold runOp
      rw [rel_eval rl]
      simp only [hcal]
      rw [if_neg (by simp [hp0]), if_neg (by simp [hpl]), e1]
      rfl
    · have hm := ids_all hm
      rw [rl.hp, e2.2.1 id hid (by simp [ownOf])] at hm
      obtain ⟨ver, cs, k1, k2⟩ := htd id hid
      rw [k1, eqBlk_refl k2] at hm
      simp at hm
  | true =>
    obtain ⟨v, h', e1, rfl, e2⟩ := hc0 hpl [] rfl rfl
    obtain ⟨bs, f1, f2, f3, f4, f5, f6⟩ := add_all (e2.2.2 tidy_nil) hp nb
    refine rd_w hw rl (v := .pv (.bool r)) (c := .add nb bs) ?_ ?_ ?_ (fun e he => by cases he; exact hd) (h2 _ (addHp hp nb bs) (nb + bs.length) ⟨by omega, fun id hid _ => f3 id hid, f4⟩ (fun id hid hm => ?_))
    · unfold runOp
      rw [rel_eval rl]
      simp only [hcal]
      rw [if_neg (by simp [hp0]), if_pos hpl, e1]
      simp only [Option.bind_some, addOf, rl.nb, f1]
      rfl
    · show AI.hf (addL h nb bs) = _
      rw [addL_hf0, rl.hp]
    · show (addL h nb bs).length = _
      rw [← rl.nb, addL_length]
    · simp only [Chg.ids, List.mem_range'_1] at hm
      omega
theorem heapPart_quiet {a b : Foot} {m : Nat} (ha : ∀ id, id < m → id ∉ a.chg.ids) (hb : b.chg = .no) (hr : ∀ id ∈ b.reads, id < m) : heapPart a b = true := by
  have hd : disjointL a.chg.ids b.reads = true := by
    unfold disjointL
    rw [List.all_eq_true]
    intro id hid
    cases hc : b.reads.contains id with
    | false => rfl
    | true => exact absurd hid (ha id (hr id (by simpa using hc)))
  unfold heapPart
  rw [hb]
  have e1 : (Chg.no).ids = [] := rfl
  have e2 : (Chg.no).isAll = false := rfl
  have e3 : ∀ l : List Nat, disjointL l [] = true := disjoint_nil
  have e4 : ∀ l : List Nat, disjointL [] l = true := fun _ => rfl
  rw [e1, e2, hd, e3, e4]
  split <;> rfl
theorem heapPart_quiet' {a b : Foot} {m : Nat} (hb : ∀ id, id < m → id ∉ b.chg.ids) (ha : a.chg = .no) (hr : ∀ id ∈ a.reads, id < m) : heapPart a b = true := by
  have hd : disjointL b.chg.ids a.reads = true := by
    unfold disjointL
    rw [List.all_eq_true]
    intro id hid
    cases hc : a.reads.contains id with
    | false => rfl
    | true => exact absurd hid (hb id (hr id (by simpa using hc)))
  unfold heapPart
  rw [ha]
  have e1 : (Chg.no).ids = [] := rfl
  have e2 : (Chg.no).isAll = false := rfl
  have e4 : ∀ l : List Nat, disjointL [] l = true := fun _ => rfl
  rw [e1, e2, hd, e4, e4]
  split
  · rename_i h; simp at h
  · split <;> rfl
end
theorem bytes_nat : ∀ {b : List Int}, (∀ x ∈ b, 0 ≤ x ∧ x ≤ 255) → ((u8s b).map AV.pv).mapM byteOfA = some (b.map Int.toNat)
  | [], _ => rfl
  | x :: b, h => by
    have := h x List.mem_cons_self
    have e : byteOfA (.pv (.int .u8 x)) = some x.toNat := by
      unfold byteOfA
      simp only [Option.some.injEq]
      omega
    have ih := bytes_nat (b := b) (fun y hy => h y (List.mem_cons_of_mem _ hy))
    simp only [u8s, List.map_cons, List.mapM_cons] at ih ⊢
    rw [e, ih]
    rfl
/-- Bytes as a string. -/
theorem conv_str {hp hp' : Hp} {nb nb' : Nat} {v : AV} {b : List Int} (hr : Row hp nb v (u8s b)) (hb : ∀ x ∈ b, 0 ≤ x ∧ x ≤ 255) (he : ∀ id, ownOf v = some id → hp' id = hp id) : convertA Try.prog hp' nb' 27 9 v = some (.val (.pv (.str (b.map Int.toNat)))) := by
  have hr' : Row hp' nb v (u8s b) := hr.keep (Nat.le_refl _) (fun id _ ho => he id ho)
  unfold convertA
  rw [row_src hr']
  have key : ∀ {l : List PV}, Row hp nb v l → convertB Try.prog nb' 27 9 v (some (l.length, l.map .pv)) = ((l.map AV.pv).mapM byteOfA).map fun s => .val (.pv (.str s)) := by
    intro l hl
    unfold convertB
    rw [show Try.prog.underlying 27 = some (.slice 5) from by kernel_rfl, show Try.prog.underlying 9 = some .string from by kernel_rfl]
    cases hl <;> simp only [show Try.prog.underlying 5 = some (.int .u8) from by kernel_rfl] <;> rfl
  rw [key hr, bytes_nat hb]
  rfl
theorem toNat_inj : ∀ {a b : List Int}, (∀ x ∈ a, 0 ≤ x) → (∀ x ∈ b, 0 ≤ x) → (a.map Int.toNat == b.map Int.toNat) = (a == b)
  | [], [], _, _ => rfl
  | [], _ :: _, _, _ => rfl
  | _ :: _, [], _, _ => rfl
  | x :: a, y :: b, ha, hb => by
    have h1 := ha x List.mem_cons_self
    have h2 := hb y List.mem_cons_self
    have ih := toNat_inj (a := a) (b := b) (fun z hz => ha z (List.mem_cons_of_mem _ hz)) (fun z hz => hb z (List.mem_cons_of_mem _ hz))
    simp only [List.map_cons, List.cons_beq_cons, ih]
    congr 1
    rw [Bool.eq_iff_iff]
    simp only [beq_iff_eq]
    omega
end Go.Proofs.Ytlinbbjobjnipaa

set_option linter.unusedVariables false
set_option linter.unusedSimpArgs false
set_option linter.unusedSectionVars false
namespace Go.Proofs.Ytlinbbjobjnipaa
open Go AI
set_option maxHeartbeats 4000000
set_option maxRecDepth 10000
theorem take_step {a b : List Int} {i : Nat} (ha : i < a.length) (hb : i < b.length) (h : a.take i = b.take i) (he : a[i] = b[i]) : a.take (i + 1) = b.take (i + 1) := by
  rw [List.take_add_one, List.take_add_one, h, List.getElem?_eq_getElem ha, List.getElem?_eq_getElem hb, he]
theorem beq_false {a b : List Int} (h : a ≠ b) : (a == b) = false := by simpa using h
def StillOk (r : Bool) (hp : Hp) (nb : Nat) (v : AV) (hp' : Hp) (nb' : Nat) : Prop := v = .pv (.bool r) ∧ hp' = hp ∧ nb' = nb
theorem still_bool {F : CallF} {f : Nat} {xs : List AV} {r : Bool} {hp : Hp} {nb : Nat} (h : CA F f xs hp nb (StillOk r hp nb)) : CA F f xs hp nb (BoolOk r hp nb) := by
  intro l h1 h2
  obtain ⟨v, h', e1, rfl, e2, e3⟩ := h l h1 h2
  exact ⟨_, h', e1, rfl, by omega, fun id _ _ => by rw [e2], fun ht => by rw [e2, e3]; exact ht⟩
theorem ints35 (d : Nat) {hp : Hp} {nb : Nat} {x y : AV} {a b : List Int} (hx : Row hp nb x (ints a)) (hy : Row hp nb y (ints b)) (hl : a.length < 9999) :
    CA (callA Try.prog facts plains 10000 (d + 1)) 35 [x, y] hp nb (StillOk (a == b) hp nb) := by
  refine ca_body (fn := Try.f35) (c := bodyOf Try.f35) Try.func35 rfl (by show 2 ≤ 26; omega) ?_
  show EX _ _ _ _ _ 26 _ _ _ _ _
  unfold bodyOf Try.f35
  refine ex_seq (ex_region ?_)
  refine ro_assign (by simp only [evalF, upd, arg0, argS, ofConst, ofCell, Nat.reduceEqDiff, reduceIte] <;> rfl) (by decide) ?_
  refine ro_nil ?_
  try simp only
  have la : (ints a).length = a.length := by simp [ints]
  have lb : (ints b).length = b.length := by simp [ints]
  refine ex_seq (ex_seq (ex_region ?_))
  refine ro_move (by simp only [evalF, upd, arg0, argS, ofConst, ofCell, Nat.reduceEqDiff, reduceIte] <;> rfl) (by decide) ?_
  refine ro_builtin rfl (by simp only [List.map_cons, List.map_nil, evalF, upd, arg0, argS, ofConst, ofCell, Nat.reduceEqDiff, reduceIte] <;> rfl) (by exact (row_len st24 hx)) (by decide) ?_
  refine ro_move (by simp only [evalF, upd, arg0, argS, ofConst, ofCell, Nat.reduceEqDiff, reduceIte] <;> rfl) (by decide) ?_
  refine ro_builtin rfl (by simp only [List.map_cons, List.map_nil, evalF, upd, arg0, argS, ofConst, ofCell, Nat.reduceEqDiff, reduceIte] <;> rfl) (by exact (row_len st24 hy)) (by decide) ?_
  refine ro_bin (by simp only [evalF, upd, arg0, argS, ofConst, ofCell, Nat.reduceEqDiff, reduceIte] <;> rfl) (by simp only [evalF, upd, arg0, argS, ofConst, ofCell, Nat.reduceEqDiff, reduceIte] <;> rfl) (by exact (neq_v)) (by decide) ?_
  refine ro_nil ?_
  try simp only
  rw [la, lb]
  refine ex_cond (t := ((a.length : Int) != b.length)) (by simp only [evalF, upd, arg0, argS, ofConst, ofCell, Nat.reduceEqDiff, reduceIte] <;> rfl) (fun ht => ?_) (fun ht => ?_)
  · refine ex_seq (ex_region ?_)
    refine ro_assign (by simp only [evalF, upd, arg0, argS, ofConst, ofCell, Nat.reduceEqDiff, reduceIte] <;> rfl) (by decide) ?_
    refine ro_nil ?_
    try simp only
    refine ex_ret ?_
    refine ⟨_, rfl, ?_, rfl, rfl⟩
    have : a ≠ b := fun e => by subst e; simp at ht
    simp [upd, beq_false this, ofConst, ofCell, evalF]
  refine ex_skip ?_
  try simp only
  have hab : a.length = b.length := by
    have : ¬ ((a.length : Int) ≠ b.length) := by simpa using ht
    omega
  refine ex_seq ?_
  refine ex_seq (ex_region ?_)
  refine ro_assign (by simp only [evalF, upd, arg0, argS, ofConst, ofCell, Nat.reduceEqDiff, reduceIte] <;> rfl) (by decide) ?_
  refine ro_nil ?_
  try simp only
  refine ex_block (ex_loop (I := fun k g hpx nbx => ∃ i : Nat, k = a.length - i ∧ i ≤ a.length ∧ g 0 = x ∧ g 1 = y ∧ g 5 = .pv (.int .i64 i) ∧ a.take i = b.take i ∧ hpx = hp ∧ nbx = nb)
    (m := a.length) ⟨0, rfl, Nat.zero_le _, by simp [upd, argsF], by simp [upd, argsF], by simp [upd, ofConst, ofCell, evalF], by simp, by first | rfl | trivial, by first | rfl | trivial⟩ (by omega) ?_)
  rintro k g hpx nbx ⟨i, hkk, hi, h0, h1, h5, hti, e1, e2⟩
  rw [e1, e2]
  refine ex_seq (ex_seq (ex_region ?_))
  refine ro_move (by simp only [evalF, upd, arg0, argS, ofConst, ofCell, Nat.reduceEqDiff, reduceIte, h0, h1, h5] <;> rfl) (by decide) ?_
  refine ro_move (by simp only [evalF, upd, arg0, argS, ofConst, ofCell, Nat.reduceEqDiff, reduceIte, h0, h1, h5] <;> rfl) (by decide) ?_
  refine ro_builtin rfl (by simp only [List.map_cons, List.map_nil, evalF, upd, arg0, argS, ofConst, ofCell, Nat.reduceEqDiff, reduceIte, h0, h1, h5] <;> rfl) (by exact (row_len st24 hx)) (by decide) ?_
  refine ro_bin (by simp only [evalF, upd, arg0, argS, ofConst, ofCell, Nat.reduceEqDiff, reduceIte, h0, h1, h5] <;> rfl) (by simp only [evalF, upd, arg0, argS, ofConst, ofCell, Nat.reduceEqDiff, reduceIte, h0, h1, h5] <;> rfl) (by exact (lss_v)) (by decide) ?_
  refine ro_nil ?_
  try simp only
  rw [la]
  refine ex_cond (t := decide ((i : Int) < a.length)) (by simp only [evalF, upd, arg0, argS, ofConst, ofCell, Nat.reduceEqDiff, reduceIte, h0, h1, h5] <;> rfl) (fun ht => ?_) (fun ht => ?_)
  rotate_left
  · have hie : i = a.length := by
      have := of_decide_eq_false ht
      omega
    refine ex_exit ?_
    simp only [if_true]
    refine ex_seq (ex_region ?_)
    refine ro_assign (by simp only [evalF, upd, arg0, argS, ofConst, ofCell, Nat.reduceEqDiff, reduceIte, h0, h1, h5] <;> rfl) (by decide) ?_
    refine ro_nil ?_
    try simp only
    refine ex_ret ?_
    refine ⟨_, rfl, ?_, rfl, rfl⟩
    have : a = b := by
      rw [hie, List.take_of_length_le (Nat.le_refl _), List.take_of_length_le (by omega)] at hti
      exact hti
    subst this
    simp [upd, ofConst, ofCell, evalF]
  refine ex_skip ?_
  try simp only
  have hil : i < a.length := by
    have := of_decide_eq_true ht
    omega
  have hib : i < b.length := by omega
  have g1 : (ints a)[i]? = some (.int .i64 a[i]) := by unfold ints; rw [List.getElem?_map, List.getElem?_eq_getElem hil]; rfl
  have g2 : (ints b)[i]? = some (.int .i64 b[i]) := by unfold ints; rw [List.getElem?_map, List.getElem?_eq_getElem hib]; rfl
  obtain ⟨p1, q1, r1⟩ := row_at st24 hx g1
  obtain ⟨p2, q2, r2⟩ := row_at st24 hy g2
  refine ex_seq (ex_block ?_)
  refine ex_seq (ex_draw (by kernel_rfl) ?_)
  refine rdw_move rfl (by simp only [evalF, upd, arg0, argS, ofConst, ofCell, Nat.reduceEqDiff, reduceIte, h0, h1, h5] <;> rfl) (by decide) ?_
  refine rdw_move rfl (by simp only [evalF, upd, arg0, argS, ofConst, ofCell, Nat.reduceEqDiff, reduceIte, h0, h1, h5] <;> rfl) (by decide) ?_
  refine rdw_indexAddr rfl (by simp only [evalF, upd, arg0, argS, ofConst, ofCell, Nat.reduceEqDiff, reduceIte, h0, h1, h5] <;> rfl) (by simp only [evalF, upd, arg0, argS, ofConst, ofCell, Nat.reduceEqDiff, reduceIte, h0, h1, h5] <;> rfl) (by exact (q1)) (by decide) ?_
  refine rdw_load rfl (by simp only [evalF, upd, arg0, argS, ofConst, ofCell, Nat.reduceEqDiff, reduceIte, h0, h1, h5] <;> rfl) (by exact (r1)) (by decide) ?_
  refine rdw_move rfl (by simp only [evalF, upd, arg0, argS, ofConst, ofCell, Nat.reduceEqDiff, reduceIte, h0, h1, h5] <;> rfl) (by decide) ?_
  refine rdw_move rfl (by simp only [evalF, upd, arg0, argS, ofConst, ofCell, Nat.reduceEqDiff, reduceIte, h0, h1, h5] <;> rfl) (by decide) ?_
  refine rdw_indexAddr rfl (by simp only [evalF, upd, arg0, argS, ofConst, ofCell, Nat.reduceEqDiff, reduceIte, h0, h1, h5] <;> rfl) (by simp only [evalF, upd, arg0, argS, ofConst, ofCell, Nat.reduceEqDiff, reduceIte, h0, h1, h5] <;> rfl) (by exact (q2)) (by decide) ?_
  refine rdw_load rfl (by simp only [evalF, upd, arg0, argS, ofConst, ofCell, Nat.reduceEqDiff, reduceIte, h0, h1, h5] <;> rfl) (by exact (r2)) (by decide) ?_
  refine rdw_bin rfl (by simp only [evalF, upd, arg0, argS, ofConst, ofCell, Nat.reduceEqDiff, reduceIte, h0, h1, h5] <;> rfl) (by simp only [evalF, upd, arg0, argS, ofConst, ofCell, Nat.reduceEqDiff, reduceIte, h0, h1, h5] <;> rfl) (by exact (neq_v)) (by decide) ?_
  refine rd_nil ⟨rfl, ?_⟩
  try simp only
  refine ex_cond (t := (a[i] != b[i])) (by simp only [evalF, upd, arg0, argS, ofConst, ofCell, Nat.reduceEqDiff, reduceIte, h0, h1, h5] <;> rfl) (fun hc => ?_) (fun hc => ?_)
  · refine ex_seq (ex_region ?_)
    refine ro_assign (by simp only [evalF, upd, arg0, argS, ofConst, ofCell, Nat.reduceEqDiff, reduceIte, h0, h1, h5] <;> rfl) (by decide) ?_
    refine ro_nil ?_
    try simp only
    refine ex_ret ?_
    refine ⟨_, rfl, ?_, rfl, rfl⟩
    have : a ≠ b := fun e => by subst e; simp at hc
    simp [upd, beq_false this, ofConst, ofCell, evalF]
  refine ex_skip ?_
  try simp only
  have he : a[i] = b[i] := by simpa using hc
  refine ex_region ?_
  refine ro_move (by simp only [evalF, upd, arg0, argS, ofConst, ofCell, Nat.reduceEqDiff, reduceIte, h0, h1, h5] <;> rfl) (by decide) ?_
  refine ro_bin (by simp only [evalF, upd, arg0, argS, ofConst, ofCell, Nat.reduceEqDiff, reduceIte, h0, h1, h5] <;> rfl) (by simp only [evalF, upd, arg0, argS, ofConst, ofCell, Nat.reduceEqDiff, reduceIte, h0, h1, h5] <;> rfl) (by exact (add_v (by omega))) (by decide) ?_
  refine ro_assign (by simp only [evalF, upd, arg0, argS, ofConst, ofCell, Nat.reduceEqDiff, reduceIte, h0, h1, h5] <;> rfl) (by decide) ?_
  refine ro_nil ?_
  exact ⟨a.length - (i + 1), by omega, i + 1, rfl, by omega, by simp [upd, h0], by simp [upd, h1], by simp [upd], take_step hil hib hti he, rfl, rfl⟩
end Go.Proofs.Ytlinbbjobjnipaa

set_option linter.unusedVariables false
set_option linter.unusedSimpArgs false
set_option linter.unusedSectionVars false
namespace Go.Proofs.Ytlinbbjobjnipaa
open Go AI
set_option maxHeartbeats 4000000
set_option maxRecDepth 10000
def sameF (a b : M) (f : Nat) : Bool :=
  match f with
  | 0 => a.pred == b.pred
  | 1 => a.node == b.node
  | 2 => a.list == b.list
  | 3 => a.done == b.done
  | 4 => a.err == b.err
  | 5 => a.key == b.key
  | 6 => a.data == b.data
  | _ => a.lease == b.lease
/-- Are two messages the same? -/
def sameM (a b : M) : Bool := a.kind == b.kind && ((rowOf a.kind).getD []).all fun f => sameF a b f
theorem ag26' : isAggA Try.prog 26 = some true := by kernel_rfl
theorem sz26' : szA Try.prog 26 = some 32 := by kernel_rfl
theorem flat26 : flatArr Try.prog 26 = some (32, false) := by kernel_rfl
theorem eqCells_bytes : ∀ {a b : List Int}, a.length = b.length → eqCells false ((u8s a).map .pv) ((u8s b).map .pv) = some (a == b)
  | [], [], _ => rfl
  | [], _ :: _, h => by simp at h
  | _ :: _, [], h => by simp at h
  | x :: a, y :: b, h => by
    have ih := eqCells_bytes (a := a) (b := b) (by simpa using h)
    simp only [u8s, List.map_cons] at ih ⊢
    rw [eqCells, if_pos ⟨rfl, rfl⟩, ih]
    rfl
/-- Two keys. -/
theorem eq_keys {a b : List Int} (ha : a.length = 32) (hb : b.length = 32) : binOpA Try.prog .eql 26 (.agg ((u8s a).map .pv)) (.agg ((u8s b).map .pv)) = some (.pv (.bool (a == b))) := by
  have : eqA Try.prog 26 (.agg ((u8s a).map .pv)) (.agg ((u8s b).map .pv)) = some (a == b) := by
    simp only [eqA, flat26]
    rw [if_pos ⟨by simp [u8s, ha], by simp [u8s, hb]⟩]
    exact eqCells_bytes (by omega)
  simp only [binOpA, this, Option.map_some]
theorem neq_keys {a b : List Int} (ha : a.length = 32) (hb : b.length = 32) : binOpA Try.prog .neq 26 (.agg ((u8s a).map .pv)) (.agg ((u8s b).map .pv)) = some (.pv (.bool (!(a == b)))) := by
  have : eqA Try.prog 26 (.agg ((u8s a).map .pv)) (.agg ((u8s b).map .pv)) = some (a == b) := by
    simp only [eqA, flat26]
    rw [if_pos ⟨by simp [u8s, ha], by simp [u8s, hb]⟩]
    exact eqCells_bytes (by omega)
  simp only [binOpA, this, Option.map_some]
theorem load_key {hp : Hp} {id : Nat} {m : M} {L D : AV} (hk : m.key.length = 32) (hl : AI.look hp id 1 = some (mcells m L D)) : loadA Try.prog hp 26 (.ptr id 1 (0 + 5)) = some (.agg ((u8s m.key).map .pv)) := by
  rw [loadN ag26' sz26' hl (by rw [mc_length hk]; omega), Nat.zero_add, mcKey hk]
theorem eq4_v {a b : Bool} : binOpA Try.prog .eql 4 (.pv (.bool a)) (.pv (.bool b)) = some (.pv (.bool (a == b))) := by
  cases a <;> cases b <;> kernel_rfl
theorem neq4_v {a b : Bool} : binOpA Try.prog .neq 4 (.pv (.bool a)) (.pv (.bool b)) = some (.pv (.bool (!(a == b)))) := by
  cases a <;> cases b <;> kernel_rfl
theorem load_whole {hp : Hp} {id : Nat} {m : M} {L D : AV} (hk : m.key.length = 32) (hl : AI.look hp id 1 = some (mcells m L D)) : loadA Try.prog hp 30 (.ptr id 1 0) = some (.agg (mcells m L D)) := by
  rw [loadN ag30 sz30 hl (by rw [mc_length hk]; omega), List.drop_zero, List.take_of_length_le (by rw [mc_length hk]; omega)]
theorem pl1 {hp : Hp} {nb : Nat} {v : AV} {l : List PV} (r : Row hp nb v l) (h : plainV v = true) : ownOf v = none := by
  cases r with
  | own => simp [plainV] at h
  | _ => rfl
theorem still35 (d : Nat) {hp : Hp} {nb : Nat} {x y : AV} {a b : List Int} (hx : Row hp nb x (ints a)) (hy : Row hp nb y (ints b)) (hl : a.length < 9999) :
    (([x, y] : List AV).all plainV = false → CA (callA Try.prog facts plains 10000 (d + 1)) 35 [x, y] hp nb (BoolOk (a == b) hp nb)) ∧ (([x, y] : List AV).all plainV = true → CA (callA Try.prog facts plains 10000 (d + 1)) 35 [x, y] (AI.hf []) 0 (BoolOk (a == b) (AI.hf []) 0)) :=
  ⟨fun _ => still_bool (ints35 d hx hy hl), fun h => by
    simp only [List.all_cons, List.all_nil, Bool.and_true, Bool.and_eq_true] at h
    exact still_bool (ints35 d (row_any hx (pl1 hx h.1)) (row_any hy (pl1 hy h.2)) hl)⟩
/-- Two messages that lie in memory, or are plain. -/
structure Two (hp : Hp) (nb : Nat) (a b : M) (L D L2 D2 : AV) : Prop where
  ka : a.key.length = 32
  kb : b.key.length = 32
  l1 : Row hp nb L (ints a.list)
  d1 : Row hp nb D (u8s a.data)
  l2 : Row hp nb L2 (ints b.list)
  d2 : Row hp nb D2 (u8s b.data)
  al : a.list.length < 9999
  ad : a.data.length < 9999
  ab : ∀ x ∈ a.data, 0 ≤ x ∧ x ≤ 255
  bb : ∀ x ∈ b.data, 0 ≤ x ∧ x ≤ 255
theorem Two.keep {hp hp' : Hp} {nb nb' : Nat} {a b : M} {L D L2 D2 : AV} (t : Two hp nb a b L D L2 D2) (h : After hp nb (.pv .nilSlice) hp' nb') : Two hp' nb' a b L D L2 D2 :=
  have k : ∀ id, id < nb → hp' id = hp id := fun id hid => h.2.1 id hid (by simp [ownOf])
  ⟨t.ka, t.kb, t.l1.keep h.1 (fun id hid _ => k id hid), t.d1.keep h.1 (fun id hid _ => k id hid), t.l2.keep h.1 (fun id hid _ => k id hid), t.d2.keep h.1 (fun id hid _ => k id hid), t.al, t.ad, t.ab, t.bb⟩
theorem plain_cells {m : M} {L D : AV} (h : plainV (.agg (mcells m L D)) = true) : (toPV L).isSome = true ∧ (toPV D).isSome = true := by
  simp only [plainV, mcells, List.all_append, List.all_cons, List.all_nil, Bool.and_eq_true] at h
  exact ⟨h.1.2.2.2.1, h.2.2.1⟩
theorem Two.plain {hp : Hp} {nb : Nat} {a b : M} {L D L2 D2 : AV} (t : Two hp nb a b L D L2 D2) (h1 : plainV (.agg (mcells a L D)) = true) (h2 : plainV (.agg (mcells b L2 D2)) = true) (hp' : Hp) (nb' : Nat) : Two hp' nb' a b L D L2 D2 := by
  obtain ⟨e1, e2⟩ := plain_cells h1
  obtain ⟨e3, e4⟩ := plain_cells h2
  exact ⟨t.ka, t.kb, row_any t.l1 ((row_plain t.l1).1 e1), row_any t.d1 ((row_plain t.d1).1 e2), row_any t.l2 ((row_plain t.l2).1 e3), row_any t.d2 ((row_plain t.d2).1 e4), t.al, t.ad, t.ab, t.bb⟩
/-- Two boxes. -/
theorem two_boxes {hp : Hp} {nb : Nat} {a b : M} {L D L2 D2 : AV} (t : Two hp nb a b L D L2 D2) :
    After hp nb (.pv .nilSlice) (setHp (setHp hp nb (.cells 1 (mcells a L D))) (nb + 1) (.cells 1 (mcells b L2 D2))) (nb + 1 + 1) ∧
    AI.look (setHp (setHp hp nb (.cells 1 (mcells a L D))) (nb + 1) (.cells 1 (mcells b L2 D2))) nb 1 = some (mcells a L D) ∧
    AI.look (setHp (setHp hp nb (.cells 1 (mcells a L D))) (nb + 1) (.cells 1 (mcells b L2 D2))) (nb + 1) 1 = some (mcells b L2 D2) :=
  ⟨after_nil (after_new hp nb _ _ (ok_cells (row_ok' t.l1) (row_ok' t.d1))) (after_new _ (nb + 1) (.pv .nilSlice) _ (ok_cells (okC_mono (Nat.le_succ _) (row_ok' t.l2)) (okC_mono (Nat.le_succ _) (row_ok' t.d2)))) (fun id h => by simp [ownOf] at h),
    by rw [look_ne _ _ _ (by omega)]; exact look_same _ _ _ _, look_same _ _ _ _⟩
end Go.Proofs.Ytlinbbjobjnipaa
