/- Slices held against one another. -/
import Derived.Test.YtlinbbjobjnipaaG0
set_option linter.unusedVariables false
set_option linter.unusedSimpArgs false
set_option linter.unusedSectionVars false
namespace Go.Proofs.Ytlinbbjobjnipaa
open Go AI

set_option maxHeartbeats 4000000
set_option maxRecDepth 10000

theorem neq5_v {a b : Int} : binOpA Try.prog .neq 5 (.pv (.int .u8 a)) (.pv (.int .u8 b)) = some (.pv (.bool (a != b))) := rfl

theorem take_step {a b : List Int} {i : Nat} (ha : i < a.length) (hb : i < b.length) (h : a.take i = b.take i) (he : a[i] = b[i]) : a.take (i + 1) = b.take (i + 1) := by
  rw [List.take_add_one, List.take_add_one, h, List.getElem?_eq_getElem ha, List.getElem?_eq_getElem hb, he]

theorem beq_false {a b : List Int} (h : a ≠ b) : (a == b) = false := by simpa using h

def StillOk (r : Bool) (hp : Hp) (nb : Nat) (v : AV) (hp' : Hp) (nb' : Nat) : Prop := v = .pv (.bool r) ∧ hp' = hp ∧ nb' = nb

theorem still_bool {F : CallF} {f : Nat} {xs : List AV} {r : Bool} {hp : Hp} {nb : Nat} (h : CA F f xs hp nb (StillOk r hp nb)) : CA F f xs hp nb (BoolOk r hp nb) := by
  intro l h1 h2
  obtain ⟨v, h', e1, rfl, e2, e3⟩ := h l h1 h2
  exact ⟨_, h', e1, rfl, by omega, fun id _ _ => by rw [e2], fun ht => by rw [e2, e3]; exact ht⟩

theorem equal48 (d : Nat) {hp : Hp} {nb : Nat} {x y : AV} {a b : List Int} (hx : Row hp nb x (ints a)) (hy : Row hp nb y (ints b)) (hl : a.length < 9999) :
    CA (callA Try.prog facts plains 10000 (d + 1)) 48 [x, y] hp nb (StillOk (a == b) hp nb) := by
  refine ca_body (fn := Try.f48) (c := bodyOf Try.f48) Try.func48 rfl (by show 2 ≤ 26; omega) ?_
  show EX _ _ _ _ _ 26 _ _ _ _ _
  unfold bodyOf Try.f48
  refine ex_seq (ex_region ?_)
  refine ro_assign (by simp only [evalF, upd, arg0, argS, ofConst, ofCell, Nat.reduceEqDiff, reduceIte] <;> rfl) (by decide) ?_
  refine ro_nil ?_
  try simp only
  have la : (ints a).length = a.length := by simp [ints]
  have lb : (ints b).length = b.length := by simp [ints]
  refine ex_seq (ex_seq (ex_region ?_))
  refine ro_move (by simp only [evalF, upd, arg0, argS, ofConst, ofCell, Nat.reduceEqDiff, reduceIte] <;> rfl) (by decide) ?_
  refine ro_builtin rfl (by simp only [List.map_cons, List.map_nil, evalF, upd, arg0, argS, ofConst, ofCell, Nat.reduceEqDiff, reduceIte] <;> rfl) (by exact (row_len st24 hx)) (by decide) ?_
  refine ro_move (by simp only [evalF, upd, arg0, argS, ofConst, ofCell, Nat.reduceEqDiff, reduceIte] <;> rfl) (by decide) ?_
  refine ro_builtin rfl (by simp only [List.map_cons, List.map_nil, evalF, upd, arg0, argS, ofConst, ofCell, Nat.reduceEqDiff, reduceIte] <;> rfl) (by exact (row_len st24 hy)) (by decide) ?_
  refine ro_bin (by simp only [evalF, upd, arg0, argS, ofConst, ofCell, Nat.reduceEqDiff, reduceIte] <;> rfl) (by simp only [evalF, upd, arg0, argS, ofConst, ofCell, Nat.reduceEqDiff, reduceIte] <;> rfl) (by exact (neq_v)) (by decide) ?_
  refine ro_nil ?_
  try simp only
  rw [la, lb]
  refine ex_cond (t := ((a.length : Int) != b.length)) (by simp only [evalF, upd, arg0, argS, ofConst, ofCell, Nat.reduceEqDiff, reduceIte] <;> rfl) (fun ht => ?_) (fun ht => ?_)
  · refine ex_seq (ex_region ?_)
    refine ro_assign (by simp only [evalF, upd, arg0, argS, ofConst, ofCell, Nat.reduceEqDiff, reduceIte] <;> rfl) (by decide) ?_
    refine ro_nil ?_
    try simp only
    refine ex_ret ?_
    refine ⟨_, rfl, ?_, rfl, rfl⟩
    have : a ≠ b := fun e => by subst e; simp at ht
    simp [upd, beq_false this, ofConst, ofCell, evalF]
  refine ex_skip ?_
  try simp only
  have hab : a.length = b.length := by
    have : ¬ ((a.length : Int) ≠ b.length) := by simpa using ht
    omega
  refine ex_seq (ex_seq (ex_region ?_))
  refine ro_move (by simp only [evalF, upd, arg0, argS, ofConst, ofCell, Nat.reduceEqDiff, reduceIte] <;> rfl) (by decide) ?_
  refine ro_builtin rfl (by simp only [List.map_cons, List.map_nil, evalF, upd, arg0, argS, ofConst, ofCell, Nat.reduceEqDiff, reduceIte] <;> rfl) (by exact (row_len st24 hx)) (by decide) ?_
  refine ro_move (by simp only [evalF, upd, arg0, argS, ofConst, ofCell, Nat.reduceEqDiff, reduceIte] <;> rfl) (by decide) ?_
  refine ro_nil ?_
  try simp only
  rw [la]
  refine ex_block (ex_loop (I := fun k g hpx nbx => ∃ i : Nat, k = a.length - i ∧ i ≤ a.length ∧ g 0 = x ∧ g 1 = y ∧ g 12 = .pv (.int .i64 a.length) ∧ g 13 = .pv (.int .i64 i) ∧ a.take i = b.take i ∧ hpx = hp ∧ nbx = nb)
    (m := a.length) ⟨0, rfl, Nat.zero_le _, by simp [upd, argsF], by simp [upd, argsF], by simp [upd], by simp [upd, ofConst, ofCell, evalF], by simp, by first | rfl | trivial, by first | rfl | trivial⟩ (by omega) ?_)
  rintro k g hpx nbx ⟨i, hkk, hi, h0, h1, h12, h13, hti, e1, e2⟩
  rw [e1, e2]
  refine ex_seq (ex_region ?_)
  refine ro_bin (by simp only [evalF, upd, arg0, argS, ofConst, ofCell, Nat.reduceEqDiff, reduceIte, h0, h1, h12, h13] <;> rfl) (by simp only [evalF, upd, arg0, argS, ofConst, ofCell, Nat.reduceEqDiff, reduceIte, h0, h1, h12, h13] <;> rfl) (by exact (lss_v)) (by decide) ?_
  refine ro_nil ?_
  try simp only
  refine ex_seq (ex_cond (t := decide ((i : Int) < a.length)) (by simp only [evalF, upd, arg0, argS, ofConst, ofCell, Nat.reduceEqDiff, reduceIte, h0, h1, h12, h13] <;> rfl) (fun ht => ?_) (fun ht => ?_))
  rotate_left
  · have hie : i = a.length := by
      have := of_decide_eq_false ht
      omega
    refine ex_exit ?_
    simp only [if_true]
    refine ex_seq (ex_region ?_)
    refine ro_assign (by simp only [evalF, upd, arg0, argS, ofConst, ofCell, Nat.reduceEqDiff, reduceIte, h0, h1, h12, h13] <;> rfl) (by decide) ?_
    refine ro_nil ?_
    try simp only
    refine ex_ret ?_
    refine ⟨_, rfl, ?_, rfl, rfl⟩
    have : a = b := by
      rw [hie, List.take_of_length_le (Nat.le_refl _), List.take_of_length_le (by omega)] at hti
      exact hti
    subst this
    simp [upd, ofConst, ofCell, evalF]
  refine ex_skip ?_
  try simp only
  have hil : i < a.length := by
    have := of_decide_eq_true ht
    omega
  have hib : i < b.length := by omega
  have g1 : (ints a)[i]? = some (.int .i64 a[i]) := by unfold ints; rw [List.getElem?_map, List.getElem?_eq_getElem hil]; rfl
  have g2 : (ints b)[i]? = some (.int .i64 b[i]) := by unfold ints; rw [List.getElem?_map, List.getElem?_eq_getElem hib]; rfl
  obtain ⟨p1, q1, r1⟩ := row_at st24 hx g1
  obtain ⟨p2, q2, r2⟩ := row_at st24 hy g2
  refine ex_seq (ex_block ?_)
  refine ex_seq (ex_region ?_)
  refine ro_move (by simp only [evalF, upd, arg0, argS, ofConst, ofCell, Nat.reduceEqDiff, reduceIte, h0, h1, h12, h13] <;> rfl) (by decide) ?_
  refine ro_assign (by simp only [evalF, upd, arg0, argS, ofConst, ofCell, Nat.reduceEqDiff, reduceIte, h0, h1, h12, h13] <;> rfl) (by decide) ?_
  refine ro_nil ?_
  try simp only
  refine ex_seq (ex_draw (by kernel_rfl) ?_)
  refine rdw_move rfl (by simp only [evalF, upd, arg0, argS, ofConst, ofCell, Nat.reduceEqDiff, reduceIte, h0, h1, h12, h13] <;> rfl) (by decide) ?_
  refine rdw_move rfl (by simp only [evalF, upd, arg0, argS, ofConst, ofCell, Nat.reduceEqDiff, reduceIte, h0, h1, h12, h13] <;> rfl) (by decide) ?_
  refine rdw_indexAddr rfl (by simp only [evalF, upd, arg0, argS, ofConst, ofCell, Nat.reduceEqDiff, reduceIte, h0, h1, h12, h13] <;> rfl) (by simp only [evalF, upd, arg0, argS, ofConst, ofCell, Nat.reduceEqDiff, reduceIte, h0, h1, h12, h13] <;> rfl) (by exact (q1)) (by decide) ?_
  refine rdw_load rfl (by simp only [evalF, upd, arg0, argS, ofConst, ofCell, Nat.reduceEqDiff, reduceIte, h0, h1, h12, h13] <;> rfl) (by exact (r1)) (by decide) ?_
  refine rdw_move rfl (by simp only [evalF, upd, arg0, argS, ofConst, ofCell, Nat.reduceEqDiff, reduceIte, h0, h1, h12, h13] <;> rfl) (by decide) ?_
  refine rdw_move rfl (by simp only [evalF, upd, arg0, argS, ofConst, ofCell, Nat.reduceEqDiff, reduceIte, h0, h1, h12, h13] <;> rfl) (by decide) ?_
  refine rdw_indexAddr rfl (by simp only [evalF, upd, arg0, argS, ofConst, ofCell, Nat.reduceEqDiff, reduceIte, h0, h1, h12, h13] <;> rfl) (by simp only [evalF, upd, arg0, argS, ofConst, ofCell, Nat.reduceEqDiff, reduceIte, h0, h1, h12, h13] <;> rfl) (by exact (q2)) (by decide) ?_
  refine rdw_load rfl (by simp only [evalF, upd, arg0, argS, ofConst, ofCell, Nat.reduceEqDiff, reduceIte, h0, h1, h12, h13] <;> rfl) (by exact (r2)) (by decide) ?_
  refine rdw_bin rfl (by simp only [evalF, upd, arg0, argS, ofConst, ofCell, Nat.reduceEqDiff, reduceIte, h0, h1, h12, h13] <;> rfl) (by simp only [evalF, upd, arg0, argS, ofConst, ofCell, Nat.reduceEqDiff, reduceIte, h0, h1, h12, h13] <;> rfl) (by exact (neq_v)) (by decide) ?_
  refine rd_nil ⟨rfl, ?_⟩
  try simp only
  refine ex_cond (t := (a[i] != b[i])) (by simp only [evalF, upd, arg0, argS, ofConst, ofCell, Nat.reduceEqDiff, reduceIte, h0, h1, h12, h13] <;> rfl) (fun hc => ?_) (fun hc => ?_)
  · refine ex_seq (ex_region ?_)
    refine ro_assign (by simp only [evalF, upd, arg0, argS, ofConst, ofCell, Nat.reduceEqDiff, reduceIte, h0, h1, h12, h13] <;> rfl) (by decide) ?_
    refine ro_nil ?_
    try simp only
    refine ex_ret ?_
    refine ⟨_, rfl, ?_, rfl, rfl⟩
    have : a ≠ b := fun e => by subst e; simp at hc
    simp [upd, beq_false this, ofConst, ofCell, evalF]
  refine ex_skip ?_
  try simp only
  have he : a[i] = b[i] := by simpa using hc
  refine ex_region ?_
  refine ro_bin (by simp only [evalF, upd, arg0, argS, ofConst, ofCell, Nat.reduceEqDiff, reduceIte, h0, h1, h12, h13] <;> rfl) (by simp only [evalF, upd, arg0, argS, ofConst, ofCell, Nat.reduceEqDiff, reduceIte, h0, h1, h12, h13] <;> rfl) (by exact (add_v (by omega))) (by decide) ?_
  refine ro_move (by simp only [evalF, upd, arg0, argS, ofConst, ofCell, Nat.reduceEqDiff, reduceIte, h0, h1, h12, h13] <;> rfl) (by decide) ?_
  refine ro_nil ?_
  exact ⟨a.length - (i + 1), by omega, i + 1, rfl, by omega, by simp [upd, h0], by simp [upd, h1], by simp [upd, h12], by simp [upd], take_step hil hib hti he, rfl, rfl⟩
theorem equal49 (d : Nat) {hp : Hp} {nb : Nat} {x y : AV} {a b : List Int} (hx : Row hp nb x (u8s a)) (hy : Row hp nb y (u8s b)) (hl : a.length < 9999) :
    CA (callA Try.prog facts plains 10000 (d + 1)) 49 [x, y] hp nb (StillOk (a == b) hp nb) := by
  refine ca_body (fn := Try.f49) (c := bodyOf Try.f49) Try.func49 rfl (by show 2 ≤ 26; omega) ?_
  show EX _ _ _ _ _ 26 _ _ _ _ _
  unfold bodyOf Try.f49
  refine ex_seq (ex_region ?_)
  refine ro_assign (by simp only [evalF, upd, arg0, argS, ofConst, ofCell, Nat.reduceEqDiff, reduceIte] <;> rfl) (by decide) ?_
  refine ro_nil ?_
  try simp only
  have la : (u8s a).length = a.length := by simp [u8s]
  have lb : (u8s b).length = b.length := by simp [u8s]
  refine ex_seq (ex_seq (ex_region ?_))
  refine ro_move (by simp only [evalF, upd, arg0, argS, ofConst, ofCell, Nat.reduceEqDiff, reduceIte] <;> rfl) (by decide) ?_
  refine ro_builtin rfl (by simp only [List.map_cons, List.map_nil, evalF, upd, arg0, argS, ofConst, ofCell, Nat.reduceEqDiff, reduceIte] <;> rfl) (by exact (row_len st27 hx)) (by decide) ?_
  refine ro_move (by simp only [evalF, upd, arg0, argS, ofConst, ofCell, Nat.reduceEqDiff, reduceIte] <;> rfl) (by decide) ?_
  refine ro_builtin rfl (by simp only [List.map_cons, List.map_nil, evalF, upd, arg0, argS, ofConst, ofCell, Nat.reduceEqDiff, reduceIte] <;> rfl) (by exact (row_len st27 hy)) (by decide) ?_
  refine ro_bin (by simp only [evalF, upd, arg0, argS, ofConst, ofCell, Nat.reduceEqDiff, reduceIte] <;> rfl) (by simp only [evalF, upd, arg0, argS, ofConst, ofCell, Nat.reduceEqDiff, reduceIte] <;> rfl) (by exact (neq_v)) (by decide) ?_
  refine ro_nil ?_
  try simp only
  rw [la, lb]
  refine ex_cond (t := ((a.length : Int) != b.length)) (by simp only [evalF, upd, arg0, argS, ofConst, ofCell, Nat.reduceEqDiff, reduceIte] <;> rfl) (fun ht => ?_) (fun ht => ?_)
  · refine ex_seq (ex_region ?_)
    refine ro_assign (by simp only [evalF, upd, arg0, argS, ofConst, ofCell, Nat.reduceEqDiff, reduceIte] <;> rfl) (by decide) ?_
    refine ro_nil ?_
    try simp only
    refine ex_ret ?_
    refine ⟨_, rfl, ?_, rfl, rfl⟩
    have : a ≠ b := fun e => by subst e; simp at ht
    simp [upd, beq_false this, ofConst, ofCell, evalF]
  refine ex_skip ?_
  try simp only
  have hab : a.length = b.length := by
    have : ¬ ((a.length : Int) ≠ b.length) := by simpa using ht
    omega
  refine ex_seq (ex_seq (ex_region ?_))
  refine ro_move (by simp only [evalF, upd, arg0, argS, ofConst, ofCell, Nat.reduceEqDiff, reduceIte] <;> rfl) (by decide) ?_
  refine ro_builtin rfl (by simp only [List.map_cons, List.map_nil, evalF, upd, arg0, argS, ofConst, ofCell, Nat.reduceEqDiff, reduceIte] <;> rfl) (by exact (row_len st27 hx)) (by decide) ?_
  refine ro_move (by simp only [evalF, upd, arg0, argS, ofConst, ofCell, Nat.reduceEqDiff, reduceIte] <;> rfl) (by decide) ?_
  refine ro_nil ?_
  try simp only
  rw [la]
  refine ex_block (ex_loop (I := fun k g hpx nbx => ∃ i : Nat, k = a.length - i ∧ i ≤ a.length ∧ g 0 = x ∧ g 1 = y ∧ g 12 = .pv (.int .i64 a.length) ∧ g 13 = .pv (.int .i64 i) ∧ a.take i = b.take i ∧ hpx = hp ∧ nbx = nb)
    (m := a.length) ⟨0, rfl, Nat.zero_le _, by simp [upd, argsF], by simp [upd, argsF], by simp [upd], by simp [upd, ofConst, ofCell, evalF], by simp, by first | rfl | trivial, by first | rfl | trivial⟩ (by omega) ?_)
  rintro k g hpx nbx ⟨i, hkk, hi, h0, h1, h12, h13, hti, e1, e2⟩
  rw [e1, e2]
  refine ex_seq (ex_region ?_)
  refine ro_bin (by simp only [evalF, upd, arg0, argS, ofConst, ofCell, Nat.reduceEqDiff, reduceIte, h0, h1, h12, h13] <;> rfl) (by simp only [evalF, upd, arg0, argS, ofConst, ofCell, Nat.reduceEqDiff, reduceIte, h0, h1, h12, h13] <;> rfl) (by exact (lss_v)) (by decide) ?_
  refine ro_nil ?_
  try simp only
  refine ex_seq (ex_cond (t := decide ((i : Int) < a.length)) (by simp only [evalF, upd, arg0, argS, ofConst, ofCell, Nat.reduceEqDiff, reduceIte, h0, h1, h12, h13] <;> rfl) (fun ht => ?_) (fun ht => ?_))
  rotate_left
  · have hie : i = a.length := by
      have := of_decide_eq_false ht
      omega
    refine ex_exit ?_
    simp only [if_true]
    refine ex_seq (ex_region ?_)
    refine ro_assign (by simp only [evalF, upd, arg0, argS, ofConst, ofCell, Nat.reduceEqDiff, reduceIte, h0, h1, h12, h13] <;> rfl) (by decide) ?_
    refine ro_nil ?_
    try simp only
    refine ex_ret ?_
    refine ⟨_, rfl, ?_, rfl, rfl⟩
    have : a = b := by
      rw [hie, List.take_of_length_le (Nat.le_refl _), List.take_of_length_le (by omega)] at hti
      exact hti
    subst this
    simp [upd, ofConst, ofCell, evalF]
  refine ex_skip ?_
  try simp only
  have hil : i < a.length := by
    have := of_decide_eq_true ht
    omega
  have hib : i < b.length := by omega
  have g1 : (u8s a)[i]? = some (.int .u8 a[i]) := by unfold u8s; rw [List.getElem?_map, List.getElem?_eq_getElem hil]; rfl
  have g2 : (u8s b)[i]? = some (.int .u8 b[i]) := by unfold u8s; rw [List.getElem?_map, List.getElem?_eq_getElem hib]; rfl
  obtain ⟨p1, q1, r1⟩ := row_at st27 hx g1
  obtain ⟨p2, q2, r2⟩ := row_at st27 hy g2
  refine ex_seq (ex_block ?_)
  refine ex_seq (ex_region ?_)
  refine ro_move (by simp only [evalF, upd, arg0, argS, ofConst, ofCell, Nat.reduceEqDiff, reduceIte, h0, h1, h12, h13] <;> rfl) (by decide) ?_
  refine ro_assign (by simp only [evalF, upd, arg0, argS, ofConst, ofCell, Nat.reduceEqDiff, reduceIte, h0, h1, h12, h13] <;> rfl) (by decide) ?_
  refine ro_nil ?_
  try simp only
  refine ex_seq (ex_draw (by kernel_rfl) ?_)
  refine rdw_move rfl (by simp only [evalF, upd, arg0, argS, ofConst, ofCell, Nat.reduceEqDiff, reduceIte, h0, h1, h12, h13] <;> rfl) (by decide) ?_
  refine rdw_move rfl (by simp only [evalF, upd, arg0, argS, ofConst, ofCell, Nat.reduceEqDiff, reduceIte, h0, h1, h12, h13] <;> rfl) (by decide) ?_
  refine rdw_indexAddr rfl (by simp only [evalF, upd, arg0, argS, ofConst, ofCell, Nat.reduceEqDiff, reduceIte, h0, h1, h12, h13] <;> rfl) (by simp only [evalF, upd, arg0, argS, ofConst, ofCell, Nat.reduceEqDiff, reduceIte, h0, h1, h12, h13] <;> rfl) (by exact (q1)) (by decide) ?_
  refine rdw_load rfl (by simp only [evalF, upd, arg0, argS, ofConst, ofCell, Nat.reduceEqDiff, reduceIte, h0, h1, h12, h13] <;> rfl) (by exact (r1)) (by decide) ?_
  refine rdw_move rfl (by simp only [evalF, upd, arg0, argS, ofConst, ofCell, Nat.reduceEqDiff, reduceIte, h0, h1, h12, h13] <;> rfl) (by decide) ?_
  refine rdw_move rfl (by simp only [evalF, upd, arg0, argS, ofConst, ofCell, Nat.reduceEqDiff, reduceIte, h0, h1, h12, h13] <;> rfl) (by decide) ?_
  refine rdw_indexAddr rfl (by simp only [evalF, upd, arg0, argS, ofConst, ofCell, Nat.reduceEqDiff, reduceIte, h0, h1, h12, h13] <;> rfl) (by simp only [evalF, upd, arg0, argS, ofConst, ofCell, Nat.reduceEqDiff, reduceIte, h0, h1, h12, h13] <;> rfl) (by exact (q2)) (by decide) ?_
  refine rdw_load rfl (by simp only [evalF, upd, arg0, argS, ofConst, ofCell, Nat.reduceEqDiff, reduceIte, h0, h1, h12, h13] <;> rfl) (by exact (r2)) (by decide) ?_
  refine rdw_bin rfl (by simp only [evalF, upd, arg0, argS, ofConst, ofCell, Nat.reduceEqDiff, reduceIte, h0, h1, h12, h13] <;> rfl) (by simp only [evalF, upd, arg0, argS, ofConst, ofCell, Nat.reduceEqDiff, reduceIte, h0, h1, h12, h13] <;> rfl) (by exact (neq5_v)) (by decide) ?_
  refine rd_nil ⟨rfl, ?_⟩
  try simp only
  refine ex_cond (t := (a[i] != b[i])) (by simp only [evalF, upd, arg0, argS, ofConst, ofCell, Nat.reduceEqDiff, reduceIte, h0, h1, h12, h13] <;> rfl) (fun hc => ?_) (fun hc => ?_)
  · refine ex_seq (ex_region ?_)
    refine ro_assign (by simp only [evalF, upd, arg0, argS, ofConst, ofCell, Nat.reduceEqDiff, reduceIte, h0, h1, h12, h13] <;> rfl) (by decide) ?_
    refine ro_nil ?_
    try simp only
    refine ex_ret ?_
    refine ⟨_, rfl, ?_, rfl, rfl⟩
    have : a ≠ b := fun e => by subst e; simp at hc
    simp [upd, beq_false this, ofConst, ofCell, evalF]
  refine ex_skip ?_
  try simp only
  have he : a[i] = b[i] := by simpa using hc
  refine ex_region ?_
  refine ro_bin (by simp only [evalF, upd, arg0, argS, ofConst, ofCell, Nat.reduceEqDiff, reduceIte, h0, h1, h12, h13] <;> rfl) (by simp only [evalF, upd, arg0, argS, ofConst, ofCell, Nat.reduceEqDiff, reduceIte, h0, h1, h12, h13] <;> rfl) (by exact (add_v (by omega))) (by decide) ?_
  refine ro_move (by simp only [evalF, upd, arg0, argS, ofConst, ofCell, Nat.reduceEqDiff, reduceIte, h0, h1, h12, h13] <;> rfl) (by decide) ?_
  refine ro_nil ?_
  exact ⟨a.length - (i + 1), by omega, i + 1, rfl, by omega, by simp [upd, h0], by simp [upd, h1], by simp [upd, h12], by simp [upd], take_step hil hib hti he, rfl, rfl⟩
theorem ints35 (d : Nat) {hp : Hp} {nb : Nat} {x y : AV} {a b : List Int} (hx : Row hp nb x (ints a)) (hy : Row hp nb y (ints b)) (hl : a.length < 9999) :
    CA (callA Try.prog facts plains 10000 (d + 1)) 35 [x, y] hp nb (StillOk (a == b) hp nb) := by
  refine ca_body (fn := Try.f35) (c := bodyOf Try.f35) Try.func35 rfl (by show 2 ≤ 26; omega) ?_
  show EX _ _ _ _ _ 26 _ _ _ _ _
  unfold bodyOf Try.f35
  refine ex_seq (ex_region ?_)
  refine ro_assign (by simp only [evalF, upd, arg0, argS, ofConst, ofCell, Nat.reduceEqDiff, reduceIte] <;> rfl) (by decide) ?_
  refine ro_nil ?_
  try simp only
  have la : (ints a).length = a.length := by simp [ints]
  have lb : (ints b).length = b.length := by simp [ints]
  refine ex_seq (ex_seq (ex_region ?_))
  refine ro_move (by simp only [evalF, upd, arg0, argS, ofConst, ofCell, Nat.reduceEqDiff, reduceIte] <;> rfl) (by decide) ?_
  refine ro_builtin rfl (by simp only [List.map_cons, List.map_nil, evalF, upd, arg0, argS, ofConst, ofCell, Nat.reduceEqDiff, reduceIte] <;> rfl) (by exact (row_len st24 hx)) (by decide) ?_
  refine ro_move (by simp only [evalF, upd, arg0, argS, ofConst, ofCell, Nat.reduceEqDiff, reduceIte] <;> rfl) (by decide) ?_
  refine ro_builtin rfl (by simp only [List.map_cons, List.map_nil, evalF, upd, arg0, argS, ofConst, ofCell, Nat.reduceEqDiff, reduceIte] <;> rfl) (by exact (row_len st24 hy)) (by decide) ?_
  refine ro_bin (by simp only [evalF, upd, arg0, argS, ofConst, ofCell, Nat.reduceEqDiff, reduceIte] <;> rfl) (by simp only [evalF, upd, arg0, argS, ofConst, ofCell, Nat.reduceEqDiff, reduceIte] <;> rfl) (by exact (neq_v)) (by decide) ?_
  refine ro_nil ?_
  try simp only
  rw [la, lb]
  refine ex_cond (t := ((a.length : Int) != b.length)) (by simp only [evalF, upd, arg0, argS, ofConst, ofCell, Nat.reduceEqDiff, reduceIte] <;> rfl) (fun ht => ?_) (fun ht => ?_)
  · refine ex_seq (ex_region ?_)
    refine ro_assign (by simp only [evalF, upd, arg0, argS, ofConst, ofCell, Nat.reduceEqDiff, reduceIte] <;> rfl) (by decide) ?_
    refine ro_nil ?_
    try simp only
    refine ex_ret ?_
    refine ⟨_, rfl, ?_, rfl, rfl⟩
    have : a ≠ b := fun e => by subst e; simp at ht
    simp [upd, beq_false this, ofConst, ofCell, evalF]
  refine ex_skip ?_
  try simp only
  have hab : a.length = b.length := by
    have : ¬ ((a.length : Int) ≠ b.length) := by simpa using ht
    omega
  refine ex_seq ?_
  refine ex_seq (ex_region ?_)
  refine ro_assign (by simp only [evalF, upd, arg0, argS, ofConst, ofCell, Nat.reduceEqDiff, reduceIte] <;> rfl) (by decide) ?_
  refine ro_nil ?_
  try simp only
  refine ex_block (ex_loop (I := fun k g hpx nbx => ∃ i : Nat, k = a.length - i ∧ i ≤ a.length ∧ g 0 = x ∧ g 1 = y ∧ g 5 = .pv (.int .i64 i) ∧ a.take i = b.take i ∧ hpx = hp ∧ nbx = nb)
    (m := a.length) ⟨0, rfl, Nat.zero_le _, by simp [upd, argsF], by simp [upd, argsF], by simp [upd, ofConst, ofCell, evalF], by simp, by first | rfl | trivial, by first | rfl | trivial⟩ (by omega) ?_)
  rintro k g hpx nbx ⟨i, hkk, hi, h0, h1, h5, hti, e1, e2⟩
  rw [e1, e2]
  refine ex_seq (ex_seq (ex_region ?_))
  refine ro_move (by simp only [evalF, upd, arg0, argS, ofConst, ofCell, Nat.reduceEqDiff, reduceIte, h0, h1, h5] <;> rfl) (by decide) ?_
  refine ro_move (by simp only [evalF, upd, arg0, argS, ofConst, ofCell, Nat.reduceEqDiff, reduceIte, h0, h1, h5] <;> rfl) (by decide) ?_
  refine ro_builtin rfl (by simp only [List.map_cons, List.map_nil, evalF, upd, arg0, argS, ofConst, ofCell, Nat.reduceEqDiff, reduceIte, h0, h1, h5] <;> rfl) (by exact (row_len st24 hx)) (by decide) ?_
  refine ro_bin (by simp only [evalF, upd, arg0, argS, ofConst, ofCell, Nat.reduceEqDiff, reduceIte, h0, h1, h5] <;> rfl) (by simp only [evalF, upd, arg0, argS, ofConst, ofCell, Nat.reduceEqDiff, reduceIte, h0, h1, h5] <;> rfl) (by exact (lss_v)) (by decide) ?_
  refine ro_nil ?_
  try simp only
  rw [la]
  refine ex_cond (t := decide ((i : Int) < a.length)) (by simp only [evalF, upd, arg0, argS, ofConst, ofCell, Nat.reduceEqDiff, reduceIte, h0, h1, h5] <;> rfl) (fun ht => ?_) (fun ht => ?_)
  rotate_left
  · have hie : i = a.length := by
      have := of_decide_eq_false ht
      omega
    refine ex_exit ?_
    simp only [if_true]
    refine ex_seq (ex_region ?_)
    refine ro_assign (by simp only [evalF, upd, arg0, argS, ofConst, ofCell, Nat.reduceEqDiff, reduceIte, h0, h1, h5] <;> rfl) (by decide) ?_
    refine ro_nil ?_
    try simp only
    refine ex_ret ?_
    refine ⟨_, rfl, ?_, rfl, rfl⟩
    have : a = b := by
      rw [hie, List.take_of_length_le (Nat.le_refl _), List.take_of_length_le (by omega)] at hti
      exact hti
    subst this
    simp [upd, ofConst, ofCell, evalF]
  refine ex_skip ?_
  try simp only
  have hil : i < a.length := by
    have := of_decide_eq_true ht
    omega
  have hib : i < b.length := by omega
  have g1 : (ints a)[i]? = some (.int .i64 a[i]) := by unfold ints; rw [List.getElem?_map, List.getElem?_eq_getElem hil]; rfl
  have g2 : (ints b)[i]? = some (.int .i64 b[i]) := by unfold ints; rw [List.getElem?_map, List.getElem?_eq_getElem hib]; rfl
  obtain ⟨p1, q1, r1⟩ := row_at st24 hx g1
  obtain ⟨p2, q2, r2⟩ := row_at st24 hy g2
  refine ex_seq (ex_block ?_)
  refine ex_seq (ex_draw (by kernel_rfl) ?_)
  refine rdw_move rfl (by simp only [evalF, upd, arg0, argS, ofConst, ofCell, Nat.reduceEqDiff, reduceIte, h0, h1, h5] <;> rfl) (by decide) ?_
  refine rdw_move rfl (by simp only [evalF, upd, arg0, argS, ofConst, ofCell, Nat.reduceEqDiff, reduceIte, h0, h1, h5] <;> rfl) (by decide) ?_
  refine rdw_indexAddr rfl (by simp only [evalF, upd, arg0, argS, ofConst, ofCell, Nat.reduceEqDiff, reduceIte, h0, h1, h5] <;> rfl) (by simp only [evalF, upd, arg0, argS, ofConst, ofCell, Nat.reduceEqDiff, reduceIte, h0, h1, h5] <;> rfl) (by exact (q1)) (by decide) ?_
  refine rdw_load rfl (by simp only [evalF, upd, arg0, argS, ofConst, ofCell, Nat.reduceEqDiff, reduceIte, h0, h1, h5] <;> rfl) (by exact (r1)) (by decide) ?_
  refine rdw_move rfl (by simp only [evalF, upd, arg0, argS, ofConst, ofCell, Nat.reduceEqDiff, reduceIte, h0, h1, h5] <;> rfl) (by decide) ?_
  refine rdw_move rfl (by simp only [evalF, upd, arg0, argS, ofConst, ofCell, Nat.reduceEqDiff, reduceIte, h0, h1, h5] <;> rfl) (by decide) ?_
  refine rdw_indexAddr rfl (by simp only [evalF, upd, arg0, argS, ofConst, ofCell, Nat.reduceEqDiff, reduceIte, h0, h1, h5] <;> rfl) (by simp only [evalF, upd, arg0, argS, ofConst, ofCell, Nat.reduceEqDiff, reduceIte, h0, h1, h5] <;> rfl) (by exact (q2)) (by decide) ?_
  refine rdw_load rfl (by simp only [evalF, upd, arg0, argS, ofConst, ofCell, Nat.reduceEqDiff, reduceIte, h0, h1, h5] <;> rfl) (by exact (r2)) (by decide) ?_
  refine rdw_bin rfl (by simp only [evalF, upd, arg0, argS, ofConst, ofCell, Nat.reduceEqDiff, reduceIte, h0, h1, h5] <;> rfl) (by simp only [evalF, upd, arg0, argS, ofConst, ofCell, Nat.reduceEqDiff, reduceIte, h0, h1, h5] <;> rfl) (by exact (neq_v)) (by decide) ?_
  refine rd_nil ⟨rfl, ?_⟩
  try simp only
  refine ex_cond (t := (a[i] != b[i])) (by simp only [evalF, upd, arg0, argS, ofConst, ofCell, Nat.reduceEqDiff, reduceIte, h0, h1, h5] <;> rfl) (fun hc => ?_) (fun hc => ?_)
  · refine ex_seq (ex_region ?_)
    refine ro_assign (by simp only [evalF, upd, arg0, argS, ofConst, ofCell, Nat.reduceEqDiff, reduceIte, h0, h1, h5] <;> rfl) (by decide) ?_
    refine ro_nil ?_
    try simp only
    refine ex_ret ?_
    refine ⟨_, rfl, ?_, rfl, rfl⟩
    have : a ≠ b := fun e => by subst e; simp at hc
    simp [upd, beq_false this, ofConst, ofCell, evalF]
  refine ex_skip ?_
  try simp only
  have he : a[i] = b[i] := by simpa using hc
  refine ex_region ?_
  refine ro_move (by simp only [evalF, upd, arg0, argS, ofConst, ofCell, Nat.reduceEqDiff, reduceIte, h0, h1, h5] <;> rfl) (by decide) ?_
  refine ro_bin (by simp only [evalF, upd, arg0, argS, ofConst, ofCell, Nat.reduceEqDiff, reduceIte, h0, h1, h5] <;> rfl) (by simp only [evalF, upd, arg0, argS, ofConst, ofCell, Nat.reduceEqDiff, reduceIte, h0, h1, h5] <;> rfl) (by exact (add_v (by omega))) (by decide) ?_
  refine ro_assign (by simp only [evalF, upd, arg0, argS, ofConst, ofCell, Nat.reduceEqDiff, reduceIte, h0, h1, h5] <;> rfl) (by decide) ?_
  refine ro_nil ?_
  exact ⟨a.length - (i + 1), by omega, i + 1, rfl, by omega, by simp [upd, h0], by simp [upd, h1], by simp [upd], take_step hil hib hti he, rfl, rfl⟩
end Go.Proofs.Ytlinbbjobjnipaa
