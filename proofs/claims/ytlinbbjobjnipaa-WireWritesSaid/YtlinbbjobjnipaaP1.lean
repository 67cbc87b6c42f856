/- Reading: fail, take, byte. -/
import Derived.Test.YtlinbbjobjnipaaF6
set_option linter.unusedVariables false
set_option linter.unusedSimpArgs false
set_option linter.unusedSectionVars false
namespace Go.Proofs.Ytlinbbjobjnipaa
open Go AI

set_option maxHeartbeats 4000000
set_option maxRecDepth 10000

theorem fa58_0 (id ver off : Nat) : fieldAddrA Try.prog 58 (.ptr id ver off) 0 = some (.ptr id ver off) := by kernel_rfl
theorem fa58_1 (id ver off : Nat) : fieldAddrA Try.prog 58 (.ptr id ver off) 1 = some (.ptr id ver (off + 1)) := by kernel_rfl

/-- A reader: what is left of the bytes, what was wrong first. -/
structure Rd (hp : Hp) (nb idr q : Nat) (b : List Int) (e : Int) : Prop where
  lt : idr < nb
  le : q ≤ idr
  ex : ∃ v, AI.look hp idr 1 = some [v, .pv (.int .i64 e)] ∧ Row hp nb v (u8s b) ∧ ∀ id, ownOf v = some id → id < q

/-- Nothing but the reader has changed. -/
def KeepR (hp : Hp) (nb idr : Nat) (hp' : Hp) (nb' : Nat) : Prop := nb' = nb ∧ (∀ id, id ≠ idr → hp' id = hp id) ∧ (Tidy hp nb → Tidy hp' nb')

theorem keepR_refl (hp : Hp) (nb idr : Nat) : KeepR hp nb idr hp nb := ⟨rfl, fun _ _ => rfl, fun h => h⟩

theorem keepR_trans {hp hp1 hp2 : Hp} {nb nb1 nb2 idr : Nat} (a : KeepR hp nb idr hp1 nb1) (b : KeepR hp1 nb1 idr hp2 nb2) : KeepR hp nb idr hp2 nb2 :=
  ⟨b.1.trans a.1, fun id h => (b.2.1 id h).trans (a.2.1 id h), fun h => b.2.2 (a.2.2 h)⟩

/-- A reader's cells are set. -/
theorem rd_put {hp : Hp} {nb idr q : Nat} {v : AV} {b : List Int} {e : Int} (hlt : idr < nb) (hle : q ≤ idr) (hr : Row hp nb v (u8s b)) (ho : ∀ id, ownOf v = some id → id < q) : Rd (setHp hp idr (.cells 1 [v, .pv (.int .i64 e)])) nb idr q b e ∧ KeepR hp nb idr (setHp hp idr (.cells 1 [v, .pv (.int .i64 e)])) nb := by
  refine ⟨⟨hlt, hle, v, look_same _ _ _ _, hr.keep (Nat.le_refl _) (fun id hid hown => ?_), ho⟩, rfl, fun id hne => by simp [setHp, hne], fun ht => tidy_put ht (fun c hc => ?_)⟩
  · have : id ≠ idr := fun h => by subst h; have := ho _ hown; omega
    simp [setHp, this]
  · simp at hc
    rcases hc with rfl | rfl
    · exact row_ok' hr
    · exact okC_pv _ _

/-- The first thing that was wrong. -/
def firstE (e x : Int) : Int := if e = 0 then x else e

theorem fail_calls (S : CallG) (pure : Nat → Bool) (lim d : Nat) {hp : Hp} {nb idr q : Nat} {b : List Int} {e : Int} (x : Int) (h : Rd hp nb idr q b e) :
    CA (callA Try.prog S pure lim (d + 1)) 27 [.ptr idr 1 0, .pv (.int .i64 x)] hp nb fun v hp' nb' => v = .tuple [] ∧ Rd hp' nb idr q b (firstE e x) ∧ KeepR hp nb idr hp' nb' := by
  obtain ⟨v, hl, hr, ho⟩ := h.ex
  refine ca_body (fn := Try.f27) (c := bodyOf Try.f27) Try.func27 rfl (by show 2 ≤ 13; omega) ?_
  show EX _ _ _ _ _ 13 _ _ _ _ _
  unfold bodyOf Try.f27
  refine ex_seq (ex_region ?_)
  refine ro_move (by simp only [evalF, upd, arg0, argS, ofConst, ofCell, Nat.reduceEqDiff, reduceIte] <;> rfl) (by decide) ?_
  refine ro_nilCheck (by simp only [evalF, upd, arg0, argS, ofConst, ofCell, Nat.reduceEqDiff, reduceIte] <;> rfl) (by decide) ?_
  refine ro_fieldAddr (by simp only [evalF, upd, arg0, argS, ofConst, ofCell, Nat.reduceEqDiff, reduceIte] <;> rfl) (by exact (fa58_1 _ _ _)) (by decide) ?_
  refine ro_load (by simp only [evalF, upd, arg0, argS, ofConst, ofCell, Nat.reduceEqDiff, reduceIte] <;> rfl) (by exact (load1 ag28 hl rfl)) (by decide) ?_
  refine ro_bin (by simp only [evalF, upd, arg0, argS, ofConst, ofCell, Nat.reduceEqDiff, reduceIte] <;> rfl) (by simp only [evalF, upd, arg0, argS, ofConst, ofCell, Nat.reduceEqDiff, reduceIte] <;> rfl) (by exact (show binOpA Try.prog .eql 28 (.pv (.int .i64 e)) (.pv (.int .i64 0)) = _ from eql_v)) (by decide) ?_
  refine ro_nil ?_
  try simp only
  refine ex_cond (t := e == 0) (by simp only [evalF, upd, arg0, argS, ofConst, ofCell, Nat.reduceEqDiff, reduceIte] <;> rfl) (fun he => ?_) (fun he => ?_)
  · have he0 : e = 0 := by simpa using he
    refine ex_region ?_
    refine ro_move (by simp only [evalF, upd, arg0, argS, ofConst, ofCell, Nat.reduceEqDiff, reduceIte] <;> rfl) (by decide) ?_
    refine ro_move (by simp only [evalF, upd, arg0, argS, ofConst, ofCell, Nat.reduceEqDiff, reduceIte] <;> rfl) (by decide) ?_
    refine ro_nilCheck (by simp only [evalF, upd, arg0, argS, ofConst, ofCell, Nat.reduceEqDiff, reduceIte] <;> rfl) (by decide) ?_
    refine ro_fieldAddr (by simp only [evalF, upd, arg0, argS, ofConst, ofCell, Nat.reduceEqDiff, reduceIte] <;> rfl) (by exact (fa58_1 _ _ _)) (by decide) ?_
    refine ro_store (by simp only [evalF, upd, arg0, argS, ofConst, ofCell, Nat.reduceEqDiff, reduceIte] <;> rfl) (by simp only [evalF, upd, arg0, argS, ofConst, ofCell, Nat.reduceEqDiff, reduceIte] <;> rfl) (store1 sz28 hl rfl rfl (by show 0 + 1 + 1 ≤ 2; omega)) ?_
    refine ro_nil ?_
    try simp only
    have hx := rd_put (e := x) h.lt h.le hr ho
    refine ⟨.tuple [], rfl, rfl, ?_, hx.2⟩
    rw [firstE, if_pos he0]
    exact hx.1
  · have he0 : e ≠ 0 := by simpa using he
    refine ex_skip ?_
    try simp only
    refine ⟨.tuple [], rfl, rfl, ?_, keepR_refl _ _ _⟩
    rw [firstE, if_neg he0]
    exact h

/-- What is taken: bytes, or none. -/
def takeR (b : List Int) (e : Int) (n : Nat) : List Int × List Int × Int :=
  if e ≠ 0 ∨ b.length < n then ([], b, firstE e 8) else (b.take n, b.drop n, 0)

theorem take_calls (S : CallG) (pure : Nat → Bool) (lim d : Nat) (hpu : pure 27 = false) {hp : Hp} {nb idr q : Nat} {b : List Int} {e : Int} (n : Nat) (h : Rd hp nb idr q b e) :
    CA (callA Try.prog S pure lim (d + 2)) 44 [.ptr idr 1 0, .pv (.int .i64 n)] hp nb fun v hp' nb' => Row hp' nb v (u8s (takeR b e n).1) ∧ (∀ id, ownOf v = some id → id < q) ∧ Rd hp' nb idr q (takeR b e n).2.1 (takeR b e n).2.2 ∧ KeepR hp nb idr hp' nb' := by
  obtain ⟨v, hl, hr, ho⟩ := h.ex
  have hlen : (u8s b).length = b.length := by simp [u8s]
  refine ca_body (fn := Try.f44) (c := bodyOf Try.f44) Try.func44 rfl (by show 2 ≤ 38; omega) ?_
  show EX _ _ _ _ _ 38 _ _ _ _ _
  unfold bodyOf Try.f44
  refine ex_seq (ex_region ?_)
  refine ro_assign (by simp only [evalF, upd, arg0, argS, ofConst, ofCell, Nat.reduceEqDiff, reduceIte] <;> rfl) (by decide) ?_
  refine ro_nil ?_
  try simp only
  refine ex_seq (ex_seq (ex_weaken (K := fun xa g' hp' nb' => xa = .normal ∧ g' 0 = .ptr idr 1 0 ∧ g' 1 = .pv (.int .i64 n) ∧ g' 19 = .pv (.bool (decide (e ≠ 0 ∨ b.length < n))) ∧ hp' = hp ∧ nb' = nb) ?_ ?_))
  · by_cases he : e = 0
    · refine ex_region ?_
      refine ro_move (by simp only [evalF, upd, arg0, argS, ofConst, ofCell, Nat.reduceEqDiff, reduceIte] <;> rfl) (by decide) ?_
      refine ro_nilCheck (by simp only [evalF, upd, arg0, argS, ofConst, ofCell, Nat.reduceEqDiff, reduceIte] <;> rfl) (by decide) ?_
      refine ro_fieldAddr (by simp only [evalF, upd, arg0, argS, ofConst, ofCell, Nat.reduceEqDiff, reduceIte] <;> rfl) (by exact (fa58_1 _ _ _)) (by decide) ?_
      refine ro_load (by simp only [evalF, upd, arg0, argS, ofConst, ofCell, Nat.reduceEqDiff, reduceIte] <;> rfl) (by exact (load1 ag28 hl rfl)) (by decide) ?_
      refine ro_bin (by simp only [evalF, upd, arg0, argS, ofConst, ofCell, Nat.reduceEqDiff, reduceIte] <;> rfl) (by simp only [evalF, upd, arg0, argS, ofConst, ofCell, Nat.reduceEqDiff, reduceIte] <;> rfl) (by exact (show binOpA Try.prog .neq 28 (.pv (.int .i64 e)) (.pv (.int .i64 0)) = _ from neq_f he)) (by decide) ?_
      refine ro_move (by simp only [evalF, upd, arg0, argS, ofConst, ofCell, Nat.reduceEqDiff, reduceIte] <;> rfl) (by decide) ?_
      refine ro_guard rfl (by simp only [evalF, upd, arg0, argS, ofConst, ofCell, Nat.reduceEqDiff, reduceIte] <;> rfl) rfl ?_
      refine ro_move (by simp only [evalF, upd, arg0, argS, ofConst, ofCell, Nat.reduceEqDiff, reduceIte] <;> rfl) (by decide) ?_
      refine ro_guard rfl (by simp only [evalF, upd, arg0, argS, ofConst, ofCell, Nat.reduceEqDiff, reduceIte] <;> rfl) rfl ?_
      refine ro_nilCheck (by simp only [evalF, upd, arg0, argS, ofConst, ofCell, Nat.reduceEqDiff, reduceIte] <;> rfl) (by decide) ?_
      refine ro_guard rfl (by simp only [evalF, upd, arg0, argS, ofConst, ofCell, Nat.reduceEqDiff, reduceIte] <;> rfl) rfl ?_
      refine ro_fieldAddr (by simp only [evalF, upd, arg0, argS, ofConst, ofCell, Nat.reduceEqDiff, reduceIte] <;> rfl) (by exact (fa58_0 _ _ _)) (by decide) ?_
      refine ro_guard rfl (by simp only [evalF, upd, arg0, argS, ofConst, ofCell, Nat.reduceEqDiff, reduceIte] <;> rfl) rfl ?_
      refine ro_load (by simp only [evalF, upd, arg0, argS, ofConst, ofCell, Nat.reduceEqDiff, reduceIte] <;> rfl) (by exact (load1 ag27 hl rfl)) (by decide) ?_
      refine ro_guard rfl (by simp only [evalF, upd, arg0, argS, ofConst, ofCell, Nat.reduceEqDiff, reduceIte] <;> rfl) rfl ?_
      refine ro_builtin rfl (by simp only [List.map_cons, List.map_nil, evalF, upd, arg0, argS, ofConst, ofCell, Nat.reduceEqDiff, reduceIte] <;> rfl) (by exact (row_len st27 hr)) (by decide) ?_
      refine ro_guard rfl (by simp only [evalF, upd, arg0, argS, ofConst, ofCell, Nat.reduceEqDiff, reduceIte] <;> rfl) rfl ?_
      refine ro_move (by simp only [evalF, upd, arg0, argS, ofConst, ofCell, Nat.reduceEqDiff, reduceIte] <;> rfl) (by decide) ?_
      refine ro_guard rfl (by simp only [evalF, upd, arg0, argS, ofConst, ofCell, Nat.reduceEqDiff, reduceIte] <;> rfl) rfl ?_
      refine ro_bin (by simp only [evalF, upd, arg0, argS, ofConst, ofCell, Nat.reduceEqDiff, reduceIte] <;> rfl) (by simp only [evalF, upd, arg0, argS, ofConst, ofCell, Nat.reduceEqDiff, reduceIte] <;> rfl) (by exact (lss_v)) (by decide) ?_
      refine ro_pick (by simp only [evalF, upd, arg0, argS, ofConst, ofCell, Nat.reduceEqDiff, reduceIte] <;> rfl) (by simp only [evalF, upd, arg0, argS, ofConst, ofCell, Nat.reduceEqDiff, reduceIte] <;> rfl) (by simp only [evalF, upd, arg0, argS, ofConst, ofCell, Nat.reduceEqDiff, reduceIte] <;> rfl) (by decide) ?_
      refine ro_nil ?_
      refine ⟨by first | rfl | trivial, by simp [upd, argsF], by simp [upd, argsF], ?_, by first | rfl | trivial, by first | rfl | trivial⟩
      simp only [upd, Nat.reduceEqDiff, reduceIte, AV.pv.injEq, PV.bool.injEq, decide_eq_decide, hlen, Bool.false_eq_true, if_false]
      omega
    · refine ex_region ?_
      refine ro_move (by simp only [evalF, upd, arg0, argS, ofConst, ofCell, Nat.reduceEqDiff, reduceIte] <;> rfl) (by decide) ?_
      refine ro_nilCheck (by simp only [evalF, upd, arg0, argS, ofConst, ofCell, Nat.reduceEqDiff, reduceIte] <;> rfl) (by decide) ?_
      refine ro_fieldAddr (by simp only [evalF, upd, arg0, argS, ofConst, ofCell, Nat.reduceEqDiff, reduceIte] <;> rfl) (by exact (fa58_1 _ _ _)) (by decide) ?_
      refine ro_load (by simp only [evalF, upd, arg0, argS, ofConst, ofCell, Nat.reduceEqDiff, reduceIte] <;> rfl) (by exact (load1 ag28 hl rfl)) (by decide) ?_
      refine ro_bin (by simp only [evalF, upd, arg0, argS, ofConst, ofCell, Nat.reduceEqDiff, reduceIte] <;> rfl) (by simp only [evalF, upd, arg0, argS, ofConst, ofCell, Nat.reduceEqDiff, reduceIte] <;> rfl) (by exact (show binOpA Try.prog .neq 28 (.pv (.int .i64 e)) (.pv (.int .i64 0)) = _ from neq_t he)) (by decide) ?_
      refine ro_move (by simp only [evalF, upd, arg0, argS, ofConst, ofCell, Nat.reduceEqDiff, reduceIte] <;> rfl) (by decide) ?_
      refine ro_skip rfl (by simp only [evalF, upd, arg0, argS, ofConst, ofCell, Nat.reduceEqDiff, reduceIte] <;> rfl) rfl (fun e he => by cases he; decide) ?_
      simp only [putF]
      refine ro_skip rfl (by simp only [evalF, upd, arg0, argS, ofConst, ofCell, Nat.reduceEqDiff, reduceIte] <;> rfl) rfl (fun e he => by cases he; decide) ?_
      simp only [putF]
      refine ro_skip rfl (by simp only [evalF, upd, arg0, argS, ofConst, ofCell, Nat.reduceEqDiff, reduceIte] <;> rfl) rfl (fun e he => by cases he; decide) ?_
      simp only [putF]
      refine ro_skip rfl (by simp only [evalF, upd, arg0, argS, ofConst, ofCell, Nat.reduceEqDiff, reduceIte] <;> rfl) rfl (fun e he => by cases he; decide) ?_
      simp only [putF]
      refine ro_skip rfl (by simp only [evalF, upd, arg0, argS, ofConst, ofCell, Nat.reduceEqDiff, reduceIte] <;> rfl) rfl (fun e he => by cases he; decide) ?_
      simp only [putF]
      refine ro_skip rfl (by simp only [evalF, upd, arg0, argS, ofConst, ofCell, Nat.reduceEqDiff, reduceIte] <;> rfl) rfl (fun e he => by cases he; decide) ?_
      simp only [putF]
      refine ro_skip rfl (by simp only [evalF, upd, arg0, argS, ofConst, ofCell, Nat.reduceEqDiff, reduceIte] <;> rfl) rfl (fun e he => by cases he; decide) ?_
      simp only [putF]
      refine ro_pick (by simp only [evalF, upd, arg0, argS, ofConst, ofCell, Nat.reduceEqDiff, reduceIte] <;> rfl) (by simp only [evalF, upd, arg0, argS, ofConst, ofCell, Nat.reduceEqDiff, reduceIte] <;> rfl) (by simp only [evalF, upd, arg0, argS, ofConst, ofCell, Nat.reduceEqDiff, reduceIte] <;> rfl) (by decide) ?_
      refine ro_nil ?_
      refine ⟨by first | rfl | trivial, by simp [upd, argsF], by simp [upd, argsF], ?_, by first | rfl | trivial, by first | rfl | trivial⟩
      simp [upd, he]
  rintro xa g1 hpx nbx ⟨rfl, h0, h1, h19, e1, e2⟩
  rw [e1, e2]
  clear e1 e2 hpx nbx
  try simp only
  refine ex_cond (t := decide (e ≠ 0 ∨ b.length < n)) (by simp only [evalF, upd, arg0, argS, ofConst, ofCell, Nat.reduceEqDiff, reduceIte, h0, h1, h19] <;> rfl) (fun ht => ?_) (fun ht => ?_)
  · have hc := of_decide_eq_true ht
    refine ex_seq (ex_region ?_)
    refine ro_move (by simp only [evalF, upd, arg0, argS, ofConst, ofCell, Nat.reduceEqDiff, reduceIte, h0, h1, h19] <;> rfl) (by decide) ?_
    refine ro_call (f := 27) («as» := [.ptr idr 1 0, .pv (.int .i64 8)]) rfl (by simp [evalF, upd, h0, ofConst, ofCell]) hpu rfl (fail_calls S pure lim d 8 h) (by decide) ?_
    rintro v2 hp2 nb2 ⟨_, hr2, hk2⟩
    refine ro_nil ?_
    try simp only
    refine ex_seq (ex_region ?_)
    refine ro_assign (by simp only [evalF, upd, arg0, argS, ofConst, ofCell, Nat.reduceEqDiff, reduceIte, h0, h1, h19] <;> rfl) (by decide) ?_
    refine ro_nil ?_
    try simp only
    refine ex_ret ?_
    have htk : takeR b e n = ([], b, firstE e 8) := by rw [takeR, if_pos hc]
    refine ⟨_, rfl, ?_⟩
    rw [htk]
    simp only [upd, Nat.reduceEqDiff, reduceIte]
    exact ⟨.nil, by simp [ownOf], hr2, hk2⟩
  · have hc := of_decide_eq_false ht
    simp only [not_or, Classical.not_not] at hc
    refine ex_skip ?_
    try simp only
    have htk : takeR b e n = (b.take n, b.drop n, 0) := by rw [takeR, if_neg (by simp only [not_or, Classical.not_not]; exact hc)]
    obtain ⟨v1, s1, r1, o1⟩ := row_slice st27 hr (lo := 0) (hi := n) (lv := none) (hv := some (.pv (.int .i64 n))) (.inr ⟨rfl, rfl⟩) (.inl rfl) (Nat.zero_le _) (by omega)
    obtain ⟨v2, s2, r2, o2⟩ := row_slice st27 hr (lo := n) (hi := b.length) (lv := some (.pv (.int .i64 n))) (hv := none) (.inl rfl) (.inr ⟨rfl, by omega⟩) (by omega) (by omega)
    refine ex_seq (ex_region ?_)
    refine ro_move (by simp only [evalF, upd, arg0, argS, ofConst, ofCell, Nat.reduceEqDiff, reduceIte, h0, h1, h19] <;> rfl) (by decide) ?_
    refine ro_nilCheck (by simp only [evalF, upd, arg0, argS, ofConst, ofCell, Nat.reduceEqDiff, reduceIte, h0, h1, h19] <;> rfl) (by decide) ?_
    refine ro_fieldAddr (by simp only [evalF, upd, arg0, argS, ofConst, ofCell, Nat.reduceEqDiff, reduceIte, h0, h1, h19] <;> rfl) (by exact (fa58_0 _ _ _)) (by decide) ?_
    refine ro_load (by simp only [evalF, upd, arg0, argS, ofConst, ofCell, Nat.reduceEqDiff, reduceIte, h0, h1, h19] <;> rfl) (by exact (load1 ag27 hl rfl)) (by decide) ?_
    refine ro_move (by simp only [evalF, upd, arg0, argS, ofConst, ofCell, Nat.reduceEqDiff, reduceIte, h0, h1, h19] <;> rfl) (by decide) ?_
    refine ro_slice (by simp only [evalF, upd, arg0, argS, ofConst, ofCell, Nat.reduceEqDiff, reduceIte, h0, h1, h19] <;> rfl) rfl (by simp only [Option.map_some, evalF, upd, Nat.reduceEqDiff, reduceIte]) rfl s1 (by decide) ?_
    refine ro_assign (by simp only [evalF, upd, arg0, argS, ofConst, ofCell, Nat.reduceEqDiff, reduceIte, h0, h1, h19] <;> rfl) (by decide) ?_
    refine ro_nil ?_
    try simp only
    refine ex_seq (ex_region ?_)
    refine ro_move (by simp only [evalF, upd, arg0, argS, ofConst, ofCell, Nat.reduceEqDiff, reduceIte, h0, h1, h19] <;> rfl) (by decide) ?_
    refine ro_move (by simp only [evalF, upd, arg0, argS, ofConst, ofCell, Nat.reduceEqDiff, reduceIte, h0, h1, h19] <;> rfl) (by decide) ?_
    refine ro_nilCheck (by simp only [evalF, upd, arg0, argS, ofConst, ofCell, Nat.reduceEqDiff, reduceIte, h0, h1, h19] <;> rfl) (by decide) ?_
    refine ro_fieldAddr (by simp only [evalF, upd, arg0, argS, ofConst, ofCell, Nat.reduceEqDiff, reduceIte, h0, h1, h19] <;> rfl) (by exact (fa58_0 _ _ _)) (by decide) ?_
    refine ro_load (by simp only [evalF, upd, arg0, argS, ofConst, ofCell, Nat.reduceEqDiff, reduceIte, h0, h1, h19] <;> rfl) (by exact (load1 ag27 hl rfl)) (by decide) ?_
    refine ro_move (by simp only [evalF, upd, arg0, argS, ofConst, ofCell, Nat.reduceEqDiff, reduceIte, h0, h1, h19] <;> rfl) (by decide) ?_
    refine ro_slice (by simp only [evalF, upd, arg0, argS, ofConst, ofCell, Nat.reduceEqDiff, reduceIte, h0, h1, h19] <;> rfl) (by simp only [Option.map_some, evalF, upd, Nat.reduceEqDiff, reduceIte]) rfl rfl s2 (by decide) ?_
    refine ro_nilCheck (by simp only [evalF, upd, arg0, argS, ofConst, ofCell, Nat.reduceEqDiff, reduceIte, h0, h1, h19] <;> rfl) (by decide) ?_
    refine ro_fieldAddr (by simp only [evalF, upd, arg0, argS, ofConst, ofCell, Nat.reduceEqDiff, reduceIte, h0, h1, h19] <;> rfl) (by exact (fa58_0 _ _ _)) (by decide) ?_
    refine ro_store (by simp only [evalF, upd, arg0, argS, ofConst, ofCell, Nat.reduceEqDiff, reduceIte, h0, h1, h19] <;> rfl) (by simp only [evalF, upd, arg0, argS, ofConst, ofCell, Nat.reduceEqDiff, reduceIte, h0, h1, h19] <;> rfl) (store1 sz27 hl (row_cell r2).2 (row_cell r2).1 (by show 0 + 1 ≤ 2; omega)) ?_
    refine ro_nil ?_
    try simp only
    refine ex_seq (ex_region ?_)
    refine ro_move (by simp only [evalF, upd, arg0, argS, ofConst, ofCell, Nat.reduceEqDiff, reduceIte, h0, h1, h19] <;> rfl) (by decide) ?_
    refine ro_assign (by simp only [evalF, upd, arg0, argS, ofConst, ofCell, Nat.reduceEqDiff, reduceIte, h0, h1, h19] <;> rfl) (by decide) ?_
    refine ro_nil ?_
    try simp only
    refine ex_ret ?_
    have e1 : ((u8s b).drop 0).take (n - 0) = u8s (b.take n) := by simp [u8s, List.map_take]
    have e2 : ((u8s b).drop n).take (b.length - n) = u8s (b.drop n) := by
      rw [List.take_of_length_le (by simp [u8s])]
      simp [u8s, List.map_drop]
    rw [e1] at r1
    rw [e2] at r2
    have ho1 : ∀ id, ownOf v1 = some id → id < q := fun id h => ho id (o1 _ h)
    have ho2 : ∀ id, ownOf v2 = some id → id < q := fun id h => ho id (o2 _ h)
    have hx := rd_put (e := 0) h.lt h.le r2 ho2
    have hcell : splice [v, .pv (.int .i64 e)] 0 [v2] = [v2, .pv (.int .i64 0)] := by rw [hc.1]; rfl
    refine ⟨_, rfl, ?_⟩
    rw [htk, hcell]
    simp only [upd, Nat.reduceEqDiff, reduceIte]
    exact ⟨r1.keep (Nat.le_refl _) (fun id hid hown => hx.2.2.1 id (fun h1 => by have := ho1 id hown; have := h.le; omega)), ho1, hx.1, hx.2⟩

/-- One byte that is at most so much. -/
def byteR (b : List Int) (e most : Int) : Int × List Int × Int :=
  match takeR b e 1 with
  | ([], b', e') => (0, b', e')
  | (x :: _, b', e') => if x > most then (0, b', firstE e' 11) else (x, b', e')

theorem conv53 (z : Int) (h : 0 ≤ z ∧ z ≤ 255) (hp : Hp) (nb : Nat) : convertA Try.prog hp nb 5 3 (.pv (.int .u8 z)) = some (.val (.pv (.int .i64 z))) := by
  have e : convertA Try.prog hp nb 5 3 (.pv (.int .u8 z)) = some (.val (.pv (.int .i64 (IntKind.i64.wrap z)))) := by kernel_rfl
  rw [e, IntWalk.i64_in _ (by omega)]

theorem byte_calls (S : CallG) (pure : Nat → Bool) (lim d : Nat) (hpu : pure 27 = false) (hpu2 : pure 44 = false) (hlim : 2 ≤ lim) {hp : Hp} {nb idr q : Nat} {b : List Int} {e : Int} (most : Int) (hb : ∀ x ∈ b, 0 ≤ x ∧ x ≤ 255) (h : Rd hp nb idr q b e) :
    CA (callA Try.prog S pure lim (d + 3)) 43 [.ptr idr 1 0, .pv (.int .i64 most)] hp nb fun v hp' nb' => v = .pv (.int .i64 (byteR b e most).1) ∧ Rd hp' nb idr q (byteR b e most).2.1 (byteR b e most).2.2 ∧ KeepR hp nb idr hp' nb' := by
  refine ca_body (fn := Try.f43) (c := bodyOf Try.f43) Try.func43 rfl (by show 2 ≤ 23; omega) ?_
  show EX _ _ _ _ _ 23 _ _ _ _ _
  unfold bodyOf Try.f43
  refine ex_seq (ex_region ?_)
  refine ro_assign (by simp only [evalF, upd, arg0, argS, ofConst, ofCell, Nat.reduceEqDiff, reduceIte] <;> rfl) (by decide) ?_
  refine ro_nil ?_
  try simp only
  refine ex_seq ?_
  refine ex_seq (ex_region ?_)
  refine ro_move (by simp only [evalF, upd, arg0, argS, ofConst, ofCell, Nat.reduceEqDiff, reduceIte] <;> rfl) (by decide) ?_
  refine ro_call (f := 44) («as» := [.ptr idr 1 0, .pv (.int .i64 (1 : Nat))]) rfl (by simp [evalF, upd, argsF, ofConst, ofCell]) hpu2 rfl (take_calls S pure lim d hpu 1 h) (by decide) ?_
  rintro v1 hp1 nb1 ⟨hr1, ho1, hrd1, hk1⟩
  obtain rfl := hk1.1
  refine ro_builtin rfl (by simp only [List.map_cons, List.map_nil, evalF, upd, arg0, argS, ofConst, ofCell, Nat.reduceEqDiff, reduceIte] <;> rfl) (by exact (row_len st27 hr1)) (by decide) ?_
  refine ro_move (by simp only [evalF, upd, arg0, argS, ofConst, ofCell, Nat.reduceEqDiff, reduceIte] <;> rfl) (by decide) ?_
  refine ro_nil ?_
  try simp only
  cases htk : takeR b e 1 with
  | mk t rest =>
    obtain ⟨b', e'⟩ := rest
    rw [htk] at hr1 hrd1
    simp only at hr1 hrd1
    have htl : t.length ≤ 1 ∧ ∀ x ∈ t, 0 ≤ x ∧ x ≤ 255 := by
      unfold takeR at htk
      split at htk
      · cases htk; simp
      · cases htk
        refine ⟨by simp; omega, fun x hx => hb x (List.mem_of_mem_take hx)⟩
    cases t with
    | nil =>
      have hby : byteR b e most = (0, b', e') := by rw [byteR, htk]
      refine ex_block (ex_loop (I := fun k g hpx nbx => g 9 = .pv (.int .i64 0) ∧ g 10 = .pv (.int .i64 0) ∧ hpx = hp1 ∧ nbx = nb1) (m := 0) ⟨by simp [upd, u8s], by simp [upd], rfl, rfl⟩ (by omega) ?_)
      rintro k g hpx nbx ⟨h9, h10, e1, e2⟩
      rw [e1, e2]
      refine ex_seq (ex_region ?_)
      refine ro_bin (by simp only [evalF, upd, arg0, argS, ofConst, ofCell, Nat.reduceEqDiff, reduceIte, h9, h10] <;> rfl) (by simp only [evalF, upd, arg0, argS, ofConst, ofCell, Nat.reduceEqDiff, reduceIte, h9, h10] <;> rfl) (by exact (lss_f (by omega))) (by decide) ?_
      refine ro_nil ?_
      try simp only
      refine ex_seq (ex_cond (t := false) (by simp only [evalF, upd, arg0, argS, ofConst, ofCell, Nat.reduceEqDiff, reduceIte, h9, h10] <;> rfl) (fun h => by simp at h) (fun _ => ?_))
      refine ex_exit ?_
      simp only [if_true]
      refine ex_seq (ex_region ?_)
      refine ro_assign (by simp only [evalF, upd, arg0, argS, ofConst, ofCell, Nat.reduceEqDiff, reduceIte, h9, h10] <;> rfl) (by decide) ?_
      refine ro_nil ?_
      try simp only
      refine ex_ret ?_
      refine ⟨_, rfl, ?_⟩
      rw [hby]
      simp only [upd, Nat.reduceEqDiff, reduceIte]
      exact ⟨by first | rfl | trivial, hrd1, hk1⟩
    | cons x t =>
      have hx := htl.2 x List.mem_cons_self
      have hby : byteR b e most = if x > most then (0, b', firstE e' 11) else (x, b', e') := by rw [byteR, htk]
      have ht0 : t = [] := by
        have := htl.1
        simp at this
        exact this
      subst ht0
      obtain ⟨a, ha, hla⟩ := row_at st27 hr1 (i := 0) (x := .int .u8 x) rfl
      refine ex_block (ex_loop (I := fun k g hpx nbx => g 0 = .ptr idr 1 0 ∧ g 1 = .pv (.int .i64 most) ∧ g 8 = v1 ∧ g 9 = .pv (.int .i64 1) ∧ g 10 = .pv (.int .i64 0) ∧ hpx = hp1 ∧ nbx = nb1) (m := 0) ⟨by simp [upd, argsF], by simp [upd, argsF], by simp [upd], by simp [upd, u8s], by simp [upd], rfl, rfl⟩ (by omega) ?_)
      rintro k g hpx nbx ⟨h0, h1, h8, h9, h10, e1, e2⟩
      rw [e1, e2]
      refine ex_seq (ex_region ?_)
      refine ro_bin (by simp only [evalF, upd, arg0, argS, ofConst, ofCell, Nat.reduceEqDiff, reduceIte, h0, h1, h8, h9, h10] <;> rfl) (by simp only [evalF, upd, arg0, argS, ofConst, ofCell, Nat.reduceEqDiff, reduceIte, h0, h1, h8, h9, h10] <;> rfl) (by exact (lss_t (by omega))) (by decide) ?_
      refine ro_nil ?_
      try simp only
      refine ex_seq (ex_cond (t := true) (by simp only [evalF, upd, arg0, argS, ofConst, ofCell, Nat.reduceEqDiff, reduceIte, h0, h1, h8, h9, h10] <;> rfl) (fun _ => ex_skip ?_) (fun h => by simp at h))
      try simp only
      refine ex_seq (ex_block ?_)
      refine ex_seq (ex_region ?_)
      refine ro_indexAddr (by simp only [evalF, upd, arg0, argS, ofConst, ofCell, Nat.reduceEqDiff, reduceIte, h0, h1, h8, h9, h10] <;> rfl) (by simp only [evalF, upd, arg0, argS, ofConst, ofCell, Nat.reduceEqDiff, reduceIte, h0, h1, h8, h9, h10] <;> rfl) (by exact (show indexAddrA Try.prog 27 v1 (.pv (.int .i64 0)) = some a from ha)) (by decide) ?_
      refine ro_load (by simp only [evalF, upd, arg0, argS, ofConst, ofCell, Nat.reduceEqDiff, reduceIte, h0, h1, h8, h9, h10] <;> rfl) (by exact (hla)) (by decide) ?_
      refine ro_assign (by simp only [evalF, upd, arg0, argS, ofConst, ofCell, Nat.reduceEqDiff, reduceIte, h0, h1, h8, h9, h10] <;> rfl) (by decide) ?_
      refine ro_nil ?_
      try simp only
      refine ex_seq (ex_seq (ex_region ?_))
      refine ro_move (by simp only [evalF, upd, arg0, argS, ofConst, ofCell, Nat.reduceEqDiff, reduceIte, h0, h1, h8, h9, h10] <;> rfl) (by decide) ?_
      refine ro_conv (by simp only [evalF, upd, arg0, argS, ofConst, ofCell, Nat.reduceEqDiff, reduceIte, h0, h1, h8, h9, h10] <;> rfl) (by exact (conv53 x hx _ _)) (by decide) ?_
      refine ro_move (by simp only [evalF, upd, arg0, argS, ofConst, ofCell, Nat.reduceEqDiff, reduceIte, h0, h1, h8, h9, h10] <;> rfl) (by decide) ?_
      refine ro_bin (by simp only [evalF, upd, arg0, argS, ofConst, ofCell, Nat.reduceEqDiff, reduceIte, h0, h1, h8, h9, h10] <;> rfl) (by simp only [evalF, upd, arg0, argS, ofConst, ofCell, Nat.reduceEqDiff, reduceIte, h0, h1, h8, h9, h10] <;> rfl) (by exact (gtr_v)) (by decide) ?_
      refine ro_nil ?_
      try simp only
      refine ex_cond (t := decide (x > most)) (by simp only [evalF, upd, arg0, argS, ofConst, ofCell, Nat.reduceEqDiff, reduceIte, h0, h1, h8, h9, h10] <;> rfl) (fun hm => ?_) (fun hm => ?_)
      · refine ex_seq (ex_region ?_)
        refine ro_move (by simp only [evalF, upd, arg0, argS, ofConst, ofCell, Nat.reduceEqDiff, reduceIte, h0, h1, h8, h9, h10] <;> rfl) (by decide) ?_
        refine ro_call (f := 27) («as» := [.ptr idr 1 0, .pv (.int .i64 11)]) rfl (by simp [evalF, upd, h0, ofConst, ofCell]) hpu rfl (fail_calls S pure lim (d + 1) 11 hrd1) (by decide) ?_
        rintro v2 hp2 nb2 ⟨_, hr2, hk2⟩
        refine ro_nil ?_
        try simp only
        refine ex_seq (ex_region ?_)
        refine ro_assign (by simp only [evalF, upd, arg0, argS, ofConst, ofCell, Nat.reduceEqDiff, reduceIte, h0, h1, h8, h9, h10] <;> rfl) (by decide) ?_
        refine ro_nil ?_
        try simp only
        refine ex_ret ?_
        refine ⟨_, rfl, ?_⟩
        rw [hby, if_pos (of_decide_eq_true hm)]
        simp only [upd, Nat.reduceEqDiff, reduceIte]
        exact ⟨by first | rfl | trivial, hr2, keepR_trans hk1 hk2⟩
      · refine ex_skip ?_
        try simp only
        refine ex_seq (ex_region ?_)
        refine ro_move (by simp only [evalF, upd, arg0, argS, ofConst, ofCell, Nat.reduceEqDiff, reduceIte, h0, h1, h8, h9, h10] <;> rfl) (by decide) ?_
        refine ro_conv (by simp only [evalF, upd, arg0, argS, ofConst, ofCell, Nat.reduceEqDiff, reduceIte, h0, h1, h8, h9, h10] <;> rfl) (by exact (conv53 x hx _ _)) (by decide) ?_
        refine ro_assign (by simp only [evalF, upd, arg0, argS, ofConst, ofCell, Nat.reduceEqDiff, reduceIte, h0, h1, h8, h9, h10] <;> rfl) (by decide) ?_
        refine ro_nil ?_
        try simp only
        refine ex_ret ?_
        refine ⟨_, rfl, ?_⟩
        rw [hby, if_neg (of_decide_eq_false hm)]
        simp only [upd, Nat.reduceEqDiff, reduceIte]
        exact ⟨by first | rfl | trivial, hrd1, hk1⟩
end Go.Proofs.Ytlinbbjobjnipaa
