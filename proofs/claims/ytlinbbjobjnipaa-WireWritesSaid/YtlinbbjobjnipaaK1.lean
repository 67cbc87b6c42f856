/- The law of lengths, by the plain interpreter. Printed by gen_len.py. -/
import Derived.Test.YtlinbbjobjnipaaF6
set_option linter.unusedVariables false
set_option linter.unusedSimpArgs false
set_option linter.unusedSectionVars false
namespace Go.Proofs.Ytlinbbjobjnipaa
open Go AI

set_option maxHeartbeats 4000000
set_option maxRecDepth 10000

theorem splice_all {m m' : M} {L D L' D' : AV} (hk : m.key.length = 32) (hk' : m'.key.length = 32) : splice (mcells m L D) 0 (mcells m' L' D') = mcells m' L' D' := by
  unfold splice
  rw [mc_length hk', List.drop_of_length_le (by rw [mc_length hk]; omega)]
  simp

theorem few_data {m : M} (h : fewM m = true) : m.data.length < 8000 ∧ m.list.length < 50 := by
  by_cases hd : (m.data.length : Int) < 8000
  · rw [few_t hd] at h
    have := of_decide_eq_true h
    omega
  · rw [few_f hd] at h
    simp at h

theorem fit_good {m : M} (hf : Fit m) : Fit (goodM m) := by
  have in64 : ∀ z : Int, -9223372036854775808 ≤ z ∧ z ≤ 9223372036854775807 → (Lit.int .i64 z).wf = true := by
    intro z hz
    simpa [Lit.wf, IntKind.min, IntKind.max, IntKind.signed, IntKind.bits] using hz
  have k0 := Int.emod_nonneg m.kind (show (12 : Int) ≠ 0 by omega)
  have k1 := Int.emod_lt_of_pos m.kind (show (0 : Int) < 12 by omega)
  have n0 := Int.emod_nonneg m.node (show (10 : Int) ≠ 0 by omega)
  have n1 := Int.emod_lt_of_pos m.node (show (0 : Int) < 10 by omega)
  have p0 := Int.emod_nonneg m.pred (show (11 : Int) ≠ 0 by omega)
  have p1 := Int.emod_lt_of_pos m.pred (show (0 : Int) < 11 by omega)
  have l0 := Int.emod_nonneg m.lease (show (1000 : Int) ≠ 0 by omega)
  have l1 := Int.emod_lt_of_pos m.lease (show (0 : Int) < 1000 by omega)
  have e0 := Int.emod_nonneg m.err (show (21 : Int) ≠ 0 by omega)
  have e1 := Int.emod_lt_of_pos m.err (show (0 : Int) < 21 by omega)
  refine ⟨hf.key, in64 _ ?_, in64 _ ?_, in64 _ ?_, in64 _ ?_, in64 _ ?_, fun x hx => in64 _ ?_⟩
  · show -9223372036854775808 ≤ 1 + m.kind % 12 ∧ 1 + m.kind % 12 ≤ 9223372036854775807
    omega
  · show -9223372036854775808 ≤ m.node % 10 ∧ m.node % 10 ≤ 9223372036854775807
    omega
  · show -9223372036854775808 ≤ m.pred % 11 - 1 ∧ m.pred % 11 - 1 ≤ 9223372036854775807
    omega
  · show -9223372036854775808 ≤ 1 + m.lease % 1000 ∧ 1 + m.lease % 1000 ≤ 9223372036854775807
    omega
  · show -9223372036854775808 ≤ m.err % 21 ∧ m.err % 21 ≤ 9223372036854775807
    omega
  · obtain ⟨y, _, rfl⟩ := List.mem_map.1 hx
    have := Int.emod_nonneg y (show (10 : Int) ≠ 0 by omega)
    have := Int.emod_lt_of_pos y (show (0 : Int) < 10 by omega)
    omega

theorem lenStat : statOk (regOf Try.f4 27) = true := by kernel_rfl

theorem conv_53 (z : Int) (h : 0 ≤ z ∧ z ≤ 255) (hp : Hp) (nb : Nat) : convertA Try.prog hp nb 5 3 (.pv (.int .u8 z)) = some (.val (.pv (.int .i64 z))) := by
  have e : convertA Try.prog hp nb 5 3 (.pv (.int .u8 z)) = some (.val (.pv (.int .i64 (IntKind.i64.wrap z)))) := by kernel_rfl
  rw [e, IntWalk.i64_in _ (by omega)]

theorem lengths_run {m : M} {L D : AV} (hf : Fit m) (hL : Row (AI.hf []) 0 L (ints m.list)) (hD : Row (AI.hf []) 0 D (u8s m.data)) (hLo : ownOf L = none) (hDo : ownOf D = none) :
    CA (callA Try.prog facts plains 10000 20) 4 [.agg (mcells m L D)] (AI.hf []) 0 fun v hp' nb' => v = .pv (.bool true) := by
  have hk := hf.key
  refine ca_body (d := 19) (fn := Try.f4) (c := bodyOf Try.f4) Try.func4 rfl (by show 1 ≤ 75; omega) ?_
  show EX _ _ _ _ _ 75 _ _ _ _ _
  unfold bodyOf Try.f4
  refine ex_seq (ex_region ?_)
  refine ro_box (v := .agg (mcells m L D)) (by simp [evalF, argsF]) (mc_all (row_cell hL).1 (row_cell hD).1) (by decide) ?_
  refine ro_assign (by simp only [evalF, upd, arg0, argS, ofConst, ofCell, Nat.reduceEqDiff, reduceIte] <;> rfl) (by decide) ?_
  refine ro_nil ?_
  try simp only
  have hl1 : AI.look (setHp (AI.hf []) 0 (.cells 1 (mcells m L D))) 0 1 = some (mcells m L D) := look_same _ _ _ _
  show EX _ _ _ _ _ 75 _ _ (setHp (AI.hf []) 0 (.cells 1 (mcells m L D))) _ _
  generalize setHp (AI.hf []) 0 (.cells 1 (mcells m L D)) = hp1 at hl1 ⊢
  have hwhole : ∀ {hp : Hp} {m : M} {L D : AV}, m.key.length = 32 → AI.look hp 0 1 = some (mcells m L D) → loadA Try.prog hp 30 (.ptr 0 1 0) = some (.agg (mcells m L D)) := fun {hp m L D} hk hl => by
    rw [loadN ag30 sz30 hl (by rw [mc_length hk]; omega), List.drop_zero, List.take_of_length_le (by rw [mc_length hk]; omega)]
  refine ex_seq (ex_seq (ex_region ?_))
  refine ro_pure (f := 9) («as» := []) rfl rfl rfl (show orS facts _ _ 9 [] = some (.pv (.bool true)) from rfl) (by decide) ?_
  refine ro_un (by simp only [evalF, upd, arg0, argS, ofConst, ofCell, Nat.reduceEqDiff, reduceIte] <;> rfl) (by exact (show unOpA .not (.pv (.bool true)) = some (.pv (.bool false)) from rfl)) (by decide) ?_
  refine ro_nil ?_
  try simp only
  refine ex_cond (t := false) (by simp only [evalF, upd, arg0, argS, ofConst, ofCell, Nat.reduceEqDiff, reduceIte] <;> rfl) (fun h => by simp at h) (fun _ => ex_skip ?_)
  try simp only
  refine ex_seq (ex_seq (ex_region ?_))
  refine ro_load (by simp only [evalF, upd, arg0, argS, ofConst, ofCell, Nat.reduceEqDiff, reduceIte] <;> rfl) (by exact (hwhole hk hl1)) (by decide) ?_
  refine ro_pure (f := 12) («as» := [.agg (mcells m L D)]) rfl (by simp [evalF, upd]) rfl (show orS facts _ _ 12 _ = _ from by unfold orS facts; exact few_calls facts plains 10000 18 hk hL hD hLo hDo _) (by decide) ?_
  refine ro_un (by simp only [evalF, upd, arg0, argS, ofConst, ofCell, Nat.reduceEqDiff, reduceIte] <;> rfl) (by exact (show unOpA .not (.pv (.bool (fewM m))) = some (.pv (.bool (!fewM m))) from rfl)) (by decide) ?_
  refine ro_nil ?_
  try simp only
  refine ex_cond (t := !fewM m) (by simp only [evalF, upd, arg0, argS, ofConst, ofCell, Nat.reduceEqDiff, reduceIte] <;> rfl) (fun hfw => ?_) (fun hfw => ?_)
  · refine ex_seq (ex_region ?_)
    refine ro_assign (by simp only [evalF, upd, arg0, argS, ofConst, ofCell, Nat.reduceEqDiff, reduceIte] <;> rfl) (by decide) ?_
    refine ro_nil ?_
    try simp only
    refine ex_ret ?_
    exact ⟨_, rfl, by simp [upd]⟩
  refine ex_skip ?_
  try simp only
  obtain ⟨hd8, hl50⟩ := few_data (show fewM m = true by simpa using hfw)
  have hgf := fit_good hf
  have hgk := hgf.key
  refine ex_seq (ex_region ?_)
  refine ro_load (by simp only [evalF, upd, arg0, argS, ofConst, ofCell, Nat.reduceEqDiff, reduceIte] <;> rfl) (by exact (hwhole hk hl1)) (by decide) ?_
  refine ro_good 18 hf (row_any hL hLo) (row_any hD hDo) hLo hDo (by omega) (by omega) (by omega) (by simp only [evalF, upd, arg0, argS, ofConst, ofCell, Nat.reduceEqDiff, reduceIte] <;> rfl) (by decide) ?_
  intro L' D' hp2 nb2 hL2 hD2 hDo2 hLo2 ha2
  have hl2 : AI.look hp2 0 1 = some (mcells m L D) := by rw [look_at 1 (ha2.2.1 0 (by omega) (by simp [ownOf]))]; exact hl1
  refine ro_store (v := .agg (mcells (goodM m) L' D')) (by simp only [evalF, upd, arg0, argS, ofConst, ofCell, Nat.reduceEqDiff, reduceIte] <;> rfl) (by simp only [evalF, upd, arg0, argS, ofConst, ofCell, Nat.reduceEqDiff, reduceIte] <;> rfl) (storeN sz30 hl2 (mc_all (row_cell hL2).1 (row_cell hD2).1) (mc_length hgk) (by rw [mc_length hk]; omega)) ?_
  rw [splice_all hk hgk]
  refine ro_nil ?_
  try simp only
  have hl3 : AI.look (setHp hp2 0 (.cells 1 (mcells (goodM m) L' D'))) 0 1 = some (mcells (goodM m) L' D') := look_same _ _ _ _
  have hL3 : Row (setHp hp2 0 (.cells 1 (mcells (goodM m) L' D'))) nb2 L' (ints (goodM m).list) := hL2.keep (Nat.le_refl _) (fun id hid ho => by have := hLo2 id ho; simp [setHp, show id ≠ 0 by omega])
  have hD3 : Row (setHp hp2 0 (.cells 1 (mcells (goodM m) L' D'))) nb2 D' (u8s (goodM m).data) := row_any hD2 hDo2
  generalize setHp hp2 0 (.cells 1 (mcells (goodM m) L' D')) = hp3 at hl3 hL3 hD3 ⊢
  have hnb2 := ha2.1
  refine ex_seq (ex_region ?_)
  refine ro_load (by simp only [evalF, upd, arg0, argS, ofConst, ofCell, Nat.reduceEqDiff, reduceIte] <;> rfl) (by exact (hwhole hgk hl3)) (by decide) ?_
  refine ro_encode 15 hgf hL3 hD3 (by omega) (by simp only [evalF, upd, arg0, argS, ofConst, ofCell, Nat.reduceEqDiff, reduceIte] <;> rfl) (by decide) ?_
  rintro v hp4 nb4 ⟨ha4, hres⟩
  obtain ⟨r, hE, hlen⟩ := enc_good m hk
  rw [hE] at hres
  obtain ⟨b', rfl, hgb, _⟩ := hres
  have hl4 : AI.look hp4 0 1 = some (mcells (goodM m) L' D') := by rw [look_at 1 (ha4.2.1 0 (by omega) (by simp [ownOf]))]; exact hl3
  have hL4 : Row hp4 nb4 L' (ints (goodM m).list) := hL3.keep ha4.1 (fun id hid _ => ha4.2.1 id hid (by simp [ownOf]))
  have hD4 : Row hp4 nb4 D' (u8s (goodM m).data) := row_any hD3 hDo2
  refine ro_move (by simp only [evalF, upd, arg0, argS, ofConst, ofCell, Nat.reduceEqDiff, reduceIte] <;> rfl) (by decide) ?_
  refine ro_extract (by simp only [evalF, upd, arg0, argS, ofConst, ofCell, Nat.reduceEqDiff, reduceIte] <;> rfl) (by exact (rfl)) (by decide) ?_
  refine ro_extract (by simp only [evalF, upd, arg0, argS, ofConst, ofCell, Nat.reduceEqDiff, reduceIte] <;> rfl) (by exact (rfl)) (by decide) ?_
  refine ro_assign (by simp only [evalF, upd, arg0, argS, ofConst, ofCell, Nat.reduceEqDiff, reduceIte] <;> rfl) (by decide) ?_
  refine ro_assign (by simp only [evalF, upd, arg0, argS, ofConst, ofCell, Nat.reduceEqDiff, reduceIte] <;> rfl) (by decide) ?_
  refine ro_nil ?_
  try simp only
  refine ex_seq (ex_region ?_)
  refine ro_assign (by simp only [evalF, upd, arg0, argS, ofConst, ofCell, Nat.reduceEqDiff, reduceIte] <;> rfl) (by decide) ?_
  refine ro_nil ?_
  try simp only
  have k0 := Int.emod_nonneg m.kind (show (12 : Int) ≠ 0 by omega)
  have k1 := Int.emod_lt_of_pos m.kind (show (0 : Int) < 12 by omega)
  have hkd : (goodM m).kind = 1 + m.kind % 12 := rfl
  have hll : (goodM m).list.length ≤ 10 := by simp [goodM]; omega
  have hdl : (goodM m).data.length ≤ 6000 := by simp [goodM]; omega
  refine ex_seq (ex_weaken (K := fun xa g' hp' nb' => xa = .normal ∧ g' 1 = .ptr 0 1 0 ∧ g' 3 = b' ∧ g' 4 = .pv (.int .i64 0) ∧ g' 5 = .pv (.int .i64 (lenOf (goodM m))) ∧ hp' = hp4) ?_ ?_)
  · refine ex_seq (ex_region ?_)
    refine ro_fieldAddr (by simp only [evalF, upd, arg0, argS, ofConst, ofCell, Nat.reduceEqDiff, reduceIte] <;> rfl) (by exact (fa30_0 _ _ _)) (by decide) ?_
    refine ro_load (by simp only [evalF, upd, arg0, argS, ofConst, ofCell, Nat.reduceEqDiff, reduceIte] <;> rfl) (by exact (load1 ag3 hl4 mc0)) (by decide) ?_
    refine ro_nil ?_
    try simp only
    refine ex_block ?_
    refine ex_seq (ex_seq (ex_region ?_))
    refine ro_bin (by simp only [evalF, upd, arg0, argS, ofConst, ofCell, Nat.reduceEqDiff, reduceIte] <;> rfl) (by simp only [evalF, upd, arg0, argS, ofConst, ofCell, Nat.reduceEqDiff, reduceIte] <;> rfl) (by exact (eql_v)) (by decide) ?_
    refine ro_assign (by simp only [evalF, upd, arg0, argS, ofConst, ofCell, Nat.reduceEqDiff, reduceIte] <;> rfl) (by decide) ?_
    refine ro_nil ?_
    try simp only
    refine ex_cond (t := (goodM m).kind == 2) (by simp only [evalF, upd, arg0, argS, ofConst, ofCell, Nat.reduceEqDiff, reduceIte] <;> rfl) (fun ht => ?_) (fun ht => ?_)
    · refine ex_skip ?_
      try simp only
      refine ex_cond (t := (goodM m).kind == 2) (by simp only [evalF, upd, arg0, argS, ofConst, ofCell, Nat.reduceEqDiff, reduceIte] <;> rfl) (fun ht => ?_) (fun h2 => by rw [ht] at h2; simp at h2)
      refine ex_region ?_
      refine ro_fieldAddr (by simp only [evalF, upd, arg0, argS, ofConst, ofCell, Nat.reduceEqDiff, reduceIte] <;> rfl) (by exact (fa30_3 _ _ _)) (by decide) ?_
      refine ro_load (by simp only [evalF, upd, arg0, argS, ofConst, ofCell, Nat.reduceEqDiff, reduceIte] <;> rfl) (by exact (load1 ag24 hl4 mc3)) (by decide) ?_
      refine ro_builtin rfl (by simp only [List.map_cons, List.map_nil, evalF, upd, arg0, argS, ofConst, ofCell, Nat.reduceEqDiff, reduceIte] <;> rfl) (by exact (row_len st24 hL4)) (by decide) ?_
      refine ro_bin (by simp only [evalF, upd, arg0, argS, ofConst, ofCell, Nat.reduceEqDiff, reduceIte] <;> rfl) (by simp only [evalF, upd, arg0, argS, ofConst, ofCell, Nat.reduceEqDiff, reduceIte] <;> rfl) (by exact (add_v (by simp [ints]; omega))) (by decide) ?_
      refine ro_assign (by simp only [evalF, upd, arg0, argS, ofConst, ofCell, Nat.reduceEqDiff, reduceIte] <;> rfl) (by decide) ?_
      refine ro_nil ?_
      refine ⟨by first | rfl | trivial, by simp [upd, argsF], by simp [upd], by simp [upd], ?_, rfl⟩
      simp only [upd, Nat.reduceEqDiff, reduceIte]
      have hkk : (goodM m).kind = 2 := by simpa using ht
      simp [lenOf, hkk, ints, u8s]
    have n2 : (goodM m).kind ≠ 2 := by simpa using ht
    refine ex_region ?_
    refine ro_bin (by simp only [evalF, upd, arg0, argS, ofConst, ofCell, Nat.reduceEqDiff, reduceIte] <;> rfl) (by simp only [evalF, upd, arg0, argS, ofConst, ofCell, Nat.reduceEqDiff, reduceIte] <;> rfl) (by exact (eql_v)) (by decide) ?_
    refine ro_assign (by simp only [evalF, upd, arg0, argS, ofConst, ofCell, Nat.reduceEqDiff, reduceIte] <;> rfl) (by decide) ?_
    refine ro_nil ?_
    try simp only
    refine ex_cond (t := (goodM m).kind == 6) (by simp only [evalF, upd, arg0, argS, ofConst, ofCell, Nat.reduceEqDiff, reduceIte] <;> rfl) (fun ht => ?_) (fun ht => ?_)
    · refine ex_region ?_
      refine ro_fieldAddr (by simp only [evalF, upd, arg0, argS, ofConst, ofCell, Nat.reduceEqDiff, reduceIte] <;> rfl) (by exact (fa30_3 _ _ _)) (by decide) ?_
      refine ro_load (by simp only [evalF, upd, arg0, argS, ofConst, ofCell, Nat.reduceEqDiff, reduceIte] <;> rfl) (by exact (load1 ag24 hl4 mc3)) (by decide) ?_
      refine ro_builtin rfl (by simp only [List.map_cons, List.map_nil, evalF, upd, arg0, argS, ofConst, ofCell, Nat.reduceEqDiff, reduceIte] <;> rfl) (by exact (row_len st24 hL4)) (by decide) ?_
      refine ro_bin (by simp only [evalF, upd, arg0, argS, ofConst, ofCell, Nat.reduceEqDiff, reduceIte] <;> rfl) (by simp only [evalF, upd, arg0, argS, ofConst, ofCell, Nat.reduceEqDiff, reduceIte] <;> rfl) (by exact (add_v (by simp [ints]; omega))) (by decide) ?_
      refine ro_assign (by simp only [evalF, upd, arg0, argS, ofConst, ofCell, Nat.reduceEqDiff, reduceIte] <;> rfl) (by decide) ?_
      refine ro_nil ?_
      refine ⟨by first | rfl | trivial, by simp [upd, argsF], by simp [upd], by simp [upd], ?_, rfl⟩
      simp only [upd, Nat.reduceEqDiff, reduceIte]
      have hkk : (goodM m).kind = 6 := by simpa using ht
      simp [lenOf, hkk, ints, u8s]
    have n6 : (goodM m).kind ≠ 6 := by simpa using ht
    refine ex_seq (ex_seq (ex_region ?_))
    refine ro_bin (by simp only [evalF, upd, arg0, argS, ofConst, ofCell, Nat.reduceEqDiff, reduceIte] <;> rfl) (by simp only [evalF, upd, arg0, argS, ofConst, ofCell, Nat.reduceEqDiff, reduceIte] <;> rfl) (by exact (eql_v)) (by decide) ?_
    refine ro_assign (by simp only [evalF, upd, arg0, argS, ofConst, ofCell, Nat.reduceEqDiff, reduceIte] <;> rfl) (by decide) ?_
    refine ro_nil ?_
    try simp only
    refine ex_cond (t := (goodM m).kind == 3) (by simp only [evalF, upd, arg0, argS, ofConst, ofCell, Nat.reduceEqDiff, reduceIte] <;> rfl) (fun ht => ?_) (fun ht => ?_)
    · refine ex_skip ?_
      try simp only
      refine ex_cond (t := (goodM m).kind == 3) (by simp only [evalF, upd, arg0, argS, ofConst, ofCell, Nat.reduceEqDiff, reduceIte] <;> rfl) (fun ht => ?_) (fun h2 => by rw [ht] at h2; simp at h2)
      refine ex_region ?_
      refine ro_assign (by simp only [evalF, upd, arg0, argS, ofConst, ofCell, Nat.reduceEqDiff, reduceIte] <;> rfl) (by decide) ?_
      refine ro_nil ?_
      refine ⟨by first | rfl | trivial, by simp [upd, argsF], by simp [upd], by simp [upd], ?_, rfl⟩
      simp only [upd, Nat.reduceEqDiff, reduceIte]
      have hkk : (goodM m).kind = 3 := by simpa using ht
      simp [lenOf, hkk, ints, u8s]
    have n3 : (goodM m).kind ≠ 3 := by simpa using ht
    refine ex_region ?_
    refine ro_bin (by simp only [evalF, upd, arg0, argS, ofConst, ofCell, Nat.reduceEqDiff, reduceIte] <;> rfl) (by simp only [evalF, upd, arg0, argS, ofConst, ofCell, Nat.reduceEqDiff, reduceIte] <;> rfl) (by exact (eql_v)) (by decide) ?_
    refine ro_assign (by simp only [evalF, upd, arg0, argS, ofConst, ofCell, Nat.reduceEqDiff, reduceIte] <;> rfl) (by decide) ?_
    refine ro_nil ?_
    try simp only
    refine ex_cond (t := (goodM m).kind == 4) (by simp only [evalF, upd, arg0, argS, ofConst, ofCell, Nat.reduceEqDiff, reduceIte] <;> rfl) (fun ht => ?_) (fun ht => ?_)
    · refine ex_region ?_
      refine ro_assign (by simp only [evalF, upd, arg0, argS, ofConst, ofCell, Nat.reduceEqDiff, reduceIte] <;> rfl) (by decide) ?_
      refine ro_nil ?_
      refine ⟨by first | rfl | trivial, by simp [upd, argsF], by simp [upd], by simp [upd], ?_, rfl⟩
      simp only [upd, Nat.reduceEqDiff, reduceIte]
      have hkk : (goodM m).kind = 4 := by simpa using ht
      simp [lenOf, hkk, ints, u8s]
    have n4 : (goodM m).kind ≠ 4 := by simpa using ht
    refine ex_seq (ex_seq (ex_region ?_))
    refine ro_bin (by simp only [evalF, upd, arg0, argS, ofConst, ofCell, Nat.reduceEqDiff, reduceIte] <;> rfl) (by simp only [evalF, upd, arg0, argS, ofConst, ofCell, Nat.reduceEqDiff, reduceIte] <;> rfl) (by exact (eql_v)) (by decide) ?_
    refine ro_assign (by simp only [evalF, upd, arg0, argS, ofConst, ofCell, Nat.reduceEqDiff, reduceIte] <;> rfl) (by decide) ?_
    refine ro_nil ?_
    try simp only
    refine ex_cond (t := (goodM m).kind == 5) (by simp only [evalF, upd, arg0, argS, ofConst, ofCell, Nat.reduceEqDiff, reduceIte] <;> rfl) (fun ht => ?_) (fun ht => ?_)
    · refine ex_skip ?_
      try simp only
      refine ex_cond (t := (goodM m).kind == 5) (by simp only [evalF, upd, arg0, argS, ofConst, ofCell, Nat.reduceEqDiff, reduceIte] <;> rfl) (fun ht => ?_) (fun h2 => by rw [ht] at h2; simp at h2)
      refine ex_region ?_
      refine ro_assign (by simp only [evalF, upd, arg0, argS, ofConst, ofCell, Nat.reduceEqDiff, reduceIte] <;> rfl) (by decide) ?_
      refine ro_nil ?_
      refine ⟨by first | rfl | trivial, by simp [upd, argsF], by simp [upd], by simp [upd], ?_, rfl⟩
      simp only [upd, Nat.reduceEqDiff, reduceIte]
      have hkk : (goodM m).kind = 5 := by simpa using ht
      simp [lenOf, hkk]
    have n5 : (goodM m).kind ≠ 5 := by simpa using ht
    refine ex_seq (ex_region ?_)
    refine ro_bin (by simp only [evalF, upd, arg0, argS, ofConst, ofCell, Nat.reduceEqDiff, reduceIte] <;> rfl) (by simp only [evalF, upd, arg0, argS, ofConst, ofCell, Nat.reduceEqDiff, reduceIte] <;> rfl) (by exact (eql_v)) (by decide) ?_
    refine ro_assign (by simp only [evalF, upd, arg0, argS, ofConst, ofCell, Nat.reduceEqDiff, reduceIte] <;> rfl) (by decide) ?_
    refine ro_nil ?_
    try simp only
    refine ex_cond (t := (goodM m).kind == 7) (by simp only [evalF, upd, arg0, argS, ofConst, ofCell, Nat.reduceEqDiff, reduceIte] <;> rfl) (fun ht => ?_) (fun ht => ?_)
    · refine ex_skip ?_
      try simp only
      refine ex_cond (t := (goodM m).kind == 7) (by simp only [evalF, upd, arg0, argS, ofConst, ofCell, Nat.reduceEqDiff, reduceIte] <;> rfl) (fun ht => ?_) (fun h2 => by rw [ht] at h2; simp at h2)
      refine ex_region ?_
      refine ro_assign (by simp only [evalF, upd, arg0, argS, ofConst, ofCell, Nat.reduceEqDiff, reduceIte] <;> rfl) (by decide) ?_
      refine ro_nil ?_
      refine ⟨by first | rfl | trivial, by simp [upd, argsF], by simp [upd], by simp [upd], ?_, rfl⟩
      simp only [upd, Nat.reduceEqDiff, reduceIte]
      have hkk : (goodM m).kind = 7 := by simpa using ht
      simp [lenOf, hkk]
    have n7 : (goodM m).kind ≠ 7 := by simpa using ht
    refine ex_region ?_
    refine ro_bin (by simp only [evalF, upd, arg0, argS, ofConst, ofCell, Nat.reduceEqDiff, reduceIte] <;> rfl) (by simp only [evalF, upd, arg0, argS, ofConst, ofCell, Nat.reduceEqDiff, reduceIte] <;> rfl) (by exact (eql_v)) (by decide) ?_
    refine ro_assign (by simp only [evalF, upd, arg0, argS, ofConst, ofCell, Nat.reduceEqDiff, reduceIte] <;> rfl) (by decide) ?_
    refine ro_nil ?_
    try simp only
    refine ex_cond (t := (goodM m).kind == 11) (by simp only [evalF, upd, arg0, argS, ofConst, ofCell, Nat.reduceEqDiff, reduceIte] <;> rfl) (fun ht => ?_) (fun ht => ?_)
    · refine ex_region ?_
      refine ro_assign (by simp only [evalF, upd, arg0, argS, ofConst, ofCell, Nat.reduceEqDiff, reduceIte] <;> rfl) (by decide) ?_
      refine ro_nil ?_
      refine ⟨by first | rfl | trivial, by simp [upd, argsF], by simp [upd], by simp [upd], ?_, rfl⟩
      simp only [upd, Nat.reduceEqDiff, reduceIte]
      have hkk : (goodM m).kind = 11 := by simpa using ht
      simp [lenOf, hkk]
    have n11 : (goodM m).kind ≠ 11 := by simpa using ht
    refine ex_seq (ex_region ?_)
    refine ro_bin (by simp only [evalF, upd, arg0, argS, ofConst, ofCell, Nat.reduceEqDiff, reduceIte] <;> rfl) (by simp only [evalF, upd, arg0, argS, ofConst, ofCell, Nat.reduceEqDiff, reduceIte] <;> rfl) (by exact (eql_v)) (by decide) ?_
    refine ro_assign (by simp only [evalF, upd, arg0, argS, ofConst, ofCell, Nat.reduceEqDiff, reduceIte] <;> rfl) (by decide) ?_
    refine ro_nil ?_
    try simp only
    refine ex_cond (t := (goodM m).kind == 8) (by simp only [evalF, upd, arg0, argS, ofConst, ofCell, Nat.reduceEqDiff, reduceIte] <;> rfl) (fun ht => ?_) (fun ht => ?_)
    · refine ex_region ?_
      refine ro_fieldAddr (by simp only [evalF, upd, arg0, argS, ofConst, ofCell, Nat.reduceEqDiff, reduceIte] <;> rfl) (by exact (fa30_6 _ _ _)) (by decide) ?_
      refine ro_load (by simp only [evalF, upd, arg0, argS, ofConst, ofCell, Nat.reduceEqDiff, reduceIte] <;> rfl) (by exact (load1 ag27 hl4 (mc37 hgk))) (by decide) ?_
      refine ro_builtin rfl (by simp only [List.map_cons, List.map_nil, evalF, upd, arg0, argS, ofConst, ofCell, Nat.reduceEqDiff, reduceIte] <;> rfl) (by exact (row_len st27 hD4)) (by decide) ?_
      refine ro_bin (by simp only [evalF, upd, arg0, argS, ofConst, ofCell, Nat.reduceEqDiff, reduceIte] <;> rfl) (by simp only [evalF, upd, arg0, argS, ofConst, ofCell, Nat.reduceEqDiff, reduceIte] <;> rfl) (by exact (add_v (by simp [u8s]; omega))) (by decide) ?_
      refine ro_assign (by simp only [evalF, upd, arg0, argS, ofConst, ofCell, Nat.reduceEqDiff, reduceIte] <;> rfl) (by decide) ?_
      refine ro_nil ?_
      refine ⟨by first | rfl | trivial, by simp [upd, argsF], by simp [upd], by simp [upd], ?_, rfl⟩
      simp only [upd, Nat.reduceEqDiff, reduceIte]
      have hkk : (goodM m).kind = 8 := by simpa using ht
      simp [lenOf, hkk, ints, u8s]
    have n8 : (goodM m).kind ≠ 8 := by simpa using ht
    refine ex_seq (ex_region ?_)
    refine ro_bin (by simp only [evalF, upd, arg0, argS, ofConst, ofCell, Nat.reduceEqDiff, reduceIte] <;> rfl) (by simp only [evalF, upd, arg0, argS, ofConst, ofCell, Nat.reduceEqDiff, reduceIte] <;> rfl) (by exact (eql_v)) (by decide) ?_
    refine ro_assign (by simp only [evalF, upd, arg0, argS, ofConst, ofCell, Nat.reduceEqDiff, reduceIte] <;> rfl) (by decide) ?_
    refine ro_nil ?_
    try simp only
    refine ex_cond (t := (goodM m).kind == 9) (by simp only [evalF, upd, arg0, argS, ofConst, ofCell, Nat.reduceEqDiff, reduceIte] <;> rfl) (fun ht => ?_) (fun ht => ?_)
    · refine ex_region ?_
      refine ro_fieldAddr (by simp only [evalF, upd, arg0, argS, ofConst, ofCell, Nat.reduceEqDiff, reduceIte] <;> rfl) (by exact (fa30_6 _ _ _)) (by decide) ?_
      refine ro_load (by simp only [evalF, upd, arg0, argS, ofConst, ofCell, Nat.reduceEqDiff, reduceIte] <;> rfl) (by exact (load1 ag27 hl4 (mc37 hgk))) (by decide) ?_
      refine ro_builtin rfl (by simp only [List.map_cons, List.map_nil, evalF, upd, arg0, argS, ofConst, ofCell, Nat.reduceEqDiff, reduceIte] <;> rfl) (by exact (row_len st27 hD4)) (by decide) ?_
      refine ro_bin (by simp only [evalF, upd, arg0, argS, ofConst, ofCell, Nat.reduceEqDiff, reduceIte] <;> rfl) (by simp only [evalF, upd, arg0, argS, ofConst, ofCell, Nat.reduceEqDiff, reduceIte] <;> rfl) (by exact (add_v (by simp [u8s]; omega))) (by decide) ?_
      refine ro_assign (by simp only [evalF, upd, arg0, argS, ofConst, ofCell, Nat.reduceEqDiff, reduceIte] <;> rfl) (by decide) ?_
      refine ro_nil ?_
      refine ⟨by first | rfl | trivial, by simp [upd, argsF], by simp [upd], by simp [upd], ?_, rfl⟩
      simp only [upd, Nat.reduceEqDiff, reduceIte]
      have hkk : (goodM m).kind = 9 := by simpa using ht
      simp [lenOf, hkk, ints, u8s]
    have n9 : (goodM m).kind ≠ 9 := by simpa using ht
    refine ex_seq (ex_region ?_)
    refine ro_bin (by simp only [evalF, upd, arg0, argS, ofConst, ofCell, Nat.reduceEqDiff, reduceIte] <;> rfl) (by simp only [evalF, upd, arg0, argS, ofConst, ofCell, Nat.reduceEqDiff, reduceIte] <;> rfl) (by exact (eql_v)) (by decide) ?_
    refine ro_assign (by simp only [evalF, upd, arg0, argS, ofConst, ofCell, Nat.reduceEqDiff, reduceIte] <;> rfl) (by decide) ?_
    refine ro_nil ?_
    try simp only
    refine ex_cond (t := (goodM m).kind == 10) (by simp only [evalF, upd, arg0, argS, ofConst, ofCell, Nat.reduceEqDiff, reduceIte] <;> rfl) (fun ht => ?_) (fun ht => ?_)
    · refine ex_region ?_
      refine ro_fieldAddr (by simp only [evalF, upd, arg0, argS, ofConst, ofCell, Nat.reduceEqDiff, reduceIte] <;> rfl) (by exact (fa30_6 _ _ _)) (by decide) ?_
      refine ro_load (by simp only [evalF, upd, arg0, argS, ofConst, ofCell, Nat.reduceEqDiff, reduceIte] <;> rfl) (by exact (load1 ag27 hl4 (mc37 hgk))) (by decide) ?_
      refine ro_builtin rfl (by simp only [List.map_cons, List.map_nil, evalF, upd, arg0, argS, ofConst, ofCell, Nat.reduceEqDiff, reduceIte] <;> rfl) (by exact (row_len st27 hD4)) (by decide) ?_
      refine ro_bin (by simp only [evalF, upd, arg0, argS, ofConst, ofCell, Nat.reduceEqDiff, reduceIte] <;> rfl) (by simp only [evalF, upd, arg0, argS, ofConst, ofCell, Nat.reduceEqDiff, reduceIte] <;> rfl) (by exact (add_v (by simp [u8s]; omega))) (by decide) ?_
      refine ro_assign (by simp only [evalF, upd, arg0, argS, ofConst, ofCell, Nat.reduceEqDiff, reduceIte] <;> rfl) (by decide) ?_
      refine ro_nil ?_
      refine ⟨by first | rfl | trivial, by simp [upd, argsF], by simp [upd], by simp [upd], ?_, rfl⟩
      simp only [upd, Nat.reduceEqDiff, reduceIte]
      have hkk : (goodM m).kind = 10 := by simpa using ht
      simp [lenOf, hkk, ints, u8s]
    have n10 : (goodM m).kind ≠ 10 := by simpa using ht
    refine ex_seq (ex_region ?_)
    refine ro_bin (by simp only [evalF, upd, arg0, argS, ofConst, ofCell, Nat.reduceEqDiff, reduceIte] <;> rfl) (by simp only [evalF, upd, arg0, argS, ofConst, ofCell, Nat.reduceEqDiff, reduceIte] <;> rfl) (by exact (eql_v)) (by decide) ?_
    refine ro_assign (by simp only [evalF, upd, arg0, argS, ofConst, ofCell, Nat.reduceEqDiff, reduceIte] <;> rfl) (by decide) ?_
    refine ro_nil ?_
    try simp only
    refine ex_cond (t := (goodM m).kind == 12) (by simp only [evalF, upd, arg0, argS, ofConst, ofCell, Nat.reduceEqDiff, reduceIte] <;> rfl) (fun ht => ?_) (fun ht => ?_)
    · refine ex_region ?_
      refine ro_fieldAddr (by simp only [evalF, upd, arg0, argS, ofConst, ofCell, Nat.reduceEqDiff, reduceIte] <;> rfl) (by exact (fa30_6 _ _ _)) (by decide) ?_
      refine ro_load (by simp only [evalF, upd, arg0, argS, ofConst, ofCell, Nat.reduceEqDiff, reduceIte] <;> rfl) (by exact (load1 ag27 hl4 (mc37 hgk))) (by decide) ?_
      refine ro_builtin rfl (by simp only [List.map_cons, List.map_nil, evalF, upd, arg0, argS, ofConst, ofCell, Nat.reduceEqDiff, reduceIte] <;> rfl) (by exact (row_len st27 hD4)) (by decide) ?_
      refine ro_bin (by simp only [evalF, upd, arg0, argS, ofConst, ofCell, Nat.reduceEqDiff, reduceIte] <;> rfl) (by simp only [evalF, upd, arg0, argS, ofConst, ofCell, Nat.reduceEqDiff, reduceIte] <;> rfl) (by exact (add_v (by simp [u8s]; omega))) (by decide) ?_
      refine ro_assign (by simp only [evalF, upd, arg0, argS, ofConst, ofCell, Nat.reduceEqDiff, reduceIte] <;> rfl) (by decide) ?_
      refine ro_nil ?_
      refine ⟨by first | rfl | trivial, by simp [upd, argsF], by simp [upd], by simp [upd], ?_, rfl⟩
      simp only [upd, Nat.reduceEqDiff, reduceIte]
      have hkk : (goodM m).kind = 12 := by simpa using ht
      simp [lenOf, hkk, ints, u8s]
    have n12 : (goodM m).kind ≠ 12 := by simpa using ht
    refine ex_skip ?_
    refine ⟨by first | rfl | trivial, by simp [upd, argsF], by simp [upd], by simp [upd], ?_, rfl⟩
    have hkk : (goodM m).kind = 1 := by omega
    simp [upd, lenOf, hkk]
  rintro xa g5 hp5 nb5 ⟨rfl, h1, h3, h4, h5, hx⟩
  rw [hx]
  clear hx hp5
  try simp only
  have hu : (u8s ((goodM m).kind :: r)).length = r.length + 1 := by simp [u8s]
  have hrow := hgb.row
  obtain ⟨a, ha, hla⟩ := row_at st27 hrow (i := 0) (x := .int .u8 (goodM m).kind) rfl
  refine ex_seq (ex_draw lenStat ?_)
  refine rd_val (v := .pv (.int .i64 0)) rfl (by simp [primA, evalF, upd, h4]) (by decide) ?_
  refine rd_val (v := .pv (.bool true)) rfl (by simp only [primA, evalF, upd, ofConst, ofCell, Nat.reduceEqDiff, reduceIte]; rw [show binOpA Try.prog .eql 28 (.pv (.int .i64 0)) (.pv (.int .i64 0)) = some (.pv (.bool true)) from eql_t rfl]; rfl) (by decide) ?_
  refine rd_val (v := .pv (.bool true)) rfl (by simp [primA, evalF, upd]) (by decide) ?_
  refine rd_gval (b := true) (v := b') rfl (by simp [upd]) rfl rfl (by simp [primA, evalF, upd, h3]) (by decide) ?_
  refine rd_gval (b := true) (v := .pv (.int .i64 (lenOf (goodM m)))) rfl (by simp [upd]) rfl rfl (by simp only [primA, List.map_cons, List.map_nil, evalF, upd, Nat.reduceEqDiff, reduceIte]; rw [row_len st27 hrow, hu, ← hlen]; rfl) (by decide) ?_
  refine rd_gval (b := true) (v := .pv (.int .i64 (lenOf (goodM m)))) rfl (by simp [upd]) rfl rfl (by simp [primA, evalF, upd, h5]) (by decide) ?_
  refine rd_gval (b := true) (v := .pv (.bool true)) rfl (by simp [upd]) rfl rfl (by simp only [primA, evalF, upd, Nat.reduceEqDiff, reduceIte, eql_t rfl, Option.map_some]) (by decide) ?_
  refine rd_val (v := .pv (.bool true)) rfl (by simp [primA, evalF, upd]) (by decide) ?_
  refine rd_val (v := .pv (.bool true)) rfl (by simp [primA, evalF, upd]) (by decide) ?_
  refine rd_gval (b := true) (v := b') rfl (by simp [upd]) rfl rfl (by simp [primA, evalF, upd, h3]) (by decide) ?_
  refine rd_gval (b := true) (v := a) rfl (by simp [upd]) rfl rfl (by simp only [primA, evalF, upd, ofConst, ofCell, Nat.reduceEqDiff, reduceIte]; rw [show indexAddrA Try.prog 27 b' (.pv (.int .i64 0)) = some a from ha]; rfl) (by decide) ?_
  refine rd_gval (b := true) (v := .pv (.int .u8 (goodM m).kind)) rfl (by simp [upd]) rfl rfl (by simp only [primA, evalF, upd, Nat.reduceEqDiff, reduceIte, hla, Option.map_some]) (by decide) ?_
  refine rd_gval (b := true) (v := .pv (.int .i64 (goodM m).kind)) rfl (by simp [upd]) rfl rfl (by simp only [primA, evalF, upd, Nat.reduceEqDiff, reduceIte]; exact conv_53 _ (by omega) _ _) (by decide) ?_
  refine rd_gval (b := true) (v := .ptr 0 1 0) rfl (by simp [upd]) rfl rfl (by simp [primA, evalF, upd, h1, fa30_0]) (by decide) ?_
  refine rd_gval (b := true) (v := .pv (.int .i64 (goodM m).kind)) rfl (by simp [upd]) rfl rfl (by simp only [primA, evalF, upd, Nat.reduceEqDiff, reduceIte, load1 ag3 hl4 mc0, Option.map_some]) (by decide) ?_
  refine rd_gval (b := true) (v := .pv (.bool true)) rfl (by simp [upd]) rfl rfl (by simp only [primA, evalF, upd, Nat.reduceEqDiff, reduceIte, eql_t rfl, Option.map_some]) (by decide) ?_
  refine rd_val (v := .pv (.bool true)) rfl (by simp [primA, evalF, upd]) (by decide) ?_
  refine rd_val (v := .pv (.bool true)) rfl (by simp [primA, evalF, upd]) (by decide) ?_
  refine rd_nil ⟨rfl, ?_⟩
  try simp only
  refine ex_ret ?_
  exact ⟨_, rfl, by simp [upd]⟩
end Go.Proofs.Ytlinbbjobjnipaa
