/- Writing: a field. Printed by gen_field.py. -/
import Derived.Test.YtlinbbjobjnipaaF3
set_option linter.unusedVariables false
set_option linter.unusedSimpArgs false
set_option linter.unusedSectionVars false
namespace Go.Proofs.Ytlinbbjobjnipaa
open Go AI

set_option maxHeartbeats 4000000
set_option maxRecDepth 10000

theorem row_ok' {hp : Hp} {nb : Nat} {v : AV} {l : List PV} (r : Row hp nb v l) : okC nb v := by
  cases r with
  | own id ver off n mc xc cs l h hi => exact okC_slice hi
  | _ => exact okC_pv _ _

theorem ok_cells {nb : Nat} {m : M} {L D : AV} (hL : okC nb L) (hD : okC nb D) : ∀ c ∈ mcells m L D, okC nb c := by
  intro c hc
  simp only [mcells, List.mem_append, List.mem_cons, List.not_mem_nil, or_false, List.mem_map] at hc
  rcases hc with (rfl | rfl | rfl | rfl | rfl) | (⟨q, _, rfl⟩ | rfl | rfl | rfl) <;> first | exact okC_pv _ _ | assumption

theorem pvs_ok {nb : Nat} (l : List PV) : ∀ c ∈ l.map AV.pv, okC nb c := by
  intro c hc
  obtain ⟨q, _, rfl⟩ := List.mem_map.1 hc
  exact okC_pv _ _

theorem slice26 (id ver off : Nat) : sliceOpA Try.prog 26 (.ptr id ver off) none none none = some (.slice id ver (off + 0) 32 32 1 true) := by kernel_rfl

theorem grow_plain {hp : Hp} {nb : Nat} {v : AV} {l : List PV} (g : Grow hp nb v l) (h : l ≠ []) : plainV v = false := by
  cases g with
  | nil => exact absurd rfl h
  | own => rfl

theorem dataNeeds : needs (regOf Try.f20 25) = [(5, 7), (5, 8), (2, 9), (3, 9), (5, 9), (5, 13), (9, 13), (10, 13), (11, 13)] := by kernel_rfl
theorem dataStat : statOk (regOf Try.f20 25) = true := by kernel_rfl

theorem fieldE_7 (m : M) : fieldE m 7 = if m.lease < 1 ∨ m.lease > 1000 then .error 1 else .ok [u8 (m.lease / 16777216), u8 (m.lease / 65536), u8 (m.lease / 256), u8 m.lease] := rfl

/-- Bytes were built, then appended. -/
theorem wr_ok {hp hp1 hp2 : Hp} {nb nb1 nb2 : Nat} {b b' : AV} {bs x : List Int} {v : AV} (a1 : After hp nb b hp1 nb1) (a2 : After hp1 nb1 b hp2 nb2) (hg : Grow hp2 nb2 b' (u8s bs ++ u8s x)) (ho : ∀ id, ownOf b' = some id → ownOf b = some id ∨ nb1 ≤ id) (hv : v = .tuple [b', .pv (.int .i64 0)]) {r : Except Int (List Int)} (hr : r = .ok x) :
    WrOk b bs r hp nb v hp2 nb2 := by
  subst hr
  refine ⟨after_trans a1 a2 (fun id h => .inl h), b', hv, by rw [show u8s (bs ++ x) = u8s bs ++ u8s x by simp [u8s]]; exact hg, fun id h => ?_⟩
  rcases ho id h with h | h
  · exact .inl h
  · have := a1.1; exact .inr (by omega)

theorem field_0 (lim d : Nat) {hp : Hp} {nb : Nat} {b : AV} {bs : List Int} {m : M} {L D : AV} (hf : Fit m) (hg : Grow hp nb b (u8s bs)) (hbs : bs.length < 100000) (hL : Row hp nb L (ints m.list)) (hD : Row hp nb D (u8s m.data)) (hneL : ∀ id, ownOf L = some id → ownOf b ≠ some id) (hneD : ∀ id, ownOf D = some id → ownOf b ≠ some id) (hbn : bs ≠ []) (hlim : 10 < lim) :
    CA (callA Try.prog facts plains lim (d + 3)) 20 [b, .agg (mcells m L D), .pv (.int .i64 0)] hp nb (WrOk b bs (fieldE m 0) hp nb) := by
  have hk := hf.key
  refine ca_body (fn := Try.f20) (c := bodyOf Try.f20) Try.func20 rfl (by show 3 ≤ 125; omega) ?_
  show EX _ _ _ _ _ 125 _ _ _ _ _
  unfold bodyOf Try.f20
  refine ex_seq (ex_region ?_)
  refine ro_box (v := .agg (mcells m L D)) (by simp [evalF, argsF]) (mc_all (row_cell hL).1 (row_cell hD).1) (by decide) ?_
  refine ro_assign (by simp only [evalF, upd, arg0, argS, ofConst, ofCell, Nat.reduceEqDiff, reduceIte] <;> rfl) (by decide) ?_
  refine ro_assign (by simp only [evalF, upd, arg0, argS, ofConst, ofCell, Nat.reduceEqDiff, reduceIte] <;> rfl) (by decide) ?_
  refine ro_nil ?_
  try simp only
  have ha0 : After hp nb b (setHp hp nb (.cells 1 (mcells m L D))) (nb + 1) := after_new hp nb b _ (ok_cells (row_ok' hL) (row_ok' hD))
  have hl1 : AI.look (setHp hp nb (.cells 1 (mcells m L D))) nb 1 = some (mcells m L D) := look_same _ _ _ _
  have hkp : ∀ id, id < nb → setHp hp nb (.cells 1 (mcells m L D)) id = hp id := fun id hid => by simp [setHp, show id ≠ nb by omega]
  show EX _ _ _ _ _ 125 _ _ (setHp hp nb (.cells 1 (mcells m L D))) _ _
  generalize setHp hp nb (.cells 1 (mcells m L D)) = hp1 at ha0 hl1 hkp ⊢
  have hg1 : Grow hp1 (nb + 1) b (u8s bs) := hg.keep (Nat.le_succ _) (fun id hid _ => hkp id hid)
  have hL1 : Row hp1 (nb + 1) L (ints m.list) := hL.keep (Nat.le_succ _) (fun id hid _ => hkp id hid)
  have hD1 : Row hp1 (nb + 1) D (u8s m.data) := hD.keep (Nat.le_succ _) (fun id hid _ => hkp id hid)
  refine ex_seq ?_
  refine ex_seq (ex_region ?_)
  refine ro_move (by simp only [evalF, upd, arg0, argS, ofConst, ofCell, Nat.reduceEqDiff, reduceIte] <;> rfl) (by decide) ?_
  refine ro_nil ?_
  try simp only
  refine ex_block ?_
  refine ex_seq (ex_region ?_)
  refine ro_bin (by simp only [evalF, upd, arg0, argS, ofConst, ofCell, Nat.reduceEqDiff, reduceIte] <;> rfl) (by simp only [evalF, upd, arg0, argS, ofConst, ofCell, Nat.reduceEqDiff, reduceIte] <;> rfl) (by exact (eql_t rfl)) (by decide) ?_
  refine ro_assign (by simp only [evalF, upd, arg0, argS, ofConst, ofCell, Nat.reduceEqDiff, reduceIte] <;> rfl) (by decide) ?_
  refine ro_nil ?_
  try simp only
  refine ex_cond (t := true) (by simp only [evalF, upd, arg0, argS, ofConst, ofCell, Nat.reduceEqDiff, reduceIte] <;> rfl) (fun _ => ?_) (fun h => by simp at h)
  by_cases hpd : m.pred = -1
  · refine ex_seq (ex_seq (ex_region ?_))
    refine ro_fieldAddr (by simp only [evalF, upd, arg0, argS, ofConst, ofCell, Nat.reduceEqDiff, reduceIte] <;> rfl) (by exact (fa30_2 _ _ _)) (by decide) ?_
    refine ro_load (by simp only [evalF, upd, arg0, argS, ofConst, ofCell, Nat.reduceEqDiff, reduceIte] <;> rfl) (by exact (load1 ag3 hl1 (by simpa using mc2))) (by decide) ?_
    refine ro_bin (by simp only [evalF, upd, arg0, argS, ofConst, ofCell, Nat.reduceEqDiff, reduceIte] <;> rfl) (by simp only [evalF, upd, arg0, argS, ofConst, ofCell, Nat.reduceEqDiff, reduceIte] <;> rfl) (by exact (neq_f hpd)) (by decide) ?_
    refine ro_move (by simp only [evalF, upd, arg0, argS, ofConst, ofCell, Nat.reduceEqDiff, reduceIte] <;> rfl) (by decide) ?_
    refine ro_skip rfl (by simp only [evalF, upd, arg0, argS, ofConst, ofCell, Nat.reduceEqDiff, reduceIte] <;> rfl) rfl (fun e he => by cases he; decide) ?_
    simp only [putF]
    refine ro_skip rfl (by simp only [evalF, upd, arg0, argS, ofConst, ofCell, Nat.reduceEqDiff, reduceIte] <;> rfl) rfl (fun e he => by cases he; decide) ?_
    simp only [putF]
    refine ro_skip rfl (by simp only [evalF, upd, arg0, argS, ofConst, ofCell, Nat.reduceEqDiff, reduceIte] <;> rfl) rfl (fun e he => by cases he; decide) ?_
    simp only [putF]
    refine ro_skip rfl (by simp only [evalF, upd, arg0, argS, ofConst, ofCell, Nat.reduceEqDiff, reduceIte] <;> rfl) rfl (fun e he => by cases he; decide) ?_
    simp only [putF]
    refine ro_pick (by simp only [evalF, upd, arg0, argS, ofConst, ofCell, Nat.reduceEqDiff, reduceIte] <;> rfl) (by simp only [evalF, upd, arg0, argS, ofConst, ofCell, Nat.reduceEqDiff, reduceIte] <;> rfl) (by simp only [evalF, upd, arg0, argS, ofConst, ofCell, Nat.reduceEqDiff, reduceIte] <;> rfl) (by decide) ?_
    refine ro_nil ?_
    try simp only
    refine ex_cond (t := false) (by simp only [evalF, upd, arg0, argS, ofConst, ofCell, Nat.reduceEqDiff, reduceIte] <;> rfl) (fun h => by simp at h) (fun _ => ex_skip ?_)
    try simp only
    refine ex_seq (ex_region ?_)
    refine ro_move (by simp only [evalF, upd, arg0, argS, ofConst, ofCell, Nat.reduceEqDiff, reduceIte] <;> rfl) (by decide) ?_
    refine ro_fieldAddr (by simp only [evalF, upd, arg0, argS, ofConst, ofCell, Nat.reduceEqDiff, reduceIte] <;> rfl) (by exact (fa30_2 _ _ _)) (by decide) ?_
    refine ro_load (by simp only [evalF, upd, arg0, argS, ofConst, ofCell, Nat.reduceEqDiff, reduceIte] <;> rfl) (by exact (load1 ag3 hl1 (by simpa using mc2))) (by decide) ?_
    refine ro_conv (by simp only [evalF, upd, arg0, argS, ofConst, ofCell, Nat.reduceEqDiff, reduceIte] <;> rfl) (by exact (conv_u8 _ _)) (by decide) ?_
    refine ro_buildSlice rfl (by simp only [List.map_cons, List.map_nil, evalF, upd, ofConst, ofCell, Nat.reduceEqDiff, reduceIte]; exact bs27_1 _ _) (by decide) ?_
    refine ro_append (r := [.int .u8 (u8 m.pred)]) st27 Try.underlying27 (by simp only [evalF, upd, arg0, argS, ofConst, ofCell, Nat.reduceEqDiff, reduceIte] <;> rfl) (by simp only [evalF, upd, arg0, argS, ofConst, ofCell, Nat.reduceEqDiff, reduceIte] <;> rfl) (hg1.keep (Nat.le_succ _) (fun id hid _ => by simp [setHp, show id ≠ nb + 1 by omega])) (src_built rfl (by simp [setHp])) (by simp [u8s]; omega) (by decide) ?_
    intro b' hp' nb' hg' ha' ho'
    refine ro_assign (by simp only [evalF, upd, arg0, argS, ofConst, ofCell, Nat.reduceEqDiff, reduceIte] <;> rfl) (by decide) ?_
    refine ro_assign (by simp only [evalF, upd, arg0, argS, ofConst, ofCell, Nat.reduceEqDiff, reduceIte] <;> rfl) (by decide) ?_
    refine ro_nil ?_
    try simp only
    refine ex_ret ?_
    refine ⟨.tuple [b', .pv (.int .i64 0)], by simp [resF, resOneF, upd], wr_ok ha0 (after_trans (after_new hp1 (nb + 1) b [.pv (.int .u8 (u8 m.pred))] (pvs_ok [.int .u8 (u8 m.pred)])) ha' (fun id h => .inl h)) (x := [u8 m.pred]) (by simpa [u8s] using hg') (fun id h => (ho' id h).imp (fun h => h) (fun h => by omega)) rfl ?_⟩
    rw [fieldE, if_neg (fun h => h.1 hpd)]
  · refine ex_seq (ex_seq (ex_region ?_))
    refine ro_fieldAddr (by simp only [evalF, upd, arg0, argS, ofConst, ofCell, Nat.reduceEqDiff, reduceIte] <;> rfl) (by exact (fa30_2 _ _ _)) (by decide) ?_
    refine ro_load (by simp only [evalF, upd, arg0, argS, ofConst, ofCell, Nat.reduceEqDiff, reduceIte] <;> rfl) (by exact (load1 ag3 hl1 (by simpa using mc2))) (by decide) ?_
    refine ro_bin (by simp only [evalF, upd, arg0, argS, ofConst, ofCell, Nat.reduceEqDiff, reduceIte] <;> rfl) (by simp only [evalF, upd, arg0, argS, ofConst, ofCell, Nat.reduceEqDiff, reduceIte] <;> rfl) (by exact (neq_t hpd)) (by decide) ?_
    refine ro_move (by simp only [evalF, upd, arg0, argS, ofConst, ofCell, Nat.reduceEqDiff, reduceIte] <;> rfl) (by decide) ?_
    refine ro_guard rfl (by simp only [evalF, upd, arg0, argS, ofConst, ofCell, Nat.reduceEqDiff, reduceIte] <;> rfl) rfl ?_
    refine ro_fieldAddr (by simp only [evalF, upd, arg0, argS, ofConst, ofCell, Nat.reduceEqDiff, reduceIte] <;> rfl) (by exact (fa30_2 _ _ _)) (by decide) ?_
    refine ro_guard rfl (by simp only [evalF, upd, arg0, argS, ofConst, ofCell, Nat.reduceEqDiff, reduceIte] <;> rfl) rfl ?_
    refine ro_load (by simp only [evalF, upd, arg0, argS, ofConst, ofCell, Nat.reduceEqDiff, reduceIte] <;> rfl) (by exact (load1 ag3 hl1 (by simpa using mc2))) (by decide) ?_
    refine ro_guard rfl (by simp only [evalF, upd, arg0, argS, ofConst, ofCell, Nat.reduceEqDiff, reduceIte] <;> rfl) rfl ?_
    refine ro_pure (f := 39) («as» := [.pv (.int .i64 m.pred)]) rfl (by simp [evalF, upd]) rfl (show orS facts _ _ 39 _ = _ from by unfold orS facts; exact node_calls facts plains lim (d + 1) m.pred _) (by decide) ?_
    refine ro_guard rfl (by simp only [evalF, upd, arg0, argS, ofConst, ofCell, Nat.reduceEqDiff, reduceIte] <;> rfl) rfl ?_
    refine ro_un (by simp only [evalF, upd, arg0, argS, ofConst, ofCell, Nat.reduceEqDiff, reduceIte] <;> rfl) (by exact (show unOpA .not (.pv (.bool (isNode m.pred))) = some (.pv (.bool (!isNode m.pred))) from rfl)) (by decide) ?_
    refine ro_pick (by simp only [evalF, upd, arg0, argS, ofConst, ofCell, Nat.reduceEqDiff, reduceIte] <;> rfl) (by simp only [evalF, upd, arg0, argS, ofConst, ofCell, Nat.reduceEqDiff, reduceIte] <;> rfl) (by simp only [evalF, upd, arg0, argS, ofConst, ofCell, Nat.reduceEqDiff, reduceIte] <;> rfl) (by decide) ?_
    refine ro_nil ?_
    try simp only
    refine ex_cond (t := !isNode m.pred) (by simp only [evalF, upd, arg0, argS, ofConst, ofCell, Nat.reduceEqDiff, reduceIte] <;> rfl) (fun hn => ?_) (fun hn => ?_)
    · refine ex_seq (ex_region ?_)
      refine ro_assign (by simp only [evalF, upd, arg0, argS, ofConst, ofCell, Nat.reduceEqDiff, reduceIte] <;> rfl) (by decide) ?_
      refine ro_assign (by simp only [evalF, upd, arg0, argS, ofConst, ofCell, Nat.reduceEqDiff, reduceIte] <;> rfl) (by decide) ?_
      refine ro_nil ?_
      try simp only
      refine ex_ret ?_
      refine ⟨.tuple [.pv .nilSlice, .pv (.int .i64 1)], rfl, ha0, ?_⟩
      rw [fieldE, if_pos ⟨hpd, by simpa using hn⟩]
    · refine ex_skip ?_
      try simp only
      refine ex_seq (ex_region ?_)
      refine ro_move (by simp only [evalF, upd, arg0, argS, ofConst, ofCell, Nat.reduceEqDiff, reduceIte] <;> rfl) (by decide) ?_
      refine ro_fieldAddr (by simp only [evalF, upd, arg0, argS, ofConst, ofCell, Nat.reduceEqDiff, reduceIte] <;> rfl) (by exact (fa30_2 _ _ _)) (by decide) ?_
      refine ro_load (by simp only [evalF, upd, arg0, argS, ofConst, ofCell, Nat.reduceEqDiff, reduceIte] <;> rfl) (by exact (load1 ag3 hl1 (by simpa using mc2))) (by decide) ?_
      refine ro_conv (by simp only [evalF, upd, arg0, argS, ofConst, ofCell, Nat.reduceEqDiff, reduceIte] <;> rfl) (by exact (conv_u8 _ _)) (by decide) ?_
      refine ro_buildSlice rfl (by simp only [List.map_cons, List.map_nil, evalF, upd, ofConst, ofCell, Nat.reduceEqDiff, reduceIte]; exact bs27_1 _ _) (by decide) ?_
      refine ro_append (r := [.int .u8 (u8 m.pred)]) st27 Try.underlying27 (by simp only [evalF, upd, arg0, argS, ofConst, ofCell, Nat.reduceEqDiff, reduceIte] <;> rfl) (by simp only [evalF, upd, arg0, argS, ofConst, ofCell, Nat.reduceEqDiff, reduceIte] <;> rfl) (hg1.keep (Nat.le_succ _) (fun id hid _ => by simp [setHp, show id ≠ nb + 1 by omega])) (src_built rfl (by simp [setHp])) (by simp [u8s]; omega) (by decide) ?_
      intro b' hp' nb' hg' ha' ho'
      refine ro_assign (by simp only [evalF, upd, arg0, argS, ofConst, ofCell, Nat.reduceEqDiff, reduceIte] <;> rfl) (by decide) ?_
      refine ro_assign (by simp only [evalF, upd, arg0, argS, ofConst, ofCell, Nat.reduceEqDiff, reduceIte] <;> rfl) (by decide) ?_
      refine ro_nil ?_
      try simp only
      refine ex_ret ?_
      refine ⟨.tuple [b', .pv (.int .i64 0)], by simp [resF, resOneF, upd], wr_ok ha0 (after_trans (after_new hp1 (nb + 1) b [.pv (.int .u8 (u8 m.pred))] (pvs_ok [.int .u8 (u8 m.pred)])) ha' (fun id h => .inl h)) (x := [u8 m.pred]) (by simpa [u8s] using hg') (fun id h => (ho' id h).imp (fun h => h) (fun h => by omega)) rfl ?_⟩
      rw [fieldE, if_neg (fun h => by rw [h.2] at hn; simp at hn)]

theorem field_1 (lim d : Nat) {hp : Hp} {nb : Nat} {b : AV} {bs : List Int} {m : M} {L D : AV} (hf : Fit m) (hg : Grow hp nb b (u8s bs)) (hbs : bs.length < 100000) (hL : Row hp nb L (ints m.list)) (hD : Row hp nb D (u8s m.data)) (hneL : ∀ id, ownOf L = some id → ownOf b ≠ some id) (hneD : ∀ id, ownOf D = some id → ownOf b ≠ some id) (hbn : bs ≠ []) (hlim : 10 < lim) :
    CA (callA Try.prog facts plains lim (d + 3)) 20 [b, .agg (mcells m L D), .pv (.int .i64 1)] hp nb (WrOk b bs (fieldE m 1) hp nb) := by
  have hk := hf.key
  refine ca_body (fn := Try.f20) (c := bodyOf Try.f20) Try.func20 rfl (by show 3 ≤ 125; omega) ?_
  show EX _ _ _ _ _ 125 _ _ _ _ _
  unfold bodyOf Try.f20
  refine ex_seq (ex_region ?_)
  refine ro_box (v := .agg (mcells m L D)) (by simp [evalF, argsF]) (mc_all (row_cell hL).1 (row_cell hD).1) (by decide) ?_
  refine ro_assign (by simp only [evalF, upd, arg0, argS, ofConst, ofCell, Nat.reduceEqDiff, reduceIte] <;> rfl) (by decide) ?_
  refine ro_assign (by simp only [evalF, upd, arg0, argS, ofConst, ofCell, Nat.reduceEqDiff, reduceIte] <;> rfl) (by decide) ?_
  refine ro_nil ?_
  try simp only
  have ha0 : After hp nb b (setHp hp nb (.cells 1 (mcells m L D))) (nb + 1) := after_new hp nb b _ (ok_cells (row_ok' hL) (row_ok' hD))
  have hl1 : AI.look (setHp hp nb (.cells 1 (mcells m L D))) nb 1 = some (mcells m L D) := look_same _ _ _ _
  have hkp : ∀ id, id < nb → setHp hp nb (.cells 1 (mcells m L D)) id = hp id := fun id hid => by simp [setHp, show id ≠ nb by omega]
  show EX _ _ _ _ _ 125 _ _ (setHp hp nb (.cells 1 (mcells m L D))) _ _
  generalize setHp hp nb (.cells 1 (mcells m L D)) = hp1 at ha0 hl1 hkp ⊢
  have hg1 : Grow hp1 (nb + 1) b (u8s bs) := hg.keep (Nat.le_succ _) (fun id hid _ => hkp id hid)
  have hL1 : Row hp1 (nb + 1) L (ints m.list) := hL.keep (Nat.le_succ _) (fun id hid _ => hkp id hid)
  have hD1 : Row hp1 (nb + 1) D (u8s m.data) := hD.keep (Nat.le_succ _) (fun id hid _ => hkp id hid)
  refine ex_seq ?_
  refine ex_seq (ex_region ?_)
  refine ro_move (by simp only [evalF, upd, arg0, argS, ofConst, ofCell, Nat.reduceEqDiff, reduceIte] <;> rfl) (by decide) ?_
  refine ro_nil ?_
  try simp only
  refine ex_block ?_
  refine ex_seq (ex_region ?_)
  refine ro_bin (by simp only [evalF, upd, arg0, argS, ofConst, ofCell, Nat.reduceEqDiff, reduceIte] <;> rfl) (by simp only [evalF, upd, arg0, argS, ofConst, ofCell, Nat.reduceEqDiff, reduceIte] <;> rfl) (by exact (eql_f (by decide))) (by decide) ?_
  refine ro_assign (by simp only [evalF, upd, arg0, argS, ofConst, ofCell, Nat.reduceEqDiff, reduceIte] <;> rfl) (by decide) ?_
  refine ro_nil ?_
  try simp only
  refine ex_cond (t := false) (by simp only [evalF, upd, arg0, argS, ofConst, ofCell, Nat.reduceEqDiff, reduceIte] <;> rfl) (fun h => by simp at h) (fun _ => ?_)
  refine ex_seq (ex_region ?_)
  refine ro_bin (by simp only [evalF, upd, arg0, argS, ofConst, ofCell, Nat.reduceEqDiff, reduceIte] <;> rfl) (by simp only [evalF, upd, arg0, argS, ofConst, ofCell, Nat.reduceEqDiff, reduceIte] <;> rfl) (by exact (eql_t rfl)) (by decide) ?_
  refine ro_assign (by simp only [evalF, upd, arg0, argS, ofConst, ofCell, Nat.reduceEqDiff, reduceIte] <;> rfl) (by decide) ?_
  refine ro_nil ?_
  try simp only
  refine ex_cond (t := true) (by simp only [evalF, upd, arg0, argS, ofConst, ofCell, Nat.reduceEqDiff, reduceIte] <;> rfl) (fun _ => ?_) (fun h => by simp at h)
  refine ex_seq (ex_seq (ex_region ?_))
  refine ro_fieldAddr (by simp only [evalF, upd, arg0, argS, ofConst, ofCell, Nat.reduceEqDiff, reduceIte] <;> rfl) (by exact (fa30_1 _ _ _)) (by decide) ?_
  refine ro_load (by simp only [evalF, upd, arg0, argS, ofConst, ofCell, Nat.reduceEqDiff, reduceIte] <;> rfl) (by exact (load1 ag3 hl1 (by simpa using mc1))) (by decide) ?_
  refine ro_pure (f := 39) («as» := [.pv (.int .i64 m.node)]) rfl (by simp [evalF, upd]) rfl (show orS facts _ _ 39 _ = _ from by unfold orS facts; exact node_calls facts plains lim (d + 1) m.node _) (by decide) ?_
  refine ro_un (by simp only [evalF, upd, arg0, argS, ofConst, ofCell, Nat.reduceEqDiff, reduceIte] <;> rfl) (by exact (show unOpA .not (.pv (.bool (isNode m.node))) = some (.pv (.bool (!isNode m.node))) from rfl)) (by decide) ?_
  refine ro_nil ?_
  try simp only
  refine ex_cond (t := !isNode m.node) (by simp only [evalF, upd, arg0, argS, ofConst, ofCell, Nat.reduceEqDiff, reduceIte] <;> rfl) (fun hn => ?_) (fun hn => ?_)
  · refine ex_seq (ex_region ?_)
    refine ro_assign (by simp only [evalF, upd, arg0, argS, ofConst, ofCell, Nat.reduceEqDiff, reduceIte] <;> rfl) (by decide) ?_
    refine ro_assign (by simp only [evalF, upd, arg0, argS, ofConst, ofCell, Nat.reduceEqDiff, reduceIte] <;> rfl) (by decide) ?_
    refine ro_nil ?_
    try simp only
    refine ex_ret ?_
    refine ⟨.tuple [.pv .nilSlice, .pv (.int .i64 1)], rfl, ha0, ?_⟩
    rw [fieldE, if_pos (by simpa using hn)]
  · refine ex_skip ?_
    try simp only
    refine ex_seq (ex_region ?_)
    refine ro_move (by simp only [evalF, upd, arg0, argS, ofConst, ofCell, Nat.reduceEqDiff, reduceIte] <;> rfl) (by decide) ?_
    refine ro_fieldAddr (by simp only [evalF, upd, arg0, argS, ofConst, ofCell, Nat.reduceEqDiff, reduceIte] <;> rfl) (by exact (fa30_1 _ _ _)) (by decide) ?_
    refine ro_load (by simp only [evalF, upd, arg0, argS, ofConst, ofCell, Nat.reduceEqDiff, reduceIte] <;> rfl) (by exact (load1 ag3 hl1 (by simpa using mc1))) (by decide) ?_
    refine ro_conv (by simp only [evalF, upd, arg0, argS, ofConst, ofCell, Nat.reduceEqDiff, reduceIte] <;> rfl) (by exact (conv_u8 _ _)) (by decide) ?_
    refine ro_buildSlice rfl (by simp only [List.map_cons, List.map_nil, evalF, upd, ofConst, ofCell, Nat.reduceEqDiff, reduceIte]; exact bs27_1 _ _) (by decide) ?_
    refine ro_append (r := [.int .u8 (u8 m.node)]) st27 Try.underlying27 (by simp only [evalF, upd, arg0, argS, ofConst, ofCell, Nat.reduceEqDiff, reduceIte] <;> rfl) (by simp only [evalF, upd, arg0, argS, ofConst, ofCell, Nat.reduceEqDiff, reduceIte] <;> rfl) (hg1.keep (Nat.le_succ _) (fun id hid _ => by simp [setHp, show id ≠ nb + 1 by omega])) (src_built rfl (by simp [setHp])) (by simp [u8s]; omega) (by decide) ?_
    intro b' hp' nb' hg' ha' ho'
    refine ro_assign (by simp only [evalF, upd, arg0, argS, ofConst, ofCell, Nat.reduceEqDiff, reduceIte] <;> rfl) (by decide) ?_
    refine ro_assign (by simp only [evalF, upd, arg0, argS, ofConst, ofCell, Nat.reduceEqDiff, reduceIte] <;> rfl) (by decide) ?_
    refine ro_nil ?_
    try simp only
    refine ex_ret ?_
    refine ⟨.tuple [b', .pv (.int .i64 0)], by simp [resF, resOneF, upd], wr_ok ha0 (after_trans (after_new hp1 (nb + 1) b [.pv (.int .u8 (u8 m.node))] (pvs_ok [.int .u8 (u8 m.node)])) ha' (fun id h => .inl h)) (x := [u8 m.node]) (by simpa [u8s] using hg') (fun id h => (ho' id h).imp (fun h => h) (fun h => by omega)) rfl ?_⟩
    rw [fieldE, if_neg (fun h => by rw [h] at hn; simp at hn)]

theorem field_2 (lim d : Nat) {hp : Hp} {nb : Nat} {b : AV} {bs : List Int} {m : M} {L D : AV} (hf : Fit m) (hg : Grow hp nb b (u8s bs)) (hbs : bs.length < 100000) (hL : Row hp nb L (ints m.list)) (hD : Row hp nb D (u8s m.data)) (hneL : ∀ id, ownOf L = some id → ownOf b ≠ some id) (hneD : ∀ id, ownOf D = some id → ownOf b ≠ some id) (hbn : bs ≠ []) (hlim : 10 < lim) :
    CA (callA Try.prog facts plains lim (d + 3)) 20 [b, .agg (mcells m L D), .pv (.int .i64 2)] hp nb (WrOk b bs (fieldE m 2) hp nb) := by
  have hk := hf.key
  refine ca_body (fn := Try.f20) (c := bodyOf Try.f20) Try.func20 rfl (by show 3 ≤ 125; omega) ?_
  show EX _ _ _ _ _ 125 _ _ _ _ _
  unfold bodyOf Try.f20
  refine ex_seq (ex_region ?_)
  refine ro_box (v := .agg (mcells m L D)) (by simp [evalF, argsF]) (mc_all (row_cell hL).1 (row_cell hD).1) (by decide) ?_
  refine ro_assign (by simp only [evalF, upd, arg0, argS, ofConst, ofCell, Nat.reduceEqDiff, reduceIte] <;> rfl) (by decide) ?_
  refine ro_assign (by simp only [evalF, upd, arg0, argS, ofConst, ofCell, Nat.reduceEqDiff, reduceIte] <;> rfl) (by decide) ?_
  refine ro_nil ?_
  try simp only
  have ha0 : After hp nb b (setHp hp nb (.cells 1 (mcells m L D))) (nb + 1) := after_new hp nb b _ (ok_cells (row_ok' hL) (row_ok' hD))
  have hl1 : AI.look (setHp hp nb (.cells 1 (mcells m L D))) nb 1 = some (mcells m L D) := look_same _ _ _ _
  have hkp : ∀ id, id < nb → setHp hp nb (.cells 1 (mcells m L D)) id = hp id := fun id hid => by simp [setHp, show id ≠ nb by omega]
  show EX _ _ _ _ _ 125 _ _ (setHp hp nb (.cells 1 (mcells m L D))) _ _
  generalize setHp hp nb (.cells 1 (mcells m L D)) = hp1 at ha0 hl1 hkp ⊢
  have hg1 : Grow hp1 (nb + 1) b (u8s bs) := hg.keep (Nat.le_succ _) (fun id hid _ => hkp id hid)
  have hL1 : Row hp1 (nb + 1) L (ints m.list) := hL.keep (Nat.le_succ _) (fun id hid _ => hkp id hid)
  have hD1 : Row hp1 (nb + 1) D (u8s m.data) := hD.keep (Nat.le_succ _) (fun id hid _ => hkp id hid)
  refine ex_seq ?_
  refine ex_seq (ex_region ?_)
  refine ro_move (by simp only [evalF, upd, arg0, argS, ofConst, ofCell, Nat.reduceEqDiff, reduceIte] <;> rfl) (by decide) ?_
  refine ro_nil ?_
  try simp only
  refine ex_block ?_
  refine ex_seq (ex_region ?_)
  refine ro_bin (by simp only [evalF, upd, arg0, argS, ofConst, ofCell, Nat.reduceEqDiff, reduceIte] <;> rfl) (by simp only [evalF, upd, arg0, argS, ofConst, ofCell, Nat.reduceEqDiff, reduceIte] <;> rfl) (by exact (eql_f (by decide))) (by decide) ?_
  refine ro_assign (by simp only [evalF, upd, arg0, argS, ofConst, ofCell, Nat.reduceEqDiff, reduceIte] <;> rfl) (by decide) ?_
  refine ro_nil ?_
  try simp only
  refine ex_cond (t := false) (by simp only [evalF, upd, arg0, argS, ofConst, ofCell, Nat.reduceEqDiff, reduceIte] <;> rfl) (fun h => by simp at h) (fun _ => ?_)
  refine ex_seq (ex_region ?_)
  refine ro_bin (by simp only [evalF, upd, arg0, argS, ofConst, ofCell, Nat.reduceEqDiff, reduceIte] <;> rfl) (by simp only [evalF, upd, arg0, argS, ofConst, ofCell, Nat.reduceEqDiff, reduceIte] <;> rfl) (by exact (eql_f (by decide))) (by decide) ?_
  refine ro_assign (by simp only [evalF, upd, arg0, argS, ofConst, ofCell, Nat.reduceEqDiff, reduceIte] <;> rfl) (by decide) ?_
  refine ro_nil ?_
  try simp only
  refine ex_cond (t := false) (by simp only [evalF, upd, arg0, argS, ofConst, ofCell, Nat.reduceEqDiff, reduceIte] <;> rfl) (fun h => by simp at h) (fun _ => ?_)
  refine ex_seq (ex_region ?_)
  refine ro_bin (by simp only [evalF, upd, arg0, argS, ofConst, ofCell, Nat.reduceEqDiff, reduceIte] <;> rfl) (by simp only [evalF, upd, arg0, argS, ofConst, ofCell, Nat.reduceEqDiff, reduceIte] <;> rfl) (by exact (eql_t rfl)) (by decide) ?_
  refine ro_assign (by simp only [evalF, upd, arg0, argS, ofConst, ofCell, Nat.reduceEqDiff, reduceIte] <;> rfl) (by decide) ?_
  refine ro_nil ?_
  try simp only
  refine ex_cond (t := true) (by simp only [evalF, upd, arg0, argS, ofConst, ofCell, Nat.reduceEqDiff, reduceIte] <;> rfl) (fun _ => ?_) (fun h => by simp at h)
  refine ex_seq (ex_region ?_)
  refine ro_move (by simp only [evalF, upd, arg0, argS, ofConst, ofCell, Nat.reduceEqDiff, reduceIte] <;> rfl) (by decide) ?_
  refine ro_fieldAddr (by simp only [evalF, upd, arg0, argS, ofConst, ofCell, Nat.reduceEqDiff, reduceIte] <;> rfl) (by exact (fa30_3 _ _ _)) (by decide) ?_
  refine ro_load (by simp only [evalF, upd, arg0, argS, ofConst, ofCell, Nat.reduceEqDiff, reduceIte] <;> rfl) (by exact (load1 ag24 hl1 (by simpa using mc3))) (by decide) ?_
  refine ro_call (f := 40) («as» := [b, L]) rfl (by simp only [List.map_cons, List.map_nil, evalF, upd, argsF, Nat.reduceEqDiff, reduceIte, List.getD_cons_zero] <;> rfl) rfl (by simp only [List.all_cons, grow_plain hg1 (by simpa [u8s] using hbn), Bool.false_and]) (lists_calls lim d hg1 hbs hL1 hneL hlim) (by decide) ?_
  rintro v hp' nb' ⟨hax, hres⟩
  have hfe : fieldE m 2 = listE m.list := rfl
  cases hE : listE m.list with
  | ok x =>
    rw [hE] at hres
    obtain ⟨b', rfl, hgb, hob⟩ := hres
    refine ro_extract (by simp only [evalF, upd, arg0, argS, ofConst, ofCell, Nat.reduceEqDiff, reduceIte] <;> rfl) (by exact (rfl)) (by decide) ?_
    refine ro_extract (by simp only [evalF, upd, arg0, argS, ofConst, ofCell, Nat.reduceEqDiff, reduceIte] <;> rfl) (by exact (rfl)) (by decide) ?_
    refine ro_assign (by simp only [evalF, upd, arg0, argS, ofConst, ofCell, Nat.reduceEqDiff, reduceIte] <;> rfl) (by decide) ?_
    refine ro_assign (by simp only [evalF, upd, arg0, argS, ofConst, ofCell, Nat.reduceEqDiff, reduceIte] <;> rfl) (by decide) ?_
    refine ro_nil ?_
    try simp only
    refine ex_ret ?_
    refine ⟨.tuple [b', .pv (.int .i64 0)], by simp [resF, resOneF, upd], after_trans ha0 hax (fun id h => .inl h), ?_⟩
    rw [hfe, hE]
    exact ⟨b', rfl, hgb, fun id h => (hob id h).imp (fun h => h) (fun h => by omega)⟩
  | error e =>
    rw [hE] at hres
    subst hres
    refine ro_extract (by simp only [evalF, upd, arg0, argS, ofConst, ofCell, Nat.reduceEqDiff, reduceIte] <;> rfl) (by exact (rfl)) (by decide) ?_
    refine ro_extract (by simp only [evalF, upd, arg0, argS, ofConst, ofCell, Nat.reduceEqDiff, reduceIte] <;> rfl) (by exact (rfl)) (by decide) ?_
    refine ro_assign (by simp only [evalF, upd, arg0, argS, ofConst, ofCell, Nat.reduceEqDiff, reduceIte] <;> rfl) (by decide) ?_
    refine ro_assign (by simp only [evalF, upd, arg0, argS, ofConst, ofCell, Nat.reduceEqDiff, reduceIte] <;> rfl) (by decide) ?_
    refine ro_nil ?_
    try simp only
    refine ex_ret ?_
    refine ⟨.tuple [.pv .nilSlice, .pv (.int .i64 e)], by simp [resF, resOneF, upd], after_trans ha0 hax (fun id h => .inl h), ?_⟩
    rw [hfe, hE]

theorem field_3 (lim d : Nat) {hp : Hp} {nb : Nat} {b : AV} {bs : List Int} {m : M} {L D : AV} (hf : Fit m) (hg : Grow hp nb b (u8s bs)) (hbs : bs.length < 100000) (hL : Row hp nb L (ints m.list)) (hD : Row hp nb D (u8s m.data)) (hneL : ∀ id, ownOf L = some id → ownOf b ≠ some id) (hneD : ∀ id, ownOf D = some id → ownOf b ≠ some id) (hbn : bs ≠ []) (hlim : 10 < lim) :
    CA (callA Try.prog facts plains lim (d + 3)) 20 [b, .agg (mcells m L D), .pv (.int .i64 3)] hp nb (WrOk b bs (fieldE m 3) hp nb) := by
  have hk := hf.key
  refine ca_body (fn := Try.f20) (c := bodyOf Try.f20) Try.func20 rfl (by show 3 ≤ 125; omega) ?_
  show EX _ _ _ _ _ 125 _ _ _ _ _
  unfold bodyOf Try.f20
  refine ex_seq (ex_region ?_)
  refine ro_box (v := .agg (mcells m L D)) (by simp [evalF, argsF]) (mc_all (row_cell hL).1 (row_cell hD).1) (by decide) ?_
  refine ro_assign (by simp only [evalF, upd, arg0, argS, ofConst, ofCell, Nat.reduceEqDiff, reduceIte] <;> rfl) (by decide) ?_
  refine ro_assign (by simp only [evalF, upd, arg0, argS, ofConst, ofCell, Nat.reduceEqDiff, reduceIte] <;> rfl) (by decide) ?_
  refine ro_nil ?_
  try simp only
  have ha0 : After hp nb b (setHp hp nb (.cells 1 (mcells m L D))) (nb + 1) := after_new hp nb b _ (ok_cells (row_ok' hL) (row_ok' hD))
  have hl1 : AI.look (setHp hp nb (.cells 1 (mcells m L D))) nb 1 = some (mcells m L D) := look_same _ _ _ _
  have hkp : ∀ id, id < nb → setHp hp nb (.cells 1 (mcells m L D)) id = hp id := fun id hid => by simp [setHp, show id ≠ nb by omega]
  show EX _ _ _ _ _ 125 _ _ (setHp hp nb (.cells 1 (mcells m L D))) _ _
  generalize setHp hp nb (.cells 1 (mcells m L D)) = hp1 at ha0 hl1 hkp ⊢
  have hg1 : Grow hp1 (nb + 1) b (u8s bs) := hg.keep (Nat.le_succ _) (fun id hid _ => hkp id hid)
  have hL1 : Row hp1 (nb + 1) L (ints m.list) := hL.keep (Nat.le_succ _) (fun id hid _ => hkp id hid)
  have hD1 : Row hp1 (nb + 1) D (u8s m.data) := hD.keep (Nat.le_succ _) (fun id hid _ => hkp id hid)
  refine ex_seq ?_
  refine ex_seq (ex_region ?_)
  refine ro_move (by simp only [evalF, upd, arg0, argS, ofConst, ofCell, Nat.reduceEqDiff, reduceIte] <;> rfl) (by decide) ?_
  refine ro_nil ?_
  try simp only
  refine ex_block ?_
  refine ex_seq (ex_region ?_)
  refine ro_bin (by simp only [evalF, upd, arg0, argS, ofConst, ofCell, Nat.reduceEqDiff, reduceIte] <;> rfl) (by simp only [evalF, upd, arg0, argS, ofConst, ofCell, Nat.reduceEqDiff, reduceIte] <;> rfl) (by exact (eql_f (by decide))) (by decide) ?_
  refine ro_assign (by simp only [evalF, upd, arg0, argS, ofConst, ofCell, Nat.reduceEqDiff, reduceIte] <;> rfl) (by decide) ?_
  refine ro_nil ?_
  try simp only
  refine ex_cond (t := false) (by simp only [evalF, upd, arg0, argS, ofConst, ofCell, Nat.reduceEqDiff, reduceIte] <;> rfl) (fun h => by simp at h) (fun _ => ?_)
  refine ex_seq (ex_region ?_)
  refine ro_bin (by simp only [evalF, upd, arg0, argS, ofConst, ofCell, Nat.reduceEqDiff, reduceIte] <;> rfl) (by simp only [evalF, upd, arg0, argS, ofConst, ofCell, Nat.reduceEqDiff, reduceIte] <;> rfl) (by exact (eql_f (by decide))) (by decide) ?_
  refine ro_assign (by simp only [evalF, upd, arg0, argS, ofConst, ofCell, Nat.reduceEqDiff, reduceIte] <;> rfl) (by decide) ?_
  refine ro_nil ?_
  try simp only
  refine ex_cond (t := false) (by simp only [evalF, upd, arg0, argS, ofConst, ofCell, Nat.reduceEqDiff, reduceIte] <;> rfl) (fun h => by simp at h) (fun _ => ?_)
  refine ex_seq (ex_region ?_)
  refine ro_bin (by simp only [evalF, upd, arg0, argS, ofConst, ofCell, Nat.reduceEqDiff, reduceIte] <;> rfl) (by simp only [evalF, upd, arg0, argS, ofConst, ofCell, Nat.reduceEqDiff, reduceIte] <;> rfl) (by exact (eql_f (by decide))) (by decide) ?_
  refine ro_assign (by simp only [evalF, upd, arg0, argS, ofConst, ofCell, Nat.reduceEqDiff, reduceIte] <;> rfl) (by decide) ?_
  refine ro_nil ?_
  try simp only
  refine ex_cond (t := false) (by simp only [evalF, upd, arg0, argS, ofConst, ofCell, Nat.reduceEqDiff, reduceIte] <;> rfl) (fun h => by simp at h) (fun _ => ?_)
  refine ex_seq (ex_region ?_)
  refine ro_bin (by simp only [evalF, upd, arg0, argS, ofConst, ofCell, Nat.reduceEqDiff, reduceIte] <;> rfl) (by simp only [evalF, upd, arg0, argS, ofConst, ofCell, Nat.reduceEqDiff, reduceIte] <;> rfl) (by exact (eql_t rfl)) (by decide) ?_
  refine ro_assign (by simp only [evalF, upd, arg0, argS, ofConst, ofCell, Nat.reduceEqDiff, reduceIte] <;> rfl) (by decide) ?_
  refine ro_nil ?_
  try simp only
  refine ex_cond (t := true) (by simp only [evalF, upd, arg0, argS, ofConst, ofCell, Nat.reduceEqDiff, reduceIte] <;> rfl) (fun _ => ?_) (fun h => by simp at h)
  refine ex_seq (ex_seq (ex_region ?_))
  refine ro_fieldAddr (by simp only [evalF, upd, arg0, argS, ofConst, ofCell, Nat.reduceEqDiff, reduceIte] <;> rfl) (by exact (fa30_4 _ _ _)) (by decide) ?_
  refine ro_load (by simp only [evalF, upd, arg0, argS, ofConst, ofCell, Nat.reduceEqDiff, reduceIte] <;> rfl) (by exact (load1 ag4 hl1 (by simpa using mc4))) (by decide) ?_
  refine ro_nil ?_
  try simp only
  refine ex_cond (t := m.done) (by simp only [evalF, upd, arg0, argS, ofConst, ofCell, Nat.reduceEqDiff, reduceIte] <;> rfl) (fun hd1 => ?_) (fun hd1 => ?_)
  · refine ex_seq (ex_region ?_)
    refine ro_move (by simp only [evalF, upd, arg0, argS, ofConst, ofCell, Nat.reduceEqDiff, reduceIte] <;> rfl) (by decide) ?_
    refine ro_buildSlice rfl (by simp only [List.map_cons, List.map_nil, evalF, upd, ofConst, ofCell, Nat.reduceEqDiff, reduceIte]; exact bs27_1 _ _) (by decide) ?_
    refine ro_append (r := [.int .u8 (1)]) st27 Try.underlying27 (by simp only [evalF, upd, arg0, argS, ofConst, ofCell, Nat.reduceEqDiff, reduceIte] <;> rfl) (by simp only [evalF, upd, arg0, argS, ofConst, ofCell, Nat.reduceEqDiff, reduceIte] <;> rfl) (hg1.keep (Nat.le_succ _) (fun id hid _ => by simp [setHp, show id ≠ nb + 1 by omega])) (src_built rfl (by simp [setHp])) (by simp [u8s]; omega) (by decide) ?_
    intro b' hp' nb' hg' ha' ho'
    refine ro_assign (by simp only [evalF, upd, arg0, argS, ofConst, ofCell, Nat.reduceEqDiff, reduceIte] <;> rfl) (by decide) ?_
    refine ro_assign (by simp only [evalF, upd, arg0, argS, ofConst, ofCell, Nat.reduceEqDiff, reduceIte] <;> rfl) (by decide) ?_
    refine ro_nil ?_
    try simp only
    refine ex_ret ?_
    refine ⟨.tuple [b', .pv (.int .i64 0)], by simp [resF, resOneF, upd], wr_ok ha0 (after_trans (after_new hp1 (nb + 1) b [.pv (.int .u8 (1))] (pvs_ok [.int .u8 (1)])) ha' (fun id h => .inl h)) (x := [1]) (by simpa [u8s] using hg') (fun id h => (ho' id h).imp (fun h => h) (fun h => by omega)) rfl ?_⟩
    rw [fieldE, hd1]
    rfl
  · refine ex_skip ?_
    try simp only
    refine ex_seq (ex_region ?_)
    refine ro_move (by simp only [evalF, upd, arg0, argS, ofConst, ofCell, Nat.reduceEqDiff, reduceIte] <;> rfl) (by decide) ?_
    refine ro_buildSlice rfl (by simp only [List.map_cons, List.map_nil, evalF, upd, ofConst, ofCell, Nat.reduceEqDiff, reduceIte]; exact bs27_1 _ _) (by decide) ?_
    refine ro_append (r := [.int .u8 (0)]) st27 Try.underlying27 (by simp only [evalF, upd, arg0, argS, ofConst, ofCell, Nat.reduceEqDiff, reduceIte] <;> rfl) (by simp only [evalF, upd, arg0, argS, ofConst, ofCell, Nat.reduceEqDiff, reduceIte] <;> rfl) (hg1.keep (Nat.le_succ _) (fun id hid _ => by simp [setHp, show id ≠ nb + 1 by omega])) (src_built rfl (by simp [setHp])) (by simp [u8s]; omega) (by decide) ?_
    intro b' hp' nb' hg' ha' ho'
    refine ro_assign (by simp only [evalF, upd, arg0, argS, ofConst, ofCell, Nat.reduceEqDiff, reduceIte] <;> rfl) (by decide) ?_
    refine ro_assign (by simp only [evalF, upd, arg0, argS, ofConst, ofCell, Nat.reduceEqDiff, reduceIte] <;> rfl) (by decide) ?_
    refine ro_nil ?_
    try simp only
    refine ex_ret ?_
    refine ⟨.tuple [b', .pv (.int .i64 0)], by simp [resF, resOneF, upd], wr_ok ha0 (after_trans (after_new hp1 (nb + 1) b [.pv (.int .u8 (0))] (pvs_ok [.int .u8 (0)])) ha' (fun id h => .inl h)) (x := [0]) (by simpa [u8s] using hg') (fun id h => (ho' id h).imp (fun h => h) (fun h => by omega)) rfl ?_⟩
    rw [fieldE, hd1]
    rfl

theorem field_4 (lim d : Nat) {hp : Hp} {nb : Nat} {b : AV} {bs : List Int} {m : M} {L D : AV} (hf : Fit m) (hg : Grow hp nb b (u8s bs)) (hbs : bs.length < 100000) (hL : Row hp nb L (ints m.list)) (hD : Row hp nb D (u8s m.data)) (hneL : ∀ id, ownOf L = some id → ownOf b ≠ some id) (hneD : ∀ id, ownOf D = some id → ownOf b ≠ some id) (hbn : bs ≠ []) (hlim : 10 < lim) :
    CA (callA Try.prog facts plains lim (d + 3)) 20 [b, .agg (mcells m L D), .pv (.int .i64 4)] hp nb (WrOk b bs (fieldE m 4) hp nb) := by
  have hk := hf.key
  refine ca_body (fn := Try.f20) (c := bodyOf Try.f20) Try.func20 rfl (by show 3 ≤ 125; omega) ?_
  show EX _ _ _ _ _ 125 _ _ _ _ _
  unfold bodyOf Try.f20
  refine ex_seq (ex_region ?_)
  refine ro_box (v := .agg (mcells m L D)) (by simp [evalF, argsF]) (mc_all (row_cell hL).1 (row_cell hD).1) (by decide) ?_
  refine ro_assign (by simp only [evalF, upd, arg0, argS, ofConst, ofCell, Nat.reduceEqDiff, reduceIte] <;> rfl) (by decide) ?_
  refine ro_assign (by simp only [evalF, upd, arg0, argS, ofConst, ofCell, Nat.reduceEqDiff, reduceIte] <;> rfl) (by decide) ?_
  refine ro_nil ?_
  try simp only
  have ha0 : After hp nb b (setHp hp nb (.cells 1 (mcells m L D))) (nb + 1) := after_new hp nb b _ (ok_cells (row_ok' hL) (row_ok' hD))
  have hl1 : AI.look (setHp hp nb (.cells 1 (mcells m L D))) nb 1 = some (mcells m L D) := look_same _ _ _ _
  have hkp : ∀ id, id < nb → setHp hp nb (.cells 1 (mcells m L D)) id = hp id := fun id hid => by simp [setHp, show id ≠ nb by omega]
  show EX _ _ _ _ _ 125 _ _ (setHp hp nb (.cells 1 (mcells m L D))) _ _
  generalize setHp hp nb (.cells 1 (mcells m L D)) = hp1 at ha0 hl1 hkp ⊢
  have hg1 : Grow hp1 (nb + 1) b (u8s bs) := hg.keep (Nat.le_succ _) (fun id hid _ => hkp id hid)
  have hL1 : Row hp1 (nb + 1) L (ints m.list) := hL.keep (Nat.le_succ _) (fun id hid _ => hkp id hid)
  have hD1 : Row hp1 (nb + 1) D (u8s m.data) := hD.keep (Nat.le_succ _) (fun id hid _ => hkp id hid)
  refine ex_seq ?_
  refine ex_seq (ex_region ?_)
  refine ro_move (by simp only [evalF, upd, arg0, argS, ofConst, ofCell, Nat.reduceEqDiff, reduceIte] <;> rfl) (by decide) ?_
  refine ro_nil ?_
  try simp only
  refine ex_block ?_
  refine ex_seq (ex_region ?_)
  refine ro_bin (by simp only [evalF, upd, arg0, argS, ofConst, ofCell, Nat.reduceEqDiff, reduceIte] <;> rfl) (by simp only [evalF, upd, arg0, argS, ofConst, ofCell, Nat.reduceEqDiff, reduceIte] <;> rfl) (by exact (eql_f (by decide))) (by decide) ?_
  refine ro_assign (by simp only [evalF, upd, arg0, argS, ofConst, ofCell, Nat.reduceEqDiff, reduceIte] <;> rfl) (by decide) ?_
  refine ro_nil ?_
  try simp only
  refine ex_cond (t := false) (by simp only [evalF, upd, arg0, argS, ofConst, ofCell, Nat.reduceEqDiff, reduceIte] <;> rfl) (fun h => by simp at h) (fun _ => ?_)
  refine ex_seq (ex_region ?_)
  refine ro_bin (by simp only [evalF, upd, arg0, argS, ofConst, ofCell, Nat.reduceEqDiff, reduceIte] <;> rfl) (by simp only [evalF, upd, arg0, argS, ofConst, ofCell, Nat.reduceEqDiff, reduceIte] <;> rfl) (by exact (eql_f (by decide))) (by decide) ?_
  refine ro_assign (by simp only [evalF, upd, arg0, argS, ofConst, ofCell, Nat.reduceEqDiff, reduceIte] <;> rfl) (by decide) ?_
  refine ro_nil ?_
  try simp only
  refine ex_cond (t := false) (by simp only [evalF, upd, arg0, argS, ofConst, ofCell, Nat.reduceEqDiff, reduceIte] <;> rfl) (fun h => by simp at h) (fun _ => ?_)
  refine ex_seq (ex_region ?_)
  refine ro_bin (by simp only [evalF, upd, arg0, argS, ofConst, ofCell, Nat.reduceEqDiff, reduceIte] <;> rfl) (by simp only [evalF, upd, arg0, argS, ofConst, ofCell, Nat.reduceEqDiff, reduceIte] <;> rfl) (by exact (eql_f (by decide))) (by decide) ?_
  refine ro_assign (by simp only [evalF, upd, arg0, argS, ofConst, ofCell, Nat.reduceEqDiff, reduceIte] <;> rfl) (by decide) ?_
  refine ro_nil ?_
  try simp only
  refine ex_cond (t := false) (by simp only [evalF, upd, arg0, argS, ofConst, ofCell, Nat.reduceEqDiff, reduceIte] <;> rfl) (fun h => by simp at h) (fun _ => ?_)
  refine ex_seq (ex_region ?_)
  refine ro_bin (by simp only [evalF, upd, arg0, argS, ofConst, ofCell, Nat.reduceEqDiff, reduceIte] <;> rfl) (by simp only [evalF, upd, arg0, argS, ofConst, ofCell, Nat.reduceEqDiff, reduceIte] <;> rfl) (by exact (eql_f (by decide))) (by decide) ?_
  refine ro_assign (by simp only [evalF, upd, arg0, argS, ofConst, ofCell, Nat.reduceEqDiff, reduceIte] <;> rfl) (by decide) ?_
  refine ro_nil ?_
  try simp only
  refine ex_cond (t := false) (by simp only [evalF, upd, arg0, argS, ofConst, ofCell, Nat.reduceEqDiff, reduceIte] <;> rfl) (fun h => by simp at h) (fun _ => ?_)
  refine ex_seq (ex_region ?_)
  refine ro_bin (by simp only [evalF, upd, arg0, argS, ofConst, ofCell, Nat.reduceEqDiff, reduceIte] <;> rfl) (by simp only [evalF, upd, arg0, argS, ofConst, ofCell, Nat.reduceEqDiff, reduceIte] <;> rfl) (by exact (eql_t rfl)) (by decide) ?_
  refine ro_assign (by simp only [evalF, upd, arg0, argS, ofConst, ofCell, Nat.reduceEqDiff, reduceIte] <;> rfl) (by decide) ?_
  refine ro_nil ?_
  try simp only
  refine ex_cond (t := true) (by simp only [evalF, upd, arg0, argS, ofConst, ofCell, Nat.reduceEqDiff, reduceIte] <;> rfl) (fun _ => ?_) (fun h => by simp at h)
  by_cases hlo : m.err < 0
  · refine ex_seq (ex_seq (ex_region ?_))
    refine ro_fieldAddr (by simp only [evalF, upd, arg0, argS, ofConst, ofCell, Nat.reduceEqDiff, reduceIte] <;> rfl) (by exact (fa30_8 _ _ _)) (by decide) ?_
    refine ro_load (by simp only [evalF, upd, arg0, argS, ofConst, ofCell, Nat.reduceEqDiff, reduceIte] <;> rfl) (by exact (load1 ag28 hl1 (by simpa using mc39 hk))) (by decide) ?_
    refine ro_bin (by simp only [evalF, upd, arg0, argS, ofConst, ofCell, Nat.reduceEqDiff, reduceIte] <;> rfl) (by simp only [evalF, upd, arg0, argS, ofConst, ofCell, Nat.reduceEqDiff, reduceIte] <;> rfl) (by exact (lss_t hlo)) (by decide) ?_
    refine ro_move (by simp only [evalF, upd, arg0, argS, ofConst, ofCell, Nat.reduceEqDiff, reduceIte] <;> rfl) (by decide) ?_
    refine ro_skip rfl (by simp only [evalF, upd, arg0, argS, ofConst, ofCell, Nat.reduceEqDiff, reduceIte] <;> rfl) rfl (fun e he => by cases he; decide) ?_
    simp only [putF]
    refine ro_skip rfl (by simp only [evalF, upd, arg0, argS, ofConst, ofCell, Nat.reduceEqDiff, reduceIte] <;> rfl) rfl (fun e he => by cases he; decide) ?_
    simp only [putF]
    refine ro_skip rfl (by simp only [evalF, upd, arg0, argS, ofConst, ofCell, Nat.reduceEqDiff, reduceIte] <;> rfl) rfl (fun e he => by cases he; decide) ?_
    simp only [putF]
    refine ro_pick (by simp only [evalF, upd, arg0, argS, ofConst, ofCell, Nat.reduceEqDiff, reduceIte] <;> rfl) (by simp only [evalF, upd, arg0, argS, ofConst, ofCell, Nat.reduceEqDiff, reduceIte] <;> rfl) (by simp only [evalF, upd, arg0, argS, ofConst, ofCell, Nat.reduceEqDiff, reduceIte] <;> rfl) (by decide) ?_
    refine ro_nil ?_
    try simp only
    refine ex_cond (t := true) (by simp only [evalF, upd, arg0, argS, ofConst, ofCell, Nat.reduceEqDiff, reduceIte] <;> rfl) (fun _ => ?_) (fun h => by simp at h)
    refine ex_seq (ex_region ?_)
    refine ro_assign (by simp only [evalF, upd, arg0, argS, ofConst, ofCell, Nat.reduceEqDiff, reduceIte] <;> rfl) (by decide) ?_
    refine ro_assign (by simp only [evalF, upd, arg0, argS, ofConst, ofCell, Nat.reduceEqDiff, reduceIte] <;> rfl) (by decide) ?_
    refine ro_nil ?_
    try simp only
    refine ex_ret ?_
    refine ⟨.tuple [.pv .nilSlice, .pv (.int .i64 1)], rfl, ha0, ?_⟩
    rw [fieldE, if_pos (.inl hlo)]
  · refine ex_seq (ex_seq (ex_region ?_))
    refine ro_fieldAddr (by simp only [evalF, upd, arg0, argS, ofConst, ofCell, Nat.reduceEqDiff, reduceIte] <;> rfl) (by exact (fa30_8 _ _ _)) (by decide) ?_
    refine ro_load (by simp only [evalF, upd, arg0, argS, ofConst, ofCell, Nat.reduceEqDiff, reduceIte] <;> rfl) (by exact (load1 ag28 hl1 (by simpa using mc39 hk))) (by decide) ?_
    refine ro_bin (by simp only [evalF, upd, arg0, argS, ofConst, ofCell, Nat.reduceEqDiff, reduceIte] <;> rfl) (by simp only [evalF, upd, arg0, argS, ofConst, ofCell, Nat.reduceEqDiff, reduceIte] <;> rfl) (by exact (lss_f hlo)) (by decide) ?_
    refine ro_move (by simp only [evalF, upd, arg0, argS, ofConst, ofCell, Nat.reduceEqDiff, reduceIte] <;> rfl) (by decide) ?_
    refine ro_guard rfl (by simp only [evalF, upd, arg0, argS, ofConst, ofCell, Nat.reduceEqDiff, reduceIte] <;> rfl) rfl ?_
    refine ro_fieldAddr (by simp only [evalF, upd, arg0, argS, ofConst, ofCell, Nat.reduceEqDiff, reduceIte] <;> rfl) (by exact (fa30_8 _ _ _)) (by decide) ?_
    refine ro_guard rfl (by simp only [evalF, upd, arg0, argS, ofConst, ofCell, Nat.reduceEqDiff, reduceIte] <;> rfl) rfl ?_
    refine ro_load (by simp only [evalF, upd, arg0, argS, ofConst, ofCell, Nat.reduceEqDiff, reduceIte] <;> rfl) (by exact (load1 ag28 hl1 (by simpa using mc39 hk))) (by decide) ?_
    refine ro_guard rfl (by simp only [evalF, upd, arg0, argS, ofConst, ofCell, Nat.reduceEqDiff, reduceIte] <;> rfl) rfl ?_
    refine ro_bin (by simp only [evalF, upd, arg0, argS, ofConst, ofCell, Nat.reduceEqDiff, reduceIte] <;> rfl) (by simp only [evalF, upd, arg0, argS, ofConst, ofCell, Nat.reduceEqDiff, reduceIte] <;> rfl) (by exact (gtr_v)) (by decide) ?_
    refine ro_pick (by simp only [evalF, upd, arg0, argS, ofConst, ofCell, Nat.reduceEqDiff, reduceIte] <;> rfl) (by simp only [evalF, upd, arg0, argS, ofConst, ofCell, Nat.reduceEqDiff, reduceIte] <;> rfl) (by simp only [evalF, upd, arg0, argS, ofConst, ofCell, Nat.reduceEqDiff, reduceIte] <;> rfl) (by decide) ?_
    refine ro_nil ?_
    try simp only
    refine ex_cond (t := decide (m.err > 20)) (by simp only [evalF, upd, arg0, argS, ofConst, ofCell, Nat.reduceEqDiff, reduceIte] <;> rfl) (fun hhi => ?_) (fun hhi => ?_)
    · refine ex_seq (ex_region ?_)
      refine ro_assign (by simp only [evalF, upd, arg0, argS, ofConst, ofCell, Nat.reduceEqDiff, reduceIte] <;> rfl) (by decide) ?_
      refine ro_assign (by simp only [evalF, upd, arg0, argS, ofConst, ofCell, Nat.reduceEqDiff, reduceIte] <;> rfl) (by decide) ?_
      refine ro_nil ?_
      try simp only
      refine ex_ret ?_
      refine ⟨.tuple [.pv .nilSlice, .pv (.int .i64 1)], rfl, ha0, ?_⟩
      rw [fieldE, if_pos (.inr (of_decide_eq_true hhi))]
    · refine ex_skip ?_
      try simp only
      have hhi' : ¬ m.err > 20 := of_decide_eq_false hhi
      refine ex_seq (ex_region ?_)
      refine ro_move (by simp only [evalF, upd, arg0, argS, ofConst, ofCell, Nat.reduceEqDiff, reduceIte] <;> rfl) (by decide) ?_
      refine ro_fieldAddr (by simp only [evalF, upd, arg0, argS, ofConst, ofCell, Nat.reduceEqDiff, reduceIte] <;> rfl) (by exact (fa30_8 _ _ _)) (by decide) ?_
      refine ro_load (by simp only [evalF, upd, arg0, argS, ofConst, ofCell, Nat.reduceEqDiff, reduceIte] <;> rfl) (by exact (load1 ag28 hl1 (by simpa using mc39 hk))) (by decide) ?_
      refine ro_conv (by simp only [evalF, upd, arg0, argS, ofConst, ofCell, Nat.reduceEqDiff, reduceIte] <;> rfl) (by exact (conv_u8e _ _)) (by decide) ?_
      refine ro_buildSlice rfl (by simp only [List.map_cons, List.map_nil, evalF, upd, ofConst, ofCell, Nat.reduceEqDiff, reduceIte]; exact bs27_1 _ _) (by decide) ?_
      refine ro_append (r := [.int .u8 (u8 m.err)]) st27 Try.underlying27 (by simp only [evalF, upd, arg0, argS, ofConst, ofCell, Nat.reduceEqDiff, reduceIte] <;> rfl) (by simp only [evalF, upd, arg0, argS, ofConst, ofCell, Nat.reduceEqDiff, reduceIte] <;> rfl) (hg1.keep (Nat.le_succ _) (fun id hid _ => by simp [setHp, show id ≠ nb + 1 by omega])) (src_built rfl (by simp [setHp])) (by simp [u8s]; omega) (by decide) ?_
      intro b' hp' nb' hg' ha' ho'
      refine ro_assign (by simp only [evalF, upd, arg0, argS, ofConst, ofCell, Nat.reduceEqDiff, reduceIte] <;> rfl) (by decide) ?_
      refine ro_assign (by simp only [evalF, upd, arg0, argS, ofConst, ofCell, Nat.reduceEqDiff, reduceIte] <;> rfl) (by decide) ?_
      refine ro_nil ?_
      try simp only
      refine ex_ret ?_
      refine ⟨.tuple [b', .pv (.int .i64 0)], by simp [resF, resOneF, upd], wr_ok ha0 (after_trans (after_new hp1 (nb + 1) b [.pv (.int .u8 (u8 m.err))] (pvs_ok [.int .u8 (u8 m.err)])) ha' (fun id h => .inl h)) (x := [u8 m.err]) (by simpa [u8s] using hg') (fun id h => (ho' id h).imp (fun h => h) (fun h => by omega)) rfl ?_⟩
      rw [fieldE, if_neg (by omega)]

theorem field_5 (lim d : Nat) {hp : Hp} {nb : Nat} {b : AV} {bs : List Int} {m : M} {L D : AV} (hf : Fit m) (hg : Grow hp nb b (u8s bs)) (hbs : bs.length < 100000) (hL : Row hp nb L (ints m.list)) (hD : Row hp nb D (u8s m.data)) (hneL : ∀ id, ownOf L = some id → ownOf b ≠ some id) (hneD : ∀ id, ownOf D = some id → ownOf b ≠ some id) (hbn : bs ≠ []) (hlim : 10 < lim) :
    CA (callA Try.prog facts plains lim (d + 3)) 20 [b, .agg (mcells m L D), .pv (.int .i64 5)] hp nb (WrOk b bs (fieldE m 5) hp nb) := by
  have hk := hf.key
  refine ca_body (fn := Try.f20) (c := bodyOf Try.f20) Try.func20 rfl (by show 3 ≤ 125; omega) ?_
  show EX _ _ _ _ _ 125 _ _ _ _ _
  unfold bodyOf Try.f20
  refine ex_seq (ex_region ?_)
  refine ro_box (v := .agg (mcells m L D)) (by simp [evalF, argsF]) (mc_all (row_cell hL).1 (row_cell hD).1) (by decide) ?_
  refine ro_assign (by simp only [evalF, upd, arg0, argS, ofConst, ofCell, Nat.reduceEqDiff, reduceIte] <;> rfl) (by decide) ?_
  refine ro_assign (by simp only [evalF, upd, arg0, argS, ofConst, ofCell, Nat.reduceEqDiff, reduceIte] <;> rfl) (by decide) ?_
  refine ro_nil ?_
  try simp only
  have ha0 : After hp nb b (setHp hp nb (.cells 1 (mcells m L D))) (nb + 1) := after_new hp nb b _ (ok_cells (row_ok' hL) (row_ok' hD))
  have hl1 : AI.look (setHp hp nb (.cells 1 (mcells m L D))) nb 1 = some (mcells m L D) := look_same _ _ _ _
  have hkp : ∀ id, id < nb → setHp hp nb (.cells 1 (mcells m L D)) id = hp id := fun id hid => by simp [setHp, show id ≠ nb by omega]
  show EX _ _ _ _ _ 125 _ _ (setHp hp nb (.cells 1 (mcells m L D))) _ _
  generalize setHp hp nb (.cells 1 (mcells m L D)) = hp1 at ha0 hl1 hkp ⊢
  have hg1 : Grow hp1 (nb + 1) b (u8s bs) := hg.keep (Nat.le_succ _) (fun id hid _ => hkp id hid)
  have hL1 : Row hp1 (nb + 1) L (ints m.list) := hL.keep (Nat.le_succ _) (fun id hid _ => hkp id hid)
  have hD1 : Row hp1 (nb + 1) D (u8s m.data) := hD.keep (Nat.le_succ _) (fun id hid _ => hkp id hid)
  refine ex_seq ?_
  refine ex_seq (ex_region ?_)
  refine ro_move (by simp only [evalF, upd, arg0, argS, ofConst, ofCell, Nat.reduceEqDiff, reduceIte] <;> rfl) (by decide) ?_
  refine ro_nil ?_
  try simp only
  refine ex_block ?_
  refine ex_seq (ex_region ?_)
  refine ro_bin (by simp only [evalF, upd, arg0, argS, ofConst, ofCell, Nat.reduceEqDiff, reduceIte] <;> rfl) (by simp only [evalF, upd, arg0, argS, ofConst, ofCell, Nat.reduceEqDiff, reduceIte] <;> rfl) (by exact (eql_f (by decide))) (by decide) ?_
  refine ro_assign (by simp only [evalF, upd, arg0, argS, ofConst, ofCell, Nat.reduceEqDiff, reduceIte] <;> rfl) (by decide) ?_
  refine ro_nil ?_
  try simp only
  refine ex_cond (t := false) (by simp only [evalF, upd, arg0, argS, ofConst, ofCell, Nat.reduceEqDiff, reduceIte] <;> rfl) (fun h => by simp at h) (fun _ => ?_)
  refine ex_seq (ex_region ?_)
  refine ro_bin (by simp only [evalF, upd, arg0, argS, ofConst, ofCell, Nat.reduceEqDiff, reduceIte] <;> rfl) (by simp only [evalF, upd, arg0, argS, ofConst, ofCell, Nat.reduceEqDiff, reduceIte] <;> rfl) (by exact (eql_f (by decide))) (by decide) ?_
  refine ro_assign (by simp only [evalF, upd, arg0, argS, ofConst, ofCell, Nat.reduceEqDiff, reduceIte] <;> rfl) (by decide) ?_
  refine ro_nil ?_
  try simp only
  refine ex_cond (t := false) (by simp only [evalF, upd, arg0, argS, ofConst, ofCell, Nat.reduceEqDiff, reduceIte] <;> rfl) (fun h => by simp at h) (fun _ => ?_)
  refine ex_seq (ex_region ?_)
  refine ro_bin (by simp only [evalF, upd, arg0, argS, ofConst, ofCell, Nat.reduceEqDiff, reduceIte] <;> rfl) (by simp only [evalF, upd, arg0, argS, ofConst, ofCell, Nat.reduceEqDiff, reduceIte] <;> rfl) (by exact (eql_f (by decide))) (by decide) ?_
  refine ro_assign (by simp only [evalF, upd, arg0, argS, ofConst, ofCell, Nat.reduceEqDiff, reduceIte] <;> rfl) (by decide) ?_
  refine ro_nil ?_
  try simp only
  refine ex_cond (t := false) (by simp only [evalF, upd, arg0, argS, ofConst, ofCell, Nat.reduceEqDiff, reduceIte] <;> rfl) (fun h => by simp at h) (fun _ => ?_)
  refine ex_seq (ex_region ?_)
  refine ro_bin (by simp only [evalF, upd, arg0, argS, ofConst, ofCell, Nat.reduceEqDiff, reduceIte] <;> rfl) (by simp only [evalF, upd, arg0, argS, ofConst, ofCell, Nat.reduceEqDiff, reduceIte] <;> rfl) (by exact (eql_f (by decide))) (by decide) ?_
  refine ro_assign (by simp only [evalF, upd, arg0, argS, ofConst, ofCell, Nat.reduceEqDiff, reduceIte] <;> rfl) (by decide) ?_
  refine ro_nil ?_
  try simp only
  refine ex_cond (t := false) (by simp only [evalF, upd, arg0, argS, ofConst, ofCell, Nat.reduceEqDiff, reduceIte] <;> rfl) (fun h => by simp at h) (fun _ => ?_)
  refine ex_seq (ex_region ?_)
  refine ro_bin (by simp only [evalF, upd, arg0, argS, ofConst, ofCell, Nat.reduceEqDiff, reduceIte] <;> rfl) (by simp only [evalF, upd, arg0, argS, ofConst, ofCell, Nat.reduceEqDiff, reduceIte] <;> rfl) (by exact (eql_f (by decide))) (by decide) ?_
  refine ro_assign (by simp only [evalF, upd, arg0, argS, ofConst, ofCell, Nat.reduceEqDiff, reduceIte] <;> rfl) (by decide) ?_
  refine ro_nil ?_
  try simp only
  refine ex_cond (t := false) (by simp only [evalF, upd, arg0, argS, ofConst, ofCell, Nat.reduceEqDiff, reduceIte] <;> rfl) (fun h => by simp at h) (fun _ => ?_)
  refine ex_seq (ex_region ?_)
  refine ro_bin (by simp only [evalF, upd, arg0, argS, ofConst, ofCell, Nat.reduceEqDiff, reduceIte] <;> rfl) (by simp only [evalF, upd, arg0, argS, ofConst, ofCell, Nat.reduceEqDiff, reduceIte] <;> rfl) (by exact (eql_t rfl)) (by decide) ?_
  refine ro_assign (by simp only [evalF, upd, arg0, argS, ofConst, ofCell, Nat.reduceEqDiff, reduceIte] <;> rfl) (by decide) ?_
  refine ro_nil ?_
  try simp only
  refine ex_cond (t := true) (by simp only [evalF, upd, arg0, argS, ofConst, ofCell, Nat.reduceEqDiff, reduceIte] <;> rfl) (fun _ => ?_) (fun h => by simp at h)
  have hrow : Row hp1 (nb + 1) (.slice nb 1 (0 + 5 + 0) 32 32 1 true) (u8s m.key) := by
    have hcl : ∃ ver, hp1 nb = .cells ver (mcells m L D) ∧ ver = 1 := by
      unfold AI.look at hl1
      split at hl1
      · rename_i ver cs hc
        split at hl1
        · rename_i hv
          simp only [Option.some.injEq] at hl1
          exact ⟨ver, by rw [hc, hl1], hv⟩
        · simp at hl1
      · simp at hl1
    obtain ⟨ver, hc, rfl⟩ := hcl
    exact .own _ _ _ _ _ _ _ _ (by simp [u8s, hk]) (by omega) hc (by rw [mc_length hk]; omega) (Nat.le_refl _) (mcKey hk)
  refine ex_seq (ex_region ?_)
  refine ro_move (by simp only [evalF, upd, arg0, argS, ofConst, ofCell, Nat.reduceEqDiff, reduceIte] <;> rfl) (by decide) ?_
  refine ro_fieldAddr (by simp only [evalF, upd, arg0, argS, ofConst, ofCell, Nat.reduceEqDiff, reduceIte] <;> rfl) (by exact (fa30_5 _ _ _)) (by decide) ?_
  refine ro_slice (by simp only [evalF, upd, arg0, argS, ofConst, ofCell, Nat.reduceEqDiff, reduceIte] <;> rfl) rfl rfl rfl (slice26 _ _ _) (by decide) ?_
  refine ro_append (r := u8s m.key) st27 Try.underlying27 (by simp only [evalF, upd, arg0, argS, ofConst, ofCell, Nat.reduceEqDiff, reduceIte] <;> rfl) (by simp only [evalF, upd, arg0, argS, ofConst, ofCell, Nat.reduceEqDiff, reduceIte] <;> rfl) hg1 (row_src hrow) (by simp [u8s, hk]; omega) (by decide) ?_
  intro b' hp' nb' hg' ha' ho'
  refine ro_assign (by simp only [evalF, upd, arg0, argS, ofConst, ofCell, Nat.reduceEqDiff, reduceIte] <;> rfl) (by decide) ?_
  refine ro_assign (by simp only [evalF, upd, arg0, argS, ofConst, ofCell, Nat.reduceEqDiff, reduceIte] <;> rfl) (by decide) ?_
  refine ro_nil ?_
  try simp only
  refine ex_ret ?_
  refine ⟨.tuple [b', .pv (.int .i64 0)], by simp [resF, resOneF, upd], wr_ok ha0 ha' (x := m.key) hg' ho' rfl rfl⟩

theorem field_6 (lim d : Nat) {hp : Hp} {nb : Nat} {b : AV} {bs : List Int} {m : M} {L D : AV} (hf : Fit m) (hg : Grow hp nb b (u8s bs)) (hbs : bs.length < 100000) (hL : Row hp nb L (ints m.list)) (hD : Row hp nb D (u8s m.data)) (hneL : ∀ id, ownOf L = some id → ownOf b ≠ some id) (hneD : ∀ id, ownOf D = some id → ownOf b ≠ some id) (hbn : bs ≠ []) (hlim : 10 < lim) :
    CA (callA Try.prog facts plains lim (d + 3)) 20 [b, .agg (mcells m L D), .pv (.int .i64 6)] hp nb (WrOk b bs (fieldE m 6) hp nb) := by
  have hk := hf.key
  refine ca_body (fn := Try.f20) (c := bodyOf Try.f20) Try.func20 rfl (by show 3 ≤ 125; omega) ?_
  show EX _ _ _ _ _ 125 _ _ _ _ _
  unfold bodyOf Try.f20
  refine ex_seq (ex_region ?_)
  refine ro_box (v := .agg (mcells m L D)) (by simp [evalF, argsF]) (mc_all (row_cell hL).1 (row_cell hD).1) (by decide) ?_
  refine ro_assign (by simp only [evalF, upd, arg0, argS, ofConst, ofCell, Nat.reduceEqDiff, reduceIte] <;> rfl) (by decide) ?_
  refine ro_assign (by simp only [evalF, upd, arg0, argS, ofConst, ofCell, Nat.reduceEqDiff, reduceIte] <;> rfl) (by decide) ?_
  refine ro_nil ?_
  try simp only
  have ha0 : After hp nb b (setHp hp nb (.cells 1 (mcells m L D))) (nb + 1) := after_new hp nb b _ (ok_cells (row_ok' hL) (row_ok' hD))
  have hl1 : AI.look (setHp hp nb (.cells 1 (mcells m L D))) nb 1 = some (mcells m L D) := look_same _ _ _ _
  have hkp : ∀ id, id < nb → setHp hp nb (.cells 1 (mcells m L D)) id = hp id := fun id hid => by simp [setHp, show id ≠ nb by omega]
  show EX _ _ _ _ _ 125 _ _ (setHp hp nb (.cells 1 (mcells m L D))) _ _
  generalize setHp hp nb (.cells 1 (mcells m L D)) = hp1 at ha0 hl1 hkp ⊢
  have hg1 : Grow hp1 (nb + 1) b (u8s bs) := hg.keep (Nat.le_succ _) (fun id hid _ => hkp id hid)
  have hL1 : Row hp1 (nb + 1) L (ints m.list) := hL.keep (Nat.le_succ _) (fun id hid _ => hkp id hid)
  have hD1 : Row hp1 (nb + 1) D (u8s m.data) := hD.keep (Nat.le_succ _) (fun id hid _ => hkp id hid)
  refine ex_seq ?_
  refine ex_seq (ex_region ?_)
  refine ro_move (by simp only [evalF, upd, arg0, argS, ofConst, ofCell, Nat.reduceEqDiff, reduceIte] <;> rfl) (by decide) ?_
  refine ro_nil ?_
  try simp only
  refine ex_block ?_
  refine ex_seq (ex_region ?_)
  refine ro_bin (by simp only [evalF, upd, arg0, argS, ofConst, ofCell, Nat.reduceEqDiff, reduceIte] <;> rfl) (by simp only [evalF, upd, arg0, argS, ofConst, ofCell, Nat.reduceEqDiff, reduceIte] <;> rfl) (by exact (eql_f (by decide))) (by decide) ?_
  refine ro_assign (by simp only [evalF, upd, arg0, argS, ofConst, ofCell, Nat.reduceEqDiff, reduceIte] <;> rfl) (by decide) ?_
  refine ro_nil ?_
  try simp only
  refine ex_cond (t := false) (by simp only [evalF, upd, arg0, argS, ofConst, ofCell, Nat.reduceEqDiff, reduceIte] <;> rfl) (fun h => by simp at h) (fun _ => ?_)
  refine ex_seq (ex_region ?_)
  refine ro_bin (by simp only [evalF, upd, arg0, argS, ofConst, ofCell, Nat.reduceEqDiff, reduceIte] <;> rfl) (by simp only [evalF, upd, arg0, argS, ofConst, ofCell, Nat.reduceEqDiff, reduceIte] <;> rfl) (by exact (eql_f (by decide))) (by decide) ?_
  refine ro_assign (by simp only [evalF, upd, arg0, argS, ofConst, ofCell, Nat.reduceEqDiff, reduceIte] <;> rfl) (by decide) ?_
  refine ro_nil ?_
  try simp only
  refine ex_cond (t := false) (by simp only [evalF, upd, arg0, argS, ofConst, ofCell, Nat.reduceEqDiff, reduceIte] <;> rfl) (fun h => by simp at h) (fun _ => ?_)
  refine ex_seq (ex_region ?_)
  refine ro_bin (by simp only [evalF, upd, arg0, argS, ofConst, ofCell, Nat.reduceEqDiff, reduceIte] <;> rfl) (by simp only [evalF, upd, arg0, argS, ofConst, ofCell, Nat.reduceEqDiff, reduceIte] <;> rfl) (by exact (eql_f (by decide))) (by decide) ?_
  refine ro_assign (by simp only [evalF, upd, arg0, argS, ofConst, ofCell, Nat.reduceEqDiff, reduceIte] <;> rfl) (by decide) ?_
  refine ro_nil ?_
  try simp only
  refine ex_cond (t := false) (by simp only [evalF, upd, arg0, argS, ofConst, ofCell, Nat.reduceEqDiff, reduceIte] <;> rfl) (fun h => by simp at h) (fun _ => ?_)
  refine ex_seq (ex_region ?_)
  refine ro_bin (by simp only [evalF, upd, arg0, argS, ofConst, ofCell, Nat.reduceEqDiff, reduceIte] <;> rfl) (by simp only [evalF, upd, arg0, argS, ofConst, ofCell, Nat.reduceEqDiff, reduceIte] <;> rfl) (by exact (eql_f (by decide))) (by decide) ?_
  refine ro_assign (by simp only [evalF, upd, arg0, argS, ofConst, ofCell, Nat.reduceEqDiff, reduceIte] <;> rfl) (by decide) ?_
  refine ro_nil ?_
  try simp only
  refine ex_cond (t := false) (by simp only [evalF, upd, arg0, argS, ofConst, ofCell, Nat.reduceEqDiff, reduceIte] <;> rfl) (fun h => by simp at h) (fun _ => ?_)
  refine ex_seq (ex_region ?_)
  refine ro_bin (by simp only [evalF, upd, arg0, argS, ofConst, ofCell, Nat.reduceEqDiff, reduceIte] <;> rfl) (by simp only [evalF, upd, arg0, argS, ofConst, ofCell, Nat.reduceEqDiff, reduceIte] <;> rfl) (by exact (eql_f (by decide))) (by decide) ?_
  refine ro_assign (by simp only [evalF, upd, arg0, argS, ofConst, ofCell, Nat.reduceEqDiff, reduceIte] <;> rfl) (by decide) ?_
  refine ro_nil ?_
  try simp only
  refine ex_cond (t := false) (by simp only [evalF, upd, arg0, argS, ofConst, ofCell, Nat.reduceEqDiff, reduceIte] <;> rfl) (fun h => by simp at h) (fun _ => ?_)
  refine ex_seq (ex_region ?_)
  refine ro_bin (by simp only [evalF, upd, arg0, argS, ofConst, ofCell, Nat.reduceEqDiff, reduceIte] <;> rfl) (by simp only [evalF, upd, arg0, argS, ofConst, ofCell, Nat.reduceEqDiff, reduceIte] <;> rfl) (by exact (eql_f (by decide))) (by decide) ?_
  refine ro_assign (by simp only [evalF, upd, arg0, argS, ofConst, ofCell, Nat.reduceEqDiff, reduceIte] <;> rfl) (by decide) ?_
  refine ro_nil ?_
  try simp only
  refine ex_cond (t := false) (by simp only [evalF, upd, arg0, argS, ofConst, ofCell, Nat.reduceEqDiff, reduceIte] <;> rfl) (fun h => by simp at h) (fun _ => ?_)
  refine ex_seq (ex_region ?_)
  refine ro_bin (by simp only [evalF, upd, arg0, argS, ofConst, ofCell, Nat.reduceEqDiff, reduceIte] <;> rfl) (by simp only [evalF, upd, arg0, argS, ofConst, ofCell, Nat.reduceEqDiff, reduceIte] <;> rfl) (by exact (eql_t rfl)) (by decide) ?_
  refine ro_assign (by simp only [evalF, upd, arg0, argS, ofConst, ofCell, Nat.reduceEqDiff, reduceIte] <;> rfl) (by decide) ?_
  refine ro_nil ?_
  try simp only
  refine ex_cond (t := true) (by simp only [evalF, upd, arg0, argS, ofConst, ofCell, Nat.reduceEqDiff, reduceIte] <;> rfl) (fun _ => ?_) (fun h => by simp at h)
  have hDs : (u8s m.data).length = m.data.length := by simp [u8s]
  refine ex_seq (ex_seq (ex_region ?_))
  refine ro_fieldAddr (by simp only [evalF, upd, arg0, argS, ofConst, ofCell, Nat.reduceEqDiff, reduceIte] <;> rfl) (by exact (fa30_6 _ _ _)) (by decide) ?_
  refine ro_load (by simp only [evalF, upd, arg0, argS, ofConst, ofCell, Nat.reduceEqDiff, reduceIte] <;> rfl) (by exact (load1 ag27 hl1 (by simpa using mc37 hk))) (by decide) ?_
  refine ro_builtin rfl (by simp only [List.map_cons, List.map_nil, evalF, upd, arg0, argS, ofConst, ofCell, Nat.reduceEqDiff, reduceIte] <;> rfl) (by exact (row_len st27 hD1)) (by decide) ?_
  refine ro_bin (by simp only [evalF, upd, arg0, argS, ofConst, ofCell, Nat.reduceEqDiff, reduceIte] <;> rfl) (by simp only [evalF, upd, arg0, argS, ofConst, ofCell, Nat.reduceEqDiff, reduceIte] <;> rfl) (by exact (gtr_v)) (by decide) ?_
  refine ro_nil ?_
  try simp only
  refine ex_cond (t := decide (((u8s m.data).length : Int) > 6000)) (by simp only [evalF, upd, arg0, argS, ofConst, ofCell, Nat.reduceEqDiff, reduceIte] <;> rfl) (fun hhi => ?_) (fun hhi => ?_)
  · refine ex_seq (ex_region ?_)
    refine ro_assign (by simp only [evalF, upd, arg0, argS, ofConst, ofCell, Nat.reduceEqDiff, reduceIte] <;> rfl) (by decide) ?_
    refine ro_assign (by simp only [evalF, upd, arg0, argS, ofConst, ofCell, Nat.reduceEqDiff, reduceIte] <;> rfl) (by decide) ?_
    refine ro_nil ?_
    try simp only
    refine ex_ret ?_
    refine ⟨.tuple [.pv .nilSlice, .pv (.int .i64 5)], rfl, ha0, ?_⟩
    have hgt := of_decide_eq_true hhi
    rw [fieldE, if_pos (by rw [hDs] at hgt; omega)]
  · refine ex_skip ?_
    try simp only
    have hle := of_decide_eq_false hhi
    have hldD : ∀ {hp : Hp}, hp nb = hp1 nb → loadA Try.prog hp 27 (.ptr nb 1 37) = some D := fun {hp} he => load1 ag27 (by rw [look_at 1 he]; exact hl1) (mc37 hk)
    refine ex_seq (ex_draw dataStat ?_)
    refine rd_val (v := b) rfl (by simp [primA, evalF, upd, argsF]) (by decide) ?_
    refine rd_val (v := .ptr nb 1 37) rfl (by simp [primA, evalF, upd, fa30_6]) (by decide) ?_
    refine rd_val (v := D) rfl (by simp only [primA, evalF, upd, Nat.reduceEqDiff, reduceIte, hldD rfl, Option.map_some]) (by decide) ?_
    refine rd_val (v := .pv (.int .i64 (u8s m.data).length)) rfl (by simp only [primA, List.map_cons, List.map_nil, evalF, upd, Nat.reduceEqDiff, reduceIte]; exact row_len st27 hD1) (by decide) ?_
    refine rd_val (v := .pv (.int .i64 (((u8s m.data).length : Int) / 2 ^ 8))) rfl (by simp only [primA, evalF, upd, ofConst, ofCell, Nat.reduceEqDiff, reduceIte]; rw [show (8 : Int) = ((8 : Nat) : Int) from rfl, shr_v 8 (by omega)]; rfl) (by decide) ?_
    refine rd_val (v := .pv (.int .u8 (u8 (((u8s m.data).length : Int) / 2 ^ 8)))) rfl (by simp only [primA, evalF, upd, Nat.reduceEqDiff, reduceIte]; exact conv_u8 _ _) (by decide) ?_
    refine rd_val (v := .ptr nb 1 37) rfl (by simp [primA, evalF, upd, fa30_6]) (by decide) ?_
    refine rd_val (v := D) rfl (by simp only [primA, evalF, upd, Nat.reduceEqDiff, reduceIte, hldD rfl, Option.map_some]) (by decide) ?_
    refine rd_val (v := .pv (.int .i64 (u8s m.data).length)) rfl (by simp only [primA, List.map_cons, List.map_nil, evalF, upd, Nat.reduceEqDiff, reduceIte]; exact row_len st27 hD1) (by decide) ?_
    refine rd_val (v := .pv (.int .u8 (u8 (u8s m.data).length))) rfl (by simp only [primA, evalF, upd, Nat.reduceEqDiff, reduceIte]; exact conv_u8 _ _) (by decide) ?_
    refine rd_new (v := .slice (nb + 1) 1 0 2 2 1 true) (b := .cells 1 [.pv (.int .u8 (u8 (((u8s m.data).length : Int) / 2 ^ 8))), .pv (.int .u8 (u8 (u8s m.data).length))]) rfl (by simp only [primA, List.map_cons, List.map_nil, evalF, upd, Nat.reduceEqDiff, reduceIte]; exact bs27_2 _ _ _) (by decide) ?_
    refine rd_append (r := [.int .u8 (u8 (((u8s m.data).length : Int) / 2 ^ 8)), .int .u8 (u8 (u8s m.data).length)]) st27 Try.underlying27 (v := b) (by simp [evalF, upd]) (by simp only [evalF, upd, Nat.reduceEqDiff, reduceIte]; rfl) (hg1.keep (Nat.le_succ _) (fun id hid _ => by simp [setHp, show id ≠ nb + 1 by omega])) (src_built rfl (by simp [setHp])) (by simp [u8s]; omega) (by decide) ?_
    intro b1 hp2 nb2 c1 hg2 ha2 hc1 ho2
    have hax := after_trans (after_new hp1 (nb + 1) b [.pv (.int .u8 (u8 (((u8s m.data).length : Int) / 2 ^ 8))), .pv (.int .u8 (u8 (u8s m.data).length))] (pvs_ok [.int .u8 (u8 (((u8s m.data).length : Int) / 2 ^ 8)), .int .u8 (u8 (u8s m.data).length)])) ha2 (fun id h => .inl h)
    have hbo : ∀ id, ownOf b = some id → id < nb := fun id h => row_own hg.row h
    have hD2 : Row hp2 nb2 D (u8s m.data) := hD1.keep hax.1 (fun id hid ho => hax.2.1 id hid (hneD id ho))
    refine rd_val (v := .ptr nb 1 37) rfl (by simp [primA, evalF, upd, fa30_6]) (by decide) ?_
    refine rd_val (v := D) rfl (by simp only [primA, evalF, upd, Nat.reduceEqDiff, reduceIte, hldD (hax.2.1 nb (by omega) (fun h => by have := hbo nb h; omega)), Option.map_some]) (by decide) ?_
    refine rd_append (r := u8s m.data) st27 Try.underlying27 (v := b1) (by simp [evalF, upd]) (by simp only [evalF, upd, Nat.reduceEqDiff, reduceIte] <;> rfl) hg2 (row_src hD2) (by simp only [List.length_append, List.length_cons, List.length_nil, hDs]; simp [u8s]; omega) (by decide) ?_
    intro b2 hp3 nb3 c2 hg3 ha3 hc2 ho3
    refine rd_val (v := b2) rfl (by simp [primA, evalF, upd]) (by decide) ?_
    refine rd_val (v := .pv (.int .i64 0)) rfl (by simp [primA, evalF, upd, ofConst, ofCell]) (by decide) ?_
    refine rd_nil ⟨dyn_of rfl (fun p hp' => ?_), ?_⟩
    · have hp'' : p ∈ needs (regOf Try.f20 25) := hp'
      rw [dataNeeds] at hp''
      simp only [List.mem_cons, List.not_mem_nil, or_false] at hp''
      rcases hp'' with rfl | rfl | rfl | rfl | rfl | rfl | rfl | rfl | rfl <;> intro x y hx hy <;> cases hx <;> cases hy
      · exact heapPart_no rfl rfl
      · exact heapPart_no rfl rfl
      · exact heapPart_no rfl rfl
      · exact heapPart_no rfl rfl
      · exact heapPart_no rfl rfl
      · exact heapPart_no rfl rfl
      · exact heapPart_no rfl rfl
      · simp [heapPart, footF, Chg.isAll, Chg.ids, disjointL, looksIn, Op.operands, evalF, upd, idOf, heapful]
      · rcases hc1 with rfl | ⟨bb, rfl⟩ | ⟨id, bb, rfl, hid, _⟩
        · exact heapPart_no rfl rfl
        · simp [heapPart, footF, Chg.isAll, Chg.ids, disjointL, looksIn, Op.operands, evalF, upd, idOf, heapful]
          omega
        · have := hbo id hid
          simp [heapPart, footF, Chg.isAll, Chg.ids, disjointL, looksIn, Op.operands, evalF, upd, idOf, heapful]
          omega
    try simp only
    refine ex_ret ?_
    have ha4 := after_trans hax ha3 (fun id h => (ho2 id h).imp (fun h => h) (fun h => by omega))
    refine ⟨.tuple [b2, .pv (.int .i64 0)], by simp [resF, resOneF, upd], wr_ok ha0 ha4 (x := u8 ((m.data.length : Int) / 256) :: u8 m.data.length :: m.data) ?_ (fun id h => ?_) rfl ?_⟩
    · have e : u8s bs ++ u8s (u8 ((m.data.length : Int) / 256) :: u8 m.data.length :: m.data) = u8s bs ++ [.int .u8 (u8 (((u8s m.data).length : Int) / 2 ^ 8)), .int .u8 (u8 (u8s m.data).length)] ++ u8s m.data := by
        rw [hDs]
        simp [u8s]
      rw [e]; exact hg3
    · rcases ho3 id h with h | h
      · exact (ho2 id h).imp (fun h => h) (fun h => by omega)
      · have := hax.1; exact .inr (by omega)
    · rw [fieldE, if_neg (by omega)]

theorem field_7 (lim d : Nat) {hp : Hp} {nb : Nat} {b : AV} {bs : List Int} {m : M} {L D : AV} (hf : Fit m) (hg : Grow hp nb b (u8s bs)) (hbs : bs.length < 100000) (hL : Row hp nb L (ints m.list)) (hD : Row hp nb D (u8s m.data)) (hneL : ∀ id, ownOf L = some id → ownOf b ≠ some id) (hneD : ∀ id, ownOf D = some id → ownOf b ≠ some id) (hbn : bs ≠ []) (hlim : 10 < lim) :
    CA (callA Try.prog facts plains lim (d + 3)) 20 [b, .agg (mcells m L D), .pv (.int .i64 7)] hp nb (WrOk b bs (fieldE m 7) hp nb) := by
  have hk := hf.key
  refine ca_body (fn := Try.f20) (c := bodyOf Try.f20) Try.func20 rfl (by show 3 ≤ 125; omega) ?_
  show EX _ _ _ _ _ 125 _ _ _ _ _
  unfold bodyOf Try.f20
  refine ex_seq (ex_region ?_)
  refine ro_box (v := .agg (mcells m L D)) (by simp [evalF, argsF]) (mc_all (row_cell hL).1 (row_cell hD).1) (by decide) ?_
  refine ro_assign (by simp only [evalF, upd, arg0, argS, ofConst, ofCell, Nat.reduceEqDiff, reduceIte] <;> rfl) (by decide) ?_
  refine ro_assign (by simp only [evalF, upd, arg0, argS, ofConst, ofCell, Nat.reduceEqDiff, reduceIte] <;> rfl) (by decide) ?_
  refine ro_nil ?_
  try simp only
  have ha0 : After hp nb b (setHp hp nb (.cells 1 (mcells m L D))) (nb + 1) := after_new hp nb b _ (ok_cells (row_ok' hL) (row_ok' hD))
  have hl1 : AI.look (setHp hp nb (.cells 1 (mcells m L D))) nb 1 = some (mcells m L D) := look_same _ _ _ _
  have hkp : ∀ id, id < nb → setHp hp nb (.cells 1 (mcells m L D)) id = hp id := fun id hid => by simp [setHp, show id ≠ nb by omega]
  show EX _ _ _ _ _ 125 _ _ (setHp hp nb (.cells 1 (mcells m L D))) _ _
  generalize setHp hp nb (.cells 1 (mcells m L D)) = hp1 at ha0 hl1 hkp ⊢
  have hg1 : Grow hp1 (nb + 1) b (u8s bs) := hg.keep (Nat.le_succ _) (fun id hid _ => hkp id hid)
  have hL1 : Row hp1 (nb + 1) L (ints m.list) := hL.keep (Nat.le_succ _) (fun id hid _ => hkp id hid)
  have hD1 : Row hp1 (nb + 1) D (u8s m.data) := hD.keep (Nat.le_succ _) (fun id hid _ => hkp id hid)
  refine ex_seq ?_
  refine ex_seq (ex_region ?_)
  refine ro_move (by simp only [evalF, upd, arg0, argS, ofConst, ofCell, Nat.reduceEqDiff, reduceIte] <;> rfl) (by decide) ?_
  refine ro_nil ?_
  try simp only
  refine ex_block ?_
  refine ex_seq (ex_region ?_)
  refine ro_bin (by simp only [evalF, upd, arg0, argS, ofConst, ofCell, Nat.reduceEqDiff, reduceIte] <;> rfl) (by simp only [evalF, upd, arg0, argS, ofConst, ofCell, Nat.reduceEqDiff, reduceIte] <;> rfl) (by exact (eql_f (by decide))) (by decide) ?_
  refine ro_assign (by simp only [evalF, upd, arg0, argS, ofConst, ofCell, Nat.reduceEqDiff, reduceIte] <;> rfl) (by decide) ?_
  refine ro_nil ?_
  try simp only
  refine ex_cond (t := false) (by simp only [evalF, upd, arg0, argS, ofConst, ofCell, Nat.reduceEqDiff, reduceIte] <;> rfl) (fun h => by simp at h) (fun _ => ?_)
  refine ex_seq (ex_region ?_)
  refine ro_bin (by simp only [evalF, upd, arg0, argS, ofConst, ofCell, Nat.reduceEqDiff, reduceIte] <;> rfl) (by simp only [evalF, upd, arg0, argS, ofConst, ofCell, Nat.reduceEqDiff, reduceIte] <;> rfl) (by exact (eql_f (by decide))) (by decide) ?_
  refine ro_assign (by simp only [evalF, upd, arg0, argS, ofConst, ofCell, Nat.reduceEqDiff, reduceIte] <;> rfl) (by decide) ?_
  refine ro_nil ?_
  try simp only
  refine ex_cond (t := false) (by simp only [evalF, upd, arg0, argS, ofConst, ofCell, Nat.reduceEqDiff, reduceIte] <;> rfl) (fun h => by simp at h) (fun _ => ?_)
  refine ex_seq (ex_region ?_)
  refine ro_bin (by simp only [evalF, upd, arg0, argS, ofConst, ofCell, Nat.reduceEqDiff, reduceIte] <;> rfl) (by simp only [evalF, upd, arg0, argS, ofConst, ofCell, Nat.reduceEqDiff, reduceIte] <;> rfl) (by exact (eql_f (by decide))) (by decide) ?_
  refine ro_assign (by simp only [evalF, upd, arg0, argS, ofConst, ofCell, Nat.reduceEqDiff, reduceIte] <;> rfl) (by decide) ?_
  refine ro_nil ?_
  try simp only
  refine ex_cond (t := false) (by simp only [evalF, upd, arg0, argS, ofConst, ofCell, Nat.reduceEqDiff, reduceIte] <;> rfl) (fun h => by simp at h) (fun _ => ?_)
  refine ex_seq (ex_region ?_)
  refine ro_bin (by simp only [evalF, upd, arg0, argS, ofConst, ofCell, Nat.reduceEqDiff, reduceIte] <;> rfl) (by simp only [evalF, upd, arg0, argS, ofConst, ofCell, Nat.reduceEqDiff, reduceIte] <;> rfl) (by exact (eql_f (by decide))) (by decide) ?_
  refine ro_assign (by simp only [evalF, upd, arg0, argS, ofConst, ofCell, Nat.reduceEqDiff, reduceIte] <;> rfl) (by decide) ?_
  refine ro_nil ?_
  try simp only
  refine ex_cond (t := false) (by simp only [evalF, upd, arg0, argS, ofConst, ofCell, Nat.reduceEqDiff, reduceIte] <;> rfl) (fun h => by simp at h) (fun _ => ?_)
  refine ex_seq (ex_region ?_)
  refine ro_bin (by simp only [evalF, upd, arg0, argS, ofConst, ofCell, Nat.reduceEqDiff, reduceIte] <;> rfl) (by simp only [evalF, upd, arg0, argS, ofConst, ofCell, Nat.reduceEqDiff, reduceIte] <;> rfl) (by exact (eql_f (by decide))) (by decide) ?_
  refine ro_assign (by simp only [evalF, upd, arg0, argS, ofConst, ofCell, Nat.reduceEqDiff, reduceIte] <;> rfl) (by decide) ?_
  refine ro_nil ?_
  try simp only
  refine ex_cond (t := false) (by simp only [evalF, upd, arg0, argS, ofConst, ofCell, Nat.reduceEqDiff, reduceIte] <;> rfl) (fun h => by simp at h) (fun _ => ?_)
  refine ex_seq (ex_region ?_)
  refine ro_bin (by simp only [evalF, upd, arg0, argS, ofConst, ofCell, Nat.reduceEqDiff, reduceIte] <;> rfl) (by simp only [evalF, upd, arg0, argS, ofConst, ofCell, Nat.reduceEqDiff, reduceIte] <;> rfl) (by exact (eql_f (by decide))) (by decide) ?_
  refine ro_assign (by simp only [evalF, upd, arg0, argS, ofConst, ofCell, Nat.reduceEqDiff, reduceIte] <;> rfl) (by decide) ?_
  refine ro_nil ?_
  try simp only
  refine ex_cond (t := false) (by simp only [evalF, upd, arg0, argS, ofConst, ofCell, Nat.reduceEqDiff, reduceIte] <;> rfl) (fun h => by simp at h) (fun _ => ?_)
  refine ex_seq (ex_region ?_)
  refine ro_bin (by simp only [evalF, upd, arg0, argS, ofConst, ofCell, Nat.reduceEqDiff, reduceIte] <;> rfl) (by simp only [evalF, upd, arg0, argS, ofConst, ofCell, Nat.reduceEqDiff, reduceIte] <;> rfl) (by exact (eql_f (by decide))) (by decide) ?_
  refine ro_assign (by simp only [evalF, upd, arg0, argS, ofConst, ofCell, Nat.reduceEqDiff, reduceIte] <;> rfl) (by decide) ?_
  refine ro_nil ?_
  try simp only
  refine ex_cond (t := false) (by simp only [evalF, upd, arg0, argS, ofConst, ofCell, Nat.reduceEqDiff, reduceIte] <;> rfl) (fun h => by simp at h) (fun _ => ?_)
  refine ex_skip ?_
  try simp only
  by_cases hlo : m.lease < 1
  · refine ex_seq (ex_seq (ex_region ?_))
    refine ro_fieldAddr (by simp only [evalF, upd, arg0, argS, ofConst, ofCell, Nat.reduceEqDiff, reduceIte] <;> rfl) (by exact (fa30_7 _ _ _)) (by decide) ?_
    refine ro_load (by simp only [evalF, upd, arg0, argS, ofConst, ofCell, Nat.reduceEqDiff, reduceIte] <;> rfl) (by exact (load1 ag3 hl1 (by simpa using mc38 hk))) (by decide) ?_
    refine ro_bin (by simp only [evalF, upd, arg0, argS, ofConst, ofCell, Nat.reduceEqDiff, reduceIte] <;> rfl) (by simp only [evalF, upd, arg0, argS, ofConst, ofCell, Nat.reduceEqDiff, reduceIte] <;> rfl) (by exact (lss_t hlo)) (by decide) ?_
    refine ro_move (by simp only [evalF, upd, arg0, argS, ofConst, ofCell, Nat.reduceEqDiff, reduceIte] <;> rfl) (by decide) ?_
    refine ro_skip rfl (by simp only [evalF, upd, arg0, argS, ofConst, ofCell, Nat.reduceEqDiff, reduceIte] <;> rfl) rfl (fun e he => by cases he; decide) ?_
    simp only [putF]
    refine ro_skip rfl (by simp only [evalF, upd, arg0, argS, ofConst, ofCell, Nat.reduceEqDiff, reduceIte] <;> rfl) rfl (fun e he => by cases he; decide) ?_
    simp only [putF]
    refine ro_skip rfl (by simp only [evalF, upd, arg0, argS, ofConst, ofCell, Nat.reduceEqDiff, reduceIte] <;> rfl) rfl (fun e he => by cases he; decide) ?_
    simp only [putF]
    refine ro_pick (by simp only [evalF, upd, arg0, argS, ofConst, ofCell, Nat.reduceEqDiff, reduceIte] <;> rfl) (by simp only [evalF, upd, arg0, argS, ofConst, ofCell, Nat.reduceEqDiff, reduceIte] <;> rfl) (by simp only [evalF, upd, arg0, argS, ofConst, ofCell, Nat.reduceEqDiff, reduceIte] <;> rfl) (by decide) ?_
    refine ro_nil ?_
    try simp only
    refine ex_cond (t := true) (by simp only [evalF, upd, arg0, argS, ofConst, ofCell, Nat.reduceEqDiff, reduceIte] <;> rfl) (fun _ => ?_) (fun h => by simp at h)
    refine ex_seq (ex_region ?_)
    refine ro_assign (by simp only [evalF, upd, arg0, argS, ofConst, ofCell, Nat.reduceEqDiff, reduceIte] <;> rfl) (by decide) ?_
    refine ro_assign (by simp only [evalF, upd, arg0, argS, ofConst, ofCell, Nat.reduceEqDiff, reduceIte] <;> rfl) (by decide) ?_
    refine ro_nil ?_
    try simp only
    refine ex_ret ?_
    refine ⟨.tuple [.pv .nilSlice, .pv (.int .i64 1)], rfl, ha0, ?_⟩
    rw [fieldE_7, if_pos (.inl hlo)]
  · refine ex_seq (ex_seq (ex_region ?_))
    refine ro_fieldAddr (by simp only [evalF, upd, arg0, argS, ofConst, ofCell, Nat.reduceEqDiff, reduceIte] <;> rfl) (by exact (fa30_7 _ _ _)) (by decide) ?_
    refine ro_load (by simp only [evalF, upd, arg0, argS, ofConst, ofCell, Nat.reduceEqDiff, reduceIte] <;> rfl) (by exact (load1 ag3 hl1 (by simpa using mc38 hk))) (by decide) ?_
    refine ro_bin (by simp only [evalF, upd, arg0, argS, ofConst, ofCell, Nat.reduceEqDiff, reduceIte] <;> rfl) (by simp only [evalF, upd, arg0, argS, ofConst, ofCell, Nat.reduceEqDiff, reduceIte] <;> rfl) (by exact (lss_f hlo)) (by decide) ?_
    refine ro_move (by simp only [evalF, upd, arg0, argS, ofConst, ofCell, Nat.reduceEqDiff, reduceIte] <;> rfl) (by decide) ?_
    refine ro_guard rfl (by simp only [evalF, upd, arg0, argS, ofConst, ofCell, Nat.reduceEqDiff, reduceIte] <;> rfl) rfl ?_
    refine ro_fieldAddr (by simp only [evalF, upd, arg0, argS, ofConst, ofCell, Nat.reduceEqDiff, reduceIte] <;> rfl) (by exact (fa30_7 _ _ _)) (by decide) ?_
    refine ro_guard rfl (by simp only [evalF, upd, arg0, argS, ofConst, ofCell, Nat.reduceEqDiff, reduceIte] <;> rfl) rfl ?_
    refine ro_load (by simp only [evalF, upd, arg0, argS, ofConst, ofCell, Nat.reduceEqDiff, reduceIte] <;> rfl) (by exact (load1 ag3 hl1 (by simpa using mc38 hk))) (by decide) ?_
    refine ro_guard rfl (by simp only [evalF, upd, arg0, argS, ofConst, ofCell, Nat.reduceEqDiff, reduceIte] <;> rfl) rfl ?_
    refine ro_bin (by simp only [evalF, upd, arg0, argS, ofConst, ofCell, Nat.reduceEqDiff, reduceIte] <;> rfl) (by simp only [evalF, upd, arg0, argS, ofConst, ofCell, Nat.reduceEqDiff, reduceIte] <;> rfl) (by exact (gtr_v)) (by decide) ?_
    refine ro_pick (by simp only [evalF, upd, arg0, argS, ofConst, ofCell, Nat.reduceEqDiff, reduceIte] <;> rfl) (by simp only [evalF, upd, arg0, argS, ofConst, ofCell, Nat.reduceEqDiff, reduceIte] <;> rfl) (by simp only [evalF, upd, arg0, argS, ofConst, ofCell, Nat.reduceEqDiff, reduceIte] <;> rfl) (by decide) ?_
    refine ro_nil ?_
    try simp only
    refine ex_cond (t := decide (m.lease > 1000)) (by simp only [evalF, upd, arg0, argS, ofConst, ofCell, Nat.reduceEqDiff, reduceIte] <;> rfl) (fun hhi => ?_) (fun hhi => ?_)
    · refine ex_seq (ex_region ?_)
      refine ro_assign (by simp only [evalF, upd, arg0, argS, ofConst, ofCell, Nat.reduceEqDiff, reduceIte] <;> rfl) (by decide) ?_
      refine ro_assign (by simp only [evalF, upd, arg0, argS, ofConst, ofCell, Nat.reduceEqDiff, reduceIte] <;> rfl) (by decide) ?_
      refine ro_nil ?_
      try simp only
      refine ex_ret ?_
      refine ⟨.tuple [.pv .nilSlice, .pv (.int .i64 1)], rfl, ha0, ?_⟩
      rw [fieldE_7, if_pos (.inr (of_decide_eq_true hhi))]
    · refine ex_skip ?_
      try simp only
      have hhi' : ¬ m.lease > 1000 := of_decide_eq_false hhi
      refine ex_seq (ex_region ?_)
      refine ro_move (by simp only [evalF, upd, arg0, argS, ofConst, ofCell, Nat.reduceEqDiff, reduceIte] <;> rfl) (by decide) ?_
      refine ro_fieldAddr (by simp only [evalF, upd, arg0, argS, ofConst, ofCell, Nat.reduceEqDiff, reduceIte] <;> rfl) (by exact (fa30_7 _ _ _)) (by decide) ?_
      refine ro_load (by simp only [evalF, upd, arg0, argS, ofConst, ofCell, Nat.reduceEqDiff, reduceIte] <;> rfl) (by exact (load1 ag3 hl1 (by simpa using mc38 hk))) (by decide) ?_
      refine ro_bin (by simp only [evalF, upd, arg0, argS, ofConst, ofCell, Nat.reduceEqDiff, reduceIte] <;> rfl) (by simp only [evalF, upd, arg0, argS, ofConst, ofCell, Nat.reduceEqDiff, reduceIte] <;> rfl) (by exact (shr_v 24 (by omega))) (by decide) ?_
      refine ro_conv (by simp only [evalF, upd, arg0, argS, ofConst, ofCell, Nat.reduceEqDiff, reduceIte] <;> rfl) (by exact (conv_u8 _ _)) (by decide) ?_
      refine ro_fieldAddr (by simp only [evalF, upd, arg0, argS, ofConst, ofCell, Nat.reduceEqDiff, reduceIte] <;> rfl) (by exact (fa30_7 _ _ _)) (by decide) ?_
      refine ro_load (by simp only [evalF, upd, arg0, argS, ofConst, ofCell, Nat.reduceEqDiff, reduceIte] <;> rfl) (by exact (load1 ag3 hl1 (by simpa using mc38 hk))) (by decide) ?_
      refine ro_bin (by simp only [evalF, upd, arg0, argS, ofConst, ofCell, Nat.reduceEqDiff, reduceIte] <;> rfl) (by simp only [evalF, upd, arg0, argS, ofConst, ofCell, Nat.reduceEqDiff, reduceIte] <;> rfl) (by exact (shr_v 16 (by omega))) (by decide) ?_
      refine ro_conv (by simp only [evalF, upd, arg0, argS, ofConst, ofCell, Nat.reduceEqDiff, reduceIte] <;> rfl) (by exact (conv_u8 _ _)) (by decide) ?_
      refine ro_fieldAddr (by simp only [evalF, upd, arg0, argS, ofConst, ofCell, Nat.reduceEqDiff, reduceIte] <;> rfl) (by exact (fa30_7 _ _ _)) (by decide) ?_
      refine ro_load (by simp only [evalF, upd, arg0, argS, ofConst, ofCell, Nat.reduceEqDiff, reduceIte] <;> rfl) (by exact (load1 ag3 hl1 (by simpa using mc38 hk))) (by decide) ?_
      refine ro_bin (by simp only [evalF, upd, arg0, argS, ofConst, ofCell, Nat.reduceEqDiff, reduceIte] <;> rfl) (by simp only [evalF, upd, arg0, argS, ofConst, ofCell, Nat.reduceEqDiff, reduceIte] <;> rfl) (by exact (shr_v 8 (by omega))) (by decide) ?_
      refine ro_conv (by simp only [evalF, upd, arg0, argS, ofConst, ofCell, Nat.reduceEqDiff, reduceIte] <;> rfl) (by exact (conv_u8 _ _)) (by decide) ?_
      refine ro_fieldAddr (by simp only [evalF, upd, arg0, argS, ofConst, ofCell, Nat.reduceEqDiff, reduceIte] <;> rfl) (by exact (fa30_7 _ _ _)) (by decide) ?_
      refine ro_load (by simp only [evalF, upd, arg0, argS, ofConst, ofCell, Nat.reduceEqDiff, reduceIte] <;> rfl) (by exact (load1 ag3 hl1 (by simpa using mc38 hk))) (by decide) ?_
      refine ro_conv (by simp only [evalF, upd, arg0, argS, ofConst, ofCell, Nat.reduceEqDiff, reduceIte] <;> rfl) (by exact (conv_u8 _ _)) (by decide) ?_
      refine ro_buildSlice rfl (by simp only [List.map_cons, List.map_nil, evalF, upd, ofConst, ofCell, Nat.reduceEqDiff, reduceIte]; exact bs27_4 _ _ _ _ _) (by decide) ?_
      refine ro_append (r := [.int .u8 (u8 (m.lease / 2 ^ 24)), .int .u8 (u8 (m.lease / 2 ^ 16)), .int .u8 (u8 (m.lease / 2 ^ 8)), .int .u8 (u8 m.lease)]) st27 Try.underlying27 (by simp only [evalF, upd, arg0, argS, ofConst, ofCell, Nat.reduceEqDiff, reduceIte] <;> rfl) (by simp only [evalF, upd, arg0, argS, ofConst, ofCell, Nat.reduceEqDiff, reduceIte] <;> rfl) (hg1.keep (Nat.le_succ _) (fun id hid _ => by simp [setHp, show id ≠ nb + 1 by omega])) (src_built rfl (by simp [setHp])) (by simp [u8s]; omega) (by decide) ?_
      intro b' hp' nb' hg' ha' ho'
      refine ro_assign (by simp only [evalF, upd, arg0, argS, ofConst, ofCell, Nat.reduceEqDiff, reduceIte] <;> rfl) (by decide) ?_
      refine ro_assign (by simp only [evalF, upd, arg0, argS, ofConst, ofCell, Nat.reduceEqDiff, reduceIte] <;> rfl) (by decide) ?_
      refine ro_nil ?_
      try simp only
      refine ex_ret ?_
      refine ⟨.tuple [b', .pv (.int .i64 0)], by simp [resF, resOneF, upd], wr_ok ha0 (after_trans (after_new hp1 (nb + 1) b [.pv (.int .u8 (u8 (m.lease / 2 ^ 24))), .pv (.int .u8 (u8 (m.lease / 2 ^ 16))), .pv (.int .u8 (u8 (m.lease / 2 ^ 8))), .pv (.int .u8 (u8 m.lease))] (pvs_ok [.int .u8 (u8 (m.lease / 2 ^ 24)), .int .u8 (u8 (m.lease / 2 ^ 16)), .int .u8 (u8 (m.lease / 2 ^ 8)), .int .u8 (u8 m.lease)])) ha' (fun id h => .inl h)) (x := [u8 (m.lease / 16777216), u8 (m.lease / 65536), u8 (m.lease / 256), u8 m.lease]) (by simpa [u8s] using hg') (fun id h => (ho' id h).imp (fun h => h) (fun h => by omega)) rfl ?_⟩
      rw [fieldE_7, if_neg (by omega)]

end Go.Proofs.Ytlinbbjobjnipaa
