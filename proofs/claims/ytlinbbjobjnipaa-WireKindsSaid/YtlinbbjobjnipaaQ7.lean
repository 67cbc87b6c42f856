/- The law of kinds, by the plain interpreter. Printed by gen_kinds.py. -/
import Derived.Test.YtlinbbjobjnipaaP10
import Derived.Test.YtlinbbjobjnipaaK3
set_option linter.unusedVariables false
set_option linter.unusedSimpArgs false
set_option linter.unusedSectionVars false
namespace Go.Proofs.Ytlinbbjobjnipaa
open Go AI

set_option maxHeartbeats 4000000
set_option maxRecDepth 10000

/-- A value behind a guard. -/
def selA (b want : Bool) (v : AV) : AV := if b == want then v else undefA

theorem selA_hit {b want : Bool} (h : (b == want) = true) {v : AV} : selA b want v = v := by unfold selA; rw [if_pos h]

theorem false_of {b : Bool} (h : (b == false) = true) : b = false := by simpa using h

section
variable {P : Program} {pure : Nat → Bool} {F : CallF} {G : CallG} {n : Nat} {ops rest : List Oper} {g : Gm} {hp : Hp} {nb : Nat} {Q : Gm → Hp → Nat → Prop}

theorem ro_gif {j e : Nat} {want b : Bool} {d : Nat} {op : Op} {ty : TypeId} {pos : String} {aft : Array Edge} {v : AV} (he : (ops[j]?).bind (·.dst) = some e) (hg : g e = .pv (.bool b))
    (hc : calleeA (evalF g) op = none) (hv : (b == want) = true → primA P (evalF g) hp nb op = some (.val v)) (hd : d < n)
    (h2 : RO P pure F G n ops rest (upd g d (selA b want v)) hp nb Q) : RO P pure F G n ops ({ dst := some d, op := op, type := ty, pos := pos, after := aft, guard := some (j, want) } :: rest) g hp nb Q := by
  cases hb : (b == want) with
  | true =>
    rw [selA_hit hb] at h2
    exact ro_guard he hg hb (ro_val hc (hv hb) hd h2)
  | false =>
    have : selA b want v = undefA := by unfold selA; rw [hb]; rfl
    rw [this] at h2
    exact ro_skip he hg hb (fun e he => by cases he; exact hd) h2

theorem ro_por {d : Nat} {c y : Operand} {ty : TypeId} {pos : String} {aft : Array Edge} {b z : Bool} (hc : evalF g c = .pv (.bool b)) (hy : evalF g y = selA b false (.pv (.bool z))) (hd : d < n)
    (h2 : RO P pure F G n ops rest (upd g d (.pv (.bool (b || z)))) hp nb Q) : RO P pure F G n ops ({ dst := some d, op := .pick c (.const (.bool true)) y, type := ty, pos := pos, after := aft, guard := none } :: rest) g hp nb Q := by
  refine ro_pick hc (vx := .pv (.bool true)) rfl hy hd ?_
  cases b <;> exact h2

theorem ro_port {d : Nat} {c y : Operand} {ty : TypeId} {pos : String} {aft : Array Edge} {b : Bool} (hc : evalF g c = .pv (.bool b)) (hy : evalF g y = selA b false (.pv (.bool true))) (hd : d < n)
    (h2 : RO P pure F G n ops rest (upd g d (.pv (.bool true))) hp nb Q) : RO P pure F G n ops ({ dst := some d, op := .pick c (.const (.bool true)) y, type := ty, pos := pos, after := aft, guard := none } :: rest) g hp nb Q := by
  refine ro_por hc hy hd ?_
  cases b <;> exact h2
end

def zkey : List PV := List.replicate 32 (.int .u8 0)
theorem ag26 : isAggA Try.prog 26 = some true := by kernel_rfl
theorem sz26 : szA Try.prog 26 = some 32 := by kernel_rfl
theorem bld26 : buildA Try.prog 26 [] = some (.agg (zkey.map .pv)) := by kernel_rfl
theorem eqKey : binOpA Try.prog .eql 26 (.agg (zkey.map .pv)) (.agg (zkey.map .pv)) = some (.pv (.bool true)) := by kernel_rfl

/-- What a row leaves out stays zero. -/
theorem kinds_fact (w : M) (fs : List Nat) (h : rowOf w.kind = some fs) :
    (setsF w fs { zeroM with kind := w.kind }).kind = w.kind ∧
    ((w.kind == 2 || w.kind == 6) = false → (setsF w fs { zeroM with kind := w.kind }).list = []) ∧
    ((w.kind == 5 || w.kind == 7 || w.kind == 11 || w.kind == 9 || w.kind == 10) = false → (setsF w fs { zeroM with kind := w.kind }).key = List.replicate 32 0) ∧
    ((w.kind == 8 || w.kind == 9 || w.kind == 10 || w.kind == 12) = false → (setsF w fs { zeroM with kind := w.kind }).data = []) ∧
    ((w.kind == 3 || w.kind == 9 || w.kind == 12) = false → (setsF w fs { zeroM with kind := w.kind }).node = 0) ∧
    ((w.kind == 2) = false → (setsF w fs { zeroM with kind := w.kind }).pred = 0) ∧
    ((w.kind == 6) = false → (setsF w fs { zeroM with kind := w.kind }).done = false) ∧
    ((w.kind == 9 || w.kind == 12) = false → (setsF w fs { zeroM with kind := w.kind }).lease = 0) ∧
    ((w.kind == 4 || w.kind == 8) = false → (setsF w fs { zeroM with kind := w.kind }).err = 0) := by
  generalize w.kind = k at h ⊢
  by_cases hk : 1 ≤ k ∧ k ≤ 12
  · have : k = 1 ∨ k = 2 ∨ k = 3 ∨ k = 4 ∨ k = 5 ∨ k = 6 ∨ k = 7 ∨ k = 8 ∨ k = 9 ∨ k = 10 ∨ k = 11 ∨ k = 12 := by omega
    rcases this with rfl | rfl | rfl | rfl | rfl | rfl | rfl | rfl | rfl | rfl | rfl | rfl <;> simp [rowOf] at h <;> subst h <;> simp [setsF, setF, zeroM]
  · exfalso
    unfold rowOf at h
    rw [if_neg (by omega), if_neg (by omega), if_neg (by omega), if_neg (by omega), if_neg (by omega), if_neg (by omega), if_neg (by omega), if_neg (by omega), if_neg (by omega), if_neg (by omega), if_neg (by omega), if_neg (by omega)] at h
    simp at h

theorem kinds_run {m : M} {L D : AV} (hf : Fit m) (hL : Row (AI.hf []) 0 L (ints m.list)) (hD : Row (AI.hf []) 0 D (u8s m.data)) (hk8 : ∀ z ∈ m.key, 0 ≤ z ∧ z ≤ 255) (hd8' : ∀ z ∈ m.data, 0 ≤ z ∧ z ≤ 255) (hLo : ownOf L = none) (hDo : ownOf D = none) :
    CA (callA Try.prog facts plains 10000 20) 7 [.agg (mcells m L D)] (AI.hf []) 0 fun v hp' nb' => v = .pv (.bool true) := by
  have hk := hf.key
  refine ca_body (d := 19) (fn := Try.f7) (c := bodyOf Try.f7) Try.func7 rfl (by show 1 ≤ 169; omega) ?_
  show EX _ _ _ _ _ 169 _ _ _ _ _
  unfold bodyOf Try.f7
  refine ex_seq (ex_region ?_)
  refine ro_box (v := .agg (mcells m L D)) (by simp [evalF, argsF]) (mc_all (row_cell hL).1 (row_cell hD).1) (by decide) ?_
  refine ro_assign (by simp only [evalF, upd, argsF, ofConst, ofCell, Nat.reduceEqDiff, reduceIte, List.getD_cons_zero, List.getD_cons_succ, List.getD_nil] <;> rfl) (by decide) ?_
  refine ro_nil ?_
  try simp only
  have hl1 : AI.look (setHp (AI.hf []) 0 (.cells 1 (mcells m L D))) 0 1 = some (mcells m L D) := look_same _ _ _ _
  show EX _ _ _ _ _ 169 _ _ (setHp (AI.hf []) 0 (.cells 1 (mcells m L D))) _ _
  generalize setHp (AI.hf []) 0 (.cells 1 (mcells m L D)) = hp1 at hl1 ⊢
  have hwhole : ∀ {hp : Hp} {m : M} {L D : AV}, m.key.length = 32 → AI.look hp 0 1 = some (mcells m L D) → loadA Try.prog hp 30 (.ptr 0 1 0) = some (.agg (mcells m L D)) := fun {hp m L D} hk hl => by
    rw [loadN ag30 sz30 hl (by rw [mc_length hk]; omega), List.drop_zero, List.take_of_length_le (by rw [mc_length hk]; omega)]
  refine ex_seq (ex_seq (ex_region ?_))
  refine ro_pure (f := 9) («as» := []) rfl rfl rfl (show orS facts _ _ 9 [] = some (.pv (.bool true)) from rfl) (by decide) ?_
  refine ro_un (by simp only [evalF, upd, argsF, ofConst, ofCell, Nat.reduceEqDiff, reduceIte, List.getD_cons_zero, List.getD_cons_succ, List.getD_nil] <;> rfl) (by exact (show unOpA .not (.pv (.bool true)) = some (.pv (.bool false)) from rfl)) (by decide) ?_
  refine ro_nil ?_
  try simp only
  refine ex_cond (t := false) (by simp only [evalF, upd, argsF, ofConst, ofCell, Nat.reduceEqDiff, reduceIte, List.getD_cons_zero, List.getD_cons_succ, List.getD_nil] <;> rfl) (fun h => by simp at h) (fun _ => ex_skip ?_)
  try simp only
  refine ex_seq (ex_seq (ex_region ?_))
  refine ro_load (by simp only [evalF, upd, argsF, ofConst, ofCell, Nat.reduceEqDiff, reduceIte, List.getD_cons_zero, List.getD_cons_succ, List.getD_nil] <;> rfl) (by exact (hwhole hk hl1)) (by decide) ?_
  refine ro_pure (f := 12) («as» := [.agg (mcells m L D)]) rfl (by simp [evalF, upd]) rfl (show orS facts _ _ 12 _ = _ from by unfold orS facts; exact few_calls facts plains 10000 18 hk hL hD hLo hDo _) (by decide) ?_
  refine ro_un (by simp only [evalF, upd, argsF, ofConst, ofCell, Nat.reduceEqDiff, reduceIte, List.getD_cons_zero, List.getD_cons_succ, List.getD_nil] <;> rfl) (by exact (show unOpA .not (.pv (.bool (fewM m))) = some (.pv (.bool (!fewM m))) from rfl)) (by decide) ?_
  refine ro_nil ?_
  try simp only
  refine ex_cond (t := !fewM m) (by simp only [evalF, upd, argsF, ofConst, ofCell, Nat.reduceEqDiff, reduceIte, List.getD_cons_zero, List.getD_cons_succ, List.getD_nil] <;> rfl) (fun hfw => ?_) (fun hfw => ?_)
  · refine ex_seq (ex_region ?_)
    refine ro_assign (by simp only [evalF, upd, argsF, ofConst, ofCell, Nat.reduceEqDiff, reduceIte, List.getD_cons_zero, List.getD_cons_succ, List.getD_nil] <;> rfl) (by decide) ?_
    refine ro_nil ?_
    try simp only
    refine ex_ret ?_
    exact ⟨_, rfl, by simp [upd]⟩
  refine ex_skip ?_
  try simp only
  obtain ⟨hd8, hl50⟩ := few_data (show fewM m = true by simpa using hfw)
  have hgf := fit_good hf
  have hgk := hgf.key
  refine ex_seq (ex_region ?_)
  refine ro_load (by simp only [evalF, upd, argsF, ofConst, ofCell, Nat.reduceEqDiff, reduceIte, List.getD_cons_zero, List.getD_cons_succ, List.getD_nil] <;> rfl) (by exact (hwhole hk hl1)) (by decide) ?_
  refine ro_good 18 hf (row_any hL hLo) (row_any hD hDo) hLo hDo (by omega) (by omega) (by omega) (by simp only [evalF, upd, argsF, ofConst, ofCell, Nat.reduceEqDiff, reduceIte, List.getD_cons_zero, List.getD_cons_succ, List.getD_nil] <;> rfl) (by decide) ?_
  intro L' D' hp2 nb2 hL2 hD2 hDo2 hLo2 ha2
  have hl2 : AI.look hp2 0 1 = some (mcells m L D) := by rw [look_at 1 (ha2.2.1 0 (by omega) (by simp [ownOf]))]; exact hl1
  refine ro_store (v := .agg (mcells (goodM m) L' D')) (by simp only [evalF, upd, argsF, ofConst, ofCell, Nat.reduceEqDiff, reduceIte, List.getD_cons_zero, List.getD_cons_succ, List.getD_nil] <;> rfl) (by simp only [evalF, upd, argsF, ofConst, ofCell, Nat.reduceEqDiff, reduceIte, List.getD_cons_zero, List.getD_cons_succ, List.getD_nil] <;> rfl) (storeN sz30 hl2 (mc_all (row_cell hL2).1 (row_cell hD2).1) (mc_length hgk) (by rw [mc_length hk]; omega)) ?_
  rw [splice_all hk hgk]
  refine ro_nil ?_
  try simp only
  have hl3 : AI.look (setHp hp2 0 (.cells 1 (mcells (goodM m) L' D'))) 0 1 = some (mcells (goodM m) L' D') := look_same _ _ _ _
  have hL3 : Row (setHp hp2 0 (.cells 1 (mcells (goodM m) L' D'))) nb2 L' (ints (goodM m).list) := hL2.keep (Nat.le_refl _) (fun id hid ho => by have := hLo2 id ho; simp [setHp, show id ≠ 0 by omega])
  have hD3 : Row (setHp hp2 0 (.cells 1 (mcells (goodM m) L' D'))) nb2 D' (u8s (goodM m).data) := row_any hD2 hDo2
  generalize setHp hp2 0 (.cells 1 (mcells (goodM m) L' D')) = hp3 at hl3 hL3 hD3 ⊢
  have hnb2 := ha2.1
  obtain ⟨r, hE, hlen⟩ := enc_good m hk
  have hxb : ∀ z ∈ (goodM m).kind :: r, 0 ≤ z ∧ z ≤ 255 := enc_bytes (m := goodM m) hk8 (fun z hz => hd8' z (List.mem_of_mem_take hz)) hE
  obtain ⟨fs, hfs, hdec⟩ := dec_enc hgk hE
  obtain ⟨x1, x2, x3, x4, x5, x6, x7, x8, x9⟩ := kinds_fact (goodM m) fs hfs
  refine ex_seq (ex_region ?_)
  refine ro_load (by simp only [evalF, upd, argsF, ofConst, ofCell, Nat.reduceEqDiff, reduceIte, List.getD_cons_zero, List.getD_cons_succ, List.getD_nil] <;> rfl) (by exact (hwhole hgk hl3)) (by decide) ?_
  refine ro_encode 15 hgf hL3 hD3 (by omega) (by simp only [evalF, upd, argsF, ofConst, ofCell, Nat.reduceEqDiff, reduceIte, List.getD_cons_zero, List.getD_cons_succ, List.getD_nil] <;> rfl) (by decide) ?_
  rintro v hp4 nb4 ⟨ha4, hres⟩
  rw [hE] at hres
  obtain ⟨b', rfl, hgb, _⟩ := hres
  have hl4 : AI.look hp4 0 1 = some (mcells (goodM m) L' D') := by rw [look_at 1 (ha4.2.1 0 (by omega) (by simp [ownOf]))]; exact hl3
  refine ro_move (by simp only [evalF, upd, argsF, ofConst, ofCell, Nat.reduceEqDiff, reduceIte, List.getD_cons_zero, List.getD_cons_succ, List.getD_nil] <;> rfl) (by decide) ?_
  refine ro_extract (by simp only [evalF, upd, argsF, ofConst, ofCell, Nat.reduceEqDiff, reduceIte, List.getD_cons_zero, List.getD_cons_succ, List.getD_nil] <;> rfl) (by exact (rfl)) (by decide) ?_
  refine ro_extract (by simp only [evalF, upd, argsF, ofConst, ofCell, Nat.reduceEqDiff, reduceIte, List.getD_cons_zero, List.getD_cons_succ, List.getD_nil] <;> rfl) (by exact (rfl)) (by decide) ?_
  refine ro_assign (by simp only [evalF, upd, argsF, ofConst, ofCell, Nat.reduceEqDiff, reduceIte, List.getD_cons_zero, List.getD_cons_succ, List.getD_nil] <;> rfl) (by decide) ?_
  refine ro_assign (by simp only [evalF, upd, argsF, ofConst, ofCell, Nat.reduceEqDiff, reduceIte, List.getD_cons_zero, List.getD_cons_succ, List.getD_nil] <;> rfl) (by decide) ?_
  refine ro_nil ?_
  try simp only
  refine ex_seq (ex_region ?_)
  refine ro_move (by simp only [evalF, upd, argsF, ofConst, ofCell, Nat.reduceEqDiff, reduceIte, List.getD_cons_zero, List.getD_cons_succ, List.getD_nil] <;> rfl) (by decide) ?_
  refine ro_parse 13 hxb hgb.row (by simp only [evalF, upd, argsF, ofConst, ofCell, Nat.reduceEqDiff, reduceIte, List.getD_cons_zero, List.getD_cons_succ, List.getD_nil] <;> rfl) (by decide) ?_
  rintro v5 hp5 nb5 ⟨ha5, hres⟩
  rw [hdec] at hres
  obtain ⟨hkx, Lx, Dx, rfl, hLx, hDx, _, _⟩ := hres
  generalize setsF (goodM m) fs { zeroM with kind := (goodM m).kind } = x at *
  have hnb4 := ha4.1
  have hnb5 := ha5.1
  have hl5 : AI.look hp5 0 1 = some (mcells (goodM m) L' D') := by rw [look_at 1 (ha5.2.1 0 (by omega) (by simp [ownOf]))]; exact hl4
  refine ro_move (by simp only [evalF, upd, argsF, ofConst, ofCell, Nat.reduceEqDiff, reduceIte, List.getD_cons_zero, List.getD_cons_succ, List.getD_nil] <;> rfl) (by decide) ?_
  refine ro_extract (by simp only [evalF, upd, argsF, ofConst, ofCell, Nat.reduceEqDiff, reduceIte, List.getD_cons_zero, List.getD_cons_succ, List.getD_nil] <;> rfl) (by exact (rfl)) (by decide) ?_
  refine ro_extract (by simp only [evalF, upd, argsF, ofConst, ofCell, Nat.reduceEqDiff, reduceIte, List.getD_cons_zero, List.getD_cons_succ, List.getD_nil] <;> rfl) (by exact (rfl)) (by decide) ?_
  refine ro_alloc zero30 (by kernel_rfl) (by decide) ?_
  refine ro_store (by simp only [evalF, upd, argsF, ofConst, ofCell, Nat.reduceEqDiff, reduceIte, List.getD_cons_zero, List.getD_cons_succ, List.getD_nil] <;> rfl) (by simp only [evalF, upd, argsF, ofConst, ofCell, Nat.reduceEqDiff, reduceIte, List.getD_cons_zero, List.getD_cons_succ, List.getD_nil] <;> rfl) (storeZ (look_same _ _ _ _) (mc_all (row_cell hLx).1 (row_cell hDx).1) (mc_length hkx) z_len) ?_
  refine ro_assign (by simp only [evalF, upd, argsF, ofConst, ofCell, Nat.reduceEqDiff, reduceIte, List.getD_cons_zero, List.getD_cons_succ, List.getD_nil] <;> rfl) (by decide) ?_
  refine ro_nil ?_
  try simp only
  have hl6 : AI.look (setHp (setHp hp5 nb5 (.cells 1 zcells)) nb5 (.cells 1 (mcells x Lx Dx))) 0 1 = some (mcells (goodM m) L' D') := by rw [look_ne _ _ _ (by omega), look_ne _ _ _ (by omega)]; exact hl5
  have hlx : AI.look (setHp (setHp hp5 nb5 (.cells 1 zcells)) nb5 (.cells 1 (mcells x Lx Dx))) nb5 1 = some (mcells x Lx Dx) := look_same _ _ _ _
  have hLx6 : Row (setHp (setHp hp5 nb5 (.cells 1 zcells)) nb5 (.cells 1 (mcells x Lx Dx))) nb5 Lx (ints x.list) := hLx.keep (Nat.le_refl _) (fun id hid ho => by simp [setHp, show id ≠ nb5 by omega])
  have hDx6 : Row (setHp (setHp hp5 nb5 (.cells 1 zcells)) nb5 (.cells 1 (mcells x Lx Dx))) nb5 Dx (u8s x.data) := hDx.keep (Nat.le_refl _) (fun id hid ho => by simp [setHp, show id ≠ nb5 by omega])
  show EX _ _ _ _ _ 169 _ _ (setHp (setHp hp5 nb5 (.cells 1 zcells)) nb5 (.cells 1 (mcells x Lx Dx))) _ _
  generalize setHp (setHp hp5 nb5 (.cells 1 zcells)) nb5 (.cells 1 (mcells x Lx Dx)) = hp6 at hl6 hlx hLx6 hDx6 ⊢
  have hxK : AI.look hp6 nb5 1 = some (mcells x Lx Dx) → loadA Try.prog hp6 3 (.ptr nb5 1 0) = some (.pv (.int .i64 (goodM m).kind)) := fun h => by rw [← x1]; exact load1 ag3 h mc0
  refine ex_seq (ex_seq (ex_region ?_))
  refine ro_move (by simp only [evalF, upd, argsF, ofConst, ofCell, Nat.reduceEqDiff, reduceIte, List.getD_cons_zero, List.getD_cons_succ, List.getD_nil] <;> rfl) (by decide) ?_
  refine ro_bin (by simp only [evalF, upd, argsF, ofConst, ofCell, Nat.reduceEqDiff, reduceIte, List.getD_cons_zero, List.getD_cons_succ, List.getD_nil] <;> rfl) (by simp only [evalF, upd, argsF, ofConst, ofCell, Nat.reduceEqDiff, reduceIte, List.getD_cons_zero, List.getD_cons_succ, List.getD_nil] <;> rfl) (by exact (show binOpA Try.prog .neq 28 (.pv (.int .i64 0)) (.pv (.int .i64 0)) = some (.pv (.bool false)) from neq_f rfl)) (by decide) ?_
  refine ro_move (by simp only [evalF, upd, argsF, ofConst, ofCell, Nat.reduceEqDiff, reduceIte, List.getD_cons_zero, List.getD_cons_succ, List.getD_nil] <;> rfl) (by decide) ?_
  refine ro_guard rfl (by simp only [evalF, upd, argsF, ofConst, ofCell, Nat.reduceEqDiff, reduceIte, List.getD_cons_zero, List.getD_cons_succ, List.getD_nil] <;> rfl) rfl ?_
  refine ro_move (by simp only [evalF, upd, argsF, ofConst, ofCell, Nat.reduceEqDiff, reduceIte, List.getD_cons_zero, List.getD_cons_succ, List.getD_nil] <;> rfl) (by decide) ?_
  refine ro_guard rfl (by simp only [evalF, upd, argsF, ofConst, ofCell, Nat.reduceEqDiff, reduceIte, List.getD_cons_zero, List.getD_cons_succ, List.getD_nil] <;> rfl) rfl ?_
  refine ro_bin (by simp only [evalF, upd, argsF, ofConst, ofCell, Nat.reduceEqDiff, reduceIte, List.getD_cons_zero, List.getD_cons_succ, List.getD_nil] <;> rfl) (by simp only [evalF, upd, argsF, ofConst, ofCell, Nat.reduceEqDiff, reduceIte, List.getD_cons_zero, List.getD_cons_succ, List.getD_nil] <;> rfl) (by exact (show binOpA Try.prog .neq 28 (.pv (.int .i64 0)) (.pv (.int .i64 0)) = some (.pv (.bool false)) from neq_f rfl)) (by decide) ?_
  refine ro_pick (by simp only [evalF, upd, argsF, ofConst, ofCell, Nat.reduceEqDiff, reduceIte, List.getD_cons_zero, List.getD_cons_succ, List.getD_nil] <;> rfl) (by simp only [evalF, upd, argsF, ofConst, ofCell, Nat.reduceEqDiff, reduceIte, List.getD_cons_zero, List.getD_cons_succ, List.getD_nil] <;> rfl) (by simp only [evalF, upd, argsF, ofConst, ofCell, Nat.reduceEqDiff, reduceIte, List.getD_cons_zero, List.getD_cons_succ, List.getD_nil] <;> rfl) (by decide) ?_
  refine ro_move (by simp only [evalF, upd, argsF, ofConst, ofCell, Nat.reduceEqDiff, reduceIte, List.getD_cons_zero, List.getD_cons_succ, List.getD_nil] <;> rfl) (by decide) ?_
  refine ro_guard rfl (by simp only [evalF, upd, argsF, ofConst, ofCell, Nat.reduceEqDiff, reduceIte, List.getD_cons_zero, List.getD_cons_succ, List.getD_nil] <;> rfl) rfl ?_
  refine ro_fieldAddr (by simp only [evalF, upd, argsF, ofConst, ofCell, Nat.reduceEqDiff, reduceIte, List.getD_cons_zero, List.getD_cons_succ, List.getD_nil] <;> rfl) (by exact (fa30_0 _ _ _)) (by decide) ?_
  refine ro_guard rfl (by simp only [evalF, upd, argsF, ofConst, ofCell, Nat.reduceEqDiff, reduceIte, List.getD_cons_zero, List.getD_cons_succ, List.getD_nil] <;> rfl) rfl ?_
  refine ro_load (by simp only [evalF, upd, argsF, ofConst, ofCell, Nat.reduceEqDiff, reduceIte, List.getD_cons_zero, List.getD_cons_succ, List.getD_nil] <;> rfl) (by exact (hxK hlx)) (by decide) ?_
  refine ro_guard rfl (by simp only [evalF, upd, argsF, ofConst, ofCell, Nat.reduceEqDiff, reduceIte, List.getD_cons_zero, List.getD_cons_succ, List.getD_nil] <;> rfl) rfl ?_
  refine ro_fieldAddr (by simp only [evalF, upd, argsF, ofConst, ofCell, Nat.reduceEqDiff, reduceIte, List.getD_cons_zero, List.getD_cons_succ, List.getD_nil] <;> rfl) (by exact (fa30_0 _ _ _)) (by decide) ?_
  refine ro_guard rfl (by simp only [evalF, upd, argsF, ofConst, ofCell, Nat.reduceEqDiff, reduceIte, List.getD_cons_zero, List.getD_cons_succ, List.getD_nil] <;> rfl) rfl ?_
  refine ro_load (by simp only [evalF, upd, argsF, ofConst, ofCell, Nat.reduceEqDiff, reduceIte, List.getD_cons_zero, List.getD_cons_succ, List.getD_nil] <;> rfl) (by exact (load1 ag3 hl6 mc0)) (by decide) ?_
  refine ro_guard rfl (by simp only [evalF, upd, argsF, ofConst, ofCell, Nat.reduceEqDiff, reduceIte, List.getD_cons_zero, List.getD_cons_succ, List.getD_nil] <;> rfl) rfl ?_
  refine ro_bin (by simp only [evalF, upd, argsF, ofConst, ofCell, Nat.reduceEqDiff, reduceIte, List.getD_cons_zero, List.getD_cons_succ, List.getD_nil] <;> rfl) (by simp only [evalF, upd, argsF, ofConst, ofCell, Nat.reduceEqDiff, reduceIte, List.getD_cons_zero, List.getD_cons_succ, List.getD_nil] <;> rfl) (by exact (neq_f rfl)) (by decide) ?_
  refine ro_pick (by simp only [evalF, upd, argsF, ofConst, ofCell, Nat.reduceEqDiff, reduceIte, List.getD_cons_zero, List.getD_cons_succ, List.getD_nil] <;> rfl) (by simp only [evalF, upd, argsF, ofConst, ofCell, Nat.reduceEqDiff, reduceIte, List.getD_cons_zero, List.getD_cons_succ, List.getD_nil] <;> rfl) (by simp only [evalF, upd, argsF, ofConst, ofCell, Nat.reduceEqDiff, reduceIte, List.getD_cons_zero, List.getD_cons_succ, List.getD_nil] <;> rfl) (by decide) ?_
  refine ro_nil ?_
  try simp only
  refine ex_cond (t := false) (by simp only [evalF, upd, argsF, ofConst, ofCell, Nat.reduceEqDiff, reduceIte, List.getD_cons_zero, List.getD_cons_succ, List.getD_nil] <;> rfl) (fun h => by simp at h) (fun _ => ex_skip ?_)
  try simp only
  refine ex_seq (ex_region ?_)
  refine ro_fieldAddr (by simp only [evalF, upd, argsF, ofConst, ofCell, Nat.reduceEqDiff, reduceIte, List.getD_cons_zero, List.getD_cons_succ, List.getD_nil] <;> rfl) (by exact (fa30_0 _ _ _)) (by decide) ?_
  refine ro_load (by simp only [evalF, upd, argsF, ofConst, ofCell, Nat.reduceEqDiff, reduceIte, List.getD_cons_zero, List.getD_cons_succ, List.getD_nil] <;> rfl) (by exact (hxK hlx)) (by decide) ?_
  refine ro_assign (by simp only [evalF, upd, argsF, ofConst, ofCell, Nat.reduceEqDiff, reduceIte, List.getD_cons_zero, List.getD_cons_succ, List.getD_nil] <;> rfl) (by decide) ?_
  refine ro_nil ?_
  try simp only
  have lenL : x.list = [] → ∀ nb, builtinA Try.prog hp6 nb .len #[24] [Lx] = some (.val (.pv (.int .i64 0))) := fun h nb => by
    have := row_len (hp' := hp6) (nb' := nb) st24 hLx6
    rw [h] at this; exact this
  have lenD : x.data = [] → ∀ nb, builtinA Try.prog hp6 nb .len #[27] [Dx] = some (.val (.pv (.int .i64 0))) := fun h nb => by
    have := row_len (hp' := hp6) (nb' := nb) st27 hDx6
    rw [h] at this; exact this
  have ldKey : x.key = List.replicate 32 0 → loadA Try.prog hp6 26 (.ptr nb5 1 (0 + 5)) = some (.agg (zkey.map .pv)) := fun h => by
    rw [loadN ag26 sz26 hlx (by rw [mc_length hkx]; omega)]
    show some (AV.agg (((mcells x Lx Dx).drop 5).take 32)) = _
    rw [mcKey hkx, h]
    rfl
  have ldN : ∀ (off : Nat) {z : Int}, (mcells x Lx Dx)[0 + off]? = some (.pv (.int .i64 z)) → z = 0 → loadA Try.prog hp6 3 (.ptr nb5 1 (0 + off)) = some (.pv (.int .i64 0)) := fun off z h1 h2 => by rw [← h2]; exact load1 ag3 hlx h1
  have ldB : x.done = false → loadA Try.prog hp6 4 (.ptr nb5 1 (0 + 4)) = some (.pv (.bool false)) := fun h => by rw [← h]; exact load1 ag4 hlx mc4
  have ldE : x.err = 0 → loadA Try.prog hp6 28 (.ptr nb5 1 (0 + 39)) = some (.pv (.int .i64 0)) := fun h => by rw [← h]; exact load1 ag28 hlx (mc39 hkx)
  refine ex_seq (ex_region ?_)
  refine ro_move (by simp only [evalF, upd, argsF, ofConst, ofCell, Nat.reduceEqDiff, reduceIte, List.getD_cons_zero, List.getD_cons_succ, List.getD_nil] <;> rfl) (by decide) ?_
  refine ro_bin (by simp only [evalF, upd, argsF, ofConst, ofCell, Nat.reduceEqDiff, reduceIte, List.getD_cons_zero, List.getD_cons_succ, List.getD_nil] <;> rfl) (by simp only [evalF, upd, argsF, ofConst, ofCell, Nat.reduceEqDiff, reduceIte, List.getD_cons_zero, List.getD_cons_succ, List.getD_nil] <;> rfl) (by exact (show binOpA Try.prog .eql 3 (.pv (.int .i64 (goodM m).kind)) _ = some (.pv (.bool ((goodM m).kind == 2))) from eql_v)) (by decide) ?_
  refine ro_move (by simp only [evalF, upd, argsF, ofConst, ofCell, Nat.reduceEqDiff, reduceIte, List.getD_cons_zero, List.getD_cons_succ, List.getD_nil] <;> rfl) (by decide) ?_
  refine ro_gif (b := (goodM m).kind == 2) (want := false) (v := .pv (.int .i64 (goodM m).kind)) rfl (by simp only [evalF, upd, argsF, ofConst, ofCell, Nat.reduceEqDiff, reduceIte, List.getD_cons_zero, List.getD_cons_succ, List.getD_nil] <;> rfl) rfl (fun hb => by simp only [primA, List.map_cons, List.map_nil, evalF, upd, argsF, ofConst, ofCell, Nat.reduceEqDiff, reduceIte, selA_hit hb, Option.map_some] <;> rfl) (by decide) ?_
  refine ro_gif (b := (goodM m).kind == 2) (want := false) (v := .pv (.bool ((goodM m).kind == 6))) rfl (by simp only [evalF, upd, argsF, ofConst, ofCell, Nat.reduceEqDiff, reduceIte, List.getD_cons_zero, List.getD_cons_succ, List.getD_nil] <;> rfl) rfl (fun hb => by simp only [primA, List.map_cons, List.map_nil, evalF, upd, argsF, ofConst, ofCell, Nat.reduceEqDiff, reduceIte, selA_hit hb, Option.map_some, show binOpA Try.prog .eql 3 (.pv (.int .i64 (goodM m).kind)) (.pv (.int .i64 6)) = some (.pv (.bool ((goodM m).kind == 6))) from eql_v] <;> rfl) (by decide) ?_
  refine ro_por (b := (goodM m).kind == 2) (z := (goodM m).kind == 6) (by simp only [evalF, upd, argsF, ofConst, ofCell, Nat.reduceEqDiff, reduceIte, List.getD_cons_zero, List.getD_cons_succ, List.getD_nil] <;> rfl) (by simp only [evalF, upd, argsF, ofConst, ofCell, Nat.reduceEqDiff, reduceIte] <;> rfl) (by decide) ?_
  refine ro_assign (by simp only [evalF, upd, argsF, ofConst, ofCell, Nat.reduceEqDiff, reduceIte, List.getD_cons_zero, List.getD_cons_succ, List.getD_nil] <;> rfl) (by decide) ?_
  refine ro_nil ?_
  try simp only
  refine ex_seq (ex_region ?_)
  refine ro_move (by simp only [evalF, upd, argsF, ofConst, ofCell, Nat.reduceEqDiff, reduceIte, List.getD_cons_zero, List.getD_cons_succ, List.getD_nil] <;> rfl) (by decide) ?_
  refine ro_bin (by simp only [evalF, upd, argsF, ofConst, ofCell, Nat.reduceEqDiff, reduceIte, List.getD_cons_zero, List.getD_cons_succ, List.getD_nil] <;> rfl) (by simp only [evalF, upd, argsF, ofConst, ofCell, Nat.reduceEqDiff, reduceIte, List.getD_cons_zero, List.getD_cons_succ, List.getD_nil] <;> rfl) (by exact (show binOpA Try.prog .eql 3 (.pv (.int .i64 (goodM m).kind)) _ = some (.pv (.bool ((goodM m).kind == 5))) from eql_v)) (by decide) ?_
  refine ro_move (by simp only [evalF, upd, argsF, ofConst, ofCell, Nat.reduceEqDiff, reduceIte, List.getD_cons_zero, List.getD_cons_succ, List.getD_nil] <;> rfl) (by decide) ?_
  refine ro_gif (b := (goodM m).kind == 5) (want := false) (v := .pv (.int .i64 (goodM m).kind)) rfl (by simp only [evalF, upd, argsF, ofConst, ofCell, Nat.reduceEqDiff, reduceIte, List.getD_cons_zero, List.getD_cons_succ, List.getD_nil] <;> rfl) rfl (fun hb => by simp only [primA, List.map_cons, List.map_nil, evalF, upd, argsF, ofConst, ofCell, Nat.reduceEqDiff, reduceIte, selA_hit hb, Option.map_some] <;> rfl) (by decide) ?_
  refine ro_gif (b := (goodM m).kind == 5) (want := false) (v := .pv (.bool ((goodM m).kind == 7))) rfl (by simp only [evalF, upd, argsF, ofConst, ofCell, Nat.reduceEqDiff, reduceIte, List.getD_cons_zero, List.getD_cons_succ, List.getD_nil] <;> rfl) rfl (fun hb => by simp only [primA, List.map_cons, List.map_nil, evalF, upd, argsF, ofConst, ofCell, Nat.reduceEqDiff, reduceIte, selA_hit hb, Option.map_some, show binOpA Try.prog .eql 3 (.pv (.int .i64 (goodM m).kind)) (.pv (.int .i64 7)) = some (.pv (.bool ((goodM m).kind == 7))) from eql_v] <;> rfl) (by decide) ?_
  refine ro_por (b := (goodM m).kind == 5) (z := (goodM m).kind == 7) (by simp only [evalF, upd, argsF, ofConst, ofCell, Nat.reduceEqDiff, reduceIte, List.getD_cons_zero, List.getD_cons_succ, List.getD_nil] <;> rfl) (by simp only [evalF, upd, argsF, ofConst, ofCell, Nat.reduceEqDiff, reduceIte] <;> rfl) (by decide) ?_
  refine ro_move (by simp only [evalF, upd, argsF, ofConst, ofCell, Nat.reduceEqDiff, reduceIte, List.getD_cons_zero, List.getD_cons_succ, List.getD_nil] <;> rfl) (by decide) ?_
  refine ro_gif (b := (goodM m).kind == 5 || (goodM m).kind == 7) (want := false) (v := .pv (.int .i64 (goodM m).kind)) rfl (by simp only [evalF, upd, argsF, ofConst, ofCell, Nat.reduceEqDiff, reduceIte, List.getD_cons_zero, List.getD_cons_succ, List.getD_nil] <;> rfl) rfl (fun hb => by simp only [primA, List.map_cons, List.map_nil, evalF, upd, argsF, ofConst, ofCell, Nat.reduceEqDiff, reduceIte, selA_hit hb, Option.map_some] <;> rfl) (by decide) ?_
  refine ro_gif (b := (goodM m).kind == 5 || (goodM m).kind == 7) (want := false) (v := .pv (.bool ((goodM m).kind == 11))) rfl (by simp only [evalF, upd, argsF, ofConst, ofCell, Nat.reduceEqDiff, reduceIte, List.getD_cons_zero, List.getD_cons_succ, List.getD_nil] <;> rfl) rfl (fun hb => by simp only [primA, List.map_cons, List.map_nil, evalF, upd, argsF, ofConst, ofCell, Nat.reduceEqDiff, reduceIte, selA_hit hb, Option.map_some, show binOpA Try.prog .eql 3 (.pv (.int .i64 (goodM m).kind)) (.pv (.int .i64 11)) = some (.pv (.bool ((goodM m).kind == 11))) from eql_v] <;> rfl) (by decide) ?_
  refine ro_por (b := (goodM m).kind == 5 || (goodM m).kind == 7) (z := (goodM m).kind == 11) (by simp only [evalF, upd, argsF, ofConst, ofCell, Nat.reduceEqDiff, reduceIte, List.getD_cons_zero, List.getD_cons_succ, List.getD_nil] <;> rfl) (by simp only [evalF, upd, argsF, ofConst, ofCell, Nat.reduceEqDiff, reduceIte] <;> rfl) (by decide) ?_
  refine ro_move (by simp only [evalF, upd, argsF, ofConst, ofCell, Nat.reduceEqDiff, reduceIte, List.getD_cons_zero, List.getD_cons_succ, List.getD_nil] <;> rfl) (by decide) ?_
  refine ro_gif (b := (goodM m).kind == 5 || (goodM m).kind == 7 || (goodM m).kind == 11) (want := false) (v := .pv (.int .i64 (goodM m).kind)) rfl (by simp only [evalF, upd, argsF, ofConst, ofCell, Nat.reduceEqDiff, reduceIte, List.getD_cons_zero, List.getD_cons_succ, List.getD_nil] <;> rfl) rfl (fun hb => by simp only [primA, List.map_cons, List.map_nil, evalF, upd, argsF, ofConst, ofCell, Nat.reduceEqDiff, reduceIte, selA_hit hb, Option.map_some] <;> rfl) (by decide) ?_
  refine ro_gif (b := (goodM m).kind == 5 || (goodM m).kind == 7 || (goodM m).kind == 11) (want := false) (v := .pv (.bool ((goodM m).kind == 9))) rfl (by simp only [evalF, upd, argsF, ofConst, ofCell, Nat.reduceEqDiff, reduceIte, List.getD_cons_zero, List.getD_cons_succ, List.getD_nil] <;> rfl) rfl (fun hb => by simp only [primA, List.map_cons, List.map_nil, evalF, upd, argsF, ofConst, ofCell, Nat.reduceEqDiff, reduceIte, selA_hit hb, Option.map_some, show binOpA Try.prog .eql 3 (.pv (.int .i64 (goodM m).kind)) (.pv (.int .i64 9)) = some (.pv (.bool ((goodM m).kind == 9))) from eql_v] <;> rfl) (by decide) ?_
  refine ro_por (b := (goodM m).kind == 5 || (goodM m).kind == 7 || (goodM m).kind == 11) (z := (goodM m).kind == 9) (by simp only [evalF, upd, argsF, ofConst, ofCell, Nat.reduceEqDiff, reduceIte, List.getD_cons_zero, List.getD_cons_succ, List.getD_nil] <;> rfl) (by simp only [evalF, upd, argsF, ofConst, ofCell, Nat.reduceEqDiff, reduceIte] <;> rfl) (by decide) ?_
  refine ro_move (by simp only [evalF, upd, argsF, ofConst, ofCell, Nat.reduceEqDiff, reduceIte, List.getD_cons_zero, List.getD_cons_succ, List.getD_nil] <;> rfl) (by decide) ?_
  refine ro_gif (b := (goodM m).kind == 5 || (goodM m).kind == 7 || (goodM m).kind == 11 || (goodM m).kind == 9) (want := false) (v := .pv (.int .i64 (goodM m).kind)) rfl (by simp only [evalF, upd, argsF, ofConst, ofCell, Nat.reduceEqDiff, reduceIte, List.getD_cons_zero, List.getD_cons_succ, List.getD_nil] <;> rfl) rfl (fun hb => by simp only [primA, List.map_cons, List.map_nil, evalF, upd, argsF, ofConst, ofCell, Nat.reduceEqDiff, reduceIte, selA_hit hb, Option.map_some] <;> rfl) (by decide) ?_
  refine ro_gif (b := (goodM m).kind == 5 || (goodM m).kind == 7 || (goodM m).kind == 11 || (goodM m).kind == 9) (want := false) (v := .pv (.bool ((goodM m).kind == 10))) rfl (by simp only [evalF, upd, argsF, ofConst, ofCell, Nat.reduceEqDiff, reduceIte, List.getD_cons_zero, List.getD_cons_succ, List.getD_nil] <;> rfl) rfl (fun hb => by simp only [primA, List.map_cons, List.map_nil, evalF, upd, argsF, ofConst, ofCell, Nat.reduceEqDiff, reduceIte, selA_hit hb, Option.map_some, show binOpA Try.prog .eql 3 (.pv (.int .i64 (goodM m).kind)) (.pv (.int .i64 10)) = some (.pv (.bool ((goodM m).kind == 10))) from eql_v] <;> rfl) (by decide) ?_
  refine ro_por (b := (goodM m).kind == 5 || (goodM m).kind == 7 || (goodM m).kind == 11 || (goodM m).kind == 9) (z := (goodM m).kind == 10) (by simp only [evalF, upd, argsF, ofConst, ofCell, Nat.reduceEqDiff, reduceIte, List.getD_cons_zero, List.getD_cons_succ, List.getD_nil] <;> rfl) (by simp only [evalF, upd, argsF, ofConst, ofCell, Nat.reduceEqDiff, reduceIte] <;> rfl) (by decide) ?_
  refine ro_assign (by simp only [evalF, upd, argsF, ofConst, ofCell, Nat.reduceEqDiff, reduceIte, List.getD_cons_zero, List.getD_cons_succ, List.getD_nil] <;> rfl) (by decide) ?_
  refine ro_nil ?_
  try simp only
  refine ex_seq (ex_region ?_)
  refine ro_move (by simp only [evalF, upd, argsF, ofConst, ofCell, Nat.reduceEqDiff, reduceIte, List.getD_cons_zero, List.getD_cons_succ, List.getD_nil] <;> rfl) (by decide) ?_
  refine ro_bin (by simp only [evalF, upd, argsF, ofConst, ofCell, Nat.reduceEqDiff, reduceIte, List.getD_cons_zero, List.getD_cons_succ, List.getD_nil] <;> rfl) (by simp only [evalF, upd, argsF, ofConst, ofCell, Nat.reduceEqDiff, reduceIte, List.getD_cons_zero, List.getD_cons_succ, List.getD_nil] <;> rfl) (by exact (show binOpA Try.prog .eql 3 (.pv (.int .i64 (goodM m).kind)) _ = some (.pv (.bool ((goodM m).kind == 8))) from eql_v)) (by decide) ?_
  refine ro_move (by simp only [evalF, upd, argsF, ofConst, ofCell, Nat.reduceEqDiff, reduceIte, List.getD_cons_zero, List.getD_cons_succ, List.getD_nil] <;> rfl) (by decide) ?_
  refine ro_gif (b := (goodM m).kind == 8) (want := false) (v := .pv (.int .i64 (goodM m).kind)) rfl (by simp only [evalF, upd, argsF, ofConst, ofCell, Nat.reduceEqDiff, reduceIte, List.getD_cons_zero, List.getD_cons_succ, List.getD_nil] <;> rfl) rfl (fun hb => by simp only [primA, List.map_cons, List.map_nil, evalF, upd, argsF, ofConst, ofCell, Nat.reduceEqDiff, reduceIte, selA_hit hb, Option.map_some] <;> rfl) (by decide) ?_
  refine ro_gif (b := (goodM m).kind == 8) (want := false) (v := .pv (.bool ((goodM m).kind == 9))) rfl (by simp only [evalF, upd, argsF, ofConst, ofCell, Nat.reduceEqDiff, reduceIte, List.getD_cons_zero, List.getD_cons_succ, List.getD_nil] <;> rfl) rfl (fun hb => by simp only [primA, List.map_cons, List.map_nil, evalF, upd, argsF, ofConst, ofCell, Nat.reduceEqDiff, reduceIte, selA_hit hb, Option.map_some, show binOpA Try.prog .eql 3 (.pv (.int .i64 (goodM m).kind)) (.pv (.int .i64 9)) = some (.pv (.bool ((goodM m).kind == 9))) from eql_v] <;> rfl) (by decide) ?_
  refine ro_por (b := (goodM m).kind == 8) (z := (goodM m).kind == 9) (by simp only [evalF, upd, argsF, ofConst, ofCell, Nat.reduceEqDiff, reduceIte, List.getD_cons_zero, List.getD_cons_succ, List.getD_nil] <;> rfl) (by simp only [evalF, upd, argsF, ofConst, ofCell, Nat.reduceEqDiff, reduceIte] <;> rfl) (by decide) ?_
  refine ro_move (by simp only [evalF, upd, argsF, ofConst, ofCell, Nat.reduceEqDiff, reduceIte, List.getD_cons_zero, List.getD_cons_succ, List.getD_nil] <;> rfl) (by decide) ?_
  refine ro_gif (b := (goodM m).kind == 8 || (goodM m).kind == 9) (want := false) (v := .pv (.int .i64 (goodM m).kind)) rfl (by simp only [evalF, upd, argsF, ofConst, ofCell, Nat.reduceEqDiff, reduceIte, List.getD_cons_zero, List.getD_cons_succ, List.getD_nil] <;> rfl) rfl (fun hb => by simp only [primA, List.map_cons, List.map_nil, evalF, upd, argsF, ofConst, ofCell, Nat.reduceEqDiff, reduceIte, selA_hit hb, Option.map_some] <;> rfl) (by decide) ?_
  refine ro_gif (b := (goodM m).kind == 8 || (goodM m).kind == 9) (want := false) (v := .pv (.bool ((goodM m).kind == 10))) rfl (by simp only [evalF, upd, argsF, ofConst, ofCell, Nat.reduceEqDiff, reduceIte, List.getD_cons_zero, List.getD_cons_succ, List.getD_nil] <;> rfl) rfl (fun hb => by simp only [primA, List.map_cons, List.map_nil, evalF, upd, argsF, ofConst, ofCell, Nat.reduceEqDiff, reduceIte, selA_hit hb, Option.map_some, show binOpA Try.prog .eql 3 (.pv (.int .i64 (goodM m).kind)) (.pv (.int .i64 10)) = some (.pv (.bool ((goodM m).kind == 10))) from eql_v] <;> rfl) (by decide) ?_
  refine ro_por (b := (goodM m).kind == 8 || (goodM m).kind == 9) (z := (goodM m).kind == 10) (by simp only [evalF, upd, argsF, ofConst, ofCell, Nat.reduceEqDiff, reduceIte, List.getD_cons_zero, List.getD_cons_succ, List.getD_nil] <;> rfl) (by simp only [evalF, upd, argsF, ofConst, ofCell, Nat.reduceEqDiff, reduceIte] <;> rfl) (by decide) ?_
  refine ro_move (by simp only [evalF, upd, argsF, ofConst, ofCell, Nat.reduceEqDiff, reduceIte, List.getD_cons_zero, List.getD_cons_succ, List.getD_nil] <;> rfl) (by decide) ?_
  refine ro_gif (b := (goodM m).kind == 8 || (goodM m).kind == 9 || (goodM m).kind == 10) (want := false) (v := .pv (.int .i64 (goodM m).kind)) rfl (by simp only [evalF, upd, argsF, ofConst, ofCell, Nat.reduceEqDiff, reduceIte, List.getD_cons_zero, List.getD_cons_succ, List.getD_nil] <;> rfl) rfl (fun hb => by simp only [primA, List.map_cons, List.map_nil, evalF, upd, argsF, ofConst, ofCell, Nat.reduceEqDiff, reduceIte, selA_hit hb, Option.map_some] <;> rfl) (by decide) ?_
  refine ro_gif (b := (goodM m).kind == 8 || (goodM m).kind == 9 || (goodM m).kind == 10) (want := false) (v := .pv (.bool ((goodM m).kind == 12))) rfl (by simp only [evalF, upd, argsF, ofConst, ofCell, Nat.reduceEqDiff, reduceIte, List.getD_cons_zero, List.getD_cons_succ, List.getD_nil] <;> rfl) rfl (fun hb => by simp only [primA, List.map_cons, List.map_nil, evalF, upd, argsF, ofConst, ofCell, Nat.reduceEqDiff, reduceIte, selA_hit hb, Option.map_some, show binOpA Try.prog .eql 3 (.pv (.int .i64 (goodM m).kind)) (.pv (.int .i64 12)) = some (.pv (.bool ((goodM m).kind == 12))) from eql_v] <;> rfl) (by decide) ?_
  refine ro_por (b := (goodM m).kind == 8 || (goodM m).kind == 9 || (goodM m).kind == 10) (z := (goodM m).kind == 12) (by simp only [evalF, upd, argsF, ofConst, ofCell, Nat.reduceEqDiff, reduceIte, List.getD_cons_zero, List.getD_cons_succ, List.getD_nil] <;> rfl) (by simp only [evalF, upd, argsF, ofConst, ofCell, Nat.reduceEqDiff, reduceIte] <;> rfl) (by decide) ?_
  refine ro_assign (by simp only [evalF, upd, argsF, ofConst, ofCell, Nat.reduceEqDiff, reduceIte, List.getD_cons_zero, List.getD_cons_succ, List.getD_nil] <;> rfl) (by decide) ?_
  refine ro_nil ?_
  try simp only
  refine ex_seq (ex_region ?_)
  refine ro_move (by simp only [evalF, upd, argsF, ofConst, ofCell, Nat.reduceEqDiff, reduceIte, List.getD_cons_zero, List.getD_cons_succ, List.getD_nil] <;> rfl) (by decide) ?_
  refine ro_bin (by simp only [evalF, upd, argsF, ofConst, ofCell, Nat.reduceEqDiff, reduceIte, List.getD_cons_zero, List.getD_cons_succ, List.getD_nil] <;> rfl) (by simp only [evalF, upd, argsF, ofConst, ofCell, Nat.reduceEqDiff, reduceIte, List.getD_cons_zero, List.getD_cons_succ, List.getD_nil] <;> rfl) (by exact (show binOpA Try.prog .eql 3 (.pv (.int .i64 (goodM m).kind)) _ = some (.pv (.bool ((goodM m).kind == 3))) from eql_v)) (by decide) ?_
  refine ro_move (by simp only [evalF, upd, argsF, ofConst, ofCell, Nat.reduceEqDiff, reduceIte, List.getD_cons_zero, List.getD_cons_succ, List.getD_nil] <;> rfl) (by decide) ?_
  refine ro_gif (b := (goodM m).kind == 3) (want := false) (v := .pv (.int .i64 (goodM m).kind)) rfl (by simp only [evalF, upd, argsF, ofConst, ofCell, Nat.reduceEqDiff, reduceIte, List.getD_cons_zero, List.getD_cons_succ, List.getD_nil] <;> rfl) rfl (fun hb => by simp only [primA, List.map_cons, List.map_nil, evalF, upd, argsF, ofConst, ofCell, Nat.reduceEqDiff, reduceIte, selA_hit hb, Option.map_some] <;> rfl) (by decide) ?_
  refine ro_gif (b := (goodM m).kind == 3) (want := false) (v := .pv (.bool ((goodM m).kind == 9))) rfl (by simp only [evalF, upd, argsF, ofConst, ofCell, Nat.reduceEqDiff, reduceIte, List.getD_cons_zero, List.getD_cons_succ, List.getD_nil] <;> rfl) rfl (fun hb => by simp only [primA, List.map_cons, List.map_nil, evalF, upd, argsF, ofConst, ofCell, Nat.reduceEqDiff, reduceIte, selA_hit hb, Option.map_some, show binOpA Try.prog .eql 3 (.pv (.int .i64 (goodM m).kind)) (.pv (.int .i64 9)) = some (.pv (.bool ((goodM m).kind == 9))) from eql_v] <;> rfl) (by decide) ?_
  refine ro_por (b := (goodM m).kind == 3) (z := (goodM m).kind == 9) (by simp only [evalF, upd, argsF, ofConst, ofCell, Nat.reduceEqDiff, reduceIte, List.getD_cons_zero, List.getD_cons_succ, List.getD_nil] <;> rfl) (by simp only [evalF, upd, argsF, ofConst, ofCell, Nat.reduceEqDiff, reduceIte] <;> rfl) (by decide) ?_
  refine ro_move (by simp only [evalF, upd, argsF, ofConst, ofCell, Nat.reduceEqDiff, reduceIte, List.getD_cons_zero, List.getD_cons_succ, List.getD_nil] <;> rfl) (by decide) ?_
  refine ro_gif (b := (goodM m).kind == 3 || (goodM m).kind == 9) (want := false) (v := .pv (.int .i64 (goodM m).kind)) rfl (by simp only [evalF, upd, argsF, ofConst, ofCell, Nat.reduceEqDiff, reduceIte, List.getD_cons_zero, List.getD_cons_succ, List.getD_nil] <;> rfl) rfl (fun hb => by simp only [primA, List.map_cons, List.map_nil, evalF, upd, argsF, ofConst, ofCell, Nat.reduceEqDiff, reduceIte, selA_hit hb, Option.map_some] <;> rfl) (by decide) ?_
  refine ro_gif (b := (goodM m).kind == 3 || (goodM m).kind == 9) (want := false) (v := .pv (.bool ((goodM m).kind == 12))) rfl (by simp only [evalF, upd, argsF, ofConst, ofCell, Nat.reduceEqDiff, reduceIte, List.getD_cons_zero, List.getD_cons_succ, List.getD_nil] <;> rfl) rfl (fun hb => by simp only [primA, List.map_cons, List.map_nil, evalF, upd, argsF, ofConst, ofCell, Nat.reduceEqDiff, reduceIte, selA_hit hb, Option.map_some, show binOpA Try.prog .eql 3 (.pv (.int .i64 (goodM m).kind)) (.pv (.int .i64 12)) = some (.pv (.bool ((goodM m).kind == 12))) from eql_v] <;> rfl) (by decide) ?_
  refine ro_por (b := (goodM m).kind == 3 || (goodM m).kind == 9) (z := (goodM m).kind == 12) (by simp only [evalF, upd, argsF, ofConst, ofCell, Nat.reduceEqDiff, reduceIte, List.getD_cons_zero, List.getD_cons_succ, List.getD_nil] <;> rfl) (by simp only [evalF, upd, argsF, ofConst, ofCell, Nat.reduceEqDiff, reduceIte] <;> rfl) (by decide) ?_
  refine ro_assign (by simp only [evalF, upd, argsF, ofConst, ofCell, Nat.reduceEqDiff, reduceIte, List.getD_cons_zero, List.getD_cons_succ, List.getD_nil] <;> rfl) (by decide) ?_
  refine ro_nil ?_
  try simp only
  refine ex_seq (ex_region ?_)
  refine ro_move (by simp only [evalF, upd, argsF, ofConst, ofCell, Nat.reduceEqDiff, reduceIte, List.getD_cons_zero, List.getD_cons_succ, List.getD_nil] <;> rfl) (by decide) ?_
  refine ro_move (by simp only [evalF, upd, argsF, ofConst, ofCell, Nat.reduceEqDiff, reduceIte, List.getD_cons_zero, List.getD_cons_succ, List.getD_nil] <;> rfl) (by decide) ?_
  refine ro_gif (b := (goodM m).kind == 2 || (goodM m).kind == 6) (want := false) (v := .ptr nb5 1 (0 + 3)) rfl (by simp only [evalF, upd, argsF, ofConst, ofCell, Nat.reduceEqDiff, reduceIte, List.getD_cons_zero, List.getD_cons_succ, List.getD_nil] <;> rfl) rfl (fun hb => by simp only [primA, List.map_cons, List.map_nil, evalF, upd, argsF, ofConst, ofCell, Nat.reduceEqDiff, reduceIte, selA_hit hb, Option.map_some, fa30_3] <;> rfl) (by decide) ?_
  refine ro_gif (b := (goodM m).kind == 2 || (goodM m).kind == 6) (want := false) (v := Lx) rfl (by simp only [evalF, upd, argsF, ofConst, ofCell, Nat.reduceEqDiff, reduceIte, List.getD_cons_zero, List.getD_cons_succ, List.getD_nil] <;> rfl) rfl (fun hb => by simp only [primA, List.map_cons, List.map_nil, evalF, upd, argsF, ofConst, ofCell, Nat.reduceEqDiff, reduceIte, selA_hit hb, Option.map_some, load1 ag24 hlx mc3] <;> rfl) (by decide) ?_
  refine ro_gif (b := (goodM m).kind == 2 || (goodM m).kind == 6) (want := false) (v := .pv (.int .i64 0)) rfl (by simp only [evalF, upd, argsF, ofConst, ofCell, Nat.reduceEqDiff, reduceIte, List.getD_cons_zero, List.getD_cons_succ, List.getD_nil] <;> rfl) rfl (fun hb => by simp only [primA, List.map_cons, List.map_nil, evalF, upd, argsF, ofConst, ofCell, Nat.reduceEqDiff, reduceIte, selA_hit hb, Option.map_some, lenL (x2 (false_of hb))] <;> rfl) (by decide) ?_
  refine ro_gif (b := (goodM m).kind == 2 || (goodM m).kind == 6) (want := false) (v := .pv (.bool true)) rfl (by simp only [evalF, upd, argsF, ofConst, ofCell, Nat.reduceEqDiff, reduceIte, List.getD_cons_zero, List.getD_cons_succ, List.getD_nil] <;> rfl) rfl (fun hb => by simp only [primA, List.map_cons, List.map_nil, evalF, upd, argsF, ofConst, ofCell, Nat.reduceEqDiff, reduceIte, selA_hit hb, Option.map_some, show binOpA Try.prog .eql 3 (.pv (.int .i64 0)) (.pv (.int .i64 0)) = some (.pv (.bool true)) from eql_t rfl] <;> rfl) (by decide) ?_
  refine ro_port (b := (goodM m).kind == 2 || (goodM m).kind == 6) (by simp only [evalF, upd, argsF, ofConst, ofCell, Nat.reduceEqDiff, reduceIte, List.getD_cons_zero, List.getD_cons_succ, List.getD_nil] <;> rfl) (by simp only [evalF, upd, argsF, ofConst, ofCell, Nat.reduceEqDiff, reduceIte] <;> rfl) (by decide) ?_
  refine ro_move (by simp only [evalF, upd, argsF, ofConst, ofCell, Nat.reduceEqDiff, reduceIte, List.getD_cons_zero, List.getD_cons_succ, List.getD_nil] <;> rfl) (by decide) ?_
  refine ro_guard rfl (by simp only [evalF, upd, argsF, ofConst, ofCell, Nat.reduceEqDiff, reduceIte, List.getD_cons_zero, List.getD_cons_succ, List.getD_nil] <;> rfl) rfl ?_
  refine ro_move (by simp only [evalF, upd, argsF, ofConst, ofCell, Nat.reduceEqDiff, reduceIte, List.getD_cons_zero, List.getD_cons_succ, List.getD_nil] <;> rfl) (by decide) ?_
  refine ro_guard rfl (by simp only [evalF, upd, argsF, ofConst, ofCell, Nat.reduceEqDiff, reduceIte, List.getD_cons_zero, List.getD_cons_succ, List.getD_nil] <;> rfl) rfl ?_
  refine ro_move (by simp only [evalF, upd, argsF, ofConst, ofCell, Nat.reduceEqDiff, reduceIte, List.getD_cons_zero, List.getD_cons_succ, List.getD_nil] <;> rfl) (by decide) ?_
  refine ro_gif (b := (goodM m).kind == 5 || (goodM m).kind == 7 || (goodM m).kind == 11 || (goodM m).kind == 9 || (goodM m).kind == 10) (want := false) (v := .ptr nb5 1 (0 + 5)) rfl (by simp only [evalF, upd, argsF, ofConst, ofCell, Nat.reduceEqDiff, reduceIte, List.getD_cons_zero, List.getD_cons_succ, List.getD_nil] <;> rfl) rfl (fun hb => by simp only [primA, List.map_cons, List.map_nil, evalF, upd, argsF, ofConst, ofCell, Nat.reduceEqDiff, reduceIte, selA_hit hb, Option.map_some, fa30_5] <;> rfl) (by decide) ?_
  refine ro_gif (b := (goodM m).kind == 5 || (goodM m).kind == 7 || (goodM m).kind == 11 || (goodM m).kind == 9 || (goodM m).kind == 10) (want := false) (v := .agg (zkey.map .pv)) rfl (by simp only [evalF, upd, argsF, ofConst, ofCell, Nat.reduceEqDiff, reduceIte, List.getD_cons_zero, List.getD_cons_succ, List.getD_nil] <;> rfl) rfl (fun hb => by simp only [primA, List.map_cons, List.map_nil, evalF, upd, argsF, ofConst, ofCell, Nat.reduceEqDiff, reduceIte, selA_hit hb, Option.map_some, ldKey (x3 (false_of hb))] <;> rfl) (by decide) ?_
  refine ro_gif (b := (goodM m).kind == 5 || (goodM m).kind == 7 || (goodM m).kind == 11 || (goodM m).kind == 9 || (goodM m).kind == 10) (want := false) (v := .agg (zkey.map .pv)) rfl (by simp only [evalF, upd, argsF, ofConst, ofCell, Nat.reduceEqDiff, reduceIte, List.getD_cons_zero, List.getD_cons_succ, List.getD_nil] <;> rfl) rfl (fun hb => by show Option.map Eff.val (buildA Try.prog 26 []) = _; rw [bld26]; rfl) (by decide) ?_
  refine ro_gif (b := (goodM m).kind == 5 || (goodM m).kind == 7 || (goodM m).kind == 11 || (goodM m).kind == 9 || (goodM m).kind == 10) (want := false) (v := .pv (.bool true)) rfl (by simp only [evalF, upd, argsF, ofConst, ofCell, Nat.reduceEqDiff, reduceIte, List.getD_cons_zero, List.getD_cons_succ, List.getD_nil] <;> rfl) rfl (fun hb => by simp only [primA, List.map_cons, List.map_nil, evalF, upd, argsF, ofConst, ofCell, Nat.reduceEqDiff, reduceIte, selA_hit hb, Option.map_some, eqKey] <;> rfl) (by decide) ?_
  refine ro_guard rfl (by simp only [evalF, upd, argsF, ofConst, ofCell, Nat.reduceEqDiff, reduceIte, List.getD_cons_zero, List.getD_cons_succ, List.getD_nil] <;> rfl) rfl ?_
  refine ro_port (b := (goodM m).kind == 5 || (goodM m).kind == 7 || (goodM m).kind == 11 || (goodM m).kind == 9 || (goodM m).kind == 10) (by simp only [evalF, upd, argsF, ofConst, ofCell, Nat.reduceEqDiff, reduceIte, List.getD_cons_zero, List.getD_cons_succ, List.getD_nil] <;> rfl) (by simp only [evalF, upd, argsF, ofConst, ofCell, Nat.reduceEqDiff, reduceIte] <;> rfl) (by decide) ?_
  refine ro_pick (by simp only [evalF, upd, argsF, ofConst, ofCell, Nat.reduceEqDiff, reduceIte, List.getD_cons_zero, List.getD_cons_succ, List.getD_nil] <;> rfl) (by simp only [evalF, upd, argsF, ofConst, ofCell, Nat.reduceEqDiff, reduceIte, List.getD_cons_zero, List.getD_cons_succ, List.getD_nil] <;> rfl) (by simp only [evalF, upd, argsF, ofConst, ofCell, Nat.reduceEqDiff, reduceIte, List.getD_cons_zero, List.getD_cons_succ, List.getD_nil] <;> rfl) (by decide) ?_
  refine ro_move (by simp only [evalF, upd, argsF, ofConst, ofCell, Nat.reduceEqDiff, reduceIte, List.getD_cons_zero, List.getD_cons_succ, List.getD_nil] <;> rfl) (by decide) ?_
  refine ro_guard rfl (by simp only [evalF, upd, argsF, ofConst, ofCell, Nat.reduceEqDiff, reduceIte, List.getD_cons_zero, List.getD_cons_succ, List.getD_nil] <;> rfl) rfl ?_
  refine ro_move (by simp only [evalF, upd, argsF, ofConst, ofCell, Nat.reduceEqDiff, reduceIte, List.getD_cons_zero, List.getD_cons_succ, List.getD_nil] <;> rfl) (by decide) ?_
  refine ro_guard rfl (by simp only [evalF, upd, argsF, ofConst, ofCell, Nat.reduceEqDiff, reduceIte, List.getD_cons_zero, List.getD_cons_succ, List.getD_nil] <;> rfl) rfl ?_
  refine ro_move (by simp only [evalF, upd, argsF, ofConst, ofCell, Nat.reduceEqDiff, reduceIte, List.getD_cons_zero, List.getD_cons_succ, List.getD_nil] <;> rfl) (by decide) ?_
  refine ro_gif (b := (goodM m).kind == 8 || (goodM m).kind == 9 || (goodM m).kind == 10 || (goodM m).kind == 12) (want := false) (v := .ptr nb5 1 (0 + 37)) rfl (by simp only [evalF, upd, argsF, ofConst, ofCell, Nat.reduceEqDiff, reduceIte, List.getD_cons_zero, List.getD_cons_succ, List.getD_nil] <;> rfl) rfl (fun hb => by simp only [primA, List.map_cons, List.map_nil, evalF, upd, argsF, ofConst, ofCell, Nat.reduceEqDiff, reduceIte, selA_hit hb, Option.map_some, fa30_6] <;> rfl) (by decide) ?_
  refine ro_gif (b := (goodM m).kind == 8 || (goodM m).kind == 9 || (goodM m).kind == 10 || (goodM m).kind == 12) (want := false) (v := Dx) rfl (by simp only [evalF, upd, argsF, ofConst, ofCell, Nat.reduceEqDiff, reduceIte, List.getD_cons_zero, List.getD_cons_succ, List.getD_nil] <;> rfl) rfl (fun hb => by simp only [primA, List.map_cons, List.map_nil, evalF, upd, argsF, ofConst, ofCell, Nat.reduceEqDiff, reduceIte, selA_hit hb, Option.map_some, load1 ag27 hlx (mc37 hkx)] <;> rfl) (by decide) ?_
  refine ro_gif (b := (goodM m).kind == 8 || (goodM m).kind == 9 || (goodM m).kind == 10 || (goodM m).kind == 12) (want := false) (v := .pv (.int .i64 0)) rfl (by simp only [evalF, upd, argsF, ofConst, ofCell, Nat.reduceEqDiff, reduceIte, List.getD_cons_zero, List.getD_cons_succ, List.getD_nil] <;> rfl) rfl (fun hb => by simp only [primA, List.map_cons, List.map_nil, evalF, upd, argsF, ofConst, ofCell, Nat.reduceEqDiff, reduceIte, selA_hit hb, Option.map_some, lenD (x4 (false_of hb))] <;> rfl) (by decide) ?_
  refine ro_gif (b := (goodM m).kind == 8 || (goodM m).kind == 9 || (goodM m).kind == 10 || (goodM m).kind == 12) (want := false) (v := .pv (.bool true)) rfl (by simp only [evalF, upd, argsF, ofConst, ofCell, Nat.reduceEqDiff, reduceIte, List.getD_cons_zero, List.getD_cons_succ, List.getD_nil] <;> rfl) rfl (fun hb => by simp only [primA, List.map_cons, List.map_nil, evalF, upd, argsF, ofConst, ofCell, Nat.reduceEqDiff, reduceIte, selA_hit hb, Option.map_some, show binOpA Try.prog .eql 3 (.pv (.int .i64 0)) (.pv (.int .i64 0)) = some (.pv (.bool true)) from eql_t rfl] <;> rfl) (by decide) ?_
  refine ro_guard rfl (by simp only [evalF, upd, argsF, ofConst, ofCell, Nat.reduceEqDiff, reduceIte, List.getD_cons_zero, List.getD_cons_succ, List.getD_nil] <;> rfl) rfl ?_
  refine ro_port (b := (goodM m).kind == 8 || (goodM m).kind == 9 || (goodM m).kind == 10 || (goodM m).kind == 12) (by simp only [evalF, upd, argsF, ofConst, ofCell, Nat.reduceEqDiff, reduceIte, List.getD_cons_zero, List.getD_cons_succ, List.getD_nil] <;> rfl) (by simp only [evalF, upd, argsF, ofConst, ofCell, Nat.reduceEqDiff, reduceIte] <;> rfl) (by decide) ?_
  refine ro_pick (by simp only [evalF, upd, argsF, ofConst, ofCell, Nat.reduceEqDiff, reduceIte, List.getD_cons_zero, List.getD_cons_succ, List.getD_nil] <;> rfl) (by simp only [evalF, upd, argsF, ofConst, ofCell, Nat.reduceEqDiff, reduceIte, List.getD_cons_zero, List.getD_cons_succ, List.getD_nil] <;> rfl) (by simp only [evalF, upd, argsF, ofConst, ofCell, Nat.reduceEqDiff, reduceIte, List.getD_cons_zero, List.getD_cons_succ, List.getD_nil] <;> rfl) (by decide) ?_
  refine ro_move (by simp only [evalF, upd, argsF, ofConst, ofCell, Nat.reduceEqDiff, reduceIte, List.getD_cons_zero, List.getD_cons_succ, List.getD_nil] <;> rfl) (by decide) ?_
  refine ro_guard rfl (by simp only [evalF, upd, argsF, ofConst, ofCell, Nat.reduceEqDiff, reduceIte, List.getD_cons_zero, List.getD_cons_succ, List.getD_nil] <;> rfl) rfl ?_
  refine ro_move (by simp only [evalF, upd, argsF, ofConst, ofCell, Nat.reduceEqDiff, reduceIte, List.getD_cons_zero, List.getD_cons_succ, List.getD_nil] <;> rfl) (by decide) ?_
  refine ro_guard rfl (by simp only [evalF, upd, argsF, ofConst, ofCell, Nat.reduceEqDiff, reduceIte, List.getD_cons_zero, List.getD_cons_succ, List.getD_nil] <;> rfl) rfl ?_
  refine ro_move (by simp only [evalF, upd, argsF, ofConst, ofCell, Nat.reduceEqDiff, reduceIte, List.getD_cons_zero, List.getD_cons_succ, List.getD_nil] <;> rfl) (by decide) ?_
  refine ro_gif (b := (goodM m).kind == 3 || (goodM m).kind == 9 || (goodM m).kind == 12) (want := false) (v := .ptr nb5 1 (0 + 1)) rfl (by simp only [evalF, upd, argsF, ofConst, ofCell, Nat.reduceEqDiff, reduceIte, List.getD_cons_zero, List.getD_cons_succ, List.getD_nil] <;> rfl) rfl (fun hb => by simp only [primA, List.map_cons, List.map_nil, evalF, upd, argsF, ofConst, ofCell, Nat.reduceEqDiff, reduceIte, selA_hit hb, Option.map_some, fa30_1] <;> rfl) (by decide) ?_
  refine ro_gif (b := (goodM m).kind == 3 || (goodM m).kind == 9 || (goodM m).kind == 12) (want := false) (v := .pv (.int .i64 0)) rfl (by simp only [evalF, upd, argsF, ofConst, ofCell, Nat.reduceEqDiff, reduceIte, List.getD_cons_zero, List.getD_cons_succ, List.getD_nil] <;> rfl) rfl (fun hb => by simp only [primA, List.map_cons, List.map_nil, evalF, upd, argsF, ofConst, ofCell, Nat.reduceEqDiff, reduceIte, selA_hit hb, Option.map_some, ldN 1 mc1 (x5 (false_of hb))] <;> rfl) (by decide) ?_
  refine ro_gif (b := (goodM m).kind == 3 || (goodM m).kind == 9 || (goodM m).kind == 12) (want := false) (v := .pv (.bool true)) rfl (by simp only [evalF, upd, argsF, ofConst, ofCell, Nat.reduceEqDiff, reduceIte, List.getD_cons_zero, List.getD_cons_succ, List.getD_nil] <;> rfl) rfl (fun hb => by simp only [primA, List.map_cons, List.map_nil, evalF, upd, argsF, ofConst, ofCell, Nat.reduceEqDiff, reduceIte, selA_hit hb, Option.map_some, show binOpA Try.prog .eql 3 (.pv (.int .i64 0)) (.pv (.int .i64 0)) = some (.pv (.bool true)) from eql_t rfl] <;> rfl) (by decide) ?_
  refine ro_guard rfl (by simp only [evalF, upd, argsF, ofConst, ofCell, Nat.reduceEqDiff, reduceIte, List.getD_cons_zero, List.getD_cons_succ, List.getD_nil] <;> rfl) rfl ?_
  refine ro_port (b := (goodM m).kind == 3 || (goodM m).kind == 9 || (goodM m).kind == 12) (by simp only [evalF, upd, argsF, ofConst, ofCell, Nat.reduceEqDiff, reduceIte, List.getD_cons_zero, List.getD_cons_succ, List.getD_nil] <;> rfl) (by simp only [evalF, upd, argsF, ofConst, ofCell, Nat.reduceEqDiff, reduceIte] <;> rfl) (by decide) ?_
  refine ro_pick (by simp only [evalF, upd, argsF, ofConst, ofCell, Nat.reduceEqDiff, reduceIte, List.getD_cons_zero, List.getD_cons_succ, List.getD_nil] <;> rfl) (by simp only [evalF, upd, argsF, ofConst, ofCell, Nat.reduceEqDiff, reduceIte, List.getD_cons_zero, List.getD_cons_succ, List.getD_nil] <;> rfl) (by simp only [evalF, upd, argsF, ofConst, ofCell, Nat.reduceEqDiff, reduceIte, List.getD_cons_zero, List.getD_cons_succ, List.getD_nil] <;> rfl) (by decide) ?_
  refine ro_move (by simp only [evalF, upd, argsF, ofConst, ofCell, Nat.reduceEqDiff, reduceIte, List.getD_cons_zero, List.getD_cons_succ, List.getD_nil] <;> rfl) (by decide) ?_
  refine ro_guard rfl (by simp only [evalF, upd, argsF, ofConst, ofCell, Nat.reduceEqDiff, reduceIte, List.getD_cons_zero, List.getD_cons_succ, List.getD_nil] <;> rfl) rfl ?_
  refine ro_move (by simp only [evalF, upd, argsF, ofConst, ofCell, Nat.reduceEqDiff, reduceIte, List.getD_cons_zero, List.getD_cons_succ, List.getD_nil] <;> rfl) (by decide) ?_
  refine ro_guard rfl (by simp only [evalF, upd, argsF, ofConst, ofCell, Nat.reduceEqDiff, reduceIte, List.getD_cons_zero, List.getD_cons_succ, List.getD_nil] <;> rfl) rfl ?_
  refine ro_bin (by simp only [evalF, upd, argsF, ofConst, ofCell, Nat.reduceEqDiff, reduceIte, List.getD_cons_zero, List.getD_cons_succ, List.getD_nil] <;> rfl) (by simp only [evalF, upd, argsF, ofConst, ofCell, Nat.reduceEqDiff, reduceIte, List.getD_cons_zero, List.getD_cons_succ, List.getD_nil] <;> rfl) (by exact (show binOpA Try.prog .eql 3 (.pv (.int .i64 (goodM m).kind)) (.pv (.int .i64 2)) = some (.pv (.bool ((goodM m).kind == 2))) from eql_v)) (by decide) ?_
  refine ro_guard rfl (by simp only [evalF, upd, argsF, ofConst, ofCell, Nat.reduceEqDiff, reduceIte, List.getD_cons_zero, List.getD_cons_succ, List.getD_nil] <;> rfl) rfl ?_
  refine ro_move (by simp only [evalF, upd, argsF, ofConst, ofCell, Nat.reduceEqDiff, reduceIte, List.getD_cons_zero, List.getD_cons_succ, List.getD_nil] <;> rfl) (by decide) ?_
  refine ro_gif (b := (goodM m).kind == 2) (want := false) (v := .ptr nb5 1 (0 + 2)) rfl (by simp only [evalF, upd, argsF, ofConst, ofCell, Nat.reduceEqDiff, reduceIte, List.getD_cons_zero, List.getD_cons_succ, List.getD_nil] <;> rfl) rfl (fun hb => by simp only [primA, List.map_cons, List.map_nil, evalF, upd, argsF, ofConst, ofCell, Nat.reduceEqDiff, reduceIte, selA_hit hb, Option.map_some, fa30_2] <;> rfl) (by decide) ?_
  refine ro_gif (b := (goodM m).kind == 2) (want := false) (v := .pv (.int .i64 0)) rfl (by simp only [evalF, upd, argsF, ofConst, ofCell, Nat.reduceEqDiff, reduceIte, List.getD_cons_zero, List.getD_cons_succ, List.getD_nil] <;> rfl) rfl (fun hb => by simp only [primA, List.map_cons, List.map_nil, evalF, upd, argsF, ofConst, ofCell, Nat.reduceEqDiff, reduceIte, selA_hit hb, Option.map_some, ldN 2 mc2 (x6 (false_of hb))] <;> rfl) (by decide) ?_
  refine ro_gif (b := (goodM m).kind == 2) (want := false) (v := .pv (.bool true)) rfl (by simp only [evalF, upd, argsF, ofConst, ofCell, Nat.reduceEqDiff, reduceIte, List.getD_cons_zero, List.getD_cons_succ, List.getD_nil] <;> rfl) rfl (fun hb => by simp only [primA, List.map_cons, List.map_nil, evalF, upd, argsF, ofConst, ofCell, Nat.reduceEqDiff, reduceIte, selA_hit hb, Option.map_some, show binOpA Try.prog .eql 3 (.pv (.int .i64 0)) (.pv (.int .i64 0)) = some (.pv (.bool true)) from eql_t rfl] <;> rfl) (by decide) ?_
  refine ro_guard rfl (by simp only [evalF, upd, argsF, ofConst, ofCell, Nat.reduceEqDiff, reduceIte, List.getD_cons_zero, List.getD_cons_succ, List.getD_nil] <;> rfl) rfl ?_
  refine ro_port (b := (goodM m).kind == 2) (by simp only [evalF, upd, argsF, ofConst, ofCell, Nat.reduceEqDiff, reduceIte, List.getD_cons_zero, List.getD_cons_succ, List.getD_nil] <;> rfl) (by simp only [evalF, upd, argsF, ofConst, ofCell, Nat.reduceEqDiff, reduceIte] <;> rfl) (by decide) ?_
  refine ro_pick (by simp only [evalF, upd, argsF, ofConst, ofCell, Nat.reduceEqDiff, reduceIte, List.getD_cons_zero, List.getD_cons_succ, List.getD_nil] <;> rfl) (by simp only [evalF, upd, argsF, ofConst, ofCell, Nat.reduceEqDiff, reduceIte, List.getD_cons_zero, List.getD_cons_succ, List.getD_nil] <;> rfl) (by simp only [evalF, upd, argsF, ofConst, ofCell, Nat.reduceEqDiff, reduceIte, List.getD_cons_zero, List.getD_cons_succ, List.getD_nil] <;> rfl) (by decide) ?_
  refine ro_move (by simp only [evalF, upd, argsF, ofConst, ofCell, Nat.reduceEqDiff, reduceIte, List.getD_cons_zero, List.getD_cons_succ, List.getD_nil] <;> rfl) (by decide) ?_
  refine ro_guard rfl (by simp only [evalF, upd, argsF, ofConst, ofCell, Nat.reduceEqDiff, reduceIte, List.getD_cons_zero, List.getD_cons_succ, List.getD_nil] <;> rfl) rfl ?_
  refine ro_move (by simp only [evalF, upd, argsF, ofConst, ofCell, Nat.reduceEqDiff, reduceIte, List.getD_cons_zero, List.getD_cons_succ, List.getD_nil] <;> rfl) (by decide) ?_
  refine ro_guard rfl (by simp only [evalF, upd, argsF, ofConst, ofCell, Nat.reduceEqDiff, reduceIte, List.getD_cons_zero, List.getD_cons_succ, List.getD_nil] <;> rfl) rfl ?_
  refine ro_bin (by simp only [evalF, upd, argsF, ofConst, ofCell, Nat.reduceEqDiff, reduceIte, List.getD_cons_zero, List.getD_cons_succ, List.getD_nil] <;> rfl) (by simp only [evalF, upd, argsF, ofConst, ofCell, Nat.reduceEqDiff, reduceIte, List.getD_cons_zero, List.getD_cons_succ, List.getD_nil] <;> rfl) (by exact (show binOpA Try.prog .eql 3 (.pv (.int .i64 (goodM m).kind)) (.pv (.int .i64 6)) = some (.pv (.bool ((goodM m).kind == 6))) from eql_v)) (by decide) ?_
  refine ro_guard rfl (by simp only [evalF, upd, argsF, ofConst, ofCell, Nat.reduceEqDiff, reduceIte, List.getD_cons_zero, List.getD_cons_succ, List.getD_nil] <;> rfl) rfl ?_
  refine ro_move (by simp only [evalF, upd, argsF, ofConst, ofCell, Nat.reduceEqDiff, reduceIte, List.getD_cons_zero, List.getD_cons_succ, List.getD_nil] <;> rfl) (by decide) ?_
  refine ro_gif (b := (goodM m).kind == 6) (want := false) (v := .ptr nb5 1 (0 + 4)) rfl (by simp only [evalF, upd, argsF, ofConst, ofCell, Nat.reduceEqDiff, reduceIte, List.getD_cons_zero, List.getD_cons_succ, List.getD_nil] <;> rfl) rfl (fun hb => by simp only [primA, List.map_cons, List.map_nil, evalF, upd, argsF, ofConst, ofCell, Nat.reduceEqDiff, reduceIte, selA_hit hb, Option.map_some, fa30_4] <;> rfl) (by decide) ?_
  refine ro_gif (b := (goodM m).kind == 6) (want := false) (v := .pv (.bool false)) rfl (by simp only [evalF, upd, argsF, ofConst, ofCell, Nat.reduceEqDiff, reduceIte, List.getD_cons_zero, List.getD_cons_succ, List.getD_nil] <;> rfl) rfl (fun hb => by simp only [primA, List.map_cons, List.map_nil, evalF, upd, argsF, ofConst, ofCell, Nat.reduceEqDiff, reduceIte, selA_hit hb, Option.map_some, ldB (x7 (false_of hb))] <;> rfl) (by decide) ?_
  refine ro_gif (b := (goodM m).kind == 6) (want := false) (v := .pv (.bool true)) rfl (by simp only [evalF, upd, argsF, ofConst, ofCell, Nat.reduceEqDiff, reduceIte, List.getD_cons_zero, List.getD_cons_succ, List.getD_nil] <;> rfl) rfl (fun hb => by simp only [primA, List.map_cons, List.map_nil, evalF, upd, argsF, ofConst, ofCell, Nat.reduceEqDiff, reduceIte, selA_hit hb, Option.map_some, show unOpA .not (.pv (.bool false)) = some (.pv (.bool true)) from rfl] <;> rfl) (by decide) ?_
  refine ro_guard rfl (by simp only [evalF, upd, argsF, ofConst, ofCell, Nat.reduceEqDiff, reduceIte, List.getD_cons_zero, List.getD_cons_succ, List.getD_nil] <;> rfl) rfl ?_
  refine ro_port (b := (goodM m).kind == 6) (by simp only [evalF, upd, argsF, ofConst, ofCell, Nat.reduceEqDiff, reduceIte, List.getD_cons_zero, List.getD_cons_succ, List.getD_nil] <;> rfl) (by simp only [evalF, upd, argsF, ofConst, ofCell, Nat.reduceEqDiff, reduceIte] <;> rfl) (by decide) ?_
  refine ro_pick (by simp only [evalF, upd, argsF, ofConst, ofCell, Nat.reduceEqDiff, reduceIte, List.getD_cons_zero, List.getD_cons_succ, List.getD_nil] <;> rfl) (by simp only [evalF, upd, argsF, ofConst, ofCell, Nat.reduceEqDiff, reduceIte, List.getD_cons_zero, List.getD_cons_succ, List.getD_nil] <;> rfl) (by simp only [evalF, upd, argsF, ofConst, ofCell, Nat.reduceEqDiff, reduceIte, List.getD_cons_zero, List.getD_cons_succ, List.getD_nil] <;> rfl) (by decide) ?_
  refine ro_move (by simp only [evalF, upd, argsF, ofConst, ofCell, Nat.reduceEqDiff, reduceIte, List.getD_cons_zero, List.getD_cons_succ, List.getD_nil] <;> rfl) (by decide) ?_
  refine ro_guard rfl (by simp only [evalF, upd, argsF, ofConst, ofCell, Nat.reduceEqDiff, reduceIte, List.getD_cons_zero, List.getD_cons_succ, List.getD_nil] <;> rfl) rfl ?_
  refine ro_move (by simp only [evalF, upd, argsF, ofConst, ofCell, Nat.reduceEqDiff, reduceIte, List.getD_cons_zero, List.getD_cons_succ, List.getD_nil] <;> rfl) (by decide) ?_
  refine ro_guard rfl (by simp only [evalF, upd, argsF, ofConst, ofCell, Nat.reduceEqDiff, reduceIte, List.getD_cons_zero, List.getD_cons_succ, List.getD_nil] <;> rfl) rfl ?_
  refine ro_bin (by simp only [evalF, upd, argsF, ofConst, ofCell, Nat.reduceEqDiff, reduceIte, List.getD_cons_zero, List.getD_cons_succ, List.getD_nil] <;> rfl) (by simp only [evalF, upd, argsF, ofConst, ofCell, Nat.reduceEqDiff, reduceIte, List.getD_cons_zero, List.getD_cons_succ, List.getD_nil] <;> rfl) (by exact (show binOpA Try.prog .eql 3 (.pv (.int .i64 (goodM m).kind)) (.pv (.int .i64 9)) = some (.pv (.bool ((goodM m).kind == 9))) from eql_v)) (by decide) ?_
  refine ro_guard rfl (by simp only [evalF, upd, argsF, ofConst, ofCell, Nat.reduceEqDiff, reduceIte, List.getD_cons_zero, List.getD_cons_succ, List.getD_nil] <;> rfl) rfl ?_
  refine ro_move (by simp only [evalF, upd, argsF, ofConst, ofCell, Nat.reduceEqDiff, reduceIte, List.getD_cons_zero, List.getD_cons_succ, List.getD_nil] <;> rfl) (by decide) ?_
  refine ro_gif (b := (goodM m).kind == 9) (want := false) (v := .pv (.int .i64 (goodM m).kind)) rfl (by simp only [evalF, upd, argsF, ofConst, ofCell, Nat.reduceEqDiff, reduceIte, List.getD_cons_zero, List.getD_cons_succ, List.getD_nil] <;> rfl) rfl (fun hb => by simp only [primA, List.map_cons, List.map_nil, evalF, upd, argsF, ofConst, ofCell, Nat.reduceEqDiff, reduceIte, selA_hit hb, Option.map_some] <;> rfl) (by decide) ?_
  refine ro_gif (b := (goodM m).kind == 9) (want := false) (v := .pv (.bool ((goodM m).kind == 12))) rfl (by simp only [evalF, upd, argsF, ofConst, ofCell, Nat.reduceEqDiff, reduceIte, List.getD_cons_zero, List.getD_cons_succ, List.getD_nil] <;> rfl) rfl (fun hb => by simp only [primA, List.map_cons, List.map_nil, evalF, upd, argsF, ofConst, ofCell, Nat.reduceEqDiff, reduceIte, selA_hit hb, Option.map_some, show binOpA Try.prog .eql 3 (.pv (.int .i64 (goodM m).kind)) (.pv (.int .i64 12)) = some (.pv (.bool ((goodM m).kind == 12))) from eql_v] <;> rfl) (by decide) ?_
  refine ro_guard rfl (by simp only [evalF, upd, argsF, ofConst, ofCell, Nat.reduceEqDiff, reduceIte, List.getD_cons_zero, List.getD_cons_succ, List.getD_nil] <;> rfl) rfl ?_
  refine ro_por (b := (goodM m).kind == 9) (z := (goodM m).kind == 12) (by simp only [evalF, upd, argsF, ofConst, ofCell, Nat.reduceEqDiff, reduceIte, List.getD_cons_zero, List.getD_cons_succ, List.getD_nil] <;> rfl) (by simp only [evalF, upd, argsF, ofConst, ofCell, Nat.reduceEqDiff, reduceIte] <;> rfl) (by decide) ?_
  refine ro_guard rfl (by simp only [evalF, upd, argsF, ofConst, ofCell, Nat.reduceEqDiff, reduceIte, List.getD_cons_zero, List.getD_cons_succ, List.getD_nil] <;> rfl) rfl ?_
  refine ro_move (by simp only [evalF, upd, argsF, ofConst, ofCell, Nat.reduceEqDiff, reduceIte, List.getD_cons_zero, List.getD_cons_succ, List.getD_nil] <;> rfl) (by decide) ?_
  refine ro_gif (b := (goodM m).kind == 9 || (goodM m).kind == 12) (want := false) (v := .ptr nb5 1 (0 + 38)) rfl (by simp only [evalF, upd, argsF, ofConst, ofCell, Nat.reduceEqDiff, reduceIte, List.getD_cons_zero, List.getD_cons_succ, List.getD_nil] <;> rfl) rfl (fun hb => by simp only [primA, List.map_cons, List.map_nil, evalF, upd, argsF, ofConst, ofCell, Nat.reduceEqDiff, reduceIte, selA_hit hb, Option.map_some, fa30_7] <;> rfl) (by decide) ?_
  refine ro_gif (b := (goodM m).kind == 9 || (goodM m).kind == 12) (want := false) (v := .pv (.int .i64 0)) rfl (by simp only [evalF, upd, argsF, ofConst, ofCell, Nat.reduceEqDiff, reduceIte, List.getD_cons_zero, List.getD_cons_succ, List.getD_nil] <;> rfl) rfl (fun hb => by simp only [primA, List.map_cons, List.map_nil, evalF, upd, argsF, ofConst, ofCell, Nat.reduceEqDiff, reduceIte, selA_hit hb, Option.map_some, ldN 38 (mc38 hkx) (x8 (false_of hb))] <;> rfl) (by decide) ?_
  refine ro_gif (b := (goodM m).kind == 9 || (goodM m).kind == 12) (want := false) (v := .pv (.bool true)) rfl (by simp only [evalF, upd, argsF, ofConst, ofCell, Nat.reduceEqDiff, reduceIte, List.getD_cons_zero, List.getD_cons_succ, List.getD_nil] <;> rfl) rfl (fun hb => by simp only [primA, List.map_cons, List.map_nil, evalF, upd, argsF, ofConst, ofCell, Nat.reduceEqDiff, reduceIte, selA_hit hb, Option.map_some, show binOpA Try.prog .eql 3 (.pv (.int .i64 0)) (.pv (.int .i64 0)) = some (.pv (.bool true)) from eql_t rfl] <;> rfl) (by decide) ?_
  refine ro_guard rfl (by simp only [evalF, upd, argsF, ofConst, ofCell, Nat.reduceEqDiff, reduceIte, List.getD_cons_zero, List.getD_cons_succ, List.getD_nil] <;> rfl) rfl ?_
  refine ro_port (b := (goodM m).kind == 9 || (goodM m).kind == 12) (by simp only [evalF, upd, argsF, ofConst, ofCell, Nat.reduceEqDiff, reduceIte, List.getD_cons_zero, List.getD_cons_succ, List.getD_nil] <;> rfl) (by simp only [evalF, upd, argsF, ofConst, ofCell, Nat.reduceEqDiff, reduceIte] <;> rfl) (by decide) ?_
  refine ro_pick (by simp only [evalF, upd, argsF, ofConst, ofCell, Nat.reduceEqDiff, reduceIte, List.getD_cons_zero, List.getD_cons_succ, List.getD_nil] <;> rfl) (by simp only [evalF, upd, argsF, ofConst, ofCell, Nat.reduceEqDiff, reduceIte, List.getD_cons_zero, List.getD_cons_succ, List.getD_nil] <;> rfl) (by simp only [evalF, upd, argsF, ofConst, ofCell, Nat.reduceEqDiff, reduceIte, List.getD_cons_zero, List.getD_cons_succ, List.getD_nil] <;> rfl) (by decide) ?_
  refine ro_move (by simp only [evalF, upd, argsF, ofConst, ofCell, Nat.reduceEqDiff, reduceIte, List.getD_cons_zero, List.getD_cons_succ, List.getD_nil] <;> rfl) (by decide) ?_
  refine ro_guard rfl (by simp only [evalF, upd, argsF, ofConst, ofCell, Nat.reduceEqDiff, reduceIte, List.getD_cons_zero, List.getD_cons_succ, List.getD_nil] <;> rfl) rfl ?_
  refine ro_move (by simp only [evalF, upd, argsF, ofConst, ofCell, Nat.reduceEqDiff, reduceIte, List.getD_cons_zero, List.getD_cons_succ, List.getD_nil] <;> rfl) (by decide) ?_
  refine ro_guard rfl (by simp only [evalF, upd, argsF, ofConst, ofCell, Nat.reduceEqDiff, reduceIte, List.getD_cons_zero, List.getD_cons_succ, List.getD_nil] <;> rfl) rfl ?_
  refine ro_bin (by simp only [evalF, upd, argsF, ofConst, ofCell, Nat.reduceEqDiff, reduceIte, List.getD_cons_zero, List.getD_cons_succ, List.getD_nil] <;> rfl) (by simp only [evalF, upd, argsF, ofConst, ofCell, Nat.reduceEqDiff, reduceIte, List.getD_cons_zero, List.getD_cons_succ, List.getD_nil] <;> rfl) (by exact (show binOpA Try.prog .eql 3 (.pv (.int .i64 (goodM m).kind)) (.pv (.int .i64 4)) = some (.pv (.bool ((goodM m).kind == 4))) from eql_v)) (by decide) ?_
  refine ro_guard rfl (by simp only [evalF, upd, argsF, ofConst, ofCell, Nat.reduceEqDiff, reduceIte, List.getD_cons_zero, List.getD_cons_succ, List.getD_nil] <;> rfl) rfl ?_
  refine ro_move (by simp only [evalF, upd, argsF, ofConst, ofCell, Nat.reduceEqDiff, reduceIte, List.getD_cons_zero, List.getD_cons_succ, List.getD_nil] <;> rfl) (by decide) ?_
  refine ro_gif (b := (goodM m).kind == 4) (want := false) (v := .pv (.int .i64 (goodM m).kind)) rfl (by simp only [evalF, upd, argsF, ofConst, ofCell, Nat.reduceEqDiff, reduceIte, List.getD_cons_zero, List.getD_cons_succ, List.getD_nil] <;> rfl) rfl (fun hb => by simp only [primA, List.map_cons, List.map_nil, evalF, upd, argsF, ofConst, ofCell, Nat.reduceEqDiff, reduceIte, selA_hit hb, Option.map_some] <;> rfl) (by decide) ?_
  refine ro_gif (b := (goodM m).kind == 4) (want := false) (v := .pv (.bool ((goodM m).kind == 8))) rfl (by simp only [evalF, upd, argsF, ofConst, ofCell, Nat.reduceEqDiff, reduceIte, List.getD_cons_zero, List.getD_cons_succ, List.getD_nil] <;> rfl) rfl (fun hb => by simp only [primA, List.map_cons, List.map_nil, evalF, upd, argsF, ofConst, ofCell, Nat.reduceEqDiff, reduceIte, selA_hit hb, Option.map_some, show binOpA Try.prog .eql 3 (.pv (.int .i64 (goodM m).kind)) (.pv (.int .i64 8)) = some (.pv (.bool ((goodM m).kind == 8))) from eql_v] <;> rfl) (by decide) ?_
  refine ro_guard rfl (by simp only [evalF, upd, argsF, ofConst, ofCell, Nat.reduceEqDiff, reduceIte, List.getD_cons_zero, List.getD_cons_succ, List.getD_nil] <;> rfl) rfl ?_
  refine ro_por (b := (goodM m).kind == 4) (z := (goodM m).kind == 8) (by simp only [evalF, upd, argsF, ofConst, ofCell, Nat.reduceEqDiff, reduceIte, List.getD_cons_zero, List.getD_cons_succ, List.getD_nil] <;> rfl) (by simp only [evalF, upd, argsF, ofConst, ofCell, Nat.reduceEqDiff, reduceIte] <;> rfl) (by decide) ?_
  refine ro_guard rfl (by simp only [evalF, upd, argsF, ofConst, ofCell, Nat.reduceEqDiff, reduceIte, List.getD_cons_zero, List.getD_cons_succ, List.getD_nil] <;> rfl) rfl ?_
  refine ro_move (by simp only [evalF, upd, argsF, ofConst, ofCell, Nat.reduceEqDiff, reduceIte, List.getD_cons_zero, List.getD_cons_succ, List.getD_nil] <;> rfl) (by decide) ?_
  refine ro_gif (b := (goodM m).kind == 4 || (goodM m).kind == 8) (want := false) (v := .ptr nb5 1 (0 + 39)) rfl (by simp only [evalF, upd, argsF, ofConst, ofCell, Nat.reduceEqDiff, reduceIte, List.getD_cons_zero, List.getD_cons_succ, List.getD_nil] <;> rfl) rfl (fun hb => by simp only [primA, List.map_cons, List.map_nil, evalF, upd, argsF, ofConst, ofCell, Nat.reduceEqDiff, reduceIte, selA_hit hb, Option.map_some, fa30_8] <;> rfl) (by decide) ?_
  refine ro_gif (b := (goodM m).kind == 4 || (goodM m).kind == 8) (want := false) (v := .pv (.int .i64 0)) rfl (by simp only [evalF, upd, argsF, ofConst, ofCell, Nat.reduceEqDiff, reduceIte, List.getD_cons_zero, List.getD_cons_succ, List.getD_nil] <;> rfl) rfl (fun hb => by simp only [primA, List.map_cons, List.map_nil, evalF, upd, argsF, ofConst, ofCell, Nat.reduceEqDiff, reduceIte, selA_hit hb, Option.map_some, ldE (x9 (false_of hb))] <;> rfl) (by decide) ?_
  refine ro_gif (b := (goodM m).kind == 4 || (goodM m).kind == 8) (want := false) (v := .pv (.bool true)) rfl (by simp only [evalF, upd, argsF, ofConst, ofCell, Nat.reduceEqDiff, reduceIte, List.getD_cons_zero, List.getD_cons_succ, List.getD_nil] <;> rfl) rfl (fun hb => by simp only [primA, List.map_cons, List.map_nil, evalF, upd, argsF, ofConst, ofCell, Nat.reduceEqDiff, reduceIte, selA_hit hb, Option.map_some, show binOpA Try.prog .eql 28 (.pv (.int .i64 0)) (.pv (.int .i64 0)) = some (.pv (.bool true)) from eql_t rfl] <;> rfl) (by decide) ?_
  refine ro_guard rfl (by simp only [evalF, upd, argsF, ofConst, ofCell, Nat.reduceEqDiff, reduceIte, List.getD_cons_zero, List.getD_cons_succ, List.getD_nil] <;> rfl) rfl ?_
  refine ro_port (b := (goodM m).kind == 4 || (goodM m).kind == 8) (by simp only [evalF, upd, argsF, ofConst, ofCell, Nat.reduceEqDiff, reduceIte, List.getD_cons_zero, List.getD_cons_succ, List.getD_nil] <;> rfl) (by simp only [evalF, upd, argsF, ofConst, ofCell, Nat.reduceEqDiff, reduceIte] <;> rfl) (by decide) ?_
  refine ro_pick (by simp only [evalF, upd, argsF, ofConst, ofCell, Nat.reduceEqDiff, reduceIte, List.getD_cons_zero, List.getD_cons_succ, List.getD_nil] <;> rfl) (by simp only [evalF, upd, argsF, ofConst, ofCell, Nat.reduceEqDiff, reduceIte, List.getD_cons_zero, List.getD_cons_succ, List.getD_nil] <;> rfl) (by simp only [evalF, upd, argsF, ofConst, ofCell, Nat.reduceEqDiff, reduceIte, List.getD_cons_zero, List.getD_cons_succ, List.getD_nil] <;> rfl) (by decide) ?_
  refine ro_assign (by simp only [evalF, upd, argsF, ofConst, ofCell, Nat.reduceEqDiff, reduceIte, List.getD_cons_zero, List.getD_cons_succ, List.getD_nil] <;> rfl) (by decide) ?_
  refine ro_nil ?_
  try simp only
  refine ex_ret ?_
  exact ⟨_, rfl, by simp [upd]⟩
end Go.Proofs.Ytlinbbjobjnipaa
