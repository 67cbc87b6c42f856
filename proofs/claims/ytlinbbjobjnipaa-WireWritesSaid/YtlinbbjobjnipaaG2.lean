/- Messages held against one another, field by field. Printed by gen_same.py. -/
import Derived.Test.YtlinbbjobjnipaaG1
set_option linter.unusedVariables false
set_option linter.unusedSimpArgs false
set_option linter.unusedSectionVars false
namespace Go.Proofs.Ytlinbbjobjnipaa
open Go AI

set_option maxHeartbeats 4000000
set_option maxRecDepth 10000

def sameF (a b : M) (f : Nat) : Bool :=
  match f with
  | 0 => a.pred == b.pred
  | 1 => a.node == b.node
  | 2 => a.list == b.list
  | 3 => a.done == b.done
  | 4 => a.err == b.err
  | 5 => a.key == b.key
  | 6 => a.data == b.data
  | _ => a.lease == b.lease

/-- Are two messages the same? -/
def sameM (a b : M) : Bool := a.kind == b.kind && ((rowOf a.kind).getD []).all fun f => sameF a b f

theorem ag26' : isAggA Try.prog 26 = some true := by kernel_rfl
theorem sz26' : szA Try.prog 26 = some 32 := by kernel_rfl
theorem flat26 : flatArr Try.prog 26 = some (32, false) := by kernel_rfl

theorem eqCells_bytes : ∀ {a b : List Int}, a.length = b.length → eqCells false ((u8s a).map .pv) ((u8s b).map .pv) = some (a == b)
  | [], [], _ => rfl
  | [], _ :: _, h => by simp at h
  | _ :: _, [], h => by simp at h
  | x :: a, y :: b, h => by
    have ih := eqCells_bytes (a := a) (b := b) (by simpa using h)
    simp only [u8s, List.map_cons] at ih ⊢
    rw [eqCells, if_pos ⟨rfl, rfl⟩, ih]
    rfl

/-- Two keys. -/
theorem eq_keys {a b : List Int} (ha : a.length = 32) (hb : b.length = 32) : binOpA Try.prog .eql 26 (.agg ((u8s a).map .pv)) (.agg ((u8s b).map .pv)) = some (.pv (.bool (a == b))) := by
  have : eqA Try.prog 26 (.agg ((u8s a).map .pv)) (.agg ((u8s b).map .pv)) = some (a == b) := by
    simp only [eqA, flat26]
    rw [if_pos ⟨by simp [u8s, ha], by simp [u8s, hb]⟩]
    exact eqCells_bytes (by omega)
  simp only [binOpA, this, Option.map_some]

theorem neq_keys {a b : List Int} (ha : a.length = 32) (hb : b.length = 32) : binOpA Try.prog .neq 26 (.agg ((u8s a).map .pv)) (.agg ((u8s b).map .pv)) = some (.pv (.bool (!(a == b)))) := by
  have : eqA Try.prog 26 (.agg ((u8s a).map .pv)) (.agg ((u8s b).map .pv)) = some (a == b) := by
    simp only [eqA, flat26]
    rw [if_pos ⟨by simp [u8s, ha], by simp [u8s, hb]⟩]
    exact eqCells_bytes (by omega)
  simp only [binOpA, this, Option.map_some]

theorem load_key {hp : Hp} {id : Nat} {m : M} {L D : AV} (hk : m.key.length = 32) (hl : AI.look hp id 1 = some (mcells m L D)) : loadA Try.prog hp 26 (.ptr id 1 (0 + 5)) = some (.agg ((u8s m.key).map .pv)) := by
  rw [loadN ag26' sz26' hl (by rw [mc_length hk]; omega), Nat.zero_add, mcKey hk]

theorem eq4_v {a b : Bool} : binOpA Try.prog .eql 4 (.pv (.bool a)) (.pv (.bool b)) = some (.pv (.bool (a == b))) := by
  cases a <;> cases b <;> kernel_rfl

theorem neq4_v {a b : Bool} : binOpA Try.prog .neq 4 (.pv (.bool a)) (.pv (.bool b)) = some (.pv (.bool (!(a == b)))) := by
  cases a <;> cases b <;> kernel_rfl

theorem load_whole {hp : Hp} {id : Nat} {m : M} {L D : AV} (hk : m.key.length = 32) (hl : AI.look hp id 1 = some (mcells m L D)) : loadA Try.prog hp 30 (.ptr id 1 0) = some (.agg (mcells m L D)) := by
  rw [loadN ag30 sz30 hl (by rw [mc_length hk]; omega), List.drop_zero, List.take_of_length_le (by rw [mc_length hk]; omega)]

theorem pl1 {hp : Hp} {nb : Nat} {v : AV} {l : List PV} (r : Row hp nb v l) (h : plainV v = true) : ownOf v = none := by
  cases r with
  | own => simp [plainV] at h
  | _ => rfl

theorem still48 (d : Nat) {hp : Hp} {nb : Nat} {x y : AV} {a b : List Int} (hx : Row hp nb x (ints a)) (hy : Row hp nb y (ints b)) (hl : a.length < 9999) :
    (([x, y] : List AV).all plainV = false → CA (callA Try.prog facts plains 10000 (d + 1)) 48 [x, y] hp nb (BoolOk (a == b) hp nb)) ∧ (([x, y] : List AV).all plainV = true → CA (callA Try.prog facts plains 10000 (d + 1)) 48 [x, y] (AI.hf []) 0 (BoolOk (a == b) (AI.hf []) 0)) :=
  ⟨fun _ => still_bool (equal48 d hx hy hl), fun h => by
    simp only [List.all_cons, List.all_nil, Bool.and_true, Bool.and_eq_true] at h
    exact still_bool (equal48 d (row_any hx (pl1 hx h.1)) (row_any hy (pl1 hy h.2)) hl)⟩

theorem still49 (d : Nat) {hp : Hp} {nb : Nat} {x y : AV} {a b : List Int} (hx : Row hp nb x (u8s a)) (hy : Row hp nb y (u8s b)) (hl : a.length < 9999) :
    (([x, y] : List AV).all plainV = false → CA (callA Try.prog facts plains 10000 (d + 1)) 49 [x, y] hp nb (BoolOk (a == b) hp nb)) ∧ (([x, y] : List AV).all plainV = true → CA (callA Try.prog facts plains 10000 (d + 1)) 49 [x, y] (AI.hf []) 0 (BoolOk (a == b) (AI.hf []) 0)) :=
  ⟨fun _ => still_bool (equal49 d hx hy hl), fun h => by
    simp only [List.all_cons, List.all_nil, Bool.and_true, Bool.and_eq_true] at h
    exact still_bool (equal49 d (row_any hx (pl1 hx h.1)) (row_any hy (pl1 hy h.2)) hl)⟩

theorem still35 (d : Nat) {hp : Hp} {nb : Nat} {x y : AV} {a b : List Int} (hx : Row hp nb x (ints a)) (hy : Row hp nb y (ints b)) (hl : a.length < 9999) :
    (([x, y] : List AV).all plainV = false → CA (callA Try.prog facts plains 10000 (d + 1)) 35 [x, y] hp nb (BoolOk (a == b) hp nb)) ∧ (([x, y] : List AV).all plainV = true → CA (callA Try.prog facts plains 10000 (d + 1)) 35 [x, y] (AI.hf []) 0 (BoolOk (a == b) (AI.hf []) 0)) :=
  ⟨fun _ => still_bool (ints35 d hx hy hl), fun h => by
    simp only [List.all_cons, List.all_nil, Bool.and_true, Bool.and_eq_true] at h
    exact still_bool (ints35 d (row_any hx (pl1 hx h.1)) (row_any hy (pl1 hy h.2)) hl)⟩

/-- Two messages that lie in memory, or are plain. -/
structure Two (hp : Hp) (nb : Nat) (a b : M) (L D L2 D2 : AV) : Prop where
  ka : a.key.length = 32
  kb : b.key.length = 32
  l1 : Row hp nb L (ints a.list)
  d1 : Row hp nb D (u8s a.data)
  l2 : Row hp nb L2 (ints b.list)
  d2 : Row hp nb D2 (u8s b.data)
  al : a.list.length < 9999
  ad : a.data.length < 9999
  ab : ∀ x ∈ a.data, 0 ≤ x ∧ x ≤ 255
  bb : ∀ x ∈ b.data, 0 ≤ x ∧ x ≤ 255

theorem Two.keep {hp hp' : Hp} {nb nb' : Nat} {a b : M} {L D L2 D2 : AV} (t : Two hp nb a b L D L2 D2) (h : After hp nb (.pv .nilSlice) hp' nb') : Two hp' nb' a b L D L2 D2 :=
  have k : ∀ id, id < nb → hp' id = hp id := fun id hid => h.2.1 id hid (by simp [ownOf])
  ⟨t.ka, t.kb, t.l1.keep h.1 (fun id hid _ => k id hid), t.d1.keep h.1 (fun id hid _ => k id hid), t.l2.keep h.1 (fun id hid _ => k id hid), t.d2.keep h.1 (fun id hid _ => k id hid), t.al, t.ad, t.ab, t.bb⟩

theorem plain_cells {m : M} {L D : AV} (h : plainV (.agg (mcells m L D)) = true) : (toPV L).isSome = true ∧ (toPV D).isSome = true := by
  simp only [plainV, mcells, List.all_append, List.all_cons, List.all_nil, Bool.and_eq_true] at h
  exact ⟨h.1.2.2.2.1, h.2.2.1⟩

theorem Two.plain {hp : Hp} {nb : Nat} {a b : M} {L D L2 D2 : AV} (t : Two hp nb a b L D L2 D2) (h1 : plainV (.agg (mcells a L D)) = true) (h2 : plainV (.agg (mcells b L2 D2)) = true) (hp' : Hp) (nb' : Nat) : Two hp' nb' a b L D L2 D2 := by
  obtain ⟨e1, e2⟩ := plain_cells h1
  obtain ⟨e3, e4⟩ := plain_cells h2
  exact ⟨t.ka, t.kb, row_any t.l1 ((row_plain t.l1).1 e1), row_any t.d1 ((row_plain t.d1).1 e2), row_any t.l2 ((row_plain t.l2).1 e3), row_any t.d2 ((row_plain t.d2).1 e4), t.al, t.ad, t.ab, t.bb⟩

/-- Two boxes. -/
theorem two_boxes {hp : Hp} {nb : Nat} {a b : M} {L D L2 D2 : AV} (t : Two hp nb a b L D L2 D2) :
    After hp nb (.pv .nilSlice) (setHp (setHp hp nb (.cells 1 (mcells a L D))) (nb + 1) (.cells 1 (mcells b L2 D2))) (nb + 1 + 1) ∧
    AI.look (setHp (setHp hp nb (.cells 1 (mcells a L D))) (nb + 1) (.cells 1 (mcells b L2 D2))) nb 1 = some (mcells a L D) ∧
    AI.look (setHp (setHp hp nb (.cells 1 (mcells a L D))) (nb + 1) (.cells 1 (mcells b L2 D2))) (nb + 1) 1 = some (mcells b L2 D2) :=
  ⟨after_nil (after_new hp nb _ _ (ok_cells (row_ok' t.l1) (row_ok' t.d1))) (after_new _ (nb + 1) (.pv .nilSlice) _ (ok_cells (okC_mono (Nat.le_succ _) (row_ok' t.l2)) (okC_mono (Nat.le_succ _) (row_ok' t.d2)))) (fun id h => by simp [ownOf] at h),
    by rw [look_ne _ _ _ (by omega)]; exact look_same _ _ _ _, look_same _ _ _ _⟩


theorem same38_0 (d : Nat) {hp : Hp} {nb : Nat} {a b : M} {L D L2 D2 : AV} (t : Two hp nb a b L D L2 D2) :
    CA (callA Try.prog facts plains 10000 (d + 2)) 38 [.agg (mcells a L D), .agg (mcells b L2 D2), .pv (.int .i64 0)] hp nb (BoolOk (a.pred == b.pred) hp nb) := by
  refine ca_body (fn := Try.f38) (c := bodyOf Try.f38) Try.func38 rfl (by show 3 ≤ 62; omega) ?_
  show EX _ _ _ _ _ 62 _ _ _ _ _
  unfold bodyOf Try.f38
  refine ex_seq (ex_region ?_)
  refine ro_box (v := .agg (mcells a L D)) (by simp [evalF, argsF]) (mc_all (row_cell t.l1).1 (row_cell t.d1).1) (by decide) ?_
  refine ro_box (v := .agg (mcells b L2 D2)) (by simp [evalF, argsF, upd]) (mc_all (row_cell t.l2).1 (row_cell t.d2).1) (by decide) ?_
  refine ro_assign (by simp only [evalF, upd, arg0, argS, ofConst, ofCell, Nat.reduceEqDiff, reduceIte] <;> rfl) (by decide) ?_
  refine ro_nil ?_
  try simp only
  obtain ⟨ha, h1, h2⟩ := two_boxes t
  have t2 := t.keep ha
  show EX _ _ _ _ _ 62 _ _ (setHp (setHp hp nb (.cells 1 (mcells a L D))) (nb + 1) (.cells 1 (mcells b L2 D2))) _ _
  generalize setHp (setHp hp nb (.cells 1 (mcells a L D))) (nb + 1) (.cells 1 (mcells b L2 D2)) = hp2 at ha h1 h2 t2 ⊢
  have ka := t.ka
  have kb := t.kb
  refine ex_seq (ex_seq (ex_region ?_))
  refine ro_move (by simp only [evalF, upd, arg0, argS, ofConst, ofCell, Nat.reduceEqDiff, reduceIte] <;> rfl) (by decide) ?_
  refine ro_nil ?_
  try simp only
  refine ex_block ?_
  refine ex_seq (ex_region ?_)
  refine ro_bin (by simp only [evalF, upd, arg0, argS, ofConst, ofCell, Nat.reduceEqDiff, reduceIte] <;> rfl) (by simp only [evalF, upd, arg0, argS, ofConst, ofCell, Nat.reduceEqDiff, reduceIte] <;> rfl) (by exact (eql_t rfl)) (by decide) ?_
  refine ro_assign (by simp only [evalF, upd, arg0, argS, ofConst, ofCell, Nat.reduceEqDiff, reduceIte] <;> rfl) (by decide) ?_
  refine ro_nil ?_
  try simp only
  refine ex_cond (t := true) (by simp only [evalF, upd, arg0, argS, ofConst, ofCell, Nat.reduceEqDiff, reduceIte] <;> rfl) (fun _ => ?_) (fun h => by simp at h)
  refine ex_seq (ex_region ?_)
  refine ro_fieldAddr (by simp only [evalF, upd, arg0, argS, ofConst, ofCell, Nat.reduceEqDiff, reduceIte] <;> rfl) (by exact (fa30_2 _ _ _)) (by decide) ?_
  refine ro_load (by simp only [evalF, upd, arg0, argS, ofConst, ofCell, Nat.reduceEqDiff, reduceIte] <;> rfl) (by exact (load1 ag3 h1 mc2)) (by decide) ?_
  refine ro_fieldAddr (by simp only [evalF, upd, arg0, argS, ofConst, ofCell, Nat.reduceEqDiff, reduceIte] <;> rfl) (by exact (fa30_2 _ _ _)) (by decide) ?_
  refine ro_load (by simp only [evalF, upd, arg0, argS, ofConst, ofCell, Nat.reduceEqDiff, reduceIte] <;> rfl) (by exact (load1 ag3 h2 mc2)) (by decide) ?_
  refine ro_bin (by simp only [evalF, upd, arg0, argS, ofConst, ofCell, Nat.reduceEqDiff, reduceIte] <;> rfl) (by simp only [evalF, upd, arg0, argS, ofConst, ofCell, Nat.reduceEqDiff, reduceIte] <;> rfl) (by exact (eql_v)) (by decide) ?_
  refine ro_assign (by simp only [evalF, upd, arg0, argS, ofConst, ofCell, Nat.reduceEqDiff, reduceIte] <;> rfl) (by decide) ?_
  refine ro_nil ?_
  try simp only
  refine ex_ret ?_
  exact ⟨_, rfl, by simp [upd], ha⟩

theorem same38_1 (d : Nat) {hp : Hp} {nb : Nat} {a b : M} {L D L2 D2 : AV} (t : Two hp nb a b L D L2 D2) :
    CA (callA Try.prog facts plains 10000 (d + 2)) 38 [.agg (mcells a L D), .agg (mcells b L2 D2), .pv (.int .i64 1)] hp nb (BoolOk (a.node == b.node) hp nb) := by
  refine ca_body (fn := Try.f38) (c := bodyOf Try.f38) Try.func38 rfl (by show 3 ≤ 62; omega) ?_
  show EX _ _ _ _ _ 62 _ _ _ _ _
  unfold bodyOf Try.f38
  refine ex_seq (ex_region ?_)
  refine ro_box (v := .agg (mcells a L D)) (by simp [evalF, argsF]) (mc_all (row_cell t.l1).1 (row_cell t.d1).1) (by decide) ?_
  refine ro_box (v := .agg (mcells b L2 D2)) (by simp [evalF, argsF, upd]) (mc_all (row_cell t.l2).1 (row_cell t.d2).1) (by decide) ?_
  refine ro_assign (by simp only [evalF, upd, arg0, argS, ofConst, ofCell, Nat.reduceEqDiff, reduceIte] <;> rfl) (by decide) ?_
  refine ro_nil ?_
  try simp only
  obtain ⟨ha, h1, h2⟩ := two_boxes t
  have t2 := t.keep ha
  show EX _ _ _ _ _ 62 _ _ (setHp (setHp hp nb (.cells 1 (mcells a L D))) (nb + 1) (.cells 1 (mcells b L2 D2))) _ _
  generalize setHp (setHp hp nb (.cells 1 (mcells a L D))) (nb + 1) (.cells 1 (mcells b L2 D2)) = hp2 at ha h1 h2 t2 ⊢
  have ka := t.ka
  have kb := t.kb
  refine ex_seq (ex_seq (ex_region ?_))
  refine ro_move (by simp only [evalF, upd, arg0, argS, ofConst, ofCell, Nat.reduceEqDiff, reduceIte] <;> rfl) (by decide) ?_
  refine ro_nil ?_
  try simp only
  refine ex_block ?_
  refine ex_seq (ex_region ?_)
  refine ro_bin (by simp only [evalF, upd, arg0, argS, ofConst, ofCell, Nat.reduceEqDiff, reduceIte] <;> rfl) (by simp only [evalF, upd, arg0, argS, ofConst, ofCell, Nat.reduceEqDiff, reduceIte] <;> rfl) (by exact (eql_f (by decide))) (by decide) ?_
  refine ro_assign (by simp only [evalF, upd, arg0, argS, ofConst, ofCell, Nat.reduceEqDiff, reduceIte] <;> rfl) (by decide) ?_
  refine ro_nil ?_
  try simp only
  refine ex_cond (t := false) (by simp only [evalF, upd, arg0, argS, ofConst, ofCell, Nat.reduceEqDiff, reduceIte] <;> rfl) (fun h => by simp at h) (fun _ => ?_)
  refine ex_seq (ex_region ?_)
  refine ro_bin (by simp only [evalF, upd, arg0, argS, ofConst, ofCell, Nat.reduceEqDiff, reduceIte] <;> rfl) (by simp only [evalF, upd, arg0, argS, ofConst, ofCell, Nat.reduceEqDiff, reduceIte] <;> rfl) (by exact (eql_t rfl)) (by decide) ?_
  refine ro_assign (by simp only [evalF, upd, arg0, argS, ofConst, ofCell, Nat.reduceEqDiff, reduceIte] <;> rfl) (by decide) ?_
  refine ro_nil ?_
  try simp only
  refine ex_cond (t := true) (by simp only [evalF, upd, arg0, argS, ofConst, ofCell, Nat.reduceEqDiff, reduceIte] <;> rfl) (fun _ => ?_) (fun h => by simp at h)
  refine ex_seq (ex_region ?_)
  refine ro_fieldAddr (by simp only [evalF, upd, arg0, argS, ofConst, ofCell, Nat.reduceEqDiff, reduceIte] <;> rfl) (by exact (fa30_1 _ _ _)) (by decide) ?_
  refine ro_load (by simp only [evalF, upd, arg0, argS, ofConst, ofCell, Nat.reduceEqDiff, reduceIte] <;> rfl) (by exact (load1 ag3 h1 mc1)) (by decide) ?_
  refine ro_fieldAddr (by simp only [evalF, upd, arg0, argS, ofConst, ofCell, Nat.reduceEqDiff, reduceIte] <;> rfl) (by exact (fa30_1 _ _ _)) (by decide) ?_
  refine ro_load (by simp only [evalF, upd, arg0, argS, ofConst, ofCell, Nat.reduceEqDiff, reduceIte] <;> rfl) (by exact (load1 ag3 h2 mc1)) (by decide) ?_
  refine ro_bin (by simp only [evalF, upd, arg0, argS, ofConst, ofCell, Nat.reduceEqDiff, reduceIte] <;> rfl) (by simp only [evalF, upd, arg0, argS, ofConst, ofCell, Nat.reduceEqDiff, reduceIte] <;> rfl) (by exact (eql_v)) (by decide) ?_
  refine ro_assign (by simp only [evalF, upd, arg0, argS, ofConst, ofCell, Nat.reduceEqDiff, reduceIte] <;> rfl) (by decide) ?_
  refine ro_nil ?_
  try simp only
  refine ex_ret ?_
  exact ⟨_, rfl, by simp [upd], ha⟩

theorem same38_2 (d : Nat) {hp : Hp} {nb : Nat} {a b : M} {L D L2 D2 : AV} (t : Two hp nb a b L D L2 D2) :
    CA (callA Try.prog facts plains 10000 (d + 2)) 38 [.agg (mcells a L D), .agg (mcells b L2 D2), .pv (.int .i64 2)] hp nb (BoolOk (a.list == b.list) hp nb) := by
  refine ca_body (fn := Try.f38) (c := bodyOf Try.f38) Try.func38 rfl (by show 3 ≤ 62; omega) ?_
  show EX _ _ _ _ _ 62 _ _ _ _ _
  unfold bodyOf Try.f38
  refine ex_seq (ex_region ?_)
  refine ro_box (v := .agg (mcells a L D)) (by simp [evalF, argsF]) (mc_all (row_cell t.l1).1 (row_cell t.d1).1) (by decide) ?_
  refine ro_box (v := .agg (mcells b L2 D2)) (by simp [evalF, argsF, upd]) (mc_all (row_cell t.l2).1 (row_cell t.d2).1) (by decide) ?_
  refine ro_assign (by simp only [evalF, upd, arg0, argS, ofConst, ofCell, Nat.reduceEqDiff, reduceIte] <;> rfl) (by decide) ?_
  refine ro_nil ?_
  try simp only
  obtain ⟨ha, h1, h2⟩ := two_boxes t
  have t2 := t.keep ha
  show EX _ _ _ _ _ 62 _ _ (setHp (setHp hp nb (.cells 1 (mcells a L D))) (nb + 1) (.cells 1 (mcells b L2 D2))) _ _
  generalize setHp (setHp hp nb (.cells 1 (mcells a L D))) (nb + 1) (.cells 1 (mcells b L2 D2)) = hp2 at ha h1 h2 t2 ⊢
  have ka := t.ka
  have kb := t.kb
  refine ex_seq (ex_seq (ex_region ?_))
  refine ro_move (by simp only [evalF, upd, arg0, argS, ofConst, ofCell, Nat.reduceEqDiff, reduceIte] <;> rfl) (by decide) ?_
  refine ro_nil ?_
  try simp only
  refine ex_block ?_
  refine ex_seq (ex_region ?_)
  refine ro_bin (by simp only [evalF, upd, arg0, argS, ofConst, ofCell, Nat.reduceEqDiff, reduceIte] <;> rfl) (by simp only [evalF, upd, arg0, argS, ofConst, ofCell, Nat.reduceEqDiff, reduceIte] <;> rfl) (by exact (eql_f (by decide))) (by decide) ?_
  refine ro_assign (by simp only [evalF, upd, arg0, argS, ofConst, ofCell, Nat.reduceEqDiff, reduceIte] <;> rfl) (by decide) ?_
  refine ro_nil ?_
  try simp only
  refine ex_cond (t := false) (by simp only [evalF, upd, arg0, argS, ofConst, ofCell, Nat.reduceEqDiff, reduceIte] <;> rfl) (fun h => by simp at h) (fun _ => ?_)
  refine ex_seq (ex_region ?_)
  refine ro_bin (by simp only [evalF, upd, arg0, argS, ofConst, ofCell, Nat.reduceEqDiff, reduceIte] <;> rfl) (by simp only [evalF, upd, arg0, argS, ofConst, ofCell, Nat.reduceEqDiff, reduceIte] <;> rfl) (by exact (eql_f (by decide))) (by decide) ?_
  refine ro_assign (by simp only [evalF, upd, arg0, argS, ofConst, ofCell, Nat.reduceEqDiff, reduceIte] <;> rfl) (by decide) ?_
  refine ro_nil ?_
  try simp only
  refine ex_cond (t := false) (by simp only [evalF, upd, arg0, argS, ofConst, ofCell, Nat.reduceEqDiff, reduceIte] <;> rfl) (fun h => by simp at h) (fun _ => ?_)
  refine ex_seq (ex_region ?_)
  refine ro_bin (by simp only [evalF, upd, arg0, argS, ofConst, ofCell, Nat.reduceEqDiff, reduceIte] <;> rfl) (by simp only [evalF, upd, arg0, argS, ofConst, ofCell, Nat.reduceEqDiff, reduceIte] <;> rfl) (by exact (eql_t rfl)) (by decide) ?_
  refine ro_assign (by simp only [evalF, upd, arg0, argS, ofConst, ofCell, Nat.reduceEqDiff, reduceIte] <;> rfl) (by decide) ?_
  refine ro_nil ?_
  try simp only
  refine ex_cond (t := true) (by simp only [evalF, upd, arg0, argS, ofConst, ofCell, Nat.reduceEqDiff, reduceIte] <;> rfl) (fun _ => ?_) (fun h => by simp at h)
  refine ex_seq (ex_region ?_)
  refine ro_fieldAddr (by simp only [evalF, upd, arg0, argS, ofConst, ofCell, Nat.reduceEqDiff, reduceIte] <;> rfl) (by exact (fa30_3 _ _ _)) (by decide) ?_
  refine ro_load (by simp only [evalF, upd, arg0, argS, ofConst, ofCell, Nat.reduceEqDiff, reduceIte] <;> rfl) (by exact (load1 ag24 h1 mc3)) (by decide) ?_
  refine ro_fieldAddr (by simp only [evalF, upd, arg0, argS, ofConst, ofCell, Nat.reduceEqDiff, reduceIte] <;> rfl) (by exact (fa30_3 _ _ _)) (by decide) ?_
  refine ro_load (by simp only [evalF, upd, arg0, argS, ofConst, ofCell, Nat.reduceEqDiff, reduceIte] <;> rfl) (by exact (load1 ag24 h2 mc3)) (by decide) ?_
  refine ro_bool (f := 48) (xs := [L, L2]) (r := a.list == b.list) (by simp [calleeA, evalF, upd]) rfl (still48 d t2.l1 t2.l2 t.al).1 (still48 d t2.l1 t2.l2 t.al).2 (by decide) ?_
  intro hp3 nb3 ha3
  refine ro_assign (by simp only [evalF, upd, arg0, argS, ofConst, ofCell, Nat.reduceEqDiff, reduceIte] <;> rfl) (by decide) ?_
  refine ro_nil ?_
  try simp only
  refine ex_ret ?_
  exact ⟨_, rfl, by simp [upd], after_nil ha ha3 (fun id h => by simp [ownOf] at h)⟩

theorem same38_3 (d : Nat) {hp : Hp} {nb : Nat} {a b : M} {L D L2 D2 : AV} (t : Two hp nb a b L D L2 D2) :
    CA (callA Try.prog facts plains 10000 (d + 2)) 38 [.agg (mcells a L D), .agg (mcells b L2 D2), .pv (.int .i64 3)] hp nb (BoolOk (a.done == b.done) hp nb) := by
  refine ca_body (fn := Try.f38) (c := bodyOf Try.f38) Try.func38 rfl (by show 3 ≤ 62; omega) ?_
  show EX _ _ _ _ _ 62 _ _ _ _ _
  unfold bodyOf Try.f38
  refine ex_seq (ex_region ?_)
  refine ro_box (v := .agg (mcells a L D)) (by simp [evalF, argsF]) (mc_all (row_cell t.l1).1 (row_cell t.d1).1) (by decide) ?_
  refine ro_box (v := .agg (mcells b L2 D2)) (by simp [evalF, argsF, upd]) (mc_all (row_cell t.l2).1 (row_cell t.d2).1) (by decide) ?_
  refine ro_assign (by simp only [evalF, upd, arg0, argS, ofConst, ofCell, Nat.reduceEqDiff, reduceIte] <;> rfl) (by decide) ?_
  refine ro_nil ?_
  try simp only
  obtain ⟨ha, h1, h2⟩ := two_boxes t
  have t2 := t.keep ha
  show EX _ _ _ _ _ 62 _ _ (setHp (setHp hp nb (.cells 1 (mcells a L D))) (nb + 1) (.cells 1 (mcells b L2 D2))) _ _
  generalize setHp (setHp hp nb (.cells 1 (mcells a L D))) (nb + 1) (.cells 1 (mcells b L2 D2)) = hp2 at ha h1 h2 t2 ⊢
  have ka := t.ka
  have kb := t.kb
  refine ex_seq (ex_seq (ex_region ?_))
  refine ro_move (by simp only [evalF, upd, arg0, argS, ofConst, ofCell, Nat.reduceEqDiff, reduceIte] <;> rfl) (by decide) ?_
  refine ro_nil ?_
  try simp only
  refine ex_block ?_
  refine ex_seq (ex_region ?_)
  refine ro_bin (by simp only [evalF, upd, arg0, argS, ofConst, ofCell, Nat.reduceEqDiff, reduceIte] <;> rfl) (by simp only [evalF, upd, arg0, argS, ofConst, ofCell, Nat.reduceEqDiff, reduceIte] <;> rfl) (by exact (eql_f (by decide))) (by decide) ?_
  refine ro_assign (by simp only [evalF, upd, arg0, argS, ofConst, ofCell, Nat.reduceEqDiff, reduceIte] <;> rfl) (by decide) ?_
  refine ro_nil ?_
  try simp only
  refine ex_cond (t := false) (by simp only [evalF, upd, arg0, argS, ofConst, ofCell, Nat.reduceEqDiff, reduceIte] <;> rfl) (fun h => by simp at h) (fun _ => ?_)
  refine ex_seq (ex_region ?_)
  refine ro_bin (by simp only [evalF, upd, arg0, argS, ofConst, ofCell, Nat.reduceEqDiff, reduceIte] <;> rfl) (by simp only [evalF, upd, arg0, argS, ofConst, ofCell, Nat.reduceEqDiff, reduceIte] <;> rfl) (by exact (eql_f (by decide))) (by decide) ?_
  refine ro_assign (by simp only [evalF, upd, arg0, argS, ofConst, ofCell, Nat.reduceEqDiff, reduceIte] <;> rfl) (by decide) ?_
  refine ro_nil ?_
  try simp only
  refine ex_cond (t := false) (by simp only [evalF, upd, arg0, argS, ofConst, ofCell, Nat.reduceEqDiff, reduceIte] <;> rfl) (fun h => by simp at h) (fun _ => ?_)
  refine ex_seq (ex_region ?_)
  refine ro_bin (by simp only [evalF, upd, arg0, argS, ofConst, ofCell, Nat.reduceEqDiff, reduceIte] <;> rfl) (by simp only [evalF, upd, arg0, argS, ofConst, ofCell, Nat.reduceEqDiff, reduceIte] <;> rfl) (by exact (eql_f (by decide))) (by decide) ?_
  refine ro_assign (by simp only [evalF, upd, arg0, argS, ofConst, ofCell, Nat.reduceEqDiff, reduceIte] <;> rfl) (by decide) ?_
  refine ro_nil ?_
  try simp only
  refine ex_cond (t := false) (by simp only [evalF, upd, arg0, argS, ofConst, ofCell, Nat.reduceEqDiff, reduceIte] <;> rfl) (fun h => by simp at h) (fun _ => ?_)
  refine ex_seq (ex_region ?_)
  refine ro_bin (by simp only [evalF, upd, arg0, argS, ofConst, ofCell, Nat.reduceEqDiff, reduceIte] <;> rfl) (by simp only [evalF, upd, arg0, argS, ofConst, ofCell, Nat.reduceEqDiff, reduceIte] <;> rfl) (by exact (eql_t rfl)) (by decide) ?_
  refine ro_assign (by simp only [evalF, upd, arg0, argS, ofConst, ofCell, Nat.reduceEqDiff, reduceIte] <;> rfl) (by decide) ?_
  refine ro_nil ?_
  try simp only
  refine ex_cond (t := true) (by simp only [evalF, upd, arg0, argS, ofConst, ofCell, Nat.reduceEqDiff, reduceIte] <;> rfl) (fun _ => ?_) (fun h => by simp at h)
  refine ex_seq (ex_region ?_)
  refine ro_fieldAddr (by simp only [evalF, upd, arg0, argS, ofConst, ofCell, Nat.reduceEqDiff, reduceIte] <;> rfl) (by exact (fa30_4 _ _ _)) (by decide) ?_
  refine ro_load (by simp only [evalF, upd, arg0, argS, ofConst, ofCell, Nat.reduceEqDiff, reduceIte] <;> rfl) (by exact (load1 ag4 h1 mc4)) (by decide) ?_
  refine ro_fieldAddr (by simp only [evalF, upd, arg0, argS, ofConst, ofCell, Nat.reduceEqDiff, reduceIte] <;> rfl) (by exact (fa30_4 _ _ _)) (by decide) ?_
  refine ro_load (by simp only [evalF, upd, arg0, argS, ofConst, ofCell, Nat.reduceEqDiff, reduceIte] <;> rfl) (by exact (load1 ag4 h2 mc4)) (by decide) ?_
  refine ro_bin (by simp only [evalF, upd, arg0, argS, ofConst, ofCell, Nat.reduceEqDiff, reduceIte] <;> rfl) (by simp only [evalF, upd, arg0, argS, ofConst, ofCell, Nat.reduceEqDiff, reduceIte] <;> rfl) (by exact (eq4_v)) (by decide) ?_
  refine ro_assign (by simp only [evalF, upd, arg0, argS, ofConst, ofCell, Nat.reduceEqDiff, reduceIte] <;> rfl) (by decide) ?_
  refine ro_nil ?_
  try simp only
  refine ex_ret ?_
  exact ⟨_, rfl, by simp [upd], ha⟩

theorem same38_4 (d : Nat) {hp : Hp} {nb : Nat} {a b : M} {L D L2 D2 : AV} (t : Two hp nb a b L D L2 D2) :
    CA (callA Try.prog facts plains 10000 (d + 2)) 38 [.agg (mcells a L D), .agg (mcells b L2 D2), .pv (.int .i64 4)] hp nb (BoolOk (a.err == b.err) hp nb) := by
  refine ca_body (fn := Try.f38) (c := bodyOf Try.f38) Try.func38 rfl (by show 3 ≤ 62; omega) ?_
  show EX _ _ _ _ _ 62 _ _ _ _ _
  unfold bodyOf Try.f38
  refine ex_seq (ex_region ?_)
  refine ro_box (v := .agg (mcells a L D)) (by simp [evalF, argsF]) (mc_all (row_cell t.l1).1 (row_cell t.d1).1) (by decide) ?_
  refine ro_box (v := .agg (mcells b L2 D2)) (by simp [evalF, argsF, upd]) (mc_all (row_cell t.l2).1 (row_cell t.d2).1) (by decide) ?_
  refine ro_assign (by simp only [evalF, upd, arg0, argS, ofConst, ofCell, Nat.reduceEqDiff, reduceIte] <;> rfl) (by decide) ?_
  refine ro_nil ?_
  try simp only
  obtain ⟨ha, h1, h2⟩ := two_boxes t
  have t2 := t.keep ha
  show EX _ _ _ _ _ 62 _ _ (setHp (setHp hp nb (.cells 1 (mcells a L D))) (nb + 1) (.cells 1 (mcells b L2 D2))) _ _
  generalize setHp (setHp hp nb (.cells 1 (mcells a L D))) (nb + 1) (.cells 1 (mcells b L2 D2)) = hp2 at ha h1 h2 t2 ⊢
  have ka := t.ka
  have kb := t.kb
  refine ex_seq (ex_seq (ex_region ?_))
  refine ro_move (by simp only [evalF, upd, arg0, argS, ofConst, ofCell, Nat.reduceEqDiff, reduceIte] <;> rfl) (by decide) ?_
  refine ro_nil ?_
  try simp only
  refine ex_block ?_
  refine ex_seq (ex_region ?_)
  refine ro_bin (by simp only [evalF, upd, arg0, argS, ofConst, ofCell, Nat.reduceEqDiff, reduceIte] <;> rfl) (by simp only [evalF, upd, arg0, argS, ofConst, ofCell, Nat.reduceEqDiff, reduceIte] <;> rfl) (by exact (eql_f (by decide))) (by decide) ?_
  refine ro_assign (by simp only [evalF, upd, arg0, argS, ofConst, ofCell, Nat.reduceEqDiff, reduceIte] <;> rfl) (by decide) ?_
  refine ro_nil ?_
  try simp only
  refine ex_cond (t := false) (by simp only [evalF, upd, arg0, argS, ofConst, ofCell, Nat.reduceEqDiff, reduceIte] <;> rfl) (fun h => by simp at h) (fun _ => ?_)
  refine ex_seq (ex_region ?_)
  refine ro_bin (by simp only [evalF, upd, arg0, argS, ofConst, ofCell, Nat.reduceEqDiff, reduceIte] <;> rfl) (by simp only [evalF, upd, arg0, argS, ofConst, ofCell, Nat.reduceEqDiff, reduceIte] <;> rfl) (by exact (eql_f (by decide))) (by decide) ?_
  refine ro_assign (by simp only [evalF, upd, arg0, argS, ofConst, ofCell, Nat.reduceEqDiff, reduceIte] <;> rfl) (by decide) ?_
  refine ro_nil ?_
  try simp only
  refine ex_cond (t := false) (by simp only [evalF, upd, arg0, argS, ofConst, ofCell, Nat.reduceEqDiff, reduceIte] <;> rfl) (fun h => by simp at h) (fun _ => ?_)
  refine ex_seq (ex_region ?_)
  refine ro_bin (by simp only [evalF, upd, arg0, argS, ofConst, ofCell, Nat.reduceEqDiff, reduceIte] <;> rfl) (by simp only [evalF, upd, arg0, argS, ofConst, ofCell, Nat.reduceEqDiff, reduceIte] <;> rfl) (by exact (eql_f (by decide))) (by decide) ?_
  refine ro_assign (by simp only [evalF, upd, arg0, argS, ofConst, ofCell, Nat.reduceEqDiff, reduceIte] <;> rfl) (by decide) ?_
  refine ro_nil ?_
  try simp only
  refine ex_cond (t := false) (by simp only [evalF, upd, arg0, argS, ofConst, ofCell, Nat.reduceEqDiff, reduceIte] <;> rfl) (fun h => by simp at h) (fun _ => ?_)
  refine ex_seq (ex_region ?_)
  refine ro_bin (by simp only [evalF, upd, arg0, argS, ofConst, ofCell, Nat.reduceEqDiff, reduceIte] <;> rfl) (by simp only [evalF, upd, arg0, argS, ofConst, ofCell, Nat.reduceEqDiff, reduceIte] <;> rfl) (by exact (eql_f (by decide))) (by decide) ?_
  refine ro_assign (by simp only [evalF, upd, arg0, argS, ofConst, ofCell, Nat.reduceEqDiff, reduceIte] <;> rfl) (by decide) ?_
  refine ro_nil ?_
  try simp only
  refine ex_cond (t := false) (by simp only [evalF, upd, arg0, argS, ofConst, ofCell, Nat.reduceEqDiff, reduceIte] <;> rfl) (fun h => by simp at h) (fun _ => ?_)
  refine ex_seq (ex_region ?_)
  refine ro_bin (by simp only [evalF, upd, arg0, argS, ofConst, ofCell, Nat.reduceEqDiff, reduceIte] <;> rfl) (by simp only [evalF, upd, arg0, argS, ofConst, ofCell, Nat.reduceEqDiff, reduceIte] <;> rfl) (by exact (eql_t rfl)) (by decide) ?_
  refine ro_assign (by simp only [evalF, upd, arg0, argS, ofConst, ofCell, Nat.reduceEqDiff, reduceIte] <;> rfl) (by decide) ?_
  refine ro_nil ?_
  try simp only
  refine ex_cond (t := true) (by simp only [evalF, upd, arg0, argS, ofConst, ofCell, Nat.reduceEqDiff, reduceIte] <;> rfl) (fun _ => ?_) (fun h => by simp at h)
  refine ex_seq (ex_region ?_)
  refine ro_fieldAddr (by simp only [evalF, upd, arg0, argS, ofConst, ofCell, Nat.reduceEqDiff, reduceIte] <;> rfl) (by exact (fa30_8 _ _ _)) (by decide) ?_
  refine ro_load (by simp only [evalF, upd, arg0, argS, ofConst, ofCell, Nat.reduceEqDiff, reduceIte] <;> rfl) (by exact (load1 ag28 h1 (mc39 ka))) (by decide) ?_
  refine ro_fieldAddr (by simp only [evalF, upd, arg0, argS, ofConst, ofCell, Nat.reduceEqDiff, reduceIte] <;> rfl) (by exact (fa30_8 _ _ _)) (by decide) ?_
  refine ro_load (by simp only [evalF, upd, arg0, argS, ofConst, ofCell, Nat.reduceEqDiff, reduceIte] <;> rfl) (by exact (load1 ag28 h2 (mc39 kb))) (by decide) ?_
  refine ro_bin (by simp only [evalF, upd, arg0, argS, ofConst, ofCell, Nat.reduceEqDiff, reduceIte] <;> rfl) (by simp only [evalF, upd, arg0, argS, ofConst, ofCell, Nat.reduceEqDiff, reduceIte] <;> rfl) (by exact (eql_v)) (by decide) ?_
  refine ro_assign (by simp only [evalF, upd, arg0, argS, ofConst, ofCell, Nat.reduceEqDiff, reduceIte] <;> rfl) (by decide) ?_
  refine ro_nil ?_
  try simp only
  refine ex_ret ?_
  exact ⟨_, rfl, by simp [upd], ha⟩

theorem same38_5 (d : Nat) {hp : Hp} {nb : Nat} {a b : M} {L D L2 D2 : AV} (t : Two hp nb a b L D L2 D2) :
    CA (callA Try.prog facts plains 10000 (d + 2)) 38 [.agg (mcells a L D), .agg (mcells b L2 D2), .pv (.int .i64 5)] hp nb (BoolOk (a.key == b.key) hp nb) := by
  refine ca_body (fn := Try.f38) (c := bodyOf Try.f38) Try.func38 rfl (by show 3 ≤ 62; omega) ?_
  show EX _ _ _ _ _ 62 _ _ _ _ _
  unfold bodyOf Try.f38
  refine ex_seq (ex_region ?_)
  refine ro_box (v := .agg (mcells a L D)) (by simp [evalF, argsF]) (mc_all (row_cell t.l1).1 (row_cell t.d1).1) (by decide) ?_
  refine ro_box (v := .agg (mcells b L2 D2)) (by simp [evalF, argsF, upd]) (mc_all (row_cell t.l2).1 (row_cell t.d2).1) (by decide) ?_
  refine ro_assign (by simp only [evalF, upd, arg0, argS, ofConst, ofCell, Nat.reduceEqDiff, reduceIte] <;> rfl) (by decide) ?_
  refine ro_nil ?_
  try simp only
  obtain ⟨ha, h1, h2⟩ := two_boxes t
  have t2 := t.keep ha
  show EX _ _ _ _ _ 62 _ _ (setHp (setHp hp nb (.cells 1 (mcells a L D))) (nb + 1) (.cells 1 (mcells b L2 D2))) _ _
  generalize setHp (setHp hp nb (.cells 1 (mcells a L D))) (nb + 1) (.cells 1 (mcells b L2 D2)) = hp2 at ha h1 h2 t2 ⊢
  have ka := t.ka
  have kb := t.kb
  refine ex_seq (ex_seq (ex_region ?_))
  refine ro_move (by simp only [evalF, upd, arg0, argS, ofConst, ofCell, Nat.reduceEqDiff, reduceIte] <;> rfl) (by decide) ?_
  refine ro_nil ?_
  try simp only
  refine ex_block ?_
  refine ex_seq (ex_region ?_)
  refine ro_bin (by simp only [evalF, upd, arg0, argS, ofConst, ofCell, Nat.reduceEqDiff, reduceIte] <;> rfl) (by simp only [evalF, upd, arg0, argS, ofConst, ofCell, Nat.reduceEqDiff, reduceIte] <;> rfl) (by exact (eql_f (by decide))) (by decide) ?_
  refine ro_assign (by simp only [evalF, upd, arg0, argS, ofConst, ofCell, Nat.reduceEqDiff, reduceIte] <;> rfl) (by decide) ?_
  refine ro_nil ?_
  try simp only
  refine ex_cond (t := false) (by simp only [evalF, upd, arg0, argS, ofConst, ofCell, Nat.reduceEqDiff, reduceIte] <;> rfl) (fun h => by simp at h) (fun _ => ?_)
  refine ex_seq (ex_region ?_)
  refine ro_bin (by simp only [evalF, upd, arg0, argS, ofConst, ofCell, Nat.reduceEqDiff, reduceIte] <;> rfl) (by simp only [evalF, upd, arg0, argS, ofConst, ofCell, Nat.reduceEqDiff, reduceIte] <;> rfl) (by exact (eql_f (by decide))) (by decide) ?_
  refine ro_assign (by simp only [evalF, upd, arg0, argS, ofConst, ofCell, Nat.reduceEqDiff, reduceIte] <;> rfl) (by decide) ?_
  refine ro_nil ?_
  try simp only
  refine ex_cond (t := false) (by simp only [evalF, upd, arg0, argS, ofConst, ofCell, Nat.reduceEqDiff, reduceIte] <;> rfl) (fun h => by simp at h) (fun _ => ?_)
  refine ex_seq (ex_region ?_)
  refine ro_bin (by simp only [evalF, upd, arg0, argS, ofConst, ofCell, Nat.reduceEqDiff, reduceIte] <;> rfl) (by simp only [evalF, upd, arg0, argS, ofConst, ofCell, Nat.reduceEqDiff, reduceIte] <;> rfl) (by exact (eql_f (by decide))) (by decide) ?_
  refine ro_assign (by simp only [evalF, upd, arg0, argS, ofConst, ofCell, Nat.reduceEqDiff, reduceIte] <;> rfl) (by decide) ?_
  refine ro_nil ?_
  try simp only
  refine ex_cond (t := false) (by simp only [evalF, upd, arg0, argS, ofConst, ofCell, Nat.reduceEqDiff, reduceIte] <;> rfl) (fun h => by simp at h) (fun _ => ?_)
  refine ex_seq (ex_region ?_)
  refine ro_bin (by simp only [evalF, upd, arg0, argS, ofConst, ofCell, Nat.reduceEqDiff, reduceIte] <;> rfl) (by simp only [evalF, upd, arg0, argS, ofConst, ofCell, Nat.reduceEqDiff, reduceIte] <;> rfl) (by exact (eql_f (by decide))) (by decide) ?_
  refine ro_assign (by simp only [evalF, upd, arg0, argS, ofConst, ofCell, Nat.reduceEqDiff, reduceIte] <;> rfl) (by decide) ?_
  refine ro_nil ?_
  try simp only
  refine ex_cond (t := false) (by simp only [evalF, upd, arg0, argS, ofConst, ofCell, Nat.reduceEqDiff, reduceIte] <;> rfl) (fun h => by simp at h) (fun _ => ?_)
  refine ex_seq (ex_region ?_)
  refine ro_bin (by simp only [evalF, upd, arg0, argS, ofConst, ofCell, Nat.reduceEqDiff, reduceIte] <;> rfl) (by simp only [evalF, upd, arg0, argS, ofConst, ofCell, Nat.reduceEqDiff, reduceIte] <;> rfl) (by exact (eql_f (by decide))) (by decide) ?_
  refine ro_assign (by simp only [evalF, upd, arg0, argS, ofConst, ofCell, Nat.reduceEqDiff, reduceIte] <;> rfl) (by decide) ?_
  refine ro_nil ?_
  try simp only
  refine ex_cond (t := false) (by simp only [evalF, upd, arg0, argS, ofConst, ofCell, Nat.reduceEqDiff, reduceIte] <;> rfl) (fun h => by simp at h) (fun _ => ?_)
  refine ex_seq (ex_region ?_)
  refine ro_bin (by simp only [evalF, upd, arg0, argS, ofConst, ofCell, Nat.reduceEqDiff, reduceIte] <;> rfl) (by simp only [evalF, upd, arg0, argS, ofConst, ofCell, Nat.reduceEqDiff, reduceIte] <;> rfl) (by exact (eql_t rfl)) (by decide) ?_
  refine ro_assign (by simp only [evalF, upd, arg0, argS, ofConst, ofCell, Nat.reduceEqDiff, reduceIte] <;> rfl) (by decide) ?_
  refine ro_nil ?_
  try simp only
  refine ex_cond (t := true) (by simp only [evalF, upd, arg0, argS, ofConst, ofCell, Nat.reduceEqDiff, reduceIte] <;> rfl) (fun _ => ?_) (fun h => by simp at h)
  refine ex_seq (ex_region ?_)
  refine ro_fieldAddr (by simp only [evalF, upd, arg0, argS, ofConst, ofCell, Nat.reduceEqDiff, reduceIte] <;> rfl) (by exact (fa30_5 _ _ _)) (by decide) ?_
  refine ro_load (by simp only [evalF, upd, arg0, argS, ofConst, ofCell, Nat.reduceEqDiff, reduceIte] <;> rfl) (by exact (load_key ka h1)) (by decide) ?_
  refine ro_fieldAddr (by simp only [evalF, upd, arg0, argS, ofConst, ofCell, Nat.reduceEqDiff, reduceIte] <;> rfl) (by exact (fa30_5 _ _ _)) (by decide) ?_
  refine ro_load (by simp only [evalF, upd, arg0, argS, ofConst, ofCell, Nat.reduceEqDiff, reduceIte] <;> rfl) (by exact (load_key kb h2)) (by decide) ?_
  refine ro_bin (by simp only [evalF, upd, arg0, argS, ofConst, ofCell, Nat.reduceEqDiff, reduceIte] <;> rfl) (by simp only [evalF, upd, arg0, argS, ofConst, ofCell, Nat.reduceEqDiff, reduceIte] <;> rfl) (by exact (eq_keys ka kb)) (by decide) ?_
  refine ro_assign (by simp only [evalF, upd, arg0, argS, ofConst, ofCell, Nat.reduceEqDiff, reduceIte] <;> rfl) (by decide) ?_
  refine ro_nil ?_
  try simp only
  refine ex_ret ?_
  exact ⟨_, rfl, by simp [upd], ha⟩

theorem same38_6 (d : Nat) {hp : Hp} {nb : Nat} {a b : M} {L D L2 D2 : AV} (t : Two hp nb a b L D L2 D2) :
    CA (callA Try.prog facts plains 10000 (d + 2)) 38 [.agg (mcells a L D), .agg (mcells b L2 D2), .pv (.int .i64 6)] hp nb (BoolOk (a.data == b.data) hp nb) := by
  refine ca_body (fn := Try.f38) (c := bodyOf Try.f38) Try.func38 rfl (by show 3 ≤ 62; omega) ?_
  show EX _ _ _ _ _ 62 _ _ _ _ _
  unfold bodyOf Try.f38
  refine ex_seq (ex_region ?_)
  refine ro_box (v := .agg (mcells a L D)) (by simp [evalF, argsF]) (mc_all (row_cell t.l1).1 (row_cell t.d1).1) (by decide) ?_
  refine ro_box (v := .agg (mcells b L2 D2)) (by simp [evalF, argsF, upd]) (mc_all (row_cell t.l2).1 (row_cell t.d2).1) (by decide) ?_
  refine ro_assign (by simp only [evalF, upd, arg0, argS, ofConst, ofCell, Nat.reduceEqDiff, reduceIte] <;> rfl) (by decide) ?_
  refine ro_nil ?_
  try simp only
  obtain ⟨ha, h1, h2⟩ := two_boxes t
  have t2 := t.keep ha
  show EX _ _ _ _ _ 62 _ _ (setHp (setHp hp nb (.cells 1 (mcells a L D))) (nb + 1) (.cells 1 (mcells b L2 D2))) _ _
  generalize setHp (setHp hp nb (.cells 1 (mcells a L D))) (nb + 1) (.cells 1 (mcells b L2 D2)) = hp2 at ha h1 h2 t2 ⊢
  have ka := t.ka
  have kb := t.kb
  refine ex_seq (ex_seq (ex_region ?_))
  refine ro_move (by simp only [evalF, upd, arg0, argS, ofConst, ofCell, Nat.reduceEqDiff, reduceIte] <;> rfl) (by decide) ?_
  refine ro_nil ?_
  try simp only
  refine ex_block ?_
  refine ex_seq (ex_region ?_)
  refine ro_bin (by simp only [evalF, upd, arg0, argS, ofConst, ofCell, Nat.reduceEqDiff, reduceIte] <;> rfl) (by simp only [evalF, upd, arg0, argS, ofConst, ofCell, Nat.reduceEqDiff, reduceIte] <;> rfl) (by exact (eql_f (by decide))) (by decide) ?_
  refine ro_assign (by simp only [evalF, upd, arg0, argS, ofConst, ofCell, Nat.reduceEqDiff, reduceIte] <;> rfl) (by decide) ?_
  refine ro_nil ?_
  try simp only
  refine ex_cond (t := false) (by simp only [evalF, upd, arg0, argS, ofConst, ofCell, Nat.reduceEqDiff, reduceIte] <;> rfl) (fun h => by simp at h) (fun _ => ?_)
  refine ex_seq (ex_region ?_)
  refine ro_bin (by simp only [evalF, upd, arg0, argS, ofConst, ofCell, Nat.reduceEqDiff, reduceIte] <;> rfl) (by simp only [evalF, upd, arg0, argS, ofConst, ofCell, Nat.reduceEqDiff, reduceIte] <;> rfl) (by exact (eql_f (by decide))) (by decide) ?_
  refine ro_assign (by simp only [evalF, upd, arg0, argS, ofConst, ofCell, Nat.reduceEqDiff, reduceIte] <;> rfl) (by decide) ?_
  refine ro_nil ?_
  try simp only
  refine ex_cond (t := false) (by simp only [evalF, upd, arg0, argS, ofConst, ofCell, Nat.reduceEqDiff, reduceIte] <;> rfl) (fun h => by simp at h) (fun _ => ?_)
  refine ex_seq (ex_region ?_)
  refine ro_bin (by simp only [evalF, upd, arg0, argS, ofConst, ofCell, Nat.reduceEqDiff, reduceIte] <;> rfl) (by simp only [evalF, upd, arg0, argS, ofConst, ofCell, Nat.reduceEqDiff, reduceIte] <;> rfl) (by exact (eql_f (by decide))) (by decide) ?_
  refine ro_assign (by simp only [evalF, upd, arg0, argS, ofConst, ofCell, Nat.reduceEqDiff, reduceIte] <;> rfl) (by decide) ?_
  refine ro_nil ?_
  try simp only
  refine ex_cond (t := false) (by simp only [evalF, upd, arg0, argS, ofConst, ofCell, Nat.reduceEqDiff, reduceIte] <;> rfl) (fun h => by simp at h) (fun _ => ?_)
  refine ex_seq (ex_region ?_)
  refine ro_bin (by simp only [evalF, upd, arg0, argS, ofConst, ofCell, Nat.reduceEqDiff, reduceIte] <;> rfl) (by simp only [evalF, upd, arg0, argS, ofConst, ofCell, Nat.reduceEqDiff, reduceIte] <;> rfl) (by exact (eql_f (by decide))) (by decide) ?_
  refine ro_assign (by simp only [evalF, upd, arg0, argS, ofConst, ofCell, Nat.reduceEqDiff, reduceIte] <;> rfl) (by decide) ?_
  refine ro_nil ?_
  try simp only
  refine ex_cond (t := false) (by simp only [evalF, upd, arg0, argS, ofConst, ofCell, Nat.reduceEqDiff, reduceIte] <;> rfl) (fun h => by simp at h) (fun _ => ?_)
  refine ex_seq (ex_region ?_)
  refine ro_bin (by simp only [evalF, upd, arg0, argS, ofConst, ofCell, Nat.reduceEqDiff, reduceIte] <;> rfl) (by simp only [evalF, upd, arg0, argS, ofConst, ofCell, Nat.reduceEqDiff, reduceIte] <;> rfl) (by exact (eql_f (by decide))) (by decide) ?_
  refine ro_assign (by simp only [evalF, upd, arg0, argS, ofConst, ofCell, Nat.reduceEqDiff, reduceIte] <;> rfl) (by decide) ?_
  refine ro_nil ?_
  try simp only
  refine ex_cond (t := false) (by simp only [evalF, upd, arg0, argS, ofConst, ofCell, Nat.reduceEqDiff, reduceIte] <;> rfl) (fun h => by simp at h) (fun _ => ?_)
  refine ex_seq (ex_region ?_)
  refine ro_bin (by simp only [evalF, upd, arg0, argS, ofConst, ofCell, Nat.reduceEqDiff, reduceIte] <;> rfl) (by simp only [evalF, upd, arg0, argS, ofConst, ofCell, Nat.reduceEqDiff, reduceIte] <;> rfl) (by exact (eql_f (by decide))) (by decide) ?_
  refine ro_assign (by simp only [evalF, upd, arg0, argS, ofConst, ofCell, Nat.reduceEqDiff, reduceIte] <;> rfl) (by decide) ?_
  refine ro_nil ?_
  try simp only
  refine ex_cond (t := false) (by simp only [evalF, upd, arg0, argS, ofConst, ofCell, Nat.reduceEqDiff, reduceIte] <;> rfl) (fun h => by simp at h) (fun _ => ?_)
  refine ex_seq (ex_region ?_)
  refine ro_bin (by simp only [evalF, upd, arg0, argS, ofConst, ofCell, Nat.reduceEqDiff, reduceIte] <;> rfl) (by simp only [evalF, upd, arg0, argS, ofConst, ofCell, Nat.reduceEqDiff, reduceIte] <;> rfl) (by exact (eql_t rfl)) (by decide) ?_
  refine ro_assign (by simp only [evalF, upd, arg0, argS, ofConst, ofCell, Nat.reduceEqDiff, reduceIte] <;> rfl) (by decide) ?_
  refine ro_nil ?_
  try simp only
  refine ex_cond (t := true) (by simp only [evalF, upd, arg0, argS, ofConst, ofCell, Nat.reduceEqDiff, reduceIte] <;> rfl) (fun _ => ?_) (fun h => by simp at h)
  refine ex_seq (ex_region ?_)
  refine ro_fieldAddr (by simp only [evalF, upd, arg0, argS, ofConst, ofCell, Nat.reduceEqDiff, reduceIte] <;> rfl) (by exact (fa30_6 _ _ _)) (by decide) ?_
  refine ro_load (by simp only [evalF, upd, arg0, argS, ofConst, ofCell, Nat.reduceEqDiff, reduceIte] <;> rfl) (by exact (load1 ag27 h1 (mc37 ka))) (by decide) ?_
  refine ro_fieldAddr (by simp only [evalF, upd, arg0, argS, ofConst, ofCell, Nat.reduceEqDiff, reduceIte] <;> rfl) (by exact (fa30_6 _ _ _)) (by decide) ?_
  refine ro_load (by simp only [evalF, upd, arg0, argS, ofConst, ofCell, Nat.reduceEqDiff, reduceIte] <;> rfl) (by exact (load1 ag27 h2 (mc37 kb))) (by decide) ?_
  refine ro_bool (f := 49) (xs := [D, D2]) (r := a.data == b.data) (by simp [calleeA, evalF, upd]) rfl (still49 d t2.d1 t2.d2 t.ad).1 (still49 d t2.d1 t2.d2 t.ad).2 (by decide) ?_
  intro hp3 nb3 ha3
  refine ro_assign (by simp only [evalF, upd, arg0, argS, ofConst, ofCell, Nat.reduceEqDiff, reduceIte] <;> rfl) (by decide) ?_
  refine ro_nil ?_
  try simp only
  refine ex_ret ?_
  exact ⟨_, rfl, by simp [upd], after_nil ha ha3 (fun id h => by simp [ownOf] at h)⟩

theorem same38_7 (d : Nat) {hp : Hp} {nb : Nat} {a b : M} {L D L2 D2 : AV} (t : Two hp nb a b L D L2 D2) :
    CA (callA Try.prog facts plains 10000 (d + 2)) 38 [.agg (mcells a L D), .agg (mcells b L2 D2), .pv (.int .i64 7)] hp nb (BoolOk (a.lease == b.lease) hp nb) := by
  refine ca_body (fn := Try.f38) (c := bodyOf Try.f38) Try.func38 rfl (by show 3 ≤ 62; omega) ?_
  show EX _ _ _ _ _ 62 _ _ _ _ _
  unfold bodyOf Try.f38
  refine ex_seq (ex_region ?_)
  refine ro_box (v := .agg (mcells a L D)) (by simp [evalF, argsF]) (mc_all (row_cell t.l1).1 (row_cell t.d1).1) (by decide) ?_
  refine ro_box (v := .agg (mcells b L2 D2)) (by simp [evalF, argsF, upd]) (mc_all (row_cell t.l2).1 (row_cell t.d2).1) (by decide) ?_
  refine ro_assign (by simp only [evalF, upd, arg0, argS, ofConst, ofCell, Nat.reduceEqDiff, reduceIte] <;> rfl) (by decide) ?_
  refine ro_nil ?_
  try simp only
  obtain ⟨ha, h1, h2⟩ := two_boxes t
  have t2 := t.keep ha
  show EX _ _ _ _ _ 62 _ _ (setHp (setHp hp nb (.cells 1 (mcells a L D))) (nb + 1) (.cells 1 (mcells b L2 D2))) _ _
  generalize setHp (setHp hp nb (.cells 1 (mcells a L D))) (nb + 1) (.cells 1 (mcells b L2 D2)) = hp2 at ha h1 h2 t2 ⊢
  have ka := t.ka
  have kb := t.kb
  refine ex_seq (ex_seq (ex_region ?_))
  refine ro_move (by simp only [evalF, upd, arg0, argS, ofConst, ofCell, Nat.reduceEqDiff, reduceIte] <;> rfl) (by decide) ?_
  refine ro_nil ?_
  try simp only
  refine ex_block ?_
  refine ex_seq (ex_region ?_)
  refine ro_bin (by simp only [evalF, upd, arg0, argS, ofConst, ofCell, Nat.reduceEqDiff, reduceIte] <;> rfl) (by simp only [evalF, upd, arg0, argS, ofConst, ofCell, Nat.reduceEqDiff, reduceIte] <;> rfl) (by exact (eql_f (by decide))) (by decide) ?_
  refine ro_assign (by simp only [evalF, upd, arg0, argS, ofConst, ofCell, Nat.reduceEqDiff, reduceIte] <;> rfl) (by decide) ?_
  refine ro_nil ?_
  try simp only
  refine ex_cond (t := false) (by simp only [evalF, upd, arg0, argS, ofConst, ofCell, Nat.reduceEqDiff, reduceIte] <;> rfl) (fun h => by simp at h) (fun _ => ?_)
  refine ex_seq (ex_region ?_)
  refine ro_bin (by simp only [evalF, upd, arg0, argS, ofConst, ofCell, Nat.reduceEqDiff, reduceIte] <;> rfl) (by simp only [evalF, upd, arg0, argS, ofConst, ofCell, Nat.reduceEqDiff, reduceIte] <;> rfl) (by exact (eql_f (by decide))) (by decide) ?_
  refine ro_assign (by simp only [evalF, upd, arg0, argS, ofConst, ofCell, Nat.reduceEqDiff, reduceIte] <;> rfl) (by decide) ?_
  refine ro_nil ?_
  try simp only
  refine ex_cond (t := false) (by simp only [evalF, upd, arg0, argS, ofConst, ofCell, Nat.reduceEqDiff, reduceIte] <;> rfl) (fun h => by simp at h) (fun _ => ?_)
  refine ex_seq (ex_region ?_)
  refine ro_bin (by simp only [evalF, upd, arg0, argS, ofConst, ofCell, Nat.reduceEqDiff, reduceIte] <;> rfl) (by simp only [evalF, upd, arg0, argS, ofConst, ofCell, Nat.reduceEqDiff, reduceIte] <;> rfl) (by exact (eql_f (by decide))) (by decide) ?_
  refine ro_assign (by simp only [evalF, upd, arg0, argS, ofConst, ofCell, Nat.reduceEqDiff, reduceIte] <;> rfl) (by decide) ?_
  refine ro_nil ?_
  try simp only
  refine ex_cond (t := false) (by simp only [evalF, upd, arg0, argS, ofConst, ofCell, Nat.reduceEqDiff, reduceIte] <;> rfl) (fun h => by simp at h) (fun _ => ?_)
  refine ex_seq (ex_region ?_)
  refine ro_bin (by simp only [evalF, upd, arg0, argS, ofConst, ofCell, Nat.reduceEqDiff, reduceIte] <;> rfl) (by simp only [evalF, upd, arg0, argS, ofConst, ofCell, Nat.reduceEqDiff, reduceIte] <;> rfl) (by exact (eql_f (by decide))) (by decide) ?_
  refine ro_assign (by simp only [evalF, upd, arg0, argS, ofConst, ofCell, Nat.reduceEqDiff, reduceIte] <;> rfl) (by decide) ?_
  refine ro_nil ?_
  try simp only
  refine ex_cond (t := false) (by simp only [evalF, upd, arg0, argS, ofConst, ofCell, Nat.reduceEqDiff, reduceIte] <;> rfl) (fun h => by simp at h) (fun _ => ?_)
  refine ex_seq (ex_region ?_)
  refine ro_bin (by simp only [evalF, upd, arg0, argS, ofConst, ofCell, Nat.reduceEqDiff, reduceIte] <;> rfl) (by simp only [evalF, upd, arg0, argS, ofConst, ofCell, Nat.reduceEqDiff, reduceIte] <;> rfl) (by exact (eql_f (by decide))) (by decide) ?_
  refine ro_assign (by simp only [evalF, upd, arg0, argS, ofConst, ofCell, Nat.reduceEqDiff, reduceIte] <;> rfl) (by decide) ?_
  refine ro_nil ?_
  try simp only
  refine ex_cond (t := false) (by simp only [evalF, upd, arg0, argS, ofConst, ofCell, Nat.reduceEqDiff, reduceIte] <;> rfl) (fun h => by simp at h) (fun _ => ?_)
  refine ex_seq (ex_region ?_)
  refine ro_bin (by simp only [evalF, upd, arg0, argS, ofConst, ofCell, Nat.reduceEqDiff, reduceIte] <;> rfl) (by simp only [evalF, upd, arg0, argS, ofConst, ofCell, Nat.reduceEqDiff, reduceIte] <;> rfl) (by exact (eql_f (by decide))) (by decide) ?_
  refine ro_assign (by simp only [evalF, upd, arg0, argS, ofConst, ofCell, Nat.reduceEqDiff, reduceIte] <;> rfl) (by decide) ?_
  refine ro_nil ?_
  try simp only
  refine ex_cond (t := false) (by simp only [evalF, upd, arg0, argS, ofConst, ofCell, Nat.reduceEqDiff, reduceIte] <;> rfl) (fun h => by simp at h) (fun _ => ?_)
  refine ex_seq (ex_region ?_)
  refine ro_bin (by simp only [evalF, upd, arg0, argS, ofConst, ofCell, Nat.reduceEqDiff, reduceIte] <;> rfl) (by simp only [evalF, upd, arg0, argS, ofConst, ofCell, Nat.reduceEqDiff, reduceIte] <;> rfl) (by exact (eql_f (by decide))) (by decide) ?_
  refine ro_assign (by simp only [evalF, upd, arg0, argS, ofConst, ofCell, Nat.reduceEqDiff, reduceIte] <;> rfl) (by decide) ?_
  refine ro_nil ?_
  try simp only
  refine ex_cond (t := false) (by simp only [evalF, upd, arg0, argS, ofConst, ofCell, Nat.reduceEqDiff, reduceIte] <;> rfl) (fun h => by simp at h) (fun _ => ?_)
  refine ex_skip ?_
  try simp only
  refine ex_seq (ex_region ?_)
  refine ro_fieldAddr (by simp only [evalF, upd, arg0, argS, ofConst, ofCell, Nat.reduceEqDiff, reduceIte] <;> rfl) (by exact (fa30_7 _ _ _)) (by decide) ?_
  refine ro_load (by simp only [evalF, upd, arg0, argS, ofConst, ofCell, Nat.reduceEqDiff, reduceIte] <;> rfl) (by exact (load1 ag3 h1 (mc38 ka))) (by decide) ?_
  refine ro_fieldAddr (by simp only [evalF, upd, arg0, argS, ofConst, ofCell, Nat.reduceEqDiff, reduceIte] <;> rfl) (by exact (fa30_7 _ _ _)) (by decide) ?_
  refine ro_load (by simp only [evalF, upd, arg0, argS, ofConst, ofCell, Nat.reduceEqDiff, reduceIte] <;> rfl) (by exact (load1 ag3 h2 (mc38 kb))) (by decide) ?_
  refine ro_bin (by simp only [evalF, upd, arg0, argS, ofConst, ofCell, Nat.reduceEqDiff, reduceIte] <;> rfl) (by simp only [evalF, upd, arg0, argS, ofConst, ofCell, Nat.reduceEqDiff, reduceIte] <;> rfl) (by exact (eql_v)) (by decide) ?_
  refine ro_assign (by simp only [evalF, upd, arg0, argS, ofConst, ofCell, Nat.reduceEqDiff, reduceIte] <;> rfl) (by decide) ?_
  refine ro_nil ?_
  try simp only
  refine ex_ret ?_
  exact ⟨_, rfl, by simp [upd], ha⟩

theorem same38 (d f : Nat) (hf8 : f < 8) {hp : Hp} {nb : Nat} {a b : M} {L D L2 D2 : AV} (t : Two hp nb a b L D L2 D2) :
    CA (callA Try.prog facts plains 10000 (d + 2)) 38 [.agg (mcells a L D), .agg (mcells b L2 D2), .pv (.int .i64 f)] hp nb (BoolOk (sameF a b f) hp nb) := by
  have h8 : f = 0 ∨ f = 1 ∨ f = 2 ∨ f = 3 ∨ f = 4 ∨ f = 5 ∨ f = 6 ∨ f = 7 := by omega
  rcases h8 with rfl | rfl | rfl | rfl | rfl | rfl | rfl | rfl
  · exact same38_0 d t
  · exact same38_1 d t
  · exact same38_2 d t
  · exact same38_3 d t
  · exact same38_4 d t
  · exact same38_5 d t
  · exact same38_6 d t
  · exact same38_7 d t

/-- The closure. -/
theorem clo37 (d f : Nat) (hf8 : f < 8) {hp : Hp} {nb i1 i2 : Nat} {a b : M} {L D L2 D2 : AV} (t : Two hp nb a b L D L2 D2) (h1 : AI.look hp i1 1 = some (mcells a L D)) (h2 : AI.look hp i2 1 = some (mcells b L2 D2)) :
    CA (callA Try.prog facts plains 10000 (d + 3)) 37 [.pv (.int .i64 f), .ptr i1 1 0, .ptr i2 1 0] hp nb (BoolOk (!sameF a b f) hp nb) := by
  refine ca_body (fn := Try.f37) (c := bodyOf Try.f37) Try.func37 rfl (by show 3 ≤ 10; omega) ?_
  show EX _ _ _ _ _ 10 _ _ _ _ _
  unfold bodyOf Try.f37
  refine ex_seq (ex_region ?_)
  refine ro_assign (by simp only [evalF, upd, arg0, argS, ofConst, ofCell, Nat.reduceEqDiff, reduceIte] <;> rfl) (by decide) ?_
  refine ro_nil ?_
  try simp only
  refine ex_seq (ex_region ?_)
  refine ro_load (by simp only [evalF, upd, arg0, argS, ofConst, ofCell, Nat.reduceEqDiff, reduceIte] <;> rfl) (by exact (load_whole t.ka h1)) (by decide) ?_
  refine ro_load (by simp only [evalF, upd, arg0, argS, ofConst, ofCell, Nat.reduceEqDiff, reduceIte] <;> rfl) (by exact (load_whole t.kb h2)) (by decide) ?_
  refine ro_move (by simp only [evalF, upd, arg0, argS, ofConst, ofCell, Nat.reduceEqDiff, reduceIte] <;> rfl) (by decide) ?_
  refine ro_bool (f := 38) (xs := [.agg (mcells a L D), .agg (mcells b L2 D2), .pv (.int .i64 f)]) (r := sameF a b f) (by simp [calleeA, evalF, upd, argsF]) rfl (fun _ => same38 d f hf8 t) (fun h => by
    simp only [List.all_cons, List.all_nil, Bool.and_true, Bool.and_eq_true] at h
    exact same38 d f hf8 (t.plain h.1 h.2.1 _ _)) (by decide) ?_
  intro hp3 nb3 ha3
  refine ro_un (by simp only [evalF, upd, arg0, argS, ofConst, ofCell, Nat.reduceEqDiff, reduceIte] <;> rfl) (by exact (show unOpA .not (.pv (.bool (sameF a b f))) = some (.pv (.bool (!sameF a b f))) from rfl)) (by decide) ?_
  refine ro_assign (by simp only [evalF, upd, arg0, argS, ofConst, ofCell, Nat.reduceEqDiff, reduceIte] <;> rfl) (by decide) ?_
  refine ro_nil ?_
  try simp only
  refine ex_ret ?_
  exact ⟨_, rfl, by simp [upd], ha3⟩

def IdxOk (r : Bool) (hp : Hp) (nb : Nat) (v : AV) (hp' : Hp) (nb' : Nat) : Prop := ∃ i : Int, v = .pv (.int .i64 i) ∧ decide (i ≥ 0) = r ∧ After hp nb (.pv .nilSlice) hp' nb'

theorem index47 (d : Nat) {hp : Hp} {nb i1 i2 : Nat} {a b : M} {L D L2 D2 lv : AV} {fs : List Nat} (hfs : ∀ f ∈ fs, f < 8) (hfl : fs.length ≤ 4) (hlr : ∀ hp nb, Row hp nb lv (ints (fs.map Int.ofNat))) (t : Two hp nb a b L D L2 D2) (h1 : AI.look hp i1 1 = some (mcells a L D)) (h2 : AI.look hp i2 1 = some (mcells b L2 D2)) (hi1 : i1 < nb) (hi2 : i2 < nb) :
    CA (callA Try.prog facts plains 10000 (d + 4)) 47 [lv, .clo 37 [.ptr i1 1 0, .ptr i2 1 0]] hp nb (IdxOk (!(fs.all fun f => sameF a b f)) hp nb) := by
  refine ca_body (fn := Try.f47) (c := bodyOf Try.f47) Try.func47 rfl (by show 2 ≤ 19; omega) ?_
  show EX _ _ _ _ _ 19 _ _ _ _ _
  unfold bodyOf Try.f47
  refine ex_seq (ex_region ?_)
  refine ro_assign (by simp only [evalF, upd, arg0, argS, ofConst, ofCell, Nat.reduceEqDiff, reduceIte] <;> rfl) (by decide) ?_
  refine ro_nil ?_
  try simp only
  refine ex_seq (ex_seq (ex_region ?_))
  refine ro_move (by simp only [evalF, upd, arg0, argS, ofConst, ofCell, Nat.reduceEqDiff, reduceIte] <;> rfl) (by decide) ?_
  refine ro_builtin rfl (by simp only [List.map_cons, List.map_nil, evalF, upd, arg0, argS, ofConst, ofCell, Nat.reduceEqDiff, reduceIte] <;> rfl) (by exact (row_len st24 (hlr hp nb))) (by decide) ?_
  refine ro_move (by simp only [evalF, upd, arg0, argS, ofConst, ofCell, Nat.reduceEqDiff, reduceIte] <;> rfl) (by decide) ?_
  refine ro_nil ?_
  try simp only
  have hlen : (ints (fs.map Int.ofNat)).length = fs.length := by simp [ints]
  rw [hlen]
  refine ex_block (ex_loop (I := fun k g hpx nbx => ∃ i : Nat, k = fs.length - i ∧ i ≤ fs.length ∧ g 0 = lv ∧ g 1 = .clo 37 [.ptr i1 1 0, .ptr i2 1 0] ∧ g 7 = .pv (.int .i64 fs.length) ∧ g 8 = .pv (.int .i64 i) ∧ ((fs.take i).all fun f => sameF a b f) = true ∧ After hp nb (.pv .nilSlice) hpx nbx)
    (m := fs.length) ⟨0, rfl, Nat.zero_le _, by simp [upd, argsF], by simp [upd, argsF], by simp [upd], by simp [upd, ofConst, ofCell, evalF], by simp, after_refl _ _ _⟩ (by omega) ?_)
  rintro k g hpx nbx ⟨i, hkk, hi, g0, g1, g7, g8, hall, hax⟩
  refine ex_seq (ex_region ?_)
  refine ro_bin (by simp only [evalF, upd, arg0, argS, ofConst, ofCell, Nat.reduceEqDiff, reduceIte, g0, g1, g7, g8] <;> rfl) (by simp only [evalF, upd, arg0, argS, ofConst, ofCell, Nat.reduceEqDiff, reduceIte, g0, g1, g7, g8] <;> rfl) (by exact (lss_v)) (by decide) ?_
  refine ro_nil ?_
  try simp only
  refine ex_seq (ex_cond (t := decide ((i : Int) < fs.length)) (by simp only [evalF, upd, arg0, argS, ofConst, ofCell, Nat.reduceEqDiff, reduceIte, g0, g1, g7, g8] <;> rfl) (fun ht => ?_) (fun ht => ?_))
  rotate_left
  · have hie : i = fs.length := by
      have := of_decide_eq_false ht
      omega
    refine ex_exit ?_
    simp only [if_true]
    refine ex_seq (ex_region ?_)
    refine ro_assign (by simp only [evalF, upd, arg0, argS, ofConst, ofCell, Nat.reduceEqDiff, reduceIte, g0, g1, g7, g8] <;> rfl) (by decide) ?_
    refine ro_nil ?_
    try simp only
    refine ex_ret ?_
    refine ⟨_, rfl, -1, by simp [upd, ofConst, ofCell, evalF], ?_, hax⟩
    rw [hie, List.take_length] at hall
    rw [hall]
    rfl
  refine ex_skip ?_
  try simp only
  have hil : i < fs.length := by
    have := of_decide_eq_true ht
    omega
  have hgi : (ints (fs.map Int.ofNat))[i]? = some (.int .i64 (fs[i] : Nat)) := by
    unfold ints
    rw [List.getElem?_map, List.getElem?_map, List.getElem?_eq_getElem hil]
    rfl
  obtain ⟨p, hp1, hp2⟩ := row_at st24 (hlr hpx nbx) hgi
  have k : ∀ id, id < nb → hpx id = hp id := fun id hid => hax.2.1 id hid (by simp [ownOf])
  refine ex_seq (ex_block ?_)
  refine ex_seq (ex_region ?_)
  refine ro_move (by simp only [evalF, upd, arg0, argS, ofConst, ofCell, Nat.reduceEqDiff, reduceIte, g0, g1, g7, g8] <;> rfl) (by decide) ?_
  refine ro_assign (by simp only [evalF, upd, arg0, argS, ofConst, ofCell, Nat.reduceEqDiff, reduceIte, g0, g1, g7, g8] <;> rfl) (by decide) ?_
  refine ro_nil ?_
  try simp only
  refine ex_seq (ex_region ?_)
  refine ro_move (by simp only [evalF, upd, arg0, argS, ofConst, ofCell, Nat.reduceEqDiff, reduceIte, g0, g1, g7, g8] <;> rfl) (by decide) ?_
  refine ro_move (by simp only [evalF, upd, arg0, argS, ofConst, ofCell, Nat.reduceEqDiff, reduceIte, g0, g1, g7, g8] <;> rfl) (by decide) ?_
  refine ro_move (by simp only [evalF, upd, arg0, argS, ofConst, ofCell, Nat.reduceEqDiff, reduceIte, g0, g1, g7, g8] <;> rfl) (by decide) ?_
  refine ro_indexAddr (by simp only [evalF, upd, arg0, argS, ofConst, ofCell, Nat.reduceEqDiff, reduceIte, g0, g1, g7, g8] <;> rfl) (by simp only [evalF, upd, arg0, argS, ofConst, ofCell, Nat.reduceEqDiff, reduceIte, g0, g1, g7, g8] <;> rfl) (by exact (hp1)) (by decide) ?_
  refine ro_load (by simp only [evalF, upd, arg0, argS, ofConst, ofCell, Nat.reduceEqDiff, reduceIte, g0, g1, g7, g8] <;> rfl) (by exact (hp2)) (by decide) ?_
  refine ro_bool (f := 37) (xs := [.pv (.int .i64 (fs[i] : Nat)), .ptr i1 1 0, .ptr i2 1 0]) (r := !sameF a b fs[i]) (by simp [calleeA, evalF, upd, g1]) rfl (fun _ => clo37 d fs[i] (hfs _ (List.getElem_mem hil)) (t.keep hax) (by rw [look_at 1 (k i1 hi1)]; exact h1) (by rw [look_at 1 (k i2 hi2)]; exact h2)) (fun h => by simp [plainV] at h) (by decide) ?_
  intro hp3 nb3 ha3
  refine ro_nil ?_
  try simp only
  have hax3 := after_nil hax ha3 (fun id h => by simp [ownOf] at h)
  refine ex_cond (t := !sameF a b fs[i]) (by simp only [evalF, upd, arg0, argS, ofConst, ofCell, Nat.reduceEqDiff, reduceIte, g0, g1, g7, g8] <;> rfl) (fun hc => ?_) (fun hc => ?_)
  · refine ex_seq (ex_region ?_)
    refine ro_move (by simp only [evalF, upd, arg0, argS, ofConst, ofCell, Nat.reduceEqDiff, reduceIte, g0, g1, g7, g8] <;> rfl) (by decide) ?_
    refine ro_assign (by simp only [evalF, upd, arg0, argS, ofConst, ofCell, Nat.reduceEqDiff, reduceIte, g0, g1, g7, g8] <;> rfl) (by decide) ?_
    refine ro_nil ?_
    try simp only
    refine ex_ret ?_
    refine ⟨_, rfl, i, by simp [upd], ?_, hax3⟩
    have : (fs.all fun f => sameF a b f) = false := by
      cases hh : (fs.all fun f => sameF a b f) with
      | false => rfl
      | true =>
        have := List.all_eq_true.1 hh fs[i] (List.getElem_mem hil)
        simp [this] at hc
    rw [this]
    simp
  refine ex_skip ?_
  try simp only
  refine ex_region ?_
  refine ro_bin (by simp only [evalF, upd, arg0, argS, ofConst, ofCell, Nat.reduceEqDiff, reduceIte, g0, g1, g7, g8] <;> rfl) (by simp only [evalF, upd, arg0, argS, ofConst, ofCell, Nat.reduceEqDiff, reduceIte, g0, g1, g7, g8] <;> rfl) (by exact (add_v (by omega))) (by decide) ?_
  refine ro_move (by simp only [evalF, upd, arg0, argS, ofConst, ofCell, Nat.reduceEqDiff, reduceIte, g0, g1, g7, g8] <;> rfl) (by decide) ?_
  refine ro_nil ?_
  refine ⟨fs.length - (i + 1), by omega, i + 1, rfl, by omega, by simp [upd, g0], by simp [upd, g1], by simp [upd, g7], by simp [upd], ?_, hax3⟩
  rw [List.take_add_one, List.getElem?_eq_getElem hil, List.all_append, hall]
  simp at hc
  simp [hc]

theorem contains36 (d : Nat) {hp : Hp} {nb i1 i2 : Nat} {a b : M} {L D L2 D2 lv : AV} {fs : List Nat} (hfs : ∀ f ∈ fs, f < 8) (hfl : fs.length ≤ 4) (hlr : ∀ hp nb, Row hp nb lv (ints (fs.map Int.ofNat))) (t : Two hp nb a b L D L2 D2) (h1 : AI.look hp i1 1 = some (mcells a L D)) (h2 : AI.look hp i2 1 = some (mcells b L2 D2)) (hi1 : i1 < nb) (hi2 : i2 < nb) :
    CA (callA Try.prog facts plains 10000 (d + 5)) 36 [lv, .clo 37 [.ptr i1 1 0, .ptr i2 1 0]] hp nb (BoolOk (!(fs.all fun f => sameF a b f)) hp nb) := by
  refine ca_body (fn := Try.f36) (c := bodyOf Try.f36) Try.func36 rfl (by show 2 ≤ 9; omega) ?_
  show EX _ _ _ _ _ 9 _ _ _ _ _
  unfold bodyOf Try.f36
  refine ex_seq (ex_region ?_)
  refine ro_assign (by simp only [evalF, upd, arg0, argS, ofConst, ofCell, Nat.reduceEqDiff, reduceIte] <;> rfl) (by decide) ?_
  refine ro_nil ?_
  try simp only
  refine ex_seq (ex_region ?_)
  refine ro_move (by simp only [evalF, upd, arg0, argS, ofConst, ofCell, Nat.reduceEqDiff, reduceIte] <;> rfl) (by decide) ?_
  refine ro_move (by simp only [evalF, upd, arg0, argS, ofConst, ofCell, Nat.reduceEqDiff, reduceIte] <;> rfl) (by decide) ?_
  refine ro_callV (f := 47) (xs := [lv, .clo 37 [.ptr i1 1 0, .ptr i2 1 0]]) (by simp [calleeA, evalF, upd, argsF]) rfl (by simp [plainV]) (index47 d hfs hfl hlr t h1 h2 hi1 hi2) (by decide) ?_
  rintro v hp3 nb3 ⟨i, rfl, hi, ha3⟩
  refine ro_bin (by simp only [evalF, upd, arg0, argS, ofConst, ofCell, Nat.reduceEqDiff, reduceIte] <;> rfl) (by simp only [evalF, upd, arg0, argS, ofConst, ofCell, Nat.reduceEqDiff, reduceIte] <;> rfl) (by exact (geq_v)) (by decide) ?_
  refine ro_assign (by simp only [evalF, upd, arg0, argS, ofConst, ofCell, Nat.reduceEqDiff, reduceIte] <;> rfl) (by decide) ?_
  refine ro_nil ?_
  try simp only
  refine ex_ret ?_
  exact ⟨_, rfl, by simp only [upd, Nat.reduceEqDiff, reduceIte]; rw [hi], ha3⟩

theorem rowV_any (k : Int) : ∃ lv bo, rowV k = .tuple [lv, .pv (.bool bo)] ∧ (∀ hp nb, Row hp nb lv (ints (((rowOf k).getD []).map Int.ofNat))) ∧ (∀ f ∈ (rowOf k).getD [], f < 8) ∧ ((rowOf k).getD []).length ≤ 4 := by
  cases h : rowOf k with
  | none => exact ⟨.pv .nilSlice, false, by unfold rowV; rw [h], fun hp nb => .nil, by simp, by simp⟩
  | some fs =>
    obtain ⟨h8, h4⟩ := row_small h
    obtain ⟨lv, e1, e2⟩ := rowV_some h
    exact ⟨lv, true, e1, e2, h8, h4⟩

/-- wire.Same. -/
theorem same18 (d : Nat) {hp : Hp} {nb : Nat} {a b : M} {L D L2 D2 : AV} (t : Two hp nb a b L D L2 D2) :
    CA (callA Try.prog facts plains 10000 (d + 6)) 18 [.agg (mcells a L D), .agg (mcells b L2 D2)] hp nb (BoolOk (sameM a b) hp nb) := by
  refine ca_body (fn := Try.f18) (c := bodyOf Try.f18) Try.func18 rfl (by show 2 ≤ 24; omega) ?_
  show EX _ _ _ _ _ 24 _ _ _ _ _
  unfold bodyOf Try.f18
  refine ex_seq (ex_region ?_)
  refine ro_box (v := .agg (mcells a L D)) (by simp [evalF, argsF]) (mc_all (row_cell t.l1).1 (row_cell t.d1).1) (by decide) ?_
  refine ro_box (v := .agg (mcells b L2 D2)) (by simp [evalF, argsF, upd]) (mc_all (row_cell t.l2).1 (row_cell t.d2).1) (by decide) ?_
  refine ro_assign (by simp only [evalF, upd, arg0, argS, ofConst, ofCell, Nat.reduceEqDiff, reduceIte] <;> rfl) (by decide) ?_
  refine ro_nil ?_
  try simp only
  obtain ⟨ha, h1, h2⟩ := two_boxes t
  have t2 := t.keep ha
  show EX _ _ _ _ _ 24 _ _ (setHp (setHp hp nb (.cells 1 (mcells a L D))) (nb + 1) (.cells 1 (mcells b L2 D2))) _ _
  generalize setHp (setHp hp nb (.cells 1 (mcells a L D))) (nb + 1) (.cells 1 (mcells b L2 D2)) = hp2 at ha h1 h2 t2 ⊢
  obtain ⟨lv, bo, hrow, hlr, h8, h4⟩ := rowV_any a.kind
  refine ex_seq (ex_region ?_)
  refine ro_fieldAddr (by simp only [evalF, upd, arg0, argS, ofConst, ofCell, Nat.reduceEqDiff, reduceIte] <;> rfl) (by exact (fa30_0 _ _ _)) (by decide) ?_
  refine ro_load (by simp only [evalF, upd, arg0, argS, ofConst, ofCell, Nat.reduceEqDiff, reduceIte] <;> rfl) (by exact (load1 ag3 h1 mc0)) (by decide) ?_
  refine ro_pure (f := 19) («as» := [.pv (.int .i64 a.kind)]) (v := .tuple [lv, .pv (.bool bo)]) rfl (by simp [evalF, upd]) rfl (by
    unfold orS facts
    have := row_calls 10000 (d + 4) a.kind hp2
    rw [hrow] at this
    exact this) (by decide) ?_
  refine ro_move (by simp only [evalF, upd, arg0, argS, ofConst, ofCell, Nat.reduceEqDiff, reduceIte] <;> rfl) (by decide) ?_
  refine ro_extract (by simp only [evalF, upd, arg0, argS, ofConst, ofCell, Nat.reduceEqDiff, reduceIte] <;> rfl) (by exact (rfl)) (by decide) ?_
  refine ro_extract (by simp only [evalF, upd, arg0, argS, ofConst, ofCell, Nat.reduceEqDiff, reduceIte] <;> rfl) (by exact (rfl)) (by decide) ?_
  refine ro_assign (by simp only [evalF, upd, arg0, argS, ofConst, ofCell, Nat.reduceEqDiff, reduceIte] <;> rfl) (by decide) ?_
  refine ro_assign (by simp only [evalF, upd, arg0, argS, ofConst, ofCell, Nat.reduceEqDiff, reduceIte] <;> rfl) (by decide) ?_
  refine ro_nil ?_
  try simp only
  refine ex_seq (ex_region ?_)
  refine ro_fieldAddr (by simp only [evalF, upd, arg0, argS, ofConst, ofCell, Nat.reduceEqDiff, reduceIte] <;> rfl) (by exact (fa30_0 _ _ _)) (by decide) ?_
  refine ro_load (by simp only [evalF, upd, arg0, argS, ofConst, ofCell, Nat.reduceEqDiff, reduceIte] <;> rfl) (by exact (load1 ag3 h1 mc0)) (by decide) ?_
  refine ro_fieldAddr (by simp only [evalF, upd, arg0, argS, ofConst, ofCell, Nat.reduceEqDiff, reduceIte] <;> rfl) (by exact (fa30_0 _ _ _)) (by decide) ?_
  refine ro_load (by simp only [evalF, upd, arg0, argS, ofConst, ofCell, Nat.reduceEqDiff, reduceIte] <;> rfl) (by exact (load1 ag3 h2 mc0)) (by decide) ?_
  by_cases hk : a.kind = b.kind
  · refine ro_bin (by simp only [evalF, upd, arg0, argS, ofConst, ofCell, Nat.reduceEqDiff, reduceIte] <;> rfl) (by simp only [evalF, upd, arg0, argS, ofConst, ofCell, Nat.reduceEqDiff, reduceIte] <;> rfl) (by exact (eql_t hk)) (by decide) ?_
    refine ro_move (by simp only [evalF, upd, arg0, argS, ofConst, ofCell, Nat.reduceEqDiff, reduceIte] <;> rfl) (by decide) ?_
    refine ro_guard rfl (by simp only [evalF, upd, arg0, argS, ofConst, ofCell, Nat.reduceEqDiff, reduceIte] <;> rfl) rfl ?_
    refine ro_move (by simp only [evalF, upd, arg0, argS, ofConst, ofCell, Nat.reduceEqDiff, reduceIte] <;> rfl) (by decide) ?_
    refine ro_guard rfl (by simp only [evalF, upd, arg0, argS, ofConst, ofCell, Nat.reduceEqDiff, reduceIte] <;> rfl) rfl ?_
    refine ro_val (v := .clo 37 [.ptr nb 1 0, .ptr (nb + 1) 1 0]) rfl (by
      show some (Eff.val (.clo 37 (List.map (evalF _) [.tmp 2, .tmp 3]))) = _
      simp only [List.map_cons, List.map_nil, evalF, upd, Nat.reduceEqDiff, reduceIte]) (by decide) ?_
    refine ro_guard rfl (by simp only [evalF, upd, arg0, argS, ofConst, ofCell, Nat.reduceEqDiff, reduceIte] <;> rfl) rfl ?_
    refine ro_bool (f := 36) (xs := [lv, .clo 37 [.ptr nb 1 0, .ptr (nb + 1) 1 0]]) (r := !(((rowOf a.kind).getD []).all fun f => sameF a b f)) (by simp [calleeA, evalF, upd]) rfl (fun _ => contains36 d h8 h4 hlr t2 h1 h2 (by omega) (by omega)) (fun h => by simp [plainV] at h) (by decide) ?_
    intro hp3 nb3 ha3
    refine ro_guard rfl (by simp only [evalF, upd, arg0, argS, ofConst, ofCell, Nat.reduceEqDiff, reduceIte] <;> rfl) rfl ?_
    refine ro_un (by simp only [evalF, upd, arg0, argS, ofConst, ofCell, Nat.reduceEqDiff, reduceIte] <;> rfl) (by exact (show unOpA .not (.pv (.bool _)) = some (.pv (.bool (!!_))) from rfl)) (by decide) ?_
    refine ro_pick (by simp only [evalF, upd, arg0, argS, ofConst, ofCell, Nat.reduceEqDiff, reduceIte] <;> rfl) (by simp only [evalF, upd, arg0, argS, ofConst, ofCell, Nat.reduceEqDiff, reduceIte] <;> rfl) (by simp only [evalF, upd, arg0, argS, ofConst, ofCell, Nat.reduceEqDiff, reduceIte] <;> rfl) (by decide) ?_
    refine ro_assign (by simp only [evalF, upd, arg0, argS, ofConst, ofCell, Nat.reduceEqDiff, reduceIte] <;> rfl) (by decide) ?_
    refine ro_nil ?_
    try simp only
    refine ex_ret ?_
    refine ⟨_, rfl, ?_, after_nil ha ha3 (fun id h => by simp [ownOf] at h)⟩
    simp [upd, sameM, hk]
  · refine ro_bin (by simp only [evalF, upd, arg0, argS, ofConst, ofCell, Nat.reduceEqDiff, reduceIte] <;> rfl) (by simp only [evalF, upd, arg0, argS, ofConst, ofCell, Nat.reduceEqDiff, reduceIte] <;> rfl) (by exact (eql_f hk)) (by decide) ?_
    refine ro_move (by simp only [evalF, upd, arg0, argS, ofConst, ofCell, Nat.reduceEqDiff, reduceIte] <;> rfl) (by decide) ?_
    refine ro_skip rfl (by simp only [evalF, upd, arg0, argS, ofConst, ofCell, Nat.reduceEqDiff, reduceIte] <;> rfl) rfl (fun e he => by cases he; decide) ?_
    simp only [putF]
    refine ro_skip rfl (by simp only [evalF, upd, arg0, argS, ofConst, ofCell, Nat.reduceEqDiff, reduceIte] <;> rfl) rfl (fun e he => by cases he; decide) ?_
    simp only [putF]
    refine ro_skip rfl (by simp only [evalF, upd, arg0, argS, ofConst, ofCell, Nat.reduceEqDiff, reduceIte] <;> rfl) rfl (fun e he => by cases he; decide) ?_
    simp only [putF]
    refine ro_skip rfl (by simp only [evalF, upd, arg0, argS, ofConst, ofCell, Nat.reduceEqDiff, reduceIte] <;> rfl) rfl (fun e he => by cases he; decide) ?_
    simp only [putF]
    refine ro_pick (by simp only [evalF, upd, arg0, argS, ofConst, ofCell, Nat.reduceEqDiff, reduceIte] <;> rfl) (by simp only [evalF, upd, arg0, argS, ofConst, ofCell, Nat.reduceEqDiff, reduceIte] <;> rfl) (by simp only [evalF, upd, arg0, argS, ofConst, ofCell, Nat.reduceEqDiff, reduceIte] <;> rfl) (by decide) ?_
    refine ro_assign (by simp only [evalF, upd, arg0, argS, ofConst, ofCell, Nat.reduceEqDiff, reduceIte] <;> rfl) (by decide) ?_
    refine ro_nil ?_
    try simp only
    refine ex_ret ?_
    refine ⟨_, rfl, ?_, ha⟩
    simp [upd, sameM, hk, ofConst, ofCell, evalF]

theorem both18 (d : Nat) {hp : Hp} {nb : Nat} {a b : M} {L D L2 D2 : AV} (t : Two hp nb a b L D L2 D2) :
    (([.agg (mcells a L D), .agg (mcells b L2 D2)] : List AV).all plainV = false → CA (callA Try.prog facts plains 10000 (d + 6)) 18 [.agg (mcells a L D), .agg (mcells b L2 D2)] hp nb (BoolOk (sameM a b) hp nb)) ∧
    (([.agg (mcells a L D), .agg (mcells b L2 D2)] : List AV).all plainV = true → CA (callA Try.prog facts plains 10000 (d + 6)) 18 [.agg (mcells a L D), .agg (mcells b L2 D2)] (AI.hf []) 0 (BoolOk (sameM a b) (AI.hf []) 0)) :=
  ⟨fun _ => same18 d t, fun h => by
    simp only [List.all_cons, List.all_nil, Bool.and_true, Bool.and_eq_true] at h
    exact same18 d (t.plain h.1 h.2 _ _)⟩
end Go.Proofs.Ytlinbbjobjnipaa
