/- Reading: a message. -/
import Derived.Test.YtlinbbjobjnipaaP8
set_option linter.unusedVariables false
set_option linter.unusedSimpArgs false
set_option linter.unusedSectionVars false
namespace Go.Proofs.Ytlinbbjobjnipaa
open Go AI

set_option maxHeartbeats 4000000
set_option maxRecDepth 10000

def zcells : List AV := mcells zeroM (.pv .nilSlice) (.pv .nilSlice)

theorem bld30 : buildA Try.prog 30 [] = some (.agg zcells) := by kernel_rfl
theorem bld30k (k : Int) : buildA Try.prog 30 [(0, .pv (.int .i64 k))] = some (.agg (mcells { zeroM with kind := k } (.pv .nilSlice) (.pv .nilSlice))) := by kernel_rfl
theorem bld58 {hp : Hp} {nb : Nat} {v : AV} {l : List PV} (hr : Row hp nb v l) : buildA Try.prog 58 [(0, v)] = some (.agg [v, .pv (.int .i64 0)]) := by
  cases hr <;> kernel_rfl
theorem z_len : zcells.length = 40 := rfl
theorem z_all : zcells.all AV.isCell = true := by kernel_rfl
theorem z_ok (nb : Nat) : ∀ c ∈ zcells, okC nb c := ok_cells (okC_pv _ _) (okC_pv _ _)

theorem storeZ {hp : Hp} {id : Nat} {cs vs : List AV} (hl : AI.look hp id 1 = some cs) (hc : vs.all AV.isCell = true) (hn : vs.length = 40) (ho : cs.length = 40) : storeA Try.prog hp 30 (.ptr id 1 0) (.agg vs) = some (.upd undefA id (.cells 1 vs)) := by
  have h := storeN sz30 hl hc hn (off := 0) (by omega)
  have e : splice cs 0 vs = vs := by
    unfold splice
    rw [List.take_zero, List.nil_append, Nat.zero_add, List.drop_of_length_le (by omega), List.append_nil]
  rw [e] at h
  exact h

theorem loadZ {hp : Hp} {id : Nat} {cs : List AV} (hl : AI.look hp id 1 = some cs) (ho : cs.length = 40) : loadA Try.prog hp 30 (.ptr id 1 0) = some (.agg cs) := by
  rw [loadN ag30 sz30 hl (by omega), List.drop_zero, List.take_of_length_le (by omega)]

theorem res15 {g : Gm} {hp : Hp} {id : Nat} {cs : List AV} {e : Int} (h2 : g 2 = .ptr id 1 0) (h3 : g 3 = .pv (.int .i64 e)) (hl : AI.look hp id 1 = some cs) (ho : cs.length = 40) : resF Try.prog Try.f15 g hp = some (.tuple [.agg cs, .pv (.int .i64 e)]) := by
  show (([ResultVar.cell 2 30, ResultVar.tmp 3] : List ResultVar).mapM (resOneF Try.prog g hp)).map AV.tuple = _
  simp only [List.mapM_cons, List.mapM_nil, resOneF, h2, h3, loadZ hl ho]
  rfl

theorem after_put {hp hp1 : Hp} {nb nb1 id : Nat} {v : AV} {cs : List AV} (h : After hp nb v hp1 nb1) (hid : nb ≤ id) (hc : ∀ c ∈ cs, okC nb1 c) : After hp nb v (setHp hp1 id (.cells 1 cs)) nb1 :=
  ⟨h.1, fun j hj ho => by rw [show setHp hp1 id (.cells 1 cs) j = hp1 j by simp [setHp, show j ≠ id by omega]]; exact h.2.1 j hj ho, fun ht => tidy_put (h.2.2 ht) hc⟩

theorem after_box {hp hp1 : Hp} {nb nb1 : Nat} {cs : List AV} (h : After hp nb (.pv .nilSlice) hp1 nb1) (hc : ∀ c ∈ cs, okC nb1 c) : After hp nb (.pv .nilSlice) (setHp hp1 nb1 (.cells 1 cs)) (nb1 + 1) :=
  after_nil h (after_new hp1 nb1 (.pv .nilSlice) cs hc) (fun id h => by simp [ownOf] at h)

theorem fld_after {hp hp1 hp2 : Hp} {nb nb1 nb2 idm idr q : Nat} {m : M} {b : List Int} {e : Int} {v : AV} (h : After hp nb (.pv .nilSlice) hp1 nb1) (hq : nb ≤ q) (h2 : FldOk hp1 nb1 idm idr q m b e v hp2 nb2) : After hp nb (.pv .nilSlice) hp2 nb2 := by
  obtain ⟨_, _, _, a, b, c⟩ := h2
  exact ⟨Nat.le_trans h.1 a, fun id hid ho => (b id (by omega)).trans (h.2.1 id hid ho), fun ht => c (h.2.2 ht)⟩

theorem keep_after {hp hp1 hp2 : Hp} {nb nb1 nb2 idr : Nat} (h : After hp nb (.pv .nilSlice) hp1 nb1) (hq : nb ≤ idr) (h2 : KeepR hp1 nb1 idr hp2 nb2) : After hp nb (.pv .nilSlice) hp2 nb2 := by
  obtain ⟨a, b, c⟩ := h2
  exact ⟨Nat.le_trans h.1 (by omega), fun id hid ho => (b id (by omega)).trans (h.2.1 id hid ho), fun ht => c (h.2.2 ht)⟩

/-- What reading a message gives. -/
def ParseOk (b : List Int) (hp : Hp) (nb : Nat) (v : AV) (hp' : Hp) (nb' : Nat) : Prop :=
  After hp nb (.pv .nilSlice) hp' nb' ∧ match dec b with
    | .ok m => m.key.length = 32 ∧ ∃ L D, v = .tuple [.agg (mcells m L D), .pv (.int .i64 0)] ∧ Row hp' nb' L (ints m.list) ∧ Row hp' nb' D (u8s m.data) ∧ (∀ id, ownOf L = some id → nb ≤ id) ∧ (∀ id, ownOf D = some id → nb ≤ id)
    | .error e => v = .tuple [.agg zcells, .pv (.int .i64 e)]

theorem retNeeds : needs (regOf Try.f15 16) = [(4, 5)] := by kernel_rfl
theorem retStat : statOk (regOf Try.f15 16) = true := by kernel_rfl

def leftE (b : List Int) (e : Int) : Int := if (b.length : Int) > 0 then firstE e 9 else e

theorem dec_end {k : Int} {r : List Int} {fs : List Nat} (hr : rowOf k = some fs) (hb : ∀ x ∈ r, 0 ≤ x ∧ x ≤ 255) {m : M} {b : List Int} {e : Int} (h : fieldsS fs { zeroM with kind := k } r 0 = (m, b, e)) :
    (leftE b e = 0 → dec (k :: r) = .ok m) ∧ (leftE b e ≠ 0 → dec (k :: r) = .error (leftE b e)) := by
  have ha := fields_ok fs { zeroM with kind := k } r hb (row_nodup hr) (fun _ => rfl)
  rw [h] at ha
  have hd : dec (k :: r) = match fieldsR fs { zeroM with kind := k } r with
      | .ok (m, []) => .ok m
      | .ok (_, _ :: _) => .error 9
      | .error e => .error e := by
    rw [dec, hr]
    rfl
  cases hf : fieldsR fs { zeroM with kind := k } r with
  | ok p =>
    obtain ⟨m1, rest⟩ := p
    rw [hf] at ha hd
    have ha : (m, b, e) = (m1, rest, 0) := ha
    cases ha
    cases b with
    | nil => exact ⟨fun _ => hd, fun h => absurd rfl h⟩
    | cons y t =>
      have : leftE (y :: t) 0 = 9 := by
        unfold leftE
        rw [if_pos (by simp)]
        rfl
      rw [this]
      exact ⟨fun h => absurd h (by decide), fun _ => hd⟩
  | error x =>
    rw [hf] at ha hd
    obtain ⟨h1, h2⟩ := ha
    have h1 : e = x := h1
    subst h1
    have : leftE b e = e := by
      unfold leftE
      by_cases hh : (b.length : Int) > 0
      · rw [if_pos hh, firstE, if_neg h2]
      · rw [if_neg hh]
    rw [this]
    exact ⟨fun h => absurd h h2, fun _ => hd⟩

theorem parse_calls (d : Nat) {hp : Hp} {nb : Nat} {v : AV} {b : List Int} (hb : ∀ x ∈ b, 0 ≤ x ∧ x ≤ 255) (hr : Row hp nb v (u8s b)) :
    CA (callA Try.prog facts plains 10000 (d + 6)) 15 [v] hp nb (ParseOk b hp nb) := by
  have hlen : (u8s b).length = b.length := by simp [u8s]
  refine ca_body (fn := Try.f15) (c := bodyOf Try.f15) Try.func15 rfl (by show 1 ≤ 61; omega) ?_
  show EX _ _ _ _ _ 61 _ _ _ _ _
  unfold bodyOf Try.f15
  refine ex_seq (ex_region ?_)
  refine ro_alloc zero30 (by kernel_rfl) (by decide) ?_
  refine ro_assign (by simp only [evalF, upd, arg0, argS, ofConst, ofCell, Nat.reduceEqDiff, reduceIte] <;> rfl) (by decide) ?_
  refine ro_nil ?_
  try simp only
  have ha0 : After hp nb (.pv .nilSlice) (setHp hp nb (.cells 1 zcells)) (nb + 1) := after_new hp nb _ _ (z_ok _)
  have hl0 : AI.look (setHp hp nb (.cells 1 zcells)) nb 1 = some zcells := look_same _ _ _ _
  have hr0 : Row (setHp hp nb (.cells 1 zcells)) (nb + 1) v (u8s b) := hr.keep (Nat.le_succ _) (fun id hid _ => by simp [setHp, show id ≠ nb by omega])
  show EX _ _ _ _ _ 61 _ _ (setHp hp nb (.cells 1 zcells)) _ _
  generalize setHp hp nb (.cells 1 zcells) = hp1 at ha0 hl0 hr0 ⊢
  refine ex_seq (ex_seq (ex_region ?_))
  refine ro_move (by simp only [evalF, upd, arg0, argS, ofConst, ofCell, Nat.reduceEqDiff, reduceIte] <;> rfl) (by decide) ?_
  refine ro_builtin rfl (by simp only [List.map_cons, List.map_nil, evalF, upd, arg0, argS, ofConst, ofCell, Nat.reduceEqDiff, reduceIte] <;> rfl) (by exact (row_len st27 hr0)) (by decide) ?_
  refine ro_bin (by simp only [evalF, upd, arg0, argS, ofConst, ofCell, Nat.reduceEqDiff, reduceIte] <;> rfl) (by simp only [evalF, upd, arg0, argS, ofConst, ofCell, Nat.reduceEqDiff, reduceIte] <;> rfl) (by exact (eql_v)) (by decide) ?_
  refine ro_nil ?_
  try simp only
  cases b with
  | nil =>
    refine ex_cond (t := true) (by simp only [evalF, upd, arg0, argS, ofConst, ofCell, Nat.reduceEqDiff, reduceIte] <;> rfl) (fun _ => ?_) (fun h => by simp at h)
    refine ex_seq (ex_region ?_)
    refine ro_build rfl bld30 (by decide) ?_
    refine ro_store (by simp only [evalF, upd, arg0, argS, ofConst, ofCell, Nat.reduceEqDiff, reduceIte] <;> rfl) (by simp only [evalF, upd, arg0, argS, ofConst, ofCell, Nat.reduceEqDiff, reduceIte] <;> rfl) (storeZ hl0 z_all z_len z_len) ?_
    refine ro_assign (by simp only [evalF, upd, arg0, argS, ofConst, ofCell, Nat.reduceEqDiff, reduceIte] <;> rfl) (by decide) ?_
    refine ro_nil ?_
    try simp only
    refine ex_ret ?_
    refine ⟨_, res15 (id := nb) (by simp [upd]) (e := 8) (by simp [upd]) (look_same _ _ _ _) z_len, after_put ha0 (Nat.le_refl _) (z_ok _), rfl⟩
  | cons k r =>
    have hk := hb k List.mem_cons_self
    have hbr : ∀ x ∈ r, 0 ≤ x ∧ x ≤ 255 := fun x h => hb x (List.mem_cons_of_mem _ h)
    obtain ⟨a, hra, hla⟩ := row_at st27 hr0 (i := 0) (x := .int .u8 k) rfl
    refine ex_cond (t := false) (by simp only [evalF, upd, Nat.reduceEqDiff, reduceIte, hlen]; simp; omega) (fun h => by simp at h) (fun _ => ex_skip ?_)
    try simp only
    refine ex_seq (ex_region ?_)
    refine ro_move (by simp only [evalF, upd, arg0, argS, ofConst, ofCell, Nat.reduceEqDiff, reduceIte] <;> rfl) (by decide) ?_
    refine ro_indexAddr (by simp only [evalF, upd, arg0, argS, ofConst, ofCell, Nat.reduceEqDiff, reduceIte] <;> rfl) (by simp only [evalF, upd, arg0, argS, ofConst, ofCell, Nat.reduceEqDiff, reduceIte] <;> rfl) (by exact (show indexAddrA Try.prog 27 v (.pv (.int .i64 0)) = some a from hra)) (by decide) ?_
    refine ro_load (by simp only [evalF, upd, arg0, argS, ofConst, ofCell, Nat.reduceEqDiff, reduceIte] <;> rfl) (by exact (hla)) (by decide) ?_
    refine ro_conv (by simp only [evalF, upd, arg0, argS, ofConst, ofCell, Nat.reduceEqDiff, reduceIte] <;> rfl) (by exact (conv53 k hk _ _)) (by decide) ?_
    refine ro_build (by simp only [List.map_cons, List.map_nil, evalF, upd, Nat.reduceEqDiff, reduceIte]) (bld30k k) (by decide) ?_
    refine ro_alloc zero30 (by kernel_rfl) (by decide) ?_
    refine ro_store (by simp only [evalF, upd, arg0, argS, ofConst, ofCell, Nat.reduceEqDiff, reduceIte] <;> rfl) (by simp only [evalF, upd, arg0, argS, ofConst, ofCell, Nat.reduceEqDiff, reduceIte] <;> rfl) (storeZ (look_same _ _ _ _) (mc_all rfl rfl) rfl rfl) ?_
    refine ro_nil ?_
    try simp only
    have ha1 := after_put (after_box ha0 (z_ok (nb + 1))) (id := nb + 1) (by omega) (cs := mcells { zeroM with kind := k } (.pv .nilSlice) (.pv .nilSlice)) (ok_cells (okC_pv _ _) (okC_pv _ _))
    have hl1 : AI.look (setHp (setHp hp1 (nb + 1) (.cells 1 zcells)) (nb + 1) (.cells 1 (mcells { zeroM with kind := k } (.pv .nilSlice) (.pv .nilSlice)))) nb 1 = some zcells := by
      rw [look_ne _ _ _ (by omega), look_ne _ _ _ (by omega)]; exact hl0
    have hm1 : AI.look (setHp (setHp hp1 (nb + 1) (.cells 1 zcells)) (nb + 1) (.cells 1 (mcells { zeroM with kind := k } (.pv .nilSlice) (.pv .nilSlice)))) (nb + 1) 1 = some (mcells { zeroM with kind := k } (.pv .nilSlice) (.pv .nilSlice)) := look_same _ _ _ _
    have hr1 : Row (setHp (setHp hp1 (nb + 1) (.cells 1 zcells)) (nb + 1) (.cells 1 (mcells { zeroM with kind := k } (.pv .nilSlice) (.pv .nilSlice)))) (nb + 1 + 1) v (u8s (k :: r)) := hr0.keep (Nat.le_succ _) (fun id hid _ => by simp [setHp, show id ≠ nb + 1 by omega])
    show EX _ _ _ _ _ 61 _ _ (setHp (setHp hp1 (nb + 1) (.cells 1 zcells)) (nb + 1) (.cells 1 (mcells { zeroM with kind := k } (.pv .nilSlice) (.pv .nilSlice)))) _ _
    generalize setHp (setHp hp1 (nb + 1) (.cells 1 zcells)) (nb + 1) (.cells 1 (mcells { zeroM with kind := k } (.pv .nilSlice) (.pv .nilSlice))) = hp2 at ha1 hl1 hm1 hr1 ⊢
    cases hrow : rowOf k with
    | none =>
      refine ex_seq (ex_region ?_)
      refine ro_fieldAddr (by simp only [evalF, upd, arg0, argS, ofConst, ofCell, Nat.reduceEqDiff, reduceIte] <;> rfl) (by exact (fa30_0 _ _ _)) (by decide) ?_
      refine ro_load (by simp only [evalF, upd, arg0, argS, ofConst, ofCell, Nat.reduceEqDiff, reduceIte] <;> rfl) (by exact (load1 ag3 hm1 mc0)) (by decide) ?_
      refine ro_pure (f := 19) («as» := [.pv (.int .i64 k)]) (v := .tuple [.pv .nilSlice, .pv (.bool false)]) rfl (by simp [evalF, upd]) rfl (by
        unfold orS facts
        have := row_calls 10000 (d + 4) k hp2
        unfold rowV at this
        rw [hrow] at this
        exact this) (by decide) ?_
      refine ro_move (by simp only [evalF, upd, arg0, argS, ofConst, ofCell, Nat.reduceEqDiff, reduceIte] <;> rfl) (by decide) ?_
      refine ro_extract (by simp only [evalF, upd, arg0, argS, ofConst, ofCell, Nat.reduceEqDiff, reduceIte] <;> rfl) (by exact (rfl)) (by decide) ?_
      refine ro_extract (by simp only [evalF, upd, arg0, argS, ofConst, ofCell, Nat.reduceEqDiff, reduceIte] <;> rfl) (by exact (rfl)) (by decide) ?_
      refine ro_assign (by simp only [evalF, upd, arg0, argS, ofConst, ofCell, Nat.reduceEqDiff, reduceIte] <;> rfl) (by decide) ?_
      refine ro_assign (by simp only [evalF, upd, arg0, argS, ofConst, ofCell, Nat.reduceEqDiff, reduceIte] <;> rfl) (by decide) ?_
      refine ro_nil ?_
      try simp only
      refine ex_seq (ex_seq (ex_region ?_))
      refine ro_move (by simp only [evalF, upd, arg0, argS, ofConst, ofCell, Nat.reduceEqDiff, reduceIte] <;> rfl) (by decide) ?_
      refine ro_un (by simp only [evalF, upd, arg0, argS, ofConst, ofCell, Nat.reduceEqDiff, reduceIte] <;> rfl) (by exact (show unOpA .not (.pv (.bool false)) = some (.pv (.bool true)) from rfl)) (by decide) ?_
      refine ro_nil ?_
      try simp only
      refine ex_cond (t := true) (by simp only [evalF, upd, arg0, argS, ofConst, ofCell, Nat.reduceEqDiff, reduceIte] <;> rfl) (fun _ => ?_) (fun h => by simp at h)
      refine ex_seq (ex_region ?_)
      refine ro_build rfl bld30 (by decide) ?_
      refine ro_store (by simp only [evalF, upd, arg0, argS, ofConst, ofCell, Nat.reduceEqDiff, reduceIte] <;> rfl) (by simp only [evalF, upd, arg0, argS, ofConst, ofCell, Nat.reduceEqDiff, reduceIte] <;> rfl) (storeZ hl1 z_all z_len z_len) ?_
      refine ro_assign (by simp only [evalF, upd, arg0, argS, ofConst, ofCell, Nat.reduceEqDiff, reduceIte] <;> rfl) (by decide) ?_
      refine ro_nil ?_
      try simp only
      refine ex_ret ?_
      refine ⟨_, res15 (id := nb) (by simp [upd]) (e := 3) (by simp [upd]) (look_same _ _ _ _) z_len, after_put ha1 (Nat.le_refl _) (z_ok _), ?_⟩
      rw [dec, hrow]
    | some fs =>
      obtain ⟨hfs8, hfs4⟩ := row_small hrow
      obtain ⟨lv, hlv, hlr⟩ := rowV_some hrow
      obtain ⟨v2, s2, r2, o2⟩ := row_slice st27 hr1 (lo := 1) (hi := r.length + 1) (lv := some (.pv (.int .i64 (1 : Nat)))) (hv := none) (.inl rfl) (.inr ⟨rfl, by simp [u8s]⟩) (by omega) (by simp [u8s])
      have e2 : ((u8s (k :: r)).drop 1).take (r.length + 1 - 1) = u8s r := by simp [u8s, List.take_of_length_le]
      rw [e2] at r2
      refine ex_seq (ex_region ?_)
      refine ro_fieldAddr (by simp only [evalF, upd, arg0, argS, ofConst, ofCell, Nat.reduceEqDiff, reduceIte] <;> rfl) (by exact (fa30_0 _ _ _)) (by decide) ?_
      refine ro_load (by simp only [evalF, upd, arg0, argS, ofConst, ofCell, Nat.reduceEqDiff, reduceIte] <;> rfl) (by exact (load1 ag3 hm1 mc0)) (by decide) ?_
      refine ro_pure (f := 19) («as» := [.pv (.int .i64 k)]) (v := .tuple [lv, .pv (.bool true)]) rfl (by simp [evalF, upd]) rfl (by
        unfold orS facts
        have := row_calls 10000 (d + 4) k hp2
        rw [hlv] at this
        exact this) (by decide) ?_
      refine ro_move (by simp only [evalF, upd, arg0, argS, ofConst, ofCell, Nat.reduceEqDiff, reduceIte] <;> rfl) (by decide) ?_
      refine ro_extract (by simp only [evalF, upd, arg0, argS, ofConst, ofCell, Nat.reduceEqDiff, reduceIte] <;> rfl) (by exact (rfl)) (by decide) ?_
      refine ro_extract (by simp only [evalF, upd, arg0, argS, ofConst, ofCell, Nat.reduceEqDiff, reduceIte] <;> rfl) (by exact (rfl)) (by decide) ?_
      refine ro_assign (by simp only [evalF, upd, arg0, argS, ofConst, ofCell, Nat.reduceEqDiff, reduceIte] <;> rfl) (by decide) ?_
      refine ro_assign (by simp only [evalF, upd, arg0, argS, ofConst, ofCell, Nat.reduceEqDiff, reduceIte] <;> rfl) (by decide) ?_
      refine ro_nil ?_
      try simp only
      refine ex_seq (ex_seq (ex_region ?_))
      refine ro_move (by simp only [evalF, upd, arg0, argS, ofConst, ofCell, Nat.reduceEqDiff, reduceIte] <;> rfl) (by decide) ?_
      refine ro_un (by simp only [evalF, upd, arg0, argS, ofConst, ofCell, Nat.reduceEqDiff, reduceIte] <;> rfl) (by exact (show unOpA .not (.pv (.bool true)) = some (.pv (.bool false)) from rfl)) (by decide) ?_
      refine ro_nil ?_
      try simp only
      refine ex_cond (t := false) (by simp only [evalF, upd, arg0, argS, ofConst, ofCell, Nat.reduceEqDiff, reduceIte] <;> rfl) (fun h => by simp at h) (fun _ => ex_skip ?_)
      try simp only
      refine ex_seq (ex_region ?_)
      refine ro_move (by simp only [evalF, upd, arg0, argS, ofConst, ofCell, Nat.reduceEqDiff, reduceIte] <;> rfl) (by decide) ?_
      refine ro_slice (by simp only [evalF, upd, arg0, argS, ofConst, ofCell, Nat.reduceEqDiff, reduceIte] <;> rfl) (by simp only [Option.map_some, evalF, ofConst, ofCell]; rfl) rfl rfl s2 (by decide) ?_
      refine ro_build (by simp only [List.map_cons, List.map_nil, evalF, upd, Nat.reduceEqDiff, reduceIte]) (bld58 r2) (by decide) ?_
      refine ro_box (v := .agg [v2, .pv (.int .i64 0)]) (by simp only [evalF, upd, arg0, argS, ofConst, ofCell, Nat.reduceEqDiff, reduceIte] <;> rfl) (by simp only [AV.cells, List.all_cons, (row_cell r2).1]; rfl) (by decide) ?_
      refine ro_assign (by simp only [evalF, upd, arg0, argS, ofConst, ofCell, Nat.reduceEqDiff, reduceIte] <;> rfl) (by decide) ?_
      refine ro_nil ?_
      try simp only
      have ha2 := after_box ha1 (cs := [v2, .pv (.int .i64 0)]) (fun c hc => by
        simp at hc
        rcases hc with rfl | rfl
        · exact row_ok' r2
        · exact okC_pv _ _)
      have hother : ∀ id, id < nb + 1 + 1 → setHp hp2 (nb + 1 + 1) (.cells 1 [v2, .pv (.int .i64 0)]) id = hp2 id := fun id h => by simp [setHp, show id ≠ nb + 1 + 1 by omega]
      have hl2 : AI.look (setHp hp2 (nb + 1 + 1) (.cells 1 [v2, .pv (.int .i64 0)])) nb 1 = some zcells := by rw [look_at 1 (hother nb (by omega))]; exact hl1
      have hm2 : AI.look (setHp hp2 (nb + 1 + 1) (.cells 1 [v2, .pv (.int .i64 0)])) (nb + 1) 1 = some (mcells { zeroM with kind := k } (.pv .nilSlice) (.pv .nilSlice)) := by rw [look_at 1 (hother (nb + 1) (by omega))]; exact hm1
      have hov : ∀ id, ownOf v2 = some id → id < nb + 1 := fun id h => Nat.lt_succ_of_lt (row_own hr (o2 _ h))
      have hrd2 : Rd (setHp hp2 (nb + 1 + 1) (.cells 1 [v2, .pv (.int .i64 0)])) (nb + 1 + 1 + 1) (nb + 1 + 1) (nb + 1) r 0 := ⟨by omega, by omega, v2, look_same _ _ _ _, r2.keep (by omega) (fun id hid ho => hother id (by have := hov id ho; omega)), hov⟩
      have hpm2 : Pm (setHp hp2 (nb + 1 + 1) (.cells 1 [v2, .pv (.int .i64 0)])) (nb + 1 + 1 + 1) (nb + 1) (nb + 1 + 1) (nb + 1) { zeroM with kind := k } := ⟨by omega, by omega, by omega, rfl, .pv .nilSlice, .pv .nilSlice, hm2, .nil, .nil, fun id h => by simp [ownOf] at h, fun id h => by simp [ownOf] at h⟩
      show EX _ _ _ _ _ 61 _ _ (setHp hp2 (nb + 1 + 1) (.cells 1 [v2, .pv (.int .i64 0)])) _ _
      generalize setHp hp2 (nb + 1 + 1) (.cells 1 [v2, .pv (.int .i64 0)]) = hp3 at ha2 hl2 hm2 hrd2 hpm2 ⊢
      have hf0 : FldOk hp3 (nb + 1 + 1 + 1) (nb + 1) (nb + 1 + 1) (nb + 1) { zeroM with kind := k } r 0 (.tuple []) hp3 (nb + 1 + 1 + 1) := ⟨rfl, hpm2, hrd2, Nat.le_refl _, fun _ _ => rfl, fun h => h⟩
      refine ex_seq ?_
      refine ex_seq (ex_region ?_)
      refine ro_move (by simp only [evalF, upd, arg0, argS, ofConst, ofCell, Nat.reduceEqDiff, reduceIte] <;> rfl) (by decide) ?_
      refine ro_builtin rfl (by simp only [List.map_cons, List.map_nil, evalF, upd, arg0, argS, ofConst, ofCell, Nat.reduceEqDiff, reduceIte] <;> rfl) (by exact (row_len st24 (hlr hp3 (nb + 1 + 1 + 1)))) (by decide) ?_
      refine ro_move (by simp only [evalF, upd, arg0, argS, ofConst, ofCell, Nat.reduceEqDiff, reduceIte] <;> rfl) (by decide) ?_
      refine ro_nil ?_
      try simp only
      refine ex_block (ex_loop (I := fun j g hpx nbx => ∃ (i : Nat) (m' : M) (b' : List Int) (e' : Int), j = fs.length - i ∧ i ≤ fs.length ∧ g 2 = .ptr nb 1 0 ∧ g 4 = .ptr (nb + 1) 1 0 ∧ g 7 = .ptr (nb + 1 + 1) 1 0 ∧ g 32 = lv ∧ g 33 = .pv (.int .i64 fs.length) ∧ g 34 = .pv (.int .i64 i) ∧
        FldOk hp3 (nb + 1 + 1 + 1) (nb + 1) (nb + 1 + 1) (nb + 1) m' b' e' (.tuple []) hpx nbx ∧ (∀ x ∈ b', 0 ≤ x ∧ x ≤ 255) ∧ m'.list.length ≤ i * 10 ∧ fieldsS fs { zeroM with kind := k } r 0 = fieldsS (fs.drop i) m' b' e')
        (m := fs.length) ⟨0, _, r, 0, rfl, Nat.zero_le _, by simp [upd], by simp [upd], by simp [upd], by simp [upd], by simp [upd, ints], by simp [upd], hf0, hbr, by simp [zeroM], rfl⟩ (by omega) ?_)
      rintro j g hpx nbx ⟨i, m', b', e', hjj, hi, h2, h4, h7, h32, h33, h34, hfo, hbb, hml, hfe⟩
      refine ex_seq (ex_region ?_)
      refine ro_bin (by simp only [evalF, upd, arg0, argS, ofConst, ofCell, Nat.reduceEqDiff, reduceIte, h2, h4, h7, h32, h33, h34] <;> rfl) (by simp only [evalF, upd, arg0, argS, ofConst, ofCell, Nat.reduceEqDiff, reduceIte, h2, h4, h7, h32, h33, h34] <;> rfl) (by exact (lss_v)) (by decide) ?_
      refine ro_nil ?_
      try simp only
      refine ex_seq (ex_cond (t := decide ((i : Int) < fs.length)) (by simp only [evalF, upd, arg0, argS, ofConst, ofCell, Nat.reduceEqDiff, reduceIte, h2, h4, h7, h32, h33, h34] <;> rfl) (fun ht => ?_) (fun ht => ?_))
      rotate_left
      · have hie : i = fs.length := by
          have := of_decide_eq_false ht
          omega
        rw [hie, List.drop_length] at hfe
        have hfe : fieldsS fs { zeroM with kind := k } r 0 = (m', b', e') := hfe
        obtain ⟨hd1, hd2⟩ := dec_end hrow hbr hfe
        have hax := fld_after ha2 (by omega) hfo
        have hlx : AI.look hpx nb 1 = some zcells := by rw [look_at 1 (hfo.2.2.2.2.1 nb (by omega))]; exact hl2
        obtain ⟨_, hpm, hrd, _⟩ := hfo
        obtain ⟨vr, hlr1, hrr, hor⟩ := hrd.ex
        have hbl : (u8s b').length = b'.length := by simp [u8s]
        refine ex_exit ?_
        simp only [if_true]
        refine ex_seq (ex_weaken (K := fun xa g' hp' nb' => xa = .normal ∧ g' 2 = .ptr nb 1 0 ∧ g' 4 = .ptr (nb + 1) 1 0 ∧ g' 7 = .ptr (nb + 1 + 1) 1 0 ∧ Rd hp' nb' (nb + 1 + 1) (nb + 1) b' (leftE b' e') ∧ KeepR hpx nbx (nb + 1 + 1) hp' nb') ?_ ?_)
        · refine ex_seq (ex_region ?_)
          refine ro_move (by simp only [evalF, upd, arg0, argS, ofConst, ofCell, Nat.reduceEqDiff, reduceIte, h2, h4, h7, h32, h33, h34] <;> rfl) (by decide) ?_
          refine ro_nilCheck (by simp only [evalF, upd, arg0, argS, ofConst, ofCell, Nat.reduceEqDiff, reduceIte, h2, h4, h7, h32, h33, h34] <;> rfl) (by decide) ?_
          refine ro_fieldAddr (by simp only [evalF, upd, arg0, argS, ofConst, ofCell, Nat.reduceEqDiff, reduceIte, h2, h4, h7, h32, h33, h34] <;> rfl) (by exact (fa58_0 _ _ _)) (by decide) ?_
          refine ro_load (by simp only [evalF, upd, arg0, argS, ofConst, ofCell, Nat.reduceEqDiff, reduceIte, h2, h4, h7, h32, h33, h34] <;> rfl) (by exact (load1 ag27 hlr1 rfl)) (by decide) ?_
          refine ro_builtin rfl (by simp only [List.map_cons, List.map_nil, evalF, upd, arg0, argS, ofConst, ofCell, Nat.reduceEqDiff, reduceIte, h2, h4, h7, h32, h33, h34] <;> rfl) (by exact (row_len st27 hrr)) (by decide) ?_
          refine ro_bin (by simp only [evalF, upd, arg0, argS, ofConst, ofCell, Nat.reduceEqDiff, reduceIte, h2, h4, h7, h32, h33, h34] <;> rfl) (by simp only [evalF, upd, arg0, argS, ofConst, ofCell, Nat.reduceEqDiff, reduceIte, h2, h4, h7, h32, h33, h34] <;> rfl) (by exact (gtr_v)) (by decide) ?_
          refine ro_nil ?_
          try simp only
          refine ex_cond (t := decide ((b'.length : Int) > 0)) (by simp only [evalF, upd, Nat.reduceEqDiff, reduceIte, hbl]) (fun ht2 => ?_) (fun ht2 => ?_)
          · refine ex_region ?_
            refine ro_move (by simp only [evalF, upd, arg0, argS, ofConst, ofCell, Nat.reduceEqDiff, reduceIte, h2, h4, h7, h32, h33, h34] <;> rfl) (by decide) ?_
            refine ro_call (f := 27) («as» := [.ptr (nb + 1 + 1) 1 0, .pv (.int .i64 9)]) rfl (by simp [evalF, upd, h7, ofConst, ofCell]) plains_27 rfl (fail_calls facts plains 10000 (d + 4) 9 hrd) (by decide) ?_
            rintro v5 hp5 nb5 ⟨_, hr5, hk5⟩
            obtain rfl := hk5.1
            refine ro_nil ?_
            refine ⟨by first | rfl | trivial, by simp [upd, h2], by simp [upd, h4], by simp [upd, h7], ?_, hk5⟩
            rw [leftE, if_pos (of_decide_eq_true ht2)]
            exact hr5
          · refine ex_skip ?_
            refine ⟨by first | rfl | trivial, by simp [upd, h2], by simp [upd, h4], by simp [upd, h7], ?_, keepR_refl _ _ _⟩
            rw [leftE, if_neg (of_decide_eq_false ht2)]
            exact hrd
        rintro xa gm hp5 nb5 ⟨rfl, h2, h4, h7, hrd5, hk5⟩
        obtain rfl := hk5.1
        try simp only
        have hpm5 := pm_keepR hpm hk5
        have hax5 := keep_after hax (by omega) hk5
        have hlx5 : AI.look hp5 nb 1 = some zcells := by rw [look_at 1 (hk5.2.1 nb (by omega))]; exact hlx
        obtain ⟨vr5, hlr5, hrr5, hor5⟩ := hrd5.ex
        obtain ⟨L, D, g1, g2, g3, g4, g5⟩ := hpm5.ex
        generalize leftE b' e' = ee at *
        have hld5 : loadA Try.prog hp5 28 (.ptr (nb + 1 + 1) 1 (0 + 1)) = some (.pv (.int .i64 ee)) := load1 ag28 hlr5 rfl
        refine ex_seq (ex_seq (ex_region ?_))
        refine ro_move (by simp only [evalF, upd, arg0, argS, ofConst, ofCell, Nat.reduceEqDiff, reduceIte, h2, h4, h7] <;> rfl) (by decide) ?_
        refine ro_nilCheck (by simp only [evalF, upd, arg0, argS, ofConst, ofCell, Nat.reduceEqDiff, reduceIte, h2, h4, h7] <;> rfl) (by decide) ?_
        refine ro_fieldAddr (by simp only [evalF, upd, arg0, argS, ofConst, ofCell, Nat.reduceEqDiff, reduceIte, h2, h4, h7] <;> rfl) (by exact (fa58_1 _ _ _)) (by decide) ?_
        refine ro_load (by simp only [evalF, upd, arg0, argS, ofConst, ofCell, Nat.reduceEqDiff, reduceIte, h2, h4, h7] <;> rfl) (by exact (hld5)) (by decide) ?_
        refine ro_bin (by simp only [evalF, upd, arg0, argS, ofConst, ofCell, Nat.reduceEqDiff, reduceIte, h2, h4, h7] <;> rfl) (by simp only [evalF, upd, arg0, argS, ofConst, ofCell, Nat.reduceEqDiff, reduceIte, h2, h4, h7] <;> rfl) (by exact (neq_v)) (by decide) ?_
        refine ro_nil ?_
        try simp only
        refine ex_cond (t := ee != 0) (by simp only [evalF, upd, arg0, argS, ofConst, ofCell, Nat.reduceEqDiff, reduceIte, h2, h4, h7] <;> rfl) (fun ht2 => ?_) (fun ht2 => ?_)
        · have hee : ee ≠ 0 := by simpa using ht2
          refine ex_seq (ex_draw retStat ?_)
          refine rd_val (v := .agg zcells) rfl (by
            show (buildA Try.prog 30 []).map Eff.val = _
            rw [bld30]
            rfl) (by decide) ?_
          refine rd_val (v := .ptr (nb + 1 + 1) 1 0) rfl (by simp [primA, evalF, upd, h7]) (by decide) ?_
          refine rd_val (v := .ptr (nb + 1 + 1) 1 0) rfl (by simp [primA, evalF, upd]) (by decide) ?_
          refine rd_val (v := .ptr (nb + 1 + 1) 1 (0 + 1)) rfl (by simp only [primA, evalF, upd, Nat.reduceEqDiff, reduceIte, fa58_1, Option.map_some]) (by decide) ?_
          refine rd_val (v := .pv (.int .i64 ee)) rfl (by simp only [primA, evalF, upd, Nat.reduceEqDiff, reduceIte, hld5, Option.map_some]) (by decide) ?_
          refine rd_upd (dst := none) (v := undefA) rfl (by simp only [primA, evalF, upd, Nat.reduceEqDiff, reduceIte, h2]; exact storeZ hlx5 z_all z_len z_len) (look_live hlx5) (fun e he => by cases he) ?_
          refine rd_val (v := .pv (.int .i64 ee)) rfl (by simp [primA, evalF, upd, putF]) (by decide) ?_
          refine rd_nil ⟨dyn_of rfl (fun p hp' => ?_), ?_⟩
          · have hp'' : p ∈ needs (regOf Try.f15 16) := hp'
            rw [retNeeds] at hp''
            simp only [List.mem_cons, List.not_mem_nil, or_false] at hp''
            subst hp''
            intro x y hx hy
            cases hx; cases hy
            simp [heapPart, footF, Chg.isAll, Chg.ids, disjointL, looksIn, Op.operands, evalF, upd, idOf, heapful]
            omega
          try simp only
          refine ex_ret ?_
          refine ⟨_, res15 (id := nb) (by simp [upd, putF, h2]) (e := ee) (by simp [upd, putF]) (look_same _ _ _ _) z_len, after_put hax5 (Nat.le_refl _) (z_ok _), ?_⟩
          rw [hd2 hee]
        · have hee : ee = 0 := by simpa using ht2
          refine ex_skip ?_
          try simp only
          refine ex_seq (ex_region ?_)
          refine ro_load (by simp only [evalF, upd, arg0, argS, ofConst, ofCell, Nat.reduceEqDiff, reduceIte, h2, h4, h7] <;> rfl) (loadZ g1 (mc_length hpm5.key)) (by decide) ?_
          refine ro_store (by simp only [evalF, upd, arg0, argS, ofConst, ofCell, Nat.reduceEqDiff, reduceIte, h2, h4, h7] <;> rfl) (by simp only [evalF, upd, arg0, argS, ofConst, ofCell, Nat.reduceEqDiff, reduceIte, h2, h4, h7] <;> rfl) (storeZ hlx5 (mc_all (row_cell g2.row).1 (row_cell g3).1) (mc_length hpm5.key) z_len) ?_
          refine ro_assign (by simp only [evalF, upd, arg0, argS, ofConst, ofCell, Nat.reduceEqDiff, reduceIte, h2, h4, h7] <;> rfl) (by decide) ?_
          refine ro_nil ?_
          try simp only
          refine ex_ret ?_
          have hk' : ∀ id, id ≠ nb → setHp hp5 nb (.cells 1 (mcells m' L D)) id = hp5 id := fun id h => by simp [setHp, h]
          refine ⟨_, res15 (id := nb) (by simp [upd, h2]) (e := 0) (by simp [upd]) (look_same _ _ _ _) (mc_length hpm5.key), after_put hax5 (Nat.le_refl _) (ok_cells (grow_okC g2) (row_ok' g3)), ?_⟩
          rw [hd1 hee]
          exact ⟨hpm5.key, L, D, rfl, g2.row.keep (Nat.le_refl _) (fun id hid ho => hk' id (by have := (g4 id ho).1; omega)), g3.keep (Nat.le_refl _) (fun id hid ho => hk' id (by have := (g5 id ho).1; omega)), fun id ho => by have := (g4 id ho).1; omega, fun id ho => by have := (g5 id ho).1; omega⟩
      refine ex_skip ?_
      try simp only
      have hil : i < fs.length := by
        have := of_decide_eq_true ht
        omega
      have hgi : (ints (fs.map Int.ofNat))[i]? = some (.int .i64 (fs[i] : Nat)) := by
        unfold ints
        rw [List.getElem?_map, List.getElem?_map, List.getElem?_eq_getElem hil]
        rfl
      obtain ⟨a, ha, hla⟩ := row_at st24 (hlr hpx nbx) hgi
      obtain ⟨_, hpm, hrd, _⟩ := id hfo
      have hdrop : fs.drop i = fs[i] :: fs.drop (i + 1) := List.drop_eq_getElem_cons hil
      rw [hdrop, fieldsS] at hfe
      refine ex_seq (ex_block ?_)
      refine ex_seq (ex_region ?_)
      refine ro_indexAddr (by simp only [evalF, upd, arg0, argS, ofConst, ofCell, Nat.reduceEqDiff, reduceIte, h2, h4, h7, h32, h33, h34] <;> rfl) (by simp only [evalF, upd, arg0, argS, ofConst, ofCell, Nat.reduceEqDiff, reduceIte, h2, h4, h7, h32, h33, h34] <;> rfl) (by exact (ha)) (by decide) ?_
      refine ro_load (by simp only [evalF, upd, arg0, argS, ofConst, ofCell, Nat.reduceEqDiff, reduceIte, h2, h4, h7, h32, h33, h34] <;> rfl) (by exact (hla)) (by decide) ?_
      refine ro_assign (by simp only [evalF, upd, arg0, argS, ofConst, ofCell, Nat.reduceEqDiff, reduceIte, h2, h4, h7, h32, h33, h34] <;> rfl) (by decide) ?_
      refine ro_nil ?_
      try simp only
      refine ex_region ?_
      refine ro_move (by simp only [evalF, upd, arg0, argS, ofConst, ofCell, Nat.reduceEqDiff, reduceIte, h2, h4, h7, h32, h33, h34] <;> rfl) (by decide) ?_
      refine ro_move (by simp only [evalF, upd, arg0, argS, ofConst, ofCell, Nat.reduceEqDiff, reduceIte, h2, h4, h7, h32, h33, h34] <;> rfl) (by decide) ?_
      refine ro_call (f := 26) («as» := [.ptr (nb + 1 + 1) 1 0, .ptr (nb + 1) 1 0, .pv (.int .i64 (fs[i] : Nat))]) rfl (by simp only [List.map_cons, List.map_nil, evalF, upd, Nat.reduceEqDiff, reduceIte, h7, h4]) rfl rfl (read_calls d fs[i] (hfs8 _ (List.getElem_mem hil)) hbb (by omega) hpm hrd) (by decide) ?_
      rintro v5 hp5 nb5 hf5
      have hrs := read_sub fs[i] m' b' e'
      have hrl := (read_list fs[i] m' b' e' hbb).1
      refine ro_nil ?_
      try simp only
      refine ex_region ?_
      refine ro_bin (by simp only [evalF, upd, arg0, argS, ofConst, ofCell, Nat.reduceEqDiff, reduceIte, h2, h4, h7, h32, h33, h34] <;> rfl) (by simp only [evalF, upd, arg0, argS, ofConst, ofCell, Nat.reduceEqDiff, reduceIte, h2, h4, h7, h32, h33, h34] <;> rfl) (by exact (add_v (by omega))) (by decide) ?_
      refine ro_move (by simp only [evalF, upd, arg0, argS, ofConst, ofCell, Nat.reduceEqDiff, reduceIte, h2, h4, h7, h32, h33, h34] <;> rfl) (by decide) ?_
      refine ro_nil ?_
      refine ⟨fs.length - (i + 1), by omega, i + 1, _, _, _, rfl, by omega, by simp [upd, h2], by simp [upd, h4], by simp [upd, h7], by simp [upd, h32], by simp [upd, h33], by simp [upd], ?_, fun x hx => hbb x (hrs x hx), by omega, hfe⟩
      have := fld_seq hfo hf5
      exact ⟨rfl, this.2⟩
end Go.Proofs.Ytlinbbjobjnipaa
