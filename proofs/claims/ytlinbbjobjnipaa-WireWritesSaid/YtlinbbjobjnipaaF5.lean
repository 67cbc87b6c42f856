/- Writing: a message. -/
import Derived.Test.YtlinbbjobjnipaaF4
set_option linter.unusedVariables false
set_option linter.unusedSimpArgs false
set_option linter.unusedSectionVars false
namespace Go.Proofs.Ytlinbbjobjnipaa
open Go AI

set_option maxHeartbeats 4000000
set_option maxRecDepth 10000

theorem field_calls (lim d : Nat) {hp : Hp} {nb : Nat} {b : AV} {bs : List Int} {m : M} {L D : AV} (f : Nat) (hf8 : f < 8) (hf : Fit m) (hg : Grow hp nb b (u8s bs)) (hbs : bs.length < 100000) (hL : Row hp nb L (ints m.list)) (hD : Row hp nb D (u8s m.data)) (hneL : ∀ id, ownOf L = some id → ownOf b ≠ some id) (hneD : ∀ id, ownOf D = some id → ownOf b ≠ some id) (hbn : bs ≠ []) (hlim : 10 < lim) :
    CA (callA Try.prog facts plains lim (d + 3)) 20 [b, .agg (mcells m L D), .pv (.int .i64 f)] hp nb (WrOk b bs (fieldE m f) hp nb) := by
  have h8 : f = 0 ∨ f = 1 ∨ f = 2 ∨ f = 3 ∨ f = 4 ∨ f = 5 ∨ f = 6 ∨ f = 7 := by omega
  rcases h8 with rfl | rfl | rfl | rfl | rfl | rfl | rfl | rfl
  · exact field_0 lim d hf hg hbs hL hD hneL hneD hbn hlim
  · exact field_1 lim d hf hg hbs hL hD hneL hneD hbn hlim
  · exact field_2 lim d hf hg hbs hL hD hneL hneD hbn hlim
  · exact field_3 lim d hf hg hbs hL hD hneL hneD hbn hlim
  · exact field_4 lim d hf hg hbs hL hD hneL hneD hbn hlim
  · exact field_5 lim d hf hg hbs hL hD hneL hneD hbn hlim
  · exact field_6 lim d hf hg hbs hL hD hneL hneD hbn hlim
  · exact field_7 lim d hf hg hbs hL hD hneL hneD hbn hlim

theorem fieldE_len {m : M} (hk : m.key.length = 32) {f : Nat} {r : List Int} (h : fieldE m f = .ok r) : r.length ≤ 6100 := by
  unfold fieldE at h
  split at h
  · split at h
    · simp at h
    · simp only [Except.ok.injEq] at h; subst h; simp
  · split at h
    · simp at h
    · simp only [Except.ok.injEq] at h; subst h; simp
  · split at h
    · simp at h
    · split at h
      · simp only [Except.ok.injEq] at h; subst h; simp; omega
      · simp at h
  · simp only [Except.ok.injEq] at h; subst h; simp
  · split at h
    · simp at h
    · simp only [Except.ok.injEq] at h; subst h; simp
  · simp only [Except.ok.injEq] at h; subst h; omega
  · split at h
    · simp at h
    · simp only [Except.ok.injEq] at h; subst h; simp; omega
  · split at h
    · simp at h
    · simp only [Except.ok.injEq] at h; subst h; simp

theorem row_small {k : Int} {fs : List Nat} (h : rowOf k = some fs) : (∀ g ∈ fs, g < 8) ∧ fs.length ≤ 4 := by
  by_cases hk : 1 ≤ k ∧ k ≤ 12
  · have : k = 1 ∨ k = 2 ∨ k = 3 ∨ k = 4 ∨ k = 5 ∨ k = 6 ∨ k = 7 ∨ k = 8 ∨ k = 9 ∨ k = 10 ∨ k = 11 ∨ k = 12 := by omega
    rcases this with rfl | rfl | rfl | rfl | rfl | rfl | rfl | rfl | rfl | rfl | rfl | rfl <;> simp [rowOf] at h <;> subst h <;> simp
  · exfalso
    unfold rowOf at h
    rw [if_neg (by omega), if_neg (by omega), if_neg (by omega), if_neg (by omega), if_neg (by omega), if_neg (by omega), if_neg (by omega), if_neg (by omega), if_neg (by omega), if_neg (by omega), if_neg (by omega), if_neg (by omega)] at h
    simp at h

theorem rowV_some {k : Int} {fs : List Nat} (h : rowOf k = some fs) : ∃ lv, rowV k = .tuple [lv, .pv (.bool true)] ∧ ∀ hp nb, Row hp nb lv (ints (fs.map Int.ofNat)) := by
  unfold rowV
  rw [h]
  cases fs with
  | nil => exact ⟨_, rfl, fun hp nb => .nil⟩
  | cons f fs => exact ⟨_, rfl, fun hp nb => .ros _ _ (by simp [ints])⟩

/-- What writing a message gives. -/
def EncOk (m : M) (hp : Hp) (nb : Nat) (v : AV) (hp' : Hp) (nb' : Nat) : Prop :=
  After hp nb (.pv .nilSlice) hp' nb' ∧ match enc m with
    | .ok x => ∃ b', v = .tuple [b', .pv (.int .i64 0)] ∧ Grow hp' nb' b' (u8s x) ∧ (∀ id, ownOf b' = some id → nb ≤ id)
    | .error e => v = .tuple [.pv .nilSlice, .pv (.int .i64 e)]

theorem after_nil {hp hp1 hp2 : Hp} {nb nb1 nb2 : Nat} {v : AV} (a : After hp nb (.pv .nilSlice) hp1 nb1) (b : After hp1 nb1 v hp2 nb2) (ho : ∀ id, ownOf v = some id → nb ≤ id) : After hp nb (.pv .nilSlice) hp2 nb2 :=
  after_trans a b (fun id h => .inr (ho id h))

theorem errs_ne {m : M} {f : Nat} {e : Int} (h : fieldE m f = .error e) : e ≠ 0 := by
  unfold fieldE at h
  split at h
  · split at h <;> simp at h; omega
  · split at h <;> simp at h; omega
  · split at h
    · simp at h; omega
    · split at h <;> simp at h; omega
  · simp at h
  · split at h <;> simp at h; omega
  · simp at h
  · split at h <;> simp at h; omega
  · split at h <;> simp at h; omega

theorem encode_calls (lim d : Nat) {hp : Hp} {nb : Nat} {m : M} {L D : AV} (hf : Fit m) (hL : Row hp nb L (ints m.list)) (hD : Row hp nb D (u8s m.data)) (hlim : 10 < lim) :
    CA (callA Try.prog facts plains lim (d + 4)) 11 [.agg (mcells m L D)] hp nb (EncOk m hp nb) := by
  have hk := hf.key
  refine ca_body (fn := Try.f11) (c := bodyOf Try.f11) Try.func11 rfl (by show 1 ≤ 40; omega) ?_
  show EX _ _ _ _ _ 40 _ _ _ _ _
  unfold bodyOf Try.f11
  refine ex_seq (ex_region ?_)
  refine ro_box (v := .agg (mcells m L D)) (by simp [evalF, argsF]) (mc_all (row_cell hL).1 (row_cell hD).1) (by decide) ?_
  refine ro_assign (by simp only [evalF, upd, arg0, argS, ofConst, ofCell, Nat.reduceEqDiff, reduceIte] <;> rfl) (by decide) ?_
  refine ro_assign (by simp only [evalF, upd, arg0, argS, ofConst, ofCell, Nat.reduceEqDiff, reduceIte] <;> rfl) (by decide) ?_
  refine ro_nil ?_
  try simp only
  have ha0 : After hp nb (.pv .nilSlice) (setHp hp nb (.cells 1 (mcells m L D))) (nb + 1) := after_new hp nb _ _ (ok_cells (row_ok' hL) (row_ok' hD))
  have hl1 : AI.look (setHp hp nb (.cells 1 (mcells m L D))) nb 1 = some (mcells m L D) := look_same _ _ _ _
  show EX _ _ _ _ _ 40 _ _ (setHp hp nb (.cells 1 (mcells m L D))) _ _
  generalize setHp hp nb (.cells 1 (mcells m L D)) = hp1 at ha0 hl1 ⊢
  have hnil : ∀ id, ownOf (.pv .nilSlice) ≠ some id := fun id h => by simp [ownOf] at h
  cases hr : rowOf m.kind with
  | none =>
    refine ex_seq (ex_region ?_)
    refine ro_fieldAddr (by simp only [evalF, upd, arg0, argS, ofConst, ofCell, Nat.reduceEqDiff, reduceIte] <;> rfl) (by exact (fa30_0 _ _ _)) (by decide) ?_
    refine ro_load (by simp only [evalF, upd, arg0, argS, ofConst, ofCell, Nat.reduceEqDiff, reduceIte] <;> rfl) (by exact (load1 ag3 hl1 mc0)) (by decide) ?_
    refine ro_pure (f := 19) («as» := [.pv (.int .i64 m.kind)]) (v := .tuple [.pv .nilSlice, .pv (.bool false)]) rfl (by simp [evalF, upd]) rfl (by
      unfold orS facts
      have := row_calls lim (d + 2) m.kind hp1
      unfold rowV at this
      rw [hr] at this
      exact this) (by decide) ?_
    refine ro_move (by simp only [evalF, upd, arg0, argS, ofConst, ofCell, Nat.reduceEqDiff, reduceIte] <;> rfl) (by decide) ?_
    refine ro_extract (by simp only [evalF, upd, arg0, argS, ofConst, ofCell, Nat.reduceEqDiff, reduceIte] <;> rfl) (by exact (rfl)) (by decide) ?_
    refine ro_extract (by simp only [evalF, upd, arg0, argS, ofConst, ofCell, Nat.reduceEqDiff, reduceIte] <;> rfl) (by exact (rfl)) (by decide) ?_
    refine ro_assign (by simp only [evalF, upd, arg0, argS, ofConst, ofCell, Nat.reduceEqDiff, reduceIte] <;> rfl) (by decide) ?_
    refine ro_assign (by simp only [evalF, upd, arg0, argS, ofConst, ofCell, Nat.reduceEqDiff, reduceIte] <;> rfl) (by decide) ?_
    refine ro_nil ?_
    try simp only
    refine ex_seq (ex_seq (ex_region ?_))
    refine ro_move (by simp only [evalF, upd, arg0, argS, ofConst, ofCell, Nat.reduceEqDiff, reduceIte] <;> rfl) (by decide) ?_
    refine ro_un (by simp only [evalF, upd, arg0, argS, ofConst, ofCell, Nat.reduceEqDiff, reduceIte] <;> rfl) (by exact (show unOpA .not (.pv (.bool false)) = some (.pv (.bool true)) from rfl)) (by decide) ?_
    refine ro_nil ?_
    try simp only
    refine ex_cond (t := true) (by simp only [evalF, upd, arg0, argS, ofConst, ofCell, Nat.reduceEqDiff, reduceIte] <;> rfl) (fun _ => ?_) (fun h => by simp at h)
    refine ex_seq (ex_region ?_)
    refine ro_assign (by simp only [evalF, upd, arg0, argS, ofConst, ofCell, Nat.reduceEqDiff, reduceIte] <;> rfl) (by decide) ?_
    refine ro_assign (by simp only [evalF, upd, arg0, argS, ofConst, ofCell, Nat.reduceEqDiff, reduceIte] <;> rfl) (by decide) ?_
    refine ro_nil ?_
    try simp only
    refine ex_ret ?_
    refine ⟨.tuple [.pv .nilSlice, .pv (.int .i64 3)], rfl, ha0, ?_⟩
    unfold enc
    rw [hr]
  | some fs =>
    obtain ⟨hfs8, hfs4⟩ := row_small hr
    obtain ⟨lv, hlv, hlr⟩ := rowV_some hr
    refine ex_seq (ex_region ?_)
    refine ro_fieldAddr (by simp only [evalF, upd, arg0, argS, ofConst, ofCell, Nat.reduceEqDiff, reduceIte] <;> rfl) (by exact (fa30_0 _ _ _)) (by decide) ?_
    refine ro_load (by simp only [evalF, upd, arg0, argS, ofConst, ofCell, Nat.reduceEqDiff, reduceIte] <;> rfl) (by exact (load1 ag3 hl1 mc0)) (by decide) ?_
    refine ro_pure (f := 19) («as» := [.pv (.int .i64 m.kind)]) (v := .tuple [lv, .pv (.bool true)]) rfl (by simp [evalF, upd]) rfl (by
      unfold orS facts
      have := row_calls lim (d + 2) m.kind hp1
      rw [hlv] at this
      exact this) (by decide) ?_
    refine ro_move (by simp only [evalF, upd, arg0, argS, ofConst, ofCell, Nat.reduceEqDiff, reduceIte] <;> rfl) (by decide) ?_
    refine ro_extract (by simp only [evalF, upd, arg0, argS, ofConst, ofCell, Nat.reduceEqDiff, reduceIte] <;> rfl) (by exact (rfl)) (by decide) ?_
    refine ro_extract (by simp only [evalF, upd, arg0, argS, ofConst, ofCell, Nat.reduceEqDiff, reduceIte] <;> rfl) (by exact (rfl)) (by decide) ?_
    refine ro_assign (by simp only [evalF, upd, arg0, argS, ofConst, ofCell, Nat.reduceEqDiff, reduceIte] <;> rfl) (by decide) ?_
    refine ro_assign (by simp only [evalF, upd, arg0, argS, ofConst, ofCell, Nat.reduceEqDiff, reduceIte] <;> rfl) (by decide) ?_
    refine ro_nil ?_
    try simp only
    refine ex_seq (ex_seq (ex_region ?_))
    refine ro_move (by simp only [evalF, upd, arg0, argS, ofConst, ofCell, Nat.reduceEqDiff, reduceIte] <;> rfl) (by decide) ?_
    refine ro_un (by simp only [evalF, upd, arg0, argS, ofConst, ofCell, Nat.reduceEqDiff, reduceIte] <;> rfl) (by exact (show unOpA .not (.pv (.bool true)) = some (.pv (.bool false)) from rfl)) (by decide) ?_
    refine ro_nil ?_
    try simp only
    refine ex_cond (t := false) (by simp only [evalF, upd, arg0, argS, ofConst, ofCell, Nat.reduceEqDiff, reduceIte] <;> rfl) (fun h => by simp at h) (fun _ => ex_skip ?_)
    try simp only
    refine ex_seq (ex_region ?_)
    refine ro_fieldAddr (by simp only [evalF, upd, arg0, argS, ofConst, ofCell, Nat.reduceEqDiff, reduceIte] <;> rfl) (by exact (fa30_0 _ _ _)) (by decide) ?_
    refine ro_load (by simp only [evalF, upd, arg0, argS, ofConst, ofCell, Nat.reduceEqDiff, reduceIte] <;> rfl) (by exact (load1 ag3 hl1 mc0)) (by decide) ?_
    refine ro_conv (by simp only [evalF, upd, arg0, argS, ofConst, ofCell, Nat.reduceEqDiff, reduceIte] <;> rfl) (by exact (conv_u8 _ _)) (by decide) ?_
    refine ro_buildSlice rfl (by simp only [List.map_cons, List.map_nil, evalF, upd, Nat.reduceEqDiff, reduceIte]; exact bs27_1 _ _) (by decide) ?_
    refine ro_assign (by simp only [evalF, upd, arg0, argS, ofConst, ofCell, Nat.reduceEqDiff, reduceIte] <;> rfl) (by decide) ?_
    refine ro_nil ?_
    try simp only
    have hax1 : After hp1 (nb + 1) (.pv .nilSlice) (setHp hp1 (nb + 1) (.cells 1 [.pv (.int .u8 (u8 m.kind))])) (nb + 1 + 1) := after_new hp1 (nb + 1) _ _ (pvs_ok [.int .u8 (u8 m.kind)])
    have hg1 : Grow (setHp hp1 (nb + 1) (.cells 1 [.pv (.int .u8 (u8 m.kind))])) (nb + 1 + 1) (.slice (nb + 1) 1 0 1 1 1 true) (u8s [u8 m.kind]) := .own _ _ _ _ _ rfl (by omega) (by simp [setHp, u8s])
    have hl2 : AI.look (setHp hp1 (nb + 1) (.cells 1 [.pv (.int .u8 (u8 m.kind))])) nb 1 = some (mcells m L D) := by rw [look_ne _ _ _ (by omega)]; exact hl1
    generalize setHp hp1 (nb + 1) (.cells 1 [.pv (.int .u8 (u8 m.kind))]) = hp2 at hax1 hg1 hl2 ⊢
    have ha2 := after_nil ha0 hax1 (fun id h => by simp [ownOf] at h)
    refine ex_seq ?_
    refine ex_seq (ex_region ?_)
    refine ro_move (by simp only [evalF, upd, arg0, argS, ofConst, ofCell, Nat.reduceEqDiff, reduceIte] <;> rfl) (by decide) ?_
    refine ro_builtin rfl (by simp only [List.map_cons, List.map_nil, evalF, upd, arg0, argS, ofConst, ofCell, Nat.reduceEqDiff, reduceIte] <;> rfl) (by exact (row_len st24 (hlr hp2 (nb + 1 + 1)))) (by decide) ?_
    refine ro_move (by simp only [evalF, upd, arg0, argS, ofConst, ofCell, Nat.reduceEqDiff, reduceIte] <;> rfl) (by decide) ?_
    refine ro_nil ?_
    try simp only
    have henc : enc m = fieldsE m fs [u8 m.kind] := by unfold enc; rw [hr]
    refine ex_block (ex_loop (I := fun k g hpx nbx => ∃ (i : Nat) (b : AV) (bs : List Int), k = fs.length - i ∧ i ≤ fs.length ∧ g 1 = .ptr nb 1 0 ∧ g 6 = b ∧ g 22 = lv ∧ g 23 = .pv (.int .i64 fs.length) ∧ g 24 = .pv (.int .i64 i) ∧
      Grow hpx nbx b (u8s bs) ∧ (∀ id, ownOf b = some id → nb + 1 ≤ id) ∧ bs ≠ [] ∧ bs.length ≤ 1 + i * 6100 ∧ enc m = fieldsE m (fs.drop i) bs ∧ AI.look hpx nb 1 = some (mcells m L D) ∧ After hp nb (.pv .nilSlice) hpx nbx ∧ nb + 1 < nbx)
      (m := fs.length) ⟨0, _, [u8 m.kind], rfl, Nat.zero_le _, by simp [upd], by simp only [upd, Nat.reduceEqDiff, reduceIte] <;> rfl, by simp [upd], by simp [upd, ints], by simp [upd], hg1, fun id h => by simp [ownOf] at h; omega, by simp, by simp, henc, hl2, ha2, by omega⟩ (by omega) ?_)
    rintro k g hpx nbx ⟨i, b, bs, hkk, hi, h1, h6, h22, h23, h24, hg, hob, hbn, hbl, hen, hlx, hax, hnb⟩
    refine ex_seq (ex_region ?_)
    refine ro_bin (by simp only [evalF, upd, arg0, argS, ofConst, ofCell, Nat.reduceEqDiff, reduceIte, h1, h6, h22, h23, h24] <;> rfl) (by simp only [evalF, upd, arg0, argS, ofConst, ofCell, Nat.reduceEqDiff, reduceIte, h1, h6, h22, h23, h24] <;> rfl) (by exact (lss_v)) (by decide) ?_
    refine ro_nil ?_
    try simp only
    refine ex_seq (ex_cond (t := decide ((i : Int) < fs.length)) (by simp only [evalF, upd, arg0, argS, ofConst, ofCell, Nat.reduceEqDiff, reduceIte, h1, h6, h22, h23, h24] <;> rfl) (fun ht => ?_) (fun ht => ?_))
    rotate_left
    · have hie : i = fs.length := by
        have := of_decide_eq_false ht
        omega
      refine ex_exit ?_
      simp only [if_true]
      refine ex_seq (ex_region ?_)
      refine ro_move (by simp only [evalF, upd, arg0, argS, ofConst, ofCell, Nat.reduceEqDiff, reduceIte, h1, h6, h22, h23, h24] <;> rfl) (by decide) ?_
      refine ro_assign (by simp only [evalF, upd, arg0, argS, ofConst, ofCell, Nat.reduceEqDiff, reduceIte, h1, h6, h22, h23, h24] <;> rfl) (by decide) ?_
      refine ro_assign (by simp only [evalF, upd, arg0, argS, ofConst, ofCell, Nat.reduceEqDiff, reduceIte, h1, h6, h22, h23, h24] <;> rfl) (by decide) ?_
      refine ro_nil ?_
      try simp only
      refine ex_ret ?_
      refine ⟨.tuple [b, .pv (.int .i64 0)], by simp [resF, resOneF, upd, h6], hax, ?_⟩
      rw [hen, hie, List.drop_length]
      exact ⟨b, rfl, hg, fun id h => by have := hob id h; omega⟩
    refine ex_skip ?_
    try simp only
    have hil : i < fs.length := by
      have := of_decide_eq_true ht
      omega
    have hgi : (ints (fs.map Int.ofNat))[i]? = some (.int .i64 (fs[i] : Nat)) := by
      unfold ints
      rw [List.getElem?_map, List.getElem?_map, List.getElem?_eq_getElem hil]
      rfl
    obtain ⟨a, ha, hla⟩ := row_at st24 (hlr hpx nbx) hgi
    refine ex_seq (ex_block ?_)
    refine ex_seq (ex_region ?_)
    refine ro_indexAddr (by simp only [evalF, upd, arg0, argS, ofConst, ofCell, Nat.reduceEqDiff, reduceIte, h1, h6, h22, h23, h24] <;> rfl) (by simp only [evalF, upd, arg0, argS, ofConst, ofCell, Nat.reduceEqDiff, reduceIte, h1, h6, h22, h23, h24] <;> rfl) (by exact (ha)) (by decide) ?_
    refine ro_load (by simp only [evalF, upd, arg0, argS, ofConst, ofCell, Nat.reduceEqDiff, reduceIte, h1, h6, h22, h23, h24] <;> rfl) (by exact (hla)) (by decide) ?_
    refine ro_assign (by simp only [evalF, upd, arg0, argS, ofConst, ofCell, Nat.reduceEqDiff, reduceIte, h1, h6, h22, h23, h24] <;> rfl) (by decide) ?_
    refine ro_nil ?_
    try simp only
    refine ex_seq (ex_region ?_)
    refine ro_assign (by simp only [evalF, upd, arg0, argS, ofConst, ofCell, Nat.reduceEqDiff, reduceIte, h1, h6, h22, h23, h24] <;> rfl) (by decide) ?_
    refine ro_nil ?_
    try simp only
    have hLx : Row hpx nbx L (ints m.list) := hL.keep hax.1 (fun id hid _ => hax.2.1 id hid (hnil id))
    have hDx : Row hpx nbx D (u8s m.data) := hD.keep hax.1 (fun id hid _ => hax.2.1 id hid (hnil id))
    have hneL : ∀ id, ownOf L = some id → ownOf b ≠ some id := fun id ho h => by have := row_own hL ho; have := hob id h; omega
    have hneD : ∀ id, ownOf D = some id → ownOf b ≠ some id := fun id ho h => by have := row_own hD ho; have := hob id h; omega
    refine ex_seq (ex_region ?_)
    refine ro_move (by simp only [evalF, upd, arg0, argS, ofConst, ofCell, Nat.reduceEqDiff, reduceIte, h1, h6, h22, h23, h24] <;> rfl) (by decide) ?_
    refine ro_load (v := .agg (mcells m L D)) (by simp only [evalF, upd, arg0, argS, ofConst, ofCell, Nat.reduceEqDiff, reduceIte, h1, h6, h22, h23, h24] <;> rfl) (by rw [loadN ag30 sz30 hlx (by rw [mc_length hk]; omega), List.drop_zero, List.take_of_length_le (by rw [mc_length hk]; omega)]) (by decide) ?_
    refine ro_move (by simp only [evalF, upd, arg0, argS, ofConst, ofCell, Nat.reduceEqDiff, reduceIte, h1, h6, h22, h23, h24] <;> rfl) (by decide) ?_
    refine ro_call (f := 20) («as» := [b, .agg (mcells m L D), .pv (.int .i64 (fs[i] : Nat))]) rfl (by simp only [List.map_cons, List.map_nil, evalF, upd, Nat.reduceEqDiff, reduceIte, h6]) rfl (by simp only [List.all_cons, grow_plain hg (by simpa [u8s] using hbn), Bool.false_and]) (field_calls lim d fs[i] (hfs8 _ (List.getElem_mem hil)) hf hg (by omega) hLx hDx hneL hneD hbn hlim) (by decide) ?_
    rintro v hpy nby ⟨hay, hres⟩
    have hdrop : fs.drop i = fs[i] :: fs.drop (i + 1) := List.drop_eq_getElem_cons hil
    have hax2 := after_nil hax hay (fun id h => by have := hob id h; omega)
    cases hE : fieldE m fs[i] with
    | ok r =>
      rw [hE] at hres
      obtain ⟨b', rfl, hgb, hob'⟩ := hres
      have hlen := fieldE_len hk hE
      refine ro_move (by simp only [evalF, upd, arg0, argS, ofConst, ofCell, Nat.reduceEqDiff, reduceIte, h1, h6, h22, h23, h24] <;> rfl) (by decide) ?_
      refine ro_extract (by simp only [evalF, upd, arg0, argS, ofConst, ofCell, Nat.reduceEqDiff, reduceIte, h1, h6, h22, h23, h24] <;> rfl) (by exact (rfl)) (by decide) ?_
      refine ro_extract (by simp only [evalF, upd, arg0, argS, ofConst, ofCell, Nat.reduceEqDiff, reduceIte, h1, h6, h22, h23, h24] <;> rfl) (by exact (rfl)) (by decide) ?_
      refine ro_assign (by simp only [evalF, upd, arg0, argS, ofConst, ofCell, Nat.reduceEqDiff, reduceIte, h1, h6, h22, h23, h24] <;> rfl) (by decide) ?_
      refine ro_assign (by simp only [evalF, upd, arg0, argS, ofConst, ofCell, Nat.reduceEqDiff, reduceIte, h1, h6, h22, h23, h24] <;> rfl) (by decide) ?_
      refine ro_nil ?_
      try simp only
      refine ex_seq (ex_region ?_)
      refine ro_move (by simp only [evalF, upd, arg0, argS, ofConst, ofCell, Nat.reduceEqDiff, reduceIte, h1, h6, h22, h23, h24] <;> rfl) (by decide) ?_
      refine ro_bin (by simp only [evalF, upd, arg0, argS, ofConst, ofCell, Nat.reduceEqDiff, reduceIte, h1, h6, h22, h23, h24] <;> rfl) (by simp only [evalF, upd, arg0, argS, ofConst, ofCell, Nat.reduceEqDiff, reduceIte, h1, h6, h22, h23, h24] <;> rfl) (by exact (show binOpA Try.prog .neq 28 (.pv (.int .i64 0)) (.pv (.int .i64 0)) = some (.pv (.bool false)) from neq_f rfl)) (by decide) ?_
      refine ro_nil ?_
      try simp only
      refine ex_cond (t := false) (by simp only [evalF, upd, arg0, argS, ofConst, ofCell, Nat.reduceEqDiff, reduceIte, h1, h6, h22, h23, h24] <;> rfl) (fun h => by simp at h) (fun _ => ex_skip ?_)
      try simp only
      refine ex_region ?_
      refine ro_bin (by simp only [evalF, upd, arg0, argS, ofConst, ofCell, Nat.reduceEqDiff, reduceIte, h1, h6, h22, h23, h24] <;> rfl) (by simp only [evalF, upd, arg0, argS, ofConst, ofCell, Nat.reduceEqDiff, reduceIte, h1, h6, h22, h23, h24] <;> rfl) (by exact (add_v (by omega))) (by decide) ?_
      refine ro_move (by simp only [evalF, upd, arg0, argS, ofConst, ofCell, Nat.reduceEqDiff, reduceIte, h1, h6, h22, h23, h24] <;> rfl) (by decide) ?_
      refine ro_nil ?_
      refine ⟨fs.length - (i + 1), by omega, i + 1, b', bs ++ r, rfl, by omega, by simp [upd, h1], by simp [upd], by simp [upd, h22], by simp [upd, h23], by simp [upd], hgb, ?_, by simp [hbn], by simp; omega, ?_, ?_, hax2, by have := hay.1; omega⟩
      · intro id h
        rcases hob' id h with h | h
        · exact hob id h
        · omega
      · rw [hen, hdrop, fieldsE, hE]
      · rw [look_at 1 (hay.2.1 nb (by omega) (fun h => by have := hob nb h; omega))]; exact hlx
    | error e =>
      rw [hE] at hres
      subst hres
      refine ro_move (by simp only [evalF, upd, arg0, argS, ofConst, ofCell, Nat.reduceEqDiff, reduceIte, h1, h6, h22, h23, h24] <;> rfl) (by decide) ?_
      refine ro_extract (by simp only [evalF, upd, arg0, argS, ofConst, ofCell, Nat.reduceEqDiff, reduceIte, h1, h6, h22, h23, h24] <;> rfl) (by exact (rfl)) (by decide) ?_
      refine ro_extract (by simp only [evalF, upd, arg0, argS, ofConst, ofCell, Nat.reduceEqDiff, reduceIte, h1, h6, h22, h23, h24] <;> rfl) (by exact (rfl)) (by decide) ?_
      refine ro_assign (by simp only [evalF, upd, arg0, argS, ofConst, ofCell, Nat.reduceEqDiff, reduceIte, h1, h6, h22, h23, h24] <;> rfl) (by decide) ?_
      refine ro_assign (by simp only [evalF, upd, arg0, argS, ofConst, ofCell, Nat.reduceEqDiff, reduceIte, h1, h6, h22, h23, h24] <;> rfl) (by decide) ?_
      refine ro_nil ?_
      try simp only
      refine ex_seq (ex_region ?_)
      refine ro_move (by simp only [evalF, upd, arg0, argS, ofConst, ofCell, Nat.reduceEqDiff, reduceIte, h1, h6, h22, h23, h24] <;> rfl) (by decide) ?_
      refine ro_bin (by simp only [evalF, upd, arg0, argS, ofConst, ofCell, Nat.reduceEqDiff, reduceIte, h1, h6, h22, h23, h24] <;> rfl) (by simp only [evalF, upd, arg0, argS, ofConst, ofCell, Nat.reduceEqDiff, reduceIte, h1, h6, h22, h23, h24] <;> rfl) (by exact (show binOpA Try.prog .neq 28 (.pv (.int .i64 e)) (.pv (.int .i64 0)) = some (.pv (.bool true)) from neq_t (errs_ne hE))) (by decide) ?_
      refine ro_nil ?_
      try simp only
      refine ex_cond (t := true) (by simp only [evalF, upd, arg0, argS, ofConst, ofCell, Nat.reduceEqDiff, reduceIte, h1, h6, h22, h23, h24] <;> rfl) (fun _ => ?_) (fun h => by simp at h)
      refine ex_seq (ex_region ?_)
      refine ro_move (by simp only [evalF, upd, arg0, argS, ofConst, ofCell, Nat.reduceEqDiff, reduceIte, h1, h6, h22, h23, h24] <;> rfl) (by decide) ?_
      refine ro_assign (by simp only [evalF, upd, arg0, argS, ofConst, ofCell, Nat.reduceEqDiff, reduceIte, h1, h6, h22, h23, h24] <;> rfl) (by decide) ?_
      refine ro_assign (by simp only [evalF, upd, arg0, argS, ofConst, ofCell, Nat.reduceEqDiff, reduceIte, h1, h6, h22, h23, h24] <;> rfl) (by decide) ?_
      refine ro_nil ?_
      try simp only
      refine ex_ret ?_
      refine ⟨.tuple [.pv .nilSlice, .pv (.int .i64 e)], by simp [resF, resOneF, upd], hax2, ?_⟩
      rw [hen, hdrop, fieldsE, hE]
end Go.Proofs.Ytlinbbjobjnipaa
