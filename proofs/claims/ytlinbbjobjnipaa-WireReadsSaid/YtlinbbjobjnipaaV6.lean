/- What the proof needs, part 6. Joined by pack.py. -/
import Derived.Test.YtlinbbjobjnipaaV5
set_option linter.unusedVariables false
set_option linter.unusedSimpArgs false
set_option linter.unusedSectionVars false
namespace Go.Proofs.Ytlinbbjobjnipaa
open Go AI
set_option maxHeartbeats 4000000
set_option maxRecDepth 10000
/-- A message that is being read, and the document's reader. -/
structure Fl (hp : Hp) (nb idm idr q : Nat) (m : M) (vb : AV) (b rest : List Int) (e : Int) : Prop where
  pm : Pm hp nb idm idr q m
  rr : Rr hp nb idr q vb b rest e
def KeepQ (hp : Hp) (nb q : Nat) (hp' : Hp) (nb' : Nat) : Prop := nb ≤ nb' ∧ (∀ id, id < q → hp' id = hp id) ∧ (Tidy hp nb → Tidy hp' nb')
theorem keepQ_refl (hp : Hp) (nb q : Nat) : KeepQ hp nb q hp nb := ⟨Nat.le_refl _, fun _ _ => rfl, fun h => h⟩
theorem keepQ_trans {hp hp1 hp2 : Hp} {nb nb1 nb2 q : Nat} (a : KeepQ hp nb q hp1 nb1) (b : KeepQ hp1 nb1 q hp2 nb2) : KeepQ hp nb q hp2 nb2 :=
  ⟨Nat.le_trans a.1 b.1, fun id hid => (b.2.1 id hid).trans (a.2.1 id hid), fun h => b.2.2 (a.2.2 h)⟩
section
variable {hp hp' : Hp} {nb nb' idm idr q : Nat} {m : M} {vb : AV} {b rest rest' : List Int} {e e' : Int}
theorem keepQ_of (h : Fl hp nb idm idr q m vb b rest e) (hk : KeepN hp nb idr hp' nb') : KeepQ hp nb q hp' nb' :=
  ⟨hk.1, fun id hid => hk.2.1 id (by have := h.rr.lt; have := h.rr.le; omega) (by have := h.rr.le; omega), hk.2.2⟩
/-- A call of a reader's method leaves the message. -/
theorem fl_same (h : Fl hp nb idm idr q m vb b rest e) (hr : Rr hp' nb' idr q vb b rest' e') (hk : KeepN hp nb idr hp' nb') : Fl hp' nb' idm idr q m vb b rest' e' ∧ KeepQ hp nb q hp' nb' := by
  obtain ⟨L, D, h1, h2, h3, h4, h5⟩ := h.pm.ex
  exact ⟨⟨⟨by have := h.pm.lt; have := hk.1; omega, h.pm.le, h.pm.ne, h.pm.key, L, D, by rw [look_at 1 (hk.2.1 idm h.pm.lt h.pm.ne)]; exact h1,
    h2.keep hk.1 (fun id hid ho => hk.2.1 id hid (h4 id ho).2.2.1), h3.keep hk.1 (fun id hid ho => hk.2.1 id hid (h5 id ho).2.2), h4, h5⟩, hr⟩, keepQ_of h hk⟩
theorem keepQ_put (h : Fl hp nb idm idr q m vb b rest e) {cs : List AV} (hc : ∀ c ∈ cs, okC nb c) : KeepQ hp nb q (setHp hp idm (.cells 1 cs)) nb :=
  ⟨Nat.le_refl _, fun id hid => by have := h.pm.le; simp [setHp, show id ≠ idm by omega], fun ht => tidy_put ht hc⟩
theorem rr_putm (h : Fl hp nb idm idr q m vb b rest e) (cs : List AV) : Rr (setHp hp idm (.cells 1 cs)) nb idr q vb b rest e :=
  rr_keep h.rr (Nat.le_refl _) (fun id hid => by have := h.pm.le; have := h.pm.ne; simp [setHp, show id ≠ idm by rcases hid with hid | hid <;> omega])
/-- What was read is stored into a field of one cell. -/
theorem fl_num (h0 : Fl hp nb idm idr q m vb b rest e) (hr : Rr hp' nb' idr q vb b rest' e') (hk : KeepN hp nb idr hp' nb') :
    ∃ L D, AI.look hp' idm 1 = some (mcells m L D) ∧ ∀ m' : M, m'.key.length = 32 → m'.list = m.list → m'.data = m.data → Fl (setHp hp' idm (.cells 1 (mcells m' L D))) nb' idm idr q m' vb b rest' e' ∧ KeepQ hp nb q (setHp hp' idm (.cells 1 (mcells m' L D))) nb' := by
  obtain ⟨h, hq⟩ := fl_same h0 hr hk
  obtain ⟨L, D, h1, h2, h3, h4, h5⟩ := h.pm.ex
  refine ⟨L, D, h1, fun m' hk' hl' hd' => ⟨⟨⟨h.pm.lt, h.pm.le, h.pm.ne, hk', L, D, look_same _ _ _ _, ?_, ?_, h4, h5⟩, rr_putm h _⟩, keepQ_trans hq (keepQ_put h (ok_cells (grow_okC h2) (row_ok' h3)))⟩⟩
  · rw [hl']; exact h2.keep (Nat.le_refl _) (fun id hid ho => by simp [setHp, (h4 id ho).2.1])
  · rw [hd']; exact h3.keep (Nat.le_refl _) (fun id hid ho => by simp [setHp, (h5 id ho).2.1])
theorem fl_list (h0 : Fl hp nb idm idr q m vb b rest e) (hr : Rr hp' nb' idr q vb b rest' e') (hk : KeepN hp nb idr hp' nb') {v : AV} {l : List Int} (hg : Grow hp' nb' v (ints l)) (ho : ∀ id, ownOf v = some id → nb ≤ id) :
    ∃ L D, AI.look hp' idm 1 = some (mcells m L D) ∧ Fl (setHp hp' idm (.cells 1 (mcells { m with list := l } v D))) nb' idm idr q { m with list := l } vb b rest' e' ∧ KeepQ hp nb q (setHp hp' idm (.cells 1 (mcells { m with list := l } v D))) nb' := by
  obtain ⟨h, hq⟩ := fl_same h0 hr hk
  obtain ⟨L0, D0, i1, i2, i3, i4, i5⟩ := h0.pm.ex
  have j1 : AI.look hp' idm 1 = some (mcells m L0 D0) := by rw [look_at 1 (hk.2.1 idm h0.pm.lt h0.pm.ne)]; exact i1
  have hd : Row hp' nb' D0 (u8s m.data) := i3.keep hk.1 (fun id hid hh => hk.2.1 id hid (i5 id hh).2.2)
  have hlt := h0.pm.lt
  have hle := h0.pm.le
  have hrl := h0.rr.lt
  refine ⟨L0, D0, j1, ⟨⟨h.pm.lt, h.pm.le, h.pm.ne, h.pm.key, v, D0, look_same _ _ _ _, ?_, ?_, fun id hh => ?_, i5⟩, rr_putm h _⟩, keepQ_trans hq (keepQ_put h (ok_cells (grow_okC hg) (row_ok' hd)))⟩
  · exact hg.keep (Nat.le_refl _) (fun id hid hh => by have := ho id hh; simp [setHp, show id ≠ idm by omega])
  · exact hd.keep (Nat.le_refl _) (fun id hid hh => by simp [setHp, (i5 id hh).2.1])
  · have := ho id hh
    exact ⟨by omega, by omega, by omega, fun hx => by have := row_own i3 hx; omega⟩
theorem fl_data (h0 : Fl hp nb idm idr q m vb b rest e) (hr : Rr hp' nb' idr q vb b rest' e') (hk : KeepN hp nb idr hp' nb') {v : AV} {l : List Int} (hg : Row hp' nb' v (u8s l)) (ho : ∀ id, ownOf v = some id → nb ≤ id) :
    ∃ L D, AI.look hp' idm 1 = some (mcells m L D) ∧ Fl (setHp hp' idm (.cells 1 (mcells { m with data := l } L v))) nb' idm idr q { m with data := l } vb b rest' e' ∧ KeepQ hp nb q (setHp hp' idm (.cells 1 (mcells { m with data := l } L v))) nb' := by
  obtain ⟨h, hq⟩ := fl_same h0 hr hk
  obtain ⟨L0, D0, i1, i2, i3, i4, i5⟩ := h0.pm.ex
  have j1 : AI.look hp' idm 1 = some (mcells m L0 D0) := by rw [look_at 1 (hk.2.1 idm h0.pm.lt h0.pm.ne)]; exact i1
  have hd : Grow hp' nb' L0 (ints m.list) := i2.keep hk.1 (fun id hid hh => hk.2.1 id hid (i4 id hh).2.2.1)
  have hlt := h0.pm.lt
  have hle := h0.pm.le
  have hrl := h0.rr.lt
  refine ⟨L0, D0, j1, ⟨⟨h.pm.lt, h.pm.le, h.pm.ne, h.pm.key, L0, v, look_same _ _ _ _, ?_, ?_, fun id hh => ⟨(i4 id hh).1, (i4 id hh).2.1, (i4 id hh).2.2.1, fun hx => ?_⟩, fun id hh => ?_⟩, rr_putm h _⟩, keepQ_trans hq (keepQ_put h (ok_cells (grow_okC hd) (row_ok' hg)))⟩
  · exact hd.keep (Nat.le_refl _) (fun id hid hh => by simp [setHp, (i4 id hh).2.1])
  · exact hg.keep (Nat.le_refl _) (fun id hid hh => by have := ho id hh; simp [setHp, show id ≠ idm by omega])
  · have := ho id hx
    have := row_own i2.row hh
    omega
  · have := ho id hh
    exact ⟨by omega, by omega, by omega⟩
end
theorem plains_30 : plains 30 = false := rfl
theorem plains_32 : plains 32 = false := rfl
theorem plains_33 : plains 33 = false := rfl
theorem plains_34 : plains 34 = false := rfl
theorem sts_key {hp : Hp} {idm : Nat} {m : M} {L D : AV} {t : List Int} (hk : m.key.length = 32) (ht : t.length = 32) (hl : AI.look hp idm 1 = some (mcells m L D)) : storeA Try.prog hp 26 (.ptr idm 1 (0 + 5)) (.agg ((u8s t).map .pv)) = some (.upd undefA idm (.cells 1 (mcells { m with key := t } L D))) := by
  have := storeN szK hl (show ((u8s t).map AV.pv).all AV.isCell = true by
    rw [List.all_eq_true]
    intro c hc
    obtain ⟨z, _, rfl⟩ := List.mem_map.1 hc
    rfl) (by simp [u8s, ht]) (off := 0 + 5) (by rw [mc_length hk]; omega)
  rw [Nat.zero_add, splKey hk ht] at this
  exact this
theorem refS_kind (f : Nat) (m : M) (b : List Int) (e : Int) : (refS f m b e).1.kind = m.kind := by
  unfold refS
  split <;> rfl
theorem refsS_kind : ∀ (fs : List Nat) (m : M) (b : List Int) (e : Int), (refsS fs m b e).1.kind = m.kind
  | [], m, b, e => rfl
  | f :: fs, m, b, e => by rw [refsS, refsS_kind fs, refS_kind]
theorem refsS_app : ∀ (fs gs : List Nat) (m : M) (b : List Int) (e : Int), refsS (fs ++ gs) m b e = refsS gs (refsS fs m b e).1 (refsS fs m b e).2.1 (refsS fs m b e).2.2
  | [], gs, m, b, e => rfl
  | f :: fs, gs, m, b, e => by rw [List.cons_append, refsS, refsS, refsS_app fs gs]
theorem sw16_1 (d : Nat) {hq0 : Hp} {nb0 idm idr q res : Nat} {m0 : M} {vb : AV} {b r0 : List Int} {e0 : Int} {g : Gm} (hk : m0.kind = 1) (fl0 : Fl hq0 nb0 idm idr q m0 vb b r0 e0) (g2 : g 2 = .ptr res 1 0) (g4 : g 4 = .ptr idr 1 0) (g5 : g 5 = .ptr idm 1 0) :
    EX Try.prog plains (callA Try.prog facts plains 10000 (d + 3)) (orS facts (pureOf (callA Try.prog facts plains 10000 (d + 3)))) 10000 149 (codeAt (bodyOf Try.f16) [true, true, true, true, false]) g hq0 nb0 fun x g' hp' nb' => x = .normal ∧ g' 2 = .ptr res 1 0 ∧ g' 4 = .ptr idr 1 0 ∧ g' 5 = .ptr idm 1 0 ∧
      Fl hp' nb' idm idr q (refsS [] m0 r0 e0).1 vb b (refsS [] m0 r0 e0).2.1 (refsS [] m0 r0 e0).2.2 ∧ KeepQ hq0 nb0 q hp' nb' := by
  have kq0 := keepQ_refl hq0 nb0 q
  obtain ⟨L0, D0, hl0, _⟩ := fl0.pm.ex
  show EX _ _ _ _ _ 149 _ _ _ _ _
  simp only [codeAt, bodyOf, Try.f16, if_true, if_false, Bool.false_eq_true]
  refine ex_seq (ex_region ?_)
  refine ro_fieldAddr (by simp only [evalF, upd, arg0, argS, ofConst, ofCell, Nat.reduceEqDiff, reduceIte, g2, g4, g5] <;> rfl) (by exact (fa30_0 _ _ _)) (by decide) ?_
  refine ro_load (by simp only [evalF, upd, arg0, argS, ofConst, ofCell, Nat.reduceEqDiff, reduceIte, g2, g4, g5] <;> rfl) (by exact (load1 ag3 hl0 mc0)) (by decide) ?_
  refine ro_nil ?_
  try simp only
  refine ex_block ?_
  refine ex_test_f (by simp only [evalF, upd, arg0, argS, ofConst, ofCell, Nat.reduceEqDiff, reduceIte, g2, g4, g5] <;> rfl) (by omega) (by decide) (by decide) ?_
  refine ex_test_f (by simp only [evalF, upd, arg0, argS, ofConst, ofCell, Nat.reduceEqDiff, reduceIte, g2, g4, g5] <;> rfl) (by omega) (by decide) (by decide) ?_
  refine ex_test_f (by simp only [evalF, upd, arg0, argS, ofConst, ofCell, Nat.reduceEqDiff, reduceIte, g2, g4, g5] <;> rfl) (by omega) (by decide) (by decide) ?_
  refine ex_seq (ex_test_f (by simp only [evalF, upd, arg0, argS, ofConst, ofCell, Nat.reduceEqDiff, reduceIte, g2, g4, g5] <;> rfl) (by omega) (by decide) (by decide) ?_)
  refine ex_test_f (by simp only [evalF, upd, arg0, argS, ofConst, ofCell, Nat.reduceEqDiff, reduceIte, g2, g4, g5] <;> rfl) (by omega) (by decide) (by decide) ?_
  refine ex_region ?_
  refine ro_bin (by simp only [evalF, upd, arg0, argS, ofConst, ofCell, Nat.reduceEqDiff, reduceIte, g2, g4, g5] <;> rfl) (by simp only [evalF, upd, arg0, argS, ofConst, ofCell, Nat.reduceEqDiff, reduceIte, g2, g4, g5] <;> rfl) (by exact (eql_f (by omega))) (by decide) ?_
  refine ro_assign (by simp only [evalF, upd, arg0, argS, ofConst, ofCell, Nat.reduceEqDiff, reduceIte, g2, g4, g5] <;> rfl) (by decide) ?_
  refine ro_nil ?_
  try simp only
  refine ex_cond (t := false) (by simp only [evalF, upd, arg0, argS, ofConst, ofCell, Nat.reduceEqDiff, reduceIte, g2, g4, g5] <;> rfl) (fun h => by simp at h) (fun h => ?_)
  refine ex_test_f (by simp only [evalF, upd, arg0, argS, ofConst, ofCell, Nat.reduceEqDiff, reduceIte, g2, g4, g5] <;> rfl) (by omega) (by decide) (by decide) ?_
  refine ex_test_f (by simp only [evalF, upd, arg0, argS, ofConst, ofCell, Nat.reduceEqDiff, reduceIte, g2, g4, g5] <;> rfl) (by omega) (by decide) (by decide) ?_
  refine ex_seq (ex_test_f (by simp only [evalF, upd, arg0, argS, ofConst, ofCell, Nat.reduceEqDiff, reduceIte, g2, g4, g5] <;> rfl) (by omega) (by decide) (by decide) ?_)
  refine ex_region ?_
  refine ro_bin (by simp only [evalF, upd, arg0, argS, ofConst, ofCell, Nat.reduceEqDiff, reduceIte, g2, g4, g5] <;> rfl) (by simp only [evalF, upd, arg0, argS, ofConst, ofCell, Nat.reduceEqDiff, reduceIte, g2, g4, g5] <;> rfl) (by exact (eql_f (by omega))) (by decide) ?_
  refine ro_assign (by simp only [evalF, upd, arg0, argS, ofConst, ofCell, Nat.reduceEqDiff, reduceIte, g2, g4, g5] <;> rfl) (by decide) ?_
  refine ro_nil ?_
  try simp only
  refine ex_cond (t := false) (by simp only [evalF, upd, arg0, argS, ofConst, ofCell, Nat.reduceEqDiff, reduceIte, g2, g4, g5] <;> rfl) (fun h => by simp at h) (fun h => ?_)
  refine ex_test_f (by simp only [evalF, upd, arg0, argS, ofConst, ofCell, Nat.reduceEqDiff, reduceIte, g2, g4, g5] <;> rfl) (by omega) (by decide) (by decide) ?_
  refine ex_skip ?_
  try simp only
  simp only [refsS]
  exact ⟨by first | rfl | trivial, by simp [upd, g2], by simp [upd, g4], by simp [upd, g5], fl0, kq0⟩
theorem sw16_2 (d : Nat) {hq0 : Hp} {nb0 idm idr q res : Nat} {m0 : M} {vb : AV} {b r0 : List Int} {e0 : Int} {g : Gm} (hk : m0.kind = 2) (fl0 : Fl hq0 nb0 idm idr q m0 vb b r0 e0) (g2 : g 2 = .ptr res 1 0) (g4 : g 4 = .ptr idr 1 0) (g5 : g 5 = .ptr idm 1 0) :
    EX Try.prog plains (callA Try.prog facts plains 10000 (d + 3)) (orS facts (pureOf (callA Try.prog facts plains 10000 (d + 3)))) 10000 149 (codeAt (bodyOf Try.f16) [true, true, true, true, false]) g hq0 nb0 fun x g' hp' nb' => x = .normal ∧ g' 2 = .ptr res 1 0 ∧ g' 4 = .ptr idr 1 0 ∧ g' 5 = .ptr idm 1 0 ∧
      Fl hp' nb' idm idr q (refsS [0, 2] m0 r0 e0).1 vb b (refsS [0, 2] m0 r0 e0).2.1 (refsS [0, 2] m0 r0 e0).2.2 ∧ KeepQ hq0 nb0 q hp' nb' := by
  have kq0 := keepQ_refl hq0 nb0 q
  obtain ⟨L0, D0, hl0, _⟩ := fl0.pm.ex
  show EX _ _ _ _ _ 149 _ _ _ _ _
  simp only [codeAt, bodyOf, Try.f16, if_true, if_false, Bool.false_eq_true]
  refine ex_seq (ex_region ?_)
  refine ro_fieldAddr (by simp only [evalF, upd, arg0, argS, ofConst, ofCell, Nat.reduceEqDiff, reduceIte, g2, g4, g5] <;> rfl) (by exact (fa30_0 _ _ _)) (by decide) ?_
  refine ro_load (by simp only [evalF, upd, arg0, argS, ofConst, ofCell, Nat.reduceEqDiff, reduceIte, g2, g4, g5] <;> rfl) (by exact (load1 ag3 hl0 mc0)) (by decide) ?_
  refine ro_nil ?_
  try simp only
  refine ex_block ?_
  refine ex_test_t (by simp only [evalF, upd, arg0, argS, ofConst, ofCell, Nat.reduceEqDiff, reduceIte, g2, g4, g5] <;> rfl) (by omega) (by decide) (by decide) ?_
  refine ex_seq (ex_region ?_)
  refine ro_move (by simp only [evalF, upd, arg0, argS, ofConst, ofCell, Nat.reduceEqDiff, reduceIte, g2, g4, g5] <;> rfl) (by decide) ?_
  refine ro_call (f := 29) («as» := [.ptr idr 1 0, .pv (.bool true)]) rfl (by simp [evalF, upd, arg0, argS, ofConst, ofCell, Nat.reduceEqDiff, reduceIte, g4]) plains_29 rfl (node29 (d + 1) true fl0.rr) (by decide) ?_
  rintro v1 hp1 nb1 ⟨rfl, hr1, hk1⟩
  obtain ⟨L1, D1, hl1, hput1⟩ := fl_num fl0 hr1 (keepN_of hk1)
  refine ro_fieldAddr (by simp only [evalF, upd, arg0, argS, ofConst, ofCell, Nat.reduceEqDiff, reduceIte, g2, g4, g5] <;> rfl) (by exact (fa30_2 _ _ _)) (by decide) ?_
  refine ro_store (by simp only [evalF, upd, arg0, argS, ofConst, ofCell, Nat.reduceEqDiff, reduceIte, g2, g4, g5] <;> rfl) (by simp only [evalF, upd, arg0, argS, ofConst, ofCell, Nat.reduceEqDiff, reduceIte, g2, g4, g5] <;> rfl) (put_field fl0.pm.key sz3 hl1 ⟨rfl, rfl⟩ (by omega) (spl2 _)) ?_
  refine ro_nil ?_
  try simp only
  have hF1 := hput1 { m0 with pred := (nodeF true r0 e0).1 } fl0.pm.key rfl rfl
  generalize setHp hp1 idm (.cells 1 (mcells { m0 with pred := (nodeF true r0 e0).1 } L1 D1)) = hq1 at hF1 ⊢
  obtain ⟨fl1, hQ1⟩ := hF1
  obtain ⟨m1, r1, e1, hS1⟩ : ∃ x y z, refS 0 m0 r0 e0 = (x, y, z) := ⟨_, _, _, rfl⟩
  have fl1 : Fl hq1 nb1 idm idr q (refS 0 m0 r0 e0).1 vb b (refS 0 m0 r0 e0).2.1 (refS 0 m0 r0 e0).2.2 := fl1
  rw [hS1] at fl1
  have fl1 : Fl hq1 nb1 idm idr q m1 vb b r1 e1 := fl1
  have kq1 := keepQ_trans kq0 hQ1
  refine ex_region ?_
  refine ro_move (by simp only [evalF, upd, arg0, argS, ofConst, ofCell, Nat.reduceEqDiff, reduceIte, g2, g4, g5] <;> rfl) (by decide) ?_
  refine ro_call (f := 30) («as» := [.ptr idr 1 0]) rfl (by simp [evalF, upd, arg0, argS, ofConst, ofCell, Nat.reduceEqDiff, reduceIte, g4]) plains_30 rfl (list30 d fl1.rr) (by decide) ?_
  rintro v2 hp2 nb2 ⟨hg2, ho2, hr2, hk2⟩
  obtain ⟨L2, D2, hl2, hF2⟩ := fl_list fl1 hr2 hk2 hg2 ho2
  refine ro_fieldAddr (by simp only [evalF, upd, arg0, argS, ofConst, ofCell, Nat.reduceEqDiff, reduceIte, g2, g4, g5] <;> rfl) (by exact (fa30_3 _ _ _)) (by decide) ?_
  refine ro_store (by simp only [evalF, upd, arg0, argS, ofConst, ofCell, Nat.reduceEqDiff, reduceIte, g2, g4, g5] <;> rfl) (by simp only [evalF, upd, arg0, argS, ofConst, ofCell, Nat.reduceEqDiff, reduceIte, g2, g4, g5] <;> rfl) (put_field fl1.pm.key sz24 hl2 ⟨(row_cell hg2.row).2, (row_cell hg2.row).1⟩ (by omega) (spl3 _ (listF r1 e1).1)) ?_
  refine ro_nil ?_
  try simp only
  generalize setHp hp2 idm (.cells 1 (mcells { m1 with list := (listF r1 e1).1 } v2 D2)) = hq2 at hF2 ⊢
  obtain ⟨fl2, hQ2⟩ := hF2
  obtain ⟨m2, r2, e2, hS2⟩ : ∃ x y z, refS 2 m1 r1 e1 = (x, y, z) := ⟨_, _, _, rfl⟩
  have fl2 : Fl hq2 nb2 idm idr q (refS 2 m1 r1 e1).1 vb b (refS 2 m1 r1 e1).2.1 (refS 2 m1 r1 e1).2.2 := fl2
  rw [hS2] at fl2
  have fl2 : Fl hq2 nb2 idm idr q m2 vb b r2 e2 := fl2
  have kq2 := keepQ_trans kq1 hQ2
  simp only [refsS, hS1, hS2]
  exact ⟨by first | rfl | trivial, by simp [upd, g2], by simp [upd, g4], by simp [upd, g5], fl2, kq2⟩
theorem sw16_3 (d : Nat) {hq0 : Hp} {nb0 idm idr q res : Nat} {m0 : M} {vb : AV} {b r0 : List Int} {e0 : Int} {g : Gm} (hk : m0.kind = 3) (fl0 : Fl hq0 nb0 idm idr q m0 vb b r0 e0) (g2 : g 2 = .ptr res 1 0) (g4 : g 4 = .ptr idr 1 0) (g5 : g 5 = .ptr idm 1 0) :
    EX Try.prog plains (callA Try.prog facts plains 10000 (d + 3)) (orS facts (pureOf (callA Try.prog facts plains 10000 (d + 3)))) 10000 149 (codeAt (bodyOf Try.f16) [true, true, true, true, false]) g hq0 nb0 fun x g' hp' nb' => x = .normal ∧ g' 2 = .ptr res 1 0 ∧ g' 4 = .ptr idr 1 0 ∧ g' 5 = .ptr idm 1 0 ∧
      Fl hp' nb' idm idr q (refsS [1] m0 r0 e0).1 vb b (refsS [1] m0 r0 e0).2.1 (refsS [1] m0 r0 e0).2.2 ∧ KeepQ hq0 nb0 q hp' nb' := by
  have kq0 := keepQ_refl hq0 nb0 q
  obtain ⟨L0, D0, hl0, _⟩ := fl0.pm.ex
  show EX _ _ _ _ _ 149 _ _ _ _ _
  simp only [codeAt, bodyOf, Try.f16, if_true, if_false, Bool.false_eq_true]
  refine ex_seq (ex_region ?_)
  refine ro_fieldAddr (by simp only [evalF, upd, arg0, argS, ofConst, ofCell, Nat.reduceEqDiff, reduceIte, g2, g4, g5] <;> rfl) (by exact (fa30_0 _ _ _)) (by decide) ?_
  refine ro_load (by simp only [evalF, upd, arg0, argS, ofConst, ofCell, Nat.reduceEqDiff, reduceIte, g2, g4, g5] <;> rfl) (by exact (load1 ag3 hl0 mc0)) (by decide) ?_
  refine ro_nil ?_
  try simp only
  refine ex_block ?_
  refine ex_test_f (by simp only [evalF, upd, arg0, argS, ofConst, ofCell, Nat.reduceEqDiff, reduceIte, g2, g4, g5] <;> rfl) (by omega) (by decide) (by decide) ?_
  refine ex_test_t (by simp only [evalF, upd, arg0, argS, ofConst, ofCell, Nat.reduceEqDiff, reduceIte, g2, g4, g5] <;> rfl) (by omega) (by decide) (by decide) ?_
  refine ex_region ?_
  refine ro_move (by simp only [evalF, upd, arg0, argS, ofConst, ofCell, Nat.reduceEqDiff, reduceIte, g2, g4, g5] <;> rfl) (by decide) ?_
  refine ro_call (f := 29) («as» := [.ptr idr 1 0, .pv (.bool false)]) rfl (by simp [evalF, upd, arg0, argS, ofConst, ofCell, Nat.reduceEqDiff, reduceIte, g4]) plains_29 rfl (node29 (d + 1) false fl0.rr) (by decide) ?_
  rintro v1 hp1 nb1 ⟨rfl, hr1, hk1⟩
  obtain ⟨L1, D1, hl1, hput1⟩ := fl_num fl0 hr1 (keepN_of hk1)
  refine ro_fieldAddr (by simp only [evalF, upd, arg0, argS, ofConst, ofCell, Nat.reduceEqDiff, reduceIte, g2, g4, g5] <;> rfl) (by exact (fa30_1 _ _ _)) (by decide) ?_
  refine ro_store (by simp only [evalF, upd, arg0, argS, ofConst, ofCell, Nat.reduceEqDiff, reduceIte, g2, g4, g5] <;> rfl) (by simp only [evalF, upd, arg0, argS, ofConst, ofCell, Nat.reduceEqDiff, reduceIte, g2, g4, g5] <;> rfl) (put_field fl0.pm.key sz3 hl1 ⟨rfl, rfl⟩ (by omega) (spl1 _)) ?_
  refine ro_nil ?_
  try simp only
  have hF1 := hput1 { m0 with node := (nodeF false r0 e0).1 } fl0.pm.key rfl rfl
  generalize setHp hp1 idm (.cells 1 (mcells { m0 with node := (nodeF false r0 e0).1 } L1 D1)) = hq1 at hF1 ⊢
  obtain ⟨fl1, hQ1⟩ := hF1
  obtain ⟨m1, r1, e1, hS1⟩ : ∃ x y z, refS 1 m0 r0 e0 = (x, y, z) := ⟨_, _, _, rfl⟩
  have fl1 : Fl hq1 nb1 idm idr q (refS 1 m0 r0 e0).1 vb b (refS 1 m0 r0 e0).2.1 (refS 1 m0 r0 e0).2.2 := fl1
  rw [hS1] at fl1
  have fl1 : Fl hq1 nb1 idm idr q m1 vb b r1 e1 := fl1
  have kq1 := keepQ_trans kq0 hQ1
  simp only [refsS, hS1]
  exact ⟨by first | rfl | trivial, by simp [upd, g2], by simp [upd, g4], by simp [upd, g5], fl1, kq1⟩
theorem sw16_4 (d : Nat) {hq0 : Hp} {nb0 idm idr q res : Nat} {m0 : M} {vb : AV} {b r0 : List Int} {e0 : Int} {g : Gm} (hk : m0.kind = 4) (fl0 : Fl hq0 nb0 idm idr q m0 vb b r0 e0) (g2 : g 2 = .ptr res 1 0) (g4 : g 4 = .ptr idr 1 0) (g5 : g 5 = .ptr idm 1 0) :
    EX Try.prog plains (callA Try.prog facts plains 10000 (d + 3)) (orS facts (pureOf (callA Try.prog facts plains 10000 (d + 3)))) 10000 149 (codeAt (bodyOf Try.f16) [true, true, true, true, false]) g hq0 nb0 fun x g' hp' nb' => x = .normal ∧ g' 2 = .ptr res 1 0 ∧ g' 4 = .ptr idr 1 0 ∧ g' 5 = .ptr idm 1 0 ∧
      Fl hp' nb' idm idr q (refsS [4] m0 r0 e0).1 vb b (refsS [4] m0 r0 e0).2.1 (refsS [4] m0 r0 e0).2.2 ∧ KeepQ hq0 nb0 q hp' nb' := by
  have kq0 := keepQ_refl hq0 nb0 q
  obtain ⟨L0, D0, hl0, _⟩ := fl0.pm.ex
  show EX _ _ _ _ _ 149 _ _ _ _ _
  simp only [codeAt, bodyOf, Try.f16, if_true, if_false, Bool.false_eq_true]
  refine ex_seq (ex_region ?_)
  refine ro_fieldAddr (by simp only [evalF, upd, arg0, argS, ofConst, ofCell, Nat.reduceEqDiff, reduceIte, g2, g4, g5] <;> rfl) (by exact (fa30_0 _ _ _)) (by decide) ?_
  refine ro_load (by simp only [evalF, upd, arg0, argS, ofConst, ofCell, Nat.reduceEqDiff, reduceIte, g2, g4, g5] <;> rfl) (by exact (load1 ag3 hl0 mc0)) (by decide) ?_
  refine ro_nil ?_
  try simp only
  refine ex_block ?_
  refine ex_test_f (by simp only [evalF, upd, arg0, argS, ofConst, ofCell, Nat.reduceEqDiff, reduceIte, g2, g4, g5] <;> rfl) (by omega) (by decide) (by decide) ?_
  refine ex_test_f (by simp only [evalF, upd, arg0, argS, ofConst, ofCell, Nat.reduceEqDiff, reduceIte, g2, g4, g5] <;> rfl) (by omega) (by decide) (by decide) ?_
  refine ex_test_t (by simp only [evalF, upd, arg0, argS, ofConst, ofCell, Nat.reduceEqDiff, reduceIte, g2, g4, g5] <;> rfl) (by omega) (by decide) (by decide) ?_
  refine ex_seq (ex_region ?_)
  refine ro_move (by simp only [evalF, upd, arg0, argS, ofConst, ofCell, Nat.reduceEqDiff, reduceIte, g2, g4, g5] <;> rfl) (by decide) ?_
  refine ro_call (f := 28) («as» := [.ptr idr 1 0]) rfl (by simp [evalF, upd, arg0, argS, ofConst, ofCell, Nat.reduceEqDiff, reduceIte, g4]) plains_28 rfl (u8_28 (d + 2) fl0.rr) (by decide) ?_
  rintro v1 hp1 nb1 ⟨rfl, hr1, hk1⟩
  obtain ⟨L1, D1, hl1, hput1⟩ := fl_num fl0 hr1 (keepN_of hk1)
  refine ro_fieldAddr (by simp only [evalF, upd, arg0, argS, ofConst, ofCell, Nat.reduceEqDiff, reduceIte, g2, g4, g5] <;> rfl) (by exact (fa30_8 _ _ _)) (by decide) ?_
  refine ro_store (by simp only [evalF, upd, arg0, argS, ofConst, ofCell, Nat.reduceEqDiff, reduceIte, g2, g4, g5] <;> rfl) (by simp only [evalF, upd, arg0, argS, ofConst, ofCell, Nat.reduceEqDiff, reduceIte, g2, g4, g5] <;> rfl) (put_field fl0.pm.key sz28 hl1 ⟨rfl, rfl⟩ (by omega) (spl39 fl0.pm.key _)) ?_
  refine ro_nil ?_
  try simp only
  have hF1 := hput1 { m0 with err := (u8F r0 e0).1 } fl0.pm.key rfl rfl
  generalize setHp hp1 idm (.cells 1 (mcells { m0 with err := (u8F r0 e0).1 } L1 D1)) = hq1 at hF1 ⊢
  obtain ⟨fl1, hQ1⟩ := hF1
  obtain ⟨L1', D1', hl1', _⟩ := fl1.pm.ex
  refine ex_region ?_
  refine ro_move (by simp only [evalF, upd, arg0, argS, ofConst, ofCell, Nat.reduceEqDiff, reduceIte, g2, g4, g5] <;> rfl) (by decide) ?_
  refine ro_fieldAddr (by simp only [evalF, upd, arg0, argS, ofConst, ofCell, Nat.reduceEqDiff, reduceIte, g2, g4, g5] <;> rfl) (by exact (fa30_8 _ _ _)) (by decide) ?_
  refine ro_load (by simp only [evalF, upd, arg0, argS, ofConst, ofCell, Nat.reduceEqDiff, reduceIte, g2, g4, g5] <;> rfl) (by exact (load1 ag28 hl1' (mc39 fl1.pm.key))) (by decide) ?_
  refine ro_bin (by simp only [evalF, upd, arg0, argS, ofConst, ofCell, Nat.reduceEqDiff, reduceIte, g2, g4, g5] <;> rfl) (by simp only [evalF, upd, arg0, argS, ofConst, ofCell, Nat.reduceEqDiff, reduceIte, g2, g4, g5] <;> rfl) (by exact (leq_v)) (by decide) ?_
  refine ro_call (f := 31) («as» := [.ptr idr 1 0, .pv (.bool (decide ((u8F r0 e0).1 ≤ 20)))]) rfl (by simp [evalF, upd, arg0, argS, ofConst, ofCell, Nat.reduceEqDiff, reduceIte, g4]) plains_31 rfl (may31 (d + 2) _ fl1.rr) (by decide) ?_
  rintro w1 hw1 nw1 ⟨rfl, hr1', hk1'⟩
  refine ro_nil ?_
  try simp only
  obtain ⟨fl1, hQ1'⟩ := fl_same fl1 hr1' (keepN_of hk1')
  have hQ1 := keepQ_trans hQ1 hQ1'
  clear hl1'
  generalize hq1 = hz1 at *
  generalize hw1 = hq1 at *
  obtain ⟨m1, r1, e1, hS1⟩ : ∃ x y z, refS 4 m0 r0 e0 = (x, y, z) := ⟨_, _, _, rfl⟩
  have fl1 : Fl hq1 nw1 idm idr q (refS 4 m0 r0 e0).1 vb b (refS 4 m0 r0 e0).2.1 (refS 4 m0 r0 e0).2.2 := fl1
  rw [hS1] at fl1
  have fl1 : Fl hq1 nw1 idm idr q m1 vb b r1 e1 := fl1
  have kq1 := keepQ_trans kq0 hQ1
  simp only [refsS, hS1]
  exact ⟨by first | rfl | trivial, by simp [upd, g2], by simp [upd, g4], by simp [upd, g5], fl1, kq1⟩
theorem sw16_5 (d : Nat) {hq0 : Hp} {nb0 idm idr q res : Nat} {m0 : M} {vb : AV} {b r0 : List Int} {e0 : Int} {g : Gm} (hk : m0.kind = 5) (fl0 : Fl hq0 nb0 idm idr q m0 vb b r0 e0) (g2 : g 2 = .ptr res 1 0) (g4 : g 4 = .ptr idr 1 0) (g5 : g 5 = .ptr idm 1 0) :
    EX Try.prog plains (callA Try.prog facts plains 10000 (d + 3)) (orS facts (pureOf (callA Try.prog facts plains 10000 (d + 3)))) 10000 149 (codeAt (bodyOf Try.f16) [true, true, true, true, false]) g hq0 nb0 fun x g' hp' nb' => x = .normal ∧ g' 2 = .ptr res 1 0 ∧ g' 4 = .ptr idr 1 0 ∧ g' 5 = .ptr idm 1 0 ∧
      Fl hp' nb' idm idr q (refsS [5] m0 r0 e0).1 vb b (refsS [5] m0 r0 e0).2.1 (refsS [5] m0 r0 e0).2.2 ∧ KeepQ hq0 nb0 q hp' nb' := by
  have kq0 := keepQ_refl hq0 nb0 q
  obtain ⟨L0, D0, hl0, _⟩ := fl0.pm.ex
  show EX _ _ _ _ _ 149 _ _ _ _ _
  simp only [codeAt, bodyOf, Try.f16, if_true, if_false, Bool.false_eq_true]
  refine ex_seq (ex_region ?_)
  refine ro_fieldAddr (by simp only [evalF, upd, arg0, argS, ofConst, ofCell, Nat.reduceEqDiff, reduceIte, g2, g4, g5] <;> rfl) (by exact (fa30_0 _ _ _)) (by decide) ?_
  refine ro_load (by simp only [evalF, upd, arg0, argS, ofConst, ofCell, Nat.reduceEqDiff, reduceIte, g2, g4, g5] <;> rfl) (by exact (load1 ag3 hl0 mc0)) (by decide) ?_
  refine ro_nil ?_
  try simp only
  refine ex_block ?_
  refine ex_test_f (by simp only [evalF, upd, arg0, argS, ofConst, ofCell, Nat.reduceEqDiff, reduceIte, g2, g4, g5] <;> rfl) (by omega) (by decide) (by decide) ?_
  refine ex_test_f (by simp only [evalF, upd, arg0, argS, ofConst, ofCell, Nat.reduceEqDiff, reduceIte, g2, g4, g5] <;> rfl) (by omega) (by decide) (by decide) ?_
  refine ex_test_f (by simp only [evalF, upd, arg0, argS, ofConst, ofCell, Nat.reduceEqDiff, reduceIte, g2, g4, g5] <;> rfl) (by omega) (by decide) (by decide) ?_
  refine ex_seq (ex_test_t (by simp only [evalF, upd, arg0, argS, ofConst, ofCell, Nat.reduceEqDiff, reduceIte, g2, g4, g5] <;> rfl) (by omega) (by decide) (by decide) ?_)
  refine ex_skip ?_
  try simp only
  refine ex_cond (t := true) (by simp only [evalF, upd, arg0, argS, ofConst, ofCell, Nat.reduceEqDiff, reduceIte, g2, g4, g5] <;> rfl) (fun h => ?_) (fun h => by simp at h)
  refine ex_region ?_
  refine ro_move (by simp only [evalF, upd, arg0, argS, ofConst, ofCell, Nat.reduceEqDiff, reduceIte, g2, g4, g5] <;> rfl) (by decide) ?_
  refine ro_call (f := 32) («as» := [.ptr idr 1 0]) rfl (by simp [evalF, upd, arg0, argS, ofConst, ofCell, Nat.reduceEqDiff, reduceIte, g4]) plains_32 rfl (id32 (d + 1) fl0.rr) (by decide) ?_
  rintro v1 hp1 nb1 ⟨rfl, hr1, hk1⟩
  obtain ⟨L1, D1, hl1, hput1⟩ := fl_num fl0 hr1 hk1
  have hl321 : (idG 32 [] r0 e0).1.length = 32 := by rw [idG_len]; rfl
  refine ro_fieldAddr (by simp only [evalF, upd, arg0, argS, ofConst, ofCell, Nat.reduceEqDiff, reduceIte, g2, g4, g5] <;> rfl) (by exact (fa30_5 _ _ _)) (by decide) ?_
  refine ro_store (by simp only [evalF, upd, arg0, argS, ofConst, ofCell, Nat.reduceEqDiff, reduceIte, g2, g4, g5] <;> rfl) (by simp only [evalF, upd, arg0, argS, ofConst, ofCell, Nat.reduceEqDiff, reduceIte, g2, g4, g5] <;> rfl) (sts_key fl0.pm.key hl321 hl1) ?_
  refine ro_nil ?_
  try simp only
  have hF1 := hput1 { m0 with key := (idG 32 [] r0 e0).1 } hl321 rfl rfl
  generalize setHp hp1 idm (.cells 1 (mcells { m0 with key := (idG 32 [] r0 e0).1 } L1 D1)) = hq1 at hF1 ⊢
  obtain ⟨fl1, hQ1⟩ := hF1
  obtain ⟨m1, r1, e1, hS1⟩ : ∃ x y z, refS 5 m0 r0 e0 = (x, y, z) := ⟨_, _, _, rfl⟩
  have fl1 : Fl hq1 nb1 idm idr q (refS 5 m0 r0 e0).1 vb b (refS 5 m0 r0 e0).2.1 (refS 5 m0 r0 e0).2.2 := fl1
  rw [hS1] at fl1
  have fl1 : Fl hq1 nb1 idm idr q m1 vb b r1 e1 := fl1
  have kq1 := keepQ_trans kq0 hQ1
  simp only [refsS, hS1]
  exact ⟨by first | rfl | trivial, by simp [upd, g2], by simp [upd, g4], by simp [upd, g5], fl1, kq1⟩
theorem sw16_6 (d : Nat) {hq0 : Hp} {nb0 idm idr q res : Nat} {m0 : M} {vb : AV} {b r0 : List Int} {e0 : Int} {g : Gm} (hk : m0.kind = 6) (fl0 : Fl hq0 nb0 idm idr q m0 vb b r0 e0) (g2 : g 2 = .ptr res 1 0) (g4 : g 4 = .ptr idr 1 0) (g5 : g 5 = .ptr idm 1 0) :
    EX Try.prog plains (callA Try.prog facts plains 10000 (d + 3)) (orS facts (pureOf (callA Try.prog facts plains 10000 (d + 3)))) 10000 149 (codeAt (bodyOf Try.f16) [true, true, true, true, false]) g hq0 nb0 fun x g' hp' nb' => x = .normal ∧ g' 2 = .ptr res 1 0 ∧ g' 4 = .ptr idr 1 0 ∧ g' 5 = .ptr idm 1 0 ∧
      Fl hp' nb' idm idr q (refsS [3, 2] m0 r0 e0).1 vb b (refsS [3, 2] m0 r0 e0).2.1 (refsS [3, 2] m0 r0 e0).2.2 ∧ KeepQ hq0 nb0 q hp' nb' := by
  have kq0 := keepQ_refl hq0 nb0 q
  obtain ⟨L0, D0, hl0, _⟩ := fl0.pm.ex
  show EX _ _ _ _ _ 149 _ _ _ _ _
  simp only [codeAt, bodyOf, Try.f16, if_true, if_false, Bool.false_eq_true]
  refine ex_seq (ex_region ?_)
  refine ro_fieldAddr (by simp only [evalF, upd, arg0, argS, ofConst, ofCell, Nat.reduceEqDiff, reduceIte, g2, g4, g5] <;> rfl) (by exact (fa30_0 _ _ _)) (by decide) ?_
  refine ro_load (by simp only [evalF, upd, arg0, argS, ofConst, ofCell, Nat.reduceEqDiff, reduceIte, g2, g4, g5] <;> rfl) (by exact (load1 ag3 hl0 mc0)) (by decide) ?_
  refine ro_nil ?_
  try simp only
  refine ex_block ?_
  refine ex_test_f (by simp only [evalF, upd, arg0, argS, ofConst, ofCell, Nat.reduceEqDiff, reduceIte, g2, g4, g5] <;> rfl) (by omega) (by decide) (by decide) ?_
  refine ex_test_f (by simp only [evalF, upd, arg0, argS, ofConst, ofCell, Nat.reduceEqDiff, reduceIte, g2, g4, g5] <;> rfl) (by omega) (by decide) (by decide) ?_
  refine ex_test_f (by simp only [evalF, upd, arg0, argS, ofConst, ofCell, Nat.reduceEqDiff, reduceIte, g2, g4, g5] <;> rfl) (by omega) (by decide) (by decide) ?_
  refine ex_seq (ex_test_f (by simp only [evalF, upd, arg0, argS, ofConst, ofCell, Nat.reduceEqDiff, reduceIte, g2, g4, g5] <;> rfl) (by omega) (by decide) (by decide) ?_)
  refine ex_test_f (by simp only [evalF, upd, arg0, argS, ofConst, ofCell, Nat.reduceEqDiff, reduceIte, g2, g4, g5] <;> rfl) (by omega) (by decide) (by decide) ?_
  refine ex_region ?_
  refine ro_bin (by simp only [evalF, upd, arg0, argS, ofConst, ofCell, Nat.reduceEqDiff, reduceIte, g2, g4, g5] <;> rfl) (by simp only [evalF, upd, arg0, argS, ofConst, ofCell, Nat.reduceEqDiff, reduceIte, g2, g4, g5] <;> rfl) (by exact (eql_f (by omega))) (by decide) ?_
  refine ro_assign (by simp only [evalF, upd, arg0, argS, ofConst, ofCell, Nat.reduceEqDiff, reduceIte, g2, g4, g5] <;> rfl) (by decide) ?_
  refine ro_nil ?_
  try simp only
  refine ex_cond (t := false) (by simp only [evalF, upd, arg0, argS, ofConst, ofCell, Nat.reduceEqDiff, reduceIte, g2, g4, g5] <;> rfl) (fun h => by simp at h) (fun h => ?_)
  refine ex_test_t (by simp only [evalF, upd, arg0, argS, ofConst, ofCell, Nat.reduceEqDiff, reduceIte, g2, g4, g5] <;> rfl) (by omega) (by decide) (by decide) ?_
  refine ex_seq (ex_region ?_)
  refine ro_move (by simp only [evalF, upd, arg0, argS, ofConst, ofCell, Nat.reduceEqDiff, reduceIte, g2, g4, g5] <;> rfl) (by decide) ?_
  refine ro_call (f := 28) («as» := [.ptr idr 1 0]) rfl (by simp [evalF, upd, arg0, argS, ofConst, ofCell, Nat.reduceEqDiff, reduceIte, g4]) plains_28 rfl (u8_28 (d + 2) fl0.rr) (by decide) ?_
  rintro v1 hp1 nb1 ⟨rfl, hr1, hk1⟩
  refine ro_assign (by simp only [evalF, upd, arg0, argS, ofConst, ofCell, Nat.reduceEqDiff, reduceIte, g2, g4, g5] <;> rfl) (by decide) ?_
  refine ro_nil ?_
  try simp only
  refine ex_seq (ex_region ?_)
  refine ro_move (by simp only [evalF, upd, arg0, argS, ofConst, ofCell, Nat.reduceEqDiff, reduceIte, g2, g4, g5] <;> rfl) (by decide) ?_
  refine ro_move (by simp only [evalF, upd, arg0, argS, ofConst, ofCell, Nat.reduceEqDiff, reduceIte, g2, g4, g5] <;> rfl) (by decide) ?_
  refine ro_bin (by simp only [evalF, upd, arg0, argS, ofConst, ofCell, Nat.reduceEqDiff, reduceIte, g2, g4, g5] <;> rfl) (by simp only [evalF, upd, arg0, argS, ofConst, ofCell, Nat.reduceEqDiff, reduceIte, g2, g4, g5] <;> rfl) (by exact (leq_v)) (by decide) ?_
  refine ro_call (f := 31) («as» := [.ptr idr 1 0, .pv (.bool (decide ((u8F r0 e0).1 ≤ 1)))]) rfl (by simp [evalF, upd, arg0, argS, ofConst, ofCell, Nat.reduceEqDiff, reduceIte, g4]) plains_31 rfl (may31 (d + 2) _ hr1) (by decide) ?_
  rintro w1 hw1 nw1 ⟨rfl, hr1', hk1'⟩
  refine ro_nil ?_
  try simp only
  refine ex_seq (ex_region ?_)
  refine ro_move (by simp only [evalF, upd, arg0, argS, ofConst, ofCell, Nat.reduceEqDiff, reduceIte, g2, g4, g5] <;> rfl) (by decide) ?_
  refine ro_bin (by simp only [evalF, upd, arg0, argS, ofConst, ofCell, Nat.reduceEqDiff, reduceIte, g2, g4, g5] <;> rfl) (by simp only [evalF, upd, arg0, argS, ofConst, ofCell, Nat.reduceEqDiff, reduceIte, g2, g4, g5] <;> rfl) (by exact (eql_v)) (by decide) ?_
  obtain ⟨L1, D1, hl1, hput1⟩ := fl_num fl0 hr1' (keepN_trans (keepN_of hk1) (keepN_of hk1'))
  refine ro_fieldAddr (by simp only [evalF, upd, arg0, argS, ofConst, ofCell, Nat.reduceEqDiff, reduceIte, g2, g4, g5] <;> rfl) (by exact (fa30_4 _ _ _)) (by decide) ?_
  refine ro_store (by simp only [evalF, upd, arg0, argS, ofConst, ofCell, Nat.reduceEqDiff, reduceIte, g2, g4, g5] <;> rfl) (by simp only [evalF, upd, arg0, argS, ofConst, ofCell, Nat.reduceEqDiff, reduceIte, g2, g4, g5] <;> rfl) (put_field fl0.pm.key sz4 hl1 ⟨rfl, rfl⟩ (by omega) (spl4 _)) ?_
  refine ro_nil ?_
  try simp only
  have hF1 := hput1 { m0 with done := (u8F r0 e0).1 == 1 } fl0.pm.key rfl rfl
  generalize setHp hw1 idm (.cells 1 (mcells { m0 with done := (u8F r0 e0).1 == 1 } L1 D1)) = hq1 at hF1 ⊢
  obtain ⟨fl1, hQ1⟩ := hF1
  obtain ⟨m1, r1, e1, hS1⟩ : ∃ x y z, refS 3 m0 r0 e0 = (x, y, z) := ⟨_, _, _, rfl⟩
  have fl1 : Fl hq1 nw1 idm idr q (refS 3 m0 r0 e0).1 vb b (refS 3 m0 r0 e0).2.1 (refS 3 m0 r0 e0).2.2 := fl1
  rw [hS1] at fl1
  have fl1 : Fl hq1 nw1 idm idr q m1 vb b r1 e1 := fl1
  have kq1 := keepQ_trans kq0 hQ1
  refine ex_region ?_
  refine ro_move (by simp only [evalF, upd, arg0, argS, ofConst, ofCell, Nat.reduceEqDiff, reduceIte, g2, g4, g5] <;> rfl) (by decide) ?_
  refine ro_call (f := 30) («as» := [.ptr idr 1 0]) rfl (by simp [evalF, upd, arg0, argS, ofConst, ofCell, Nat.reduceEqDiff, reduceIte, g4]) plains_30 rfl (list30 d fl1.rr) (by decide) ?_
  rintro v2 hp2 nb2 ⟨hg2, ho2, hr2, hk2⟩
  obtain ⟨L2, D2, hl2, hF2⟩ := fl_list fl1 hr2 hk2 hg2 ho2
  refine ro_fieldAddr (by simp only [evalF, upd, arg0, argS, ofConst, ofCell, Nat.reduceEqDiff, reduceIte, g2, g4, g5] <;> rfl) (by exact (fa30_3 _ _ _)) (by decide) ?_
  refine ro_store (by simp only [evalF, upd, arg0, argS, ofConst, ofCell, Nat.reduceEqDiff, reduceIte, g2, g4, g5] <;> rfl) (by simp only [evalF, upd, arg0, argS, ofConst, ofCell, Nat.reduceEqDiff, reduceIte, g2, g4, g5] <;> rfl) (put_field fl1.pm.key sz24 hl2 ⟨(row_cell hg2.row).2, (row_cell hg2.row).1⟩ (by omega) (spl3 _ (listF r1 e1).1)) ?_
  refine ro_nil ?_
  try simp only
  generalize setHp hp2 idm (.cells 1 (mcells { m1 with list := (listF r1 e1).1 } v2 D2)) = hq2 at hF2 ⊢
  obtain ⟨fl2, hQ2⟩ := hF2
  obtain ⟨m2, r2, e2, hS2⟩ : ∃ x y z, refS 2 m1 r1 e1 = (x, y, z) := ⟨_, _, _, rfl⟩
  have fl2 : Fl hq2 nb2 idm idr q (refS 2 m1 r1 e1).1 vb b (refS 2 m1 r1 e1).2.1 (refS 2 m1 r1 e1).2.2 := fl2
  rw [hS2] at fl2
  have fl2 : Fl hq2 nb2 idm idr q m2 vb b r2 e2 := fl2
  have kq2 := keepQ_trans kq1 hQ2
  simp only [refsS, hS1, hS2]
  exact ⟨by first | rfl | trivial, by simp [upd, g2], by simp [upd, g4], by simp [upd, g5], fl2, kq2⟩
theorem sw16_7 (d : Nat) {hq0 : Hp} {nb0 idm idr q res : Nat} {m0 : M} {vb : AV} {b r0 : List Int} {e0 : Int} {g : Gm} (hk : m0.kind = 7) (fl0 : Fl hq0 nb0 idm idr q m0 vb b r0 e0) (g2 : g 2 = .ptr res 1 0) (g4 : g 4 = .ptr idr 1 0) (g5 : g 5 = .ptr idm 1 0) :
    EX Try.prog plains (callA Try.prog facts plains 10000 (d + 3)) (orS facts (pureOf (callA Try.prog facts plains 10000 (d + 3)))) 10000 149 (codeAt (bodyOf Try.f16) [true, true, true, true, false]) g hq0 nb0 fun x g' hp' nb' => x = .normal ∧ g' 2 = .ptr res 1 0 ∧ g' 4 = .ptr idr 1 0 ∧ g' 5 = .ptr idm 1 0 ∧
      Fl hp' nb' idm idr q (refsS [5] m0 r0 e0).1 vb b (refsS [5] m0 r0 e0).2.1 (refsS [5] m0 r0 e0).2.2 ∧ KeepQ hq0 nb0 q hp' nb' := by
  have kq0 := keepQ_refl hq0 nb0 q
  obtain ⟨L0, D0, hl0, _⟩ := fl0.pm.ex
  show EX _ _ _ _ _ 149 _ _ _ _ _
  simp only [codeAt, bodyOf, Try.f16, if_true, if_false, Bool.false_eq_true]
  refine ex_seq (ex_region ?_)
  refine ro_fieldAddr (by simp only [evalF, upd, arg0, argS, ofConst, ofCell, Nat.reduceEqDiff, reduceIte, g2, g4, g5] <;> rfl) (by exact (fa30_0 _ _ _)) (by decide) ?_
  refine ro_load (by simp only [evalF, upd, arg0, argS, ofConst, ofCell, Nat.reduceEqDiff, reduceIte, g2, g4, g5] <;> rfl) (by exact (load1 ag3 hl0 mc0)) (by decide) ?_
  refine ro_nil ?_
  try simp only
  refine ex_block ?_
  refine ex_test_f (by simp only [evalF, upd, arg0, argS, ofConst, ofCell, Nat.reduceEqDiff, reduceIte, g2, g4, g5] <;> rfl) (by omega) (by decide) (by decide) ?_
  refine ex_test_f (by simp only [evalF, upd, arg0, argS, ofConst, ofCell, Nat.reduceEqDiff, reduceIte, g2, g4, g5] <;> rfl) (by omega) (by decide) (by decide) ?_
  refine ex_test_f (by simp only [evalF, upd, arg0, argS, ofConst, ofCell, Nat.reduceEqDiff, reduceIte, g2, g4, g5] <;> rfl) (by omega) (by decide) (by decide) ?_
  refine ex_seq (ex_test_f (by simp only [evalF, upd, arg0, argS, ofConst, ofCell, Nat.reduceEqDiff, reduceIte, g2, g4, g5] <;> rfl) (by omega) (by decide) (by decide) ?_)
  refine ex_test_t (by simp only [evalF, upd, arg0, argS, ofConst, ofCell, Nat.reduceEqDiff, reduceIte, g2, g4, g5] <;> rfl) (by omega) (by decide) (by decide) ?_
  refine ex_skip ?_
  try simp only
  refine ex_cond (t := true) (by simp only [evalF, upd, arg0, argS, ofConst, ofCell, Nat.reduceEqDiff, reduceIte, g2, g4, g5] <;> rfl) (fun h => ?_) (fun h => by simp at h)
  refine ex_region ?_
  refine ro_move (by simp only [evalF, upd, arg0, argS, ofConst, ofCell, Nat.reduceEqDiff, reduceIte, g2, g4, g5] <;> rfl) (by decide) ?_
  refine ro_call (f := 32) («as» := [.ptr idr 1 0]) rfl (by simp [evalF, upd, arg0, argS, ofConst, ofCell, Nat.reduceEqDiff, reduceIte, g4]) plains_32 rfl (id32 (d + 1) fl0.rr) (by decide) ?_
  rintro v1 hp1 nb1 ⟨rfl, hr1, hk1⟩
  obtain ⟨L1, D1, hl1, hput1⟩ := fl_num fl0 hr1 hk1
  have hl321 : (idG 32 [] r0 e0).1.length = 32 := by rw [idG_len]; rfl
  refine ro_fieldAddr (by simp only [evalF, upd, arg0, argS, ofConst, ofCell, Nat.reduceEqDiff, reduceIte, g2, g4, g5] <;> rfl) (by exact (fa30_5 _ _ _)) (by decide) ?_
  refine ro_store (by simp only [evalF, upd, arg0, argS, ofConst, ofCell, Nat.reduceEqDiff, reduceIte, g2, g4, g5] <;> rfl) (by simp only [evalF, upd, arg0, argS, ofConst, ofCell, Nat.reduceEqDiff, reduceIte, g2, g4, g5] <;> rfl) (sts_key fl0.pm.key hl321 hl1) ?_
  refine ro_nil ?_
  try simp only
  have hF1 := hput1 { m0 with key := (idG 32 [] r0 e0).1 } hl321 rfl rfl
  generalize setHp hp1 idm (.cells 1 (mcells { m0 with key := (idG 32 [] r0 e0).1 } L1 D1)) = hq1 at hF1 ⊢
  obtain ⟨fl1, hQ1⟩ := hF1
  obtain ⟨m1, r1, e1, hS1⟩ : ∃ x y z, refS 5 m0 r0 e0 = (x, y, z) := ⟨_, _, _, rfl⟩
  have fl1 : Fl hq1 nb1 idm idr q (refS 5 m0 r0 e0).1 vb b (refS 5 m0 r0 e0).2.1 (refS 5 m0 r0 e0).2.2 := fl1
  rw [hS1] at fl1
  have fl1 : Fl hq1 nb1 idm idr q m1 vb b r1 e1 := fl1
  have kq1 := keepQ_trans kq0 hQ1
  simp only [refsS, hS1]
  exact ⟨by first | rfl | trivial, by simp [upd, g2], by simp [upd, g4], by simp [upd, g5], fl1, kq1⟩
theorem sw16_8 (d : Nat) {hq0 : Hp} {nb0 idm idr q res : Nat} {m0 : M} {vb : AV} {b r0 : List Int} {e0 : Int} {g : Gm} (hk : m0.kind = 8) (fl0 : Fl hq0 nb0 idm idr q m0 vb b r0 e0) (g2 : g 2 = .ptr res 1 0) (g4 : g 4 = .ptr idr 1 0) (g5 : g 5 = .ptr idm 1 0) :
    EX Try.prog plains (callA Try.prog facts plains 10000 (d + 3)) (orS facts (pureOf (callA Try.prog facts plains 10000 (d + 3)))) 10000 149 (codeAt (bodyOf Try.f16) [true, true, true, true, false]) g hq0 nb0 fun x g' hp' nb' => x = .normal ∧ g' 2 = .ptr res 1 0 ∧ g' 4 = .ptr idr 1 0 ∧ g' 5 = .ptr idm 1 0 ∧
      Fl hp' nb' idm idr q (refsS [4, 6] m0 r0 e0).1 vb b (refsS [4, 6] m0 r0 e0).2.1 (refsS [4, 6] m0 r0 e0).2.2 ∧ KeepQ hq0 nb0 q hp' nb' := by
  have kq0 := keepQ_refl hq0 nb0 q
  obtain ⟨L0, D0, hl0, _⟩ := fl0.pm.ex
  show EX _ _ _ _ _ 149 _ _ _ _ _
  simp only [codeAt, bodyOf, Try.f16, if_true, if_false, Bool.false_eq_true]
  refine ex_seq (ex_region ?_)
  refine ro_fieldAddr (by simp only [evalF, upd, arg0, argS, ofConst, ofCell, Nat.reduceEqDiff, reduceIte, g2, g4, g5] <;> rfl) (by exact (fa30_0 _ _ _)) (by decide) ?_
  refine ro_load (by simp only [evalF, upd, arg0, argS, ofConst, ofCell, Nat.reduceEqDiff, reduceIte, g2, g4, g5] <;> rfl) (by exact (load1 ag3 hl0 mc0)) (by decide) ?_
  refine ro_nil ?_
  try simp only
  refine ex_block ?_
  refine ex_test_f (by simp only [evalF, upd, arg0, argS, ofConst, ofCell, Nat.reduceEqDiff, reduceIte, g2, g4, g5] <;> rfl) (by omega) (by decide) (by decide) ?_
  refine ex_test_f (by simp only [evalF, upd, arg0, argS, ofConst, ofCell, Nat.reduceEqDiff, reduceIte, g2, g4, g5] <;> rfl) (by omega) (by decide) (by decide) ?_
  refine ex_test_f (by simp only [evalF, upd, arg0, argS, ofConst, ofCell, Nat.reduceEqDiff, reduceIte, g2, g4, g5] <;> rfl) (by omega) (by decide) (by decide) ?_
  refine ex_seq (ex_test_f (by simp only [evalF, upd, arg0, argS, ofConst, ofCell, Nat.reduceEqDiff, reduceIte, g2, g4, g5] <;> rfl) (by omega) (by decide) (by decide) ?_)
  refine ex_test_f (by simp only [evalF, upd, arg0, argS, ofConst, ofCell, Nat.reduceEqDiff, reduceIte, g2, g4, g5] <;> rfl) (by omega) (by decide) (by decide) ?_
  refine ex_region ?_
  refine ro_bin (by simp only [evalF, upd, arg0, argS, ofConst, ofCell, Nat.reduceEqDiff, reduceIte, g2, g4, g5] <;> rfl) (by simp only [evalF, upd, arg0, argS, ofConst, ofCell, Nat.reduceEqDiff, reduceIte, g2, g4, g5] <;> rfl) (by exact (eql_f (by omega))) (by decide) ?_
  refine ro_assign (by simp only [evalF, upd, arg0, argS, ofConst, ofCell, Nat.reduceEqDiff, reduceIte, g2, g4, g5] <;> rfl) (by decide) ?_
  refine ro_nil ?_
  try simp only
  refine ex_cond (t := false) (by simp only [evalF, upd, arg0, argS, ofConst, ofCell, Nat.reduceEqDiff, reduceIte, g2, g4, g5] <;> rfl) (fun h => by simp at h) (fun h => ?_)
  refine ex_test_f (by simp only [evalF, upd, arg0, argS, ofConst, ofCell, Nat.reduceEqDiff, reduceIte, g2, g4, g5] <;> rfl) (by omega) (by decide) (by decide) ?_
  refine ex_test_t (by simp only [evalF, upd, arg0, argS, ofConst, ofCell, Nat.reduceEqDiff, reduceIte, g2, g4, g5] <;> rfl) (by omega) (by decide) (by decide) ?_
  refine ex_seq (ex_region ?_)
  refine ro_move (by simp only [evalF, upd, arg0, argS, ofConst, ofCell, Nat.reduceEqDiff, reduceIte, g2, g4, g5] <;> rfl) (by decide) ?_
  refine ro_call (f := 28) («as» := [.ptr idr 1 0]) rfl (by simp [evalF, upd, arg0, argS, ofConst, ofCell, Nat.reduceEqDiff, reduceIte, g4]) plains_28 rfl (u8_28 (d + 2) fl0.rr) (by decide) ?_
  rintro v1 hp1 nb1 ⟨rfl, hr1, hk1⟩
  obtain ⟨L1, D1, hl1, hput1⟩ := fl_num fl0 hr1 (keepN_of hk1)
  refine ro_fieldAddr (by simp only [evalF, upd, arg0, argS, ofConst, ofCell, Nat.reduceEqDiff, reduceIte, g2, g4, g5] <;> rfl) (by exact (fa30_8 _ _ _)) (by decide) ?_
  refine ro_store (by simp only [evalF, upd, arg0, argS, ofConst, ofCell, Nat.reduceEqDiff, reduceIte, g2, g4, g5] <;> rfl) (by simp only [evalF, upd, arg0, argS, ofConst, ofCell, Nat.reduceEqDiff, reduceIte, g2, g4, g5] <;> rfl) (put_field fl0.pm.key sz28 hl1 ⟨rfl, rfl⟩ (by omega) (spl39 fl0.pm.key _)) ?_
  refine ro_nil ?_
  try simp only
  have hF1 := hput1 { m0 with err := (u8F r0 e0).1 } fl0.pm.key rfl rfl
  generalize setHp hp1 idm (.cells 1 (mcells { m0 with err := (u8F r0 e0).1 } L1 D1)) = hq1 at hF1 ⊢
  obtain ⟨fl1, hQ1⟩ := hF1
  obtain ⟨L1', D1', hl1', _⟩ := fl1.pm.ex
  refine ex_seq (ex_region ?_)
  refine ro_move (by simp only [evalF, upd, arg0, argS, ofConst, ofCell, Nat.reduceEqDiff, reduceIte, g2, g4, g5] <;> rfl) (by decide) ?_
  refine ro_fieldAddr (by simp only [evalF, upd, arg0, argS, ofConst, ofCell, Nat.reduceEqDiff, reduceIte, g2, g4, g5] <;> rfl) (by exact (fa30_8 _ _ _)) (by decide) ?_
  refine ro_load (by simp only [evalF, upd, arg0, argS, ofConst, ofCell, Nat.reduceEqDiff, reduceIte, g2, g4, g5] <;> rfl) (by exact (load1 ag28 hl1' (mc39 fl1.pm.key))) (by decide) ?_
  refine ro_bin (by simp only [evalF, upd, arg0, argS, ofConst, ofCell, Nat.reduceEqDiff, reduceIte, g2, g4, g5] <;> rfl) (by simp only [evalF, upd, arg0, argS, ofConst, ofCell, Nat.reduceEqDiff, reduceIte, g2, g4, g5] <;> rfl) (by exact (leq_v)) (by decide) ?_
  refine ro_call (f := 31) («as» := [.ptr idr 1 0, .pv (.bool (decide ((u8F r0 e0).1 ≤ 20)))]) rfl (by simp [evalF, upd, arg0, argS, ofConst, ofCell, Nat.reduceEqDiff, reduceIte, g4]) plains_31 rfl (may31 (d + 2) _ fl1.rr) (by decide) ?_
  rintro w1 hw1 nw1 ⟨rfl, hr1', hk1'⟩
  refine ro_nil ?_
  try simp only
  obtain ⟨fl1, hQ1'⟩ := fl_same fl1 hr1' (keepN_of hk1')
  have hQ1 := keepQ_trans hQ1 hQ1'
  clear hl1'
  generalize hq1 = hz1 at *
  generalize hw1 = hq1 at *
  obtain ⟨m1, r1, e1, hS1⟩ : ∃ x y z, refS 4 m0 r0 e0 = (x, y, z) := ⟨_, _, _, rfl⟩
  have fl1 : Fl hq1 nw1 idm idr q (refS 4 m0 r0 e0).1 vb b (refS 4 m0 r0 e0).2.1 (refS 4 m0 r0 e0).2.2 := fl1
  rw [hS1] at fl1
  have fl1 : Fl hq1 nw1 idm idr q m1 vb b r1 e1 := fl1
  have kq1 := keepQ_trans kq0 hQ1
  refine ex_region ?_
  refine ro_move (by simp only [evalF, upd, arg0, argS, ofConst, ofCell, Nat.reduceEqDiff, reduceIte, g2, g4, g5] <;> rfl) (by decide) ?_
  refine ro_call (f := 33) («as» := [.ptr idr 1 0]) rfl (by simp [evalF, upd, arg0, argS, ofConst, ofCell, Nat.reduceEqDiff, reduceIte, g4]) plains_33 rfl (data33 (d + 1) fl1.rr) (by decide) ?_
  rintro v2 hp2 nb2 ⟨hg2, ho2, hr2, hk2⟩
  obtain ⟨L2, D2, hl2, hF2⟩ := fl_data fl1 hr2 hk2 hg2 ho2
  refine ro_fieldAddr (by simp only [evalF, upd, arg0, argS, ofConst, ofCell, Nat.reduceEqDiff, reduceIte, g2, g4, g5] <;> rfl) (by exact (fa30_6 _ _ _)) (by decide) ?_
  refine ro_store (by simp only [evalF, upd, arg0, argS, ofConst, ofCell, Nat.reduceEqDiff, reduceIte, g2, g4, g5] <;> rfl) (by simp only [evalF, upd, arg0, argS, ofConst, ofCell, Nat.reduceEqDiff, reduceIte, g2, g4, g5] <;> rfl) (put_field fl1.pm.key sz27 hl2 ⟨(row_cell hg2).2, (row_cell hg2).1⟩ (by omega) (spl37 fl1.pm.key _ (dataF r1 e1).1)) ?_
  refine ro_nil ?_
  try simp only
  generalize setHp hp2 idm (.cells 1 (mcells { m1 with data := (dataF r1 e1).1 } L2 v2)) = hq2 at hF2 ⊢
  obtain ⟨fl2, hQ2⟩ := hF2
  obtain ⟨m2, r2, e2, hS2⟩ : ∃ x y z, refS 6 m1 r1 e1 = (x, y, z) := ⟨_, _, _, rfl⟩
  have fl2 : Fl hq2 nb2 idm idr q (refS 6 m1 r1 e1).1 vb b (refS 6 m1 r1 e1).2.1 (refS 6 m1 r1 e1).2.2 := fl2
  rw [hS2] at fl2
  have fl2 : Fl hq2 nb2 idm idr q m2 vb b r2 e2 := fl2
  have kq2 := keepQ_trans kq1 hQ2
  simp only [refsS, hS1, hS2]
  exact ⟨by first | rfl | trivial, by simp [upd, g2], by simp [upd, g4], by simp [upd, g5], fl2, kq2⟩
theorem sw16_9 (d : Nat) {hq0 : Hp} {nb0 idm idr q res : Nat} {m0 : M} {vb : AV} {b r0 : List Int} {e0 : Int} {g : Gm} (hk : m0.kind = 9) (fl0 : Fl hq0 nb0 idm idr q m0 vb b r0 e0) (g2 : g 2 = .ptr res 1 0) (g4 : g 4 = .ptr idr 1 0) (g5 : g 5 = .ptr idm 1 0) :
    EX Try.prog plains (callA Try.prog facts plains 10000 (d + 3)) (orS facts (pureOf (callA Try.prog facts plains 10000 (d + 3)))) 10000 149 (codeAt (bodyOf Try.f16) [true, true, true, true, false]) g hq0 nb0 fun x g' hp' nb' => x = .normal ∧ g' 2 = .ptr res 1 0 ∧ g' 4 = .ptr idr 1 0 ∧ g' 5 = .ptr idm 1 0 ∧
      Fl hp' nb' idm idr q (refsS [5, 6] m0 r0 e0).1 vb b (refsS [5, 6] m0 r0 e0).2.1 (refsS [5, 6] m0 r0 e0).2.2 ∧ KeepQ hq0 nb0 q hp' nb' := by
  have kq0 := keepQ_refl hq0 nb0 q
  obtain ⟨L0, D0, hl0, _⟩ := fl0.pm.ex
  show EX _ _ _ _ _ 149 _ _ _ _ _
  simp only [codeAt, bodyOf, Try.f16, if_true, if_false, Bool.false_eq_true]
  refine ex_seq (ex_region ?_)
  refine ro_fieldAddr (by simp only [evalF, upd, arg0, argS, ofConst, ofCell, Nat.reduceEqDiff, reduceIte, g2, g4, g5] <;> rfl) (by exact (fa30_0 _ _ _)) (by decide) ?_
  refine ro_load (by simp only [evalF, upd, arg0, argS, ofConst, ofCell, Nat.reduceEqDiff, reduceIte, g2, g4, g5] <;> rfl) (by exact (load1 ag3 hl0 mc0)) (by decide) ?_
  refine ro_nil ?_
  try simp only
  refine ex_block ?_
  refine ex_test_f (by simp only [evalF, upd, arg0, argS, ofConst, ofCell, Nat.reduceEqDiff, reduceIte, g2, g4, g5] <;> rfl) (by omega) (by decide) (by decide) ?_
  refine ex_test_f (by simp only [evalF, upd, arg0, argS, ofConst, ofCell, Nat.reduceEqDiff, reduceIte, g2, g4, g5] <;> rfl) (by omega) (by decide) (by decide) ?_
  refine ex_test_f (by simp only [evalF, upd, arg0, argS, ofConst, ofCell, Nat.reduceEqDiff, reduceIte, g2, g4, g5] <;> rfl) (by omega) (by decide) (by decide) ?_
  refine ex_seq (ex_test_f (by simp only [evalF, upd, arg0, argS, ofConst, ofCell, Nat.reduceEqDiff, reduceIte, g2, g4, g5] <;> rfl) (by omega) (by decide) (by decide) ?_)
  refine ex_test_f (by simp only [evalF, upd, arg0, argS, ofConst, ofCell, Nat.reduceEqDiff, reduceIte, g2, g4, g5] <;> rfl) (by omega) (by decide) (by decide) ?_
  refine ex_region ?_
  refine ro_bin (by simp only [evalF, upd, arg0, argS, ofConst, ofCell, Nat.reduceEqDiff, reduceIte, g2, g4, g5] <;> rfl) (by simp only [evalF, upd, arg0, argS, ofConst, ofCell, Nat.reduceEqDiff, reduceIte, g2, g4, g5] <;> rfl) (by exact (eql_f (by omega))) (by decide) ?_
  refine ro_assign (by simp only [evalF, upd, arg0, argS, ofConst, ofCell, Nat.reduceEqDiff, reduceIte, g2, g4, g5] <;> rfl) (by decide) ?_
  refine ro_nil ?_
  try simp only
  refine ex_cond (t := false) (by simp only [evalF, upd, arg0, argS, ofConst, ofCell, Nat.reduceEqDiff, reduceIte, g2, g4, g5] <;> rfl) (fun h => by simp at h) (fun h => ?_)
  refine ex_test_f (by simp only [evalF, upd, arg0, argS, ofConst, ofCell, Nat.reduceEqDiff, reduceIte, g2, g4, g5] <;> rfl) (by omega) (by decide) (by decide) ?_
  refine ex_test_f (by simp only [evalF, upd, arg0, argS, ofConst, ofCell, Nat.reduceEqDiff, reduceIte, g2, g4, g5] <;> rfl) (by omega) (by decide) (by decide) ?_
  refine ex_seq (ex_test_t (by simp only [evalF, upd, arg0, argS, ofConst, ofCell, Nat.reduceEqDiff, reduceIte, g2, g4, g5] <;> rfl) (by omega) (by decide) (by decide) ?_)
  refine ex_skip ?_
  try simp only
  refine ex_cond (t := true) (by simp only [evalF, upd, arg0, argS, ofConst, ofCell, Nat.reduceEqDiff, reduceIte, g2, g4, g5] <;> rfl) (fun h => ?_) (fun h => by simp at h)
  refine ex_seq (ex_region ?_)
  refine ro_move (by simp only [evalF, upd, arg0, argS, ofConst, ofCell, Nat.reduceEqDiff, reduceIte, g2, g4, g5] <;> rfl) (by decide) ?_
  refine ro_call (f := 32) («as» := [.ptr idr 1 0]) rfl (by simp [evalF, upd, arg0, argS, ofConst, ofCell, Nat.reduceEqDiff, reduceIte, g4]) plains_32 rfl (id32 (d + 1) fl0.rr) (by decide) ?_
  rintro v1 hp1 nb1 ⟨rfl, hr1, hk1⟩
  obtain ⟨L1, D1, hl1, hput1⟩ := fl_num fl0 hr1 hk1
  have hl321 : (idG 32 [] r0 e0).1.length = 32 := by rw [idG_len]; rfl
  refine ro_fieldAddr (by simp only [evalF, upd, arg0, argS, ofConst, ofCell, Nat.reduceEqDiff, reduceIte, g2, g4, g5] <;> rfl) (by exact (fa30_5 _ _ _)) (by decide) ?_
  refine ro_store (by simp only [evalF, upd, arg0, argS, ofConst, ofCell, Nat.reduceEqDiff, reduceIte, g2, g4, g5] <;> rfl) (by simp only [evalF, upd, arg0, argS, ofConst, ofCell, Nat.reduceEqDiff, reduceIte, g2, g4, g5] <;> rfl) (sts_key fl0.pm.key hl321 hl1) ?_
  refine ro_nil ?_
  try simp only
  have hF1 := hput1 { m0 with key := (idG 32 [] r0 e0).1 } hl321 rfl rfl
  generalize setHp hp1 idm (.cells 1 (mcells { m0 with key := (idG 32 [] r0 e0).1 } L1 D1)) = hq1 at hF1 ⊢
  obtain ⟨fl1, hQ1⟩ := hF1
  obtain ⟨m1, r1, e1, hS1⟩ : ∃ x y z, refS 5 m0 r0 e0 = (x, y, z) := ⟨_, _, _, rfl⟩
  have fl1 : Fl hq1 nb1 idm idr q (refS 5 m0 r0 e0).1 vb b (refS 5 m0 r0 e0).2.1 (refS 5 m0 r0 e0).2.2 := fl1
  rw [hS1] at fl1
  have fl1 : Fl hq1 nb1 idm idr q m1 vb b r1 e1 := fl1
  have kq1 := keepQ_trans kq0 hQ1
  refine ex_region ?_
  refine ro_move (by simp only [evalF, upd, arg0, argS, ofConst, ofCell, Nat.reduceEqDiff, reduceIte, g2, g4, g5] <;> rfl) (by decide) ?_
  refine ro_call (f := 33) («as» := [.ptr idr 1 0]) rfl (by simp [evalF, upd, arg0, argS, ofConst, ofCell, Nat.reduceEqDiff, reduceIte, g4]) plains_33 rfl (data33 (d + 1) fl1.rr) (by decide) ?_
  rintro v2 hp2 nb2 ⟨hg2, ho2, hr2, hk2⟩
  obtain ⟨L2, D2, hl2, hF2⟩ := fl_data fl1 hr2 hk2 hg2 ho2
  refine ro_fieldAddr (by simp only [evalF, upd, arg0, argS, ofConst, ofCell, Nat.reduceEqDiff, reduceIte, g2, g4, g5] <;> rfl) (by exact (fa30_6 _ _ _)) (by decide) ?_
  refine ro_store (by simp only [evalF, upd, arg0, argS, ofConst, ofCell, Nat.reduceEqDiff, reduceIte, g2, g4, g5] <;> rfl) (by simp only [evalF, upd, arg0, argS, ofConst, ofCell, Nat.reduceEqDiff, reduceIte, g2, g4, g5] <;> rfl) (put_field fl1.pm.key sz27 hl2 ⟨(row_cell hg2).2, (row_cell hg2).1⟩ (by omega) (spl37 fl1.pm.key _ (dataF r1 e1).1)) ?_
  refine ro_nil ?_
  try simp only
  generalize setHp hp2 idm (.cells 1 (mcells { m1 with data := (dataF r1 e1).1 } L2 v2)) = hq2 at hF2 ⊢
  obtain ⟨fl2, hQ2⟩ := hF2
  obtain ⟨m2, r2, e2, hS2⟩ : ∃ x y z, refS 6 m1 r1 e1 = (x, y, z) := ⟨_, _, _, rfl⟩
  have fl2 : Fl hq2 nb2 idm idr q (refS 6 m1 r1 e1).1 vb b (refS 6 m1 r1 e1).2.1 (refS 6 m1 r1 e1).2.2 := fl2
  rw [hS2] at fl2
  have fl2 : Fl hq2 nb2 idm idr q m2 vb b r2 e2 := fl2
  have kq2 := keepQ_trans kq1 hQ2
  simp only [refsS, hS1, hS2]
  exact ⟨by first | rfl | trivial, by simp [upd, g2], by simp [upd, g4], by simp [upd, g5], fl2, kq2⟩
theorem sw16_10 (d : Nat) {hq0 : Hp} {nb0 idm idr q res : Nat} {m0 : M} {vb : AV} {b r0 : List Int} {e0 : Int} {g : Gm} (hk : m0.kind = 10) (fl0 : Fl hq0 nb0 idm idr q m0 vb b r0 e0) (g2 : g 2 = .ptr res 1 0) (g4 : g 4 = .ptr idr 1 0) (g5 : g 5 = .ptr idm 1 0) :
    EX Try.prog plains (callA Try.prog facts plains 10000 (d + 3)) (orS facts (pureOf (callA Try.prog facts plains 10000 (d + 3)))) 10000 149 (codeAt (bodyOf Try.f16) [true, true, true, true, false]) g hq0 nb0 fun x g' hp' nb' => x = .normal ∧ g' 2 = .ptr res 1 0 ∧ g' 4 = .ptr idr 1 0 ∧ g' 5 = .ptr idm 1 0 ∧
      Fl hp' nb' idm idr q (refsS [5, 6] m0 r0 e0).1 vb b (refsS [5, 6] m0 r0 e0).2.1 (refsS [5, 6] m0 r0 e0).2.2 ∧ KeepQ hq0 nb0 q hp' nb' := by
  have kq0 := keepQ_refl hq0 nb0 q
  obtain ⟨L0, D0, hl0, _⟩ := fl0.pm.ex
  show EX _ _ _ _ _ 149 _ _ _ _ _
  simp only [codeAt, bodyOf, Try.f16, if_true, if_false, Bool.false_eq_true]
  refine ex_seq (ex_region ?_)
  refine ro_fieldAddr (by simp only [evalF, upd, arg0, argS, ofConst, ofCell, Nat.reduceEqDiff, reduceIte, g2, g4, g5] <;> rfl) (by exact (fa30_0 _ _ _)) (by decide) ?_
  refine ro_load (by simp only [evalF, upd, arg0, argS, ofConst, ofCell, Nat.reduceEqDiff, reduceIte, g2, g4, g5] <;> rfl) (by exact (load1 ag3 hl0 mc0)) (by decide) ?_
  refine ro_nil ?_
  try simp only
  refine ex_block ?_
  refine ex_test_f (by simp only [evalF, upd, arg0, argS, ofConst, ofCell, Nat.reduceEqDiff, reduceIte, g2, g4, g5] <;> rfl) (by omega) (by decide) (by decide) ?_
  refine ex_test_f (by simp only [evalF, upd, arg0, argS, ofConst, ofCell, Nat.reduceEqDiff, reduceIte, g2, g4, g5] <;> rfl) (by omega) (by decide) (by decide) ?_
  refine ex_test_f (by simp only [evalF, upd, arg0, argS, ofConst, ofCell, Nat.reduceEqDiff, reduceIte, g2, g4, g5] <;> rfl) (by omega) (by decide) (by decide) ?_
  refine ex_seq (ex_test_f (by simp only [evalF, upd, arg0, argS, ofConst, ofCell, Nat.reduceEqDiff, reduceIte, g2, g4, g5] <;> rfl) (by omega) (by decide) (by decide) ?_)
  refine ex_test_f (by simp only [evalF, upd, arg0, argS, ofConst, ofCell, Nat.reduceEqDiff, reduceIte, g2, g4, g5] <;> rfl) (by omega) (by decide) (by decide) ?_
  refine ex_region ?_
  refine ro_bin (by simp only [evalF, upd, arg0, argS, ofConst, ofCell, Nat.reduceEqDiff, reduceIte, g2, g4, g5] <;> rfl) (by simp only [evalF, upd, arg0, argS, ofConst, ofCell, Nat.reduceEqDiff, reduceIte, g2, g4, g5] <;> rfl) (by exact (eql_f (by omega))) (by decide) ?_
  refine ro_assign (by simp only [evalF, upd, arg0, argS, ofConst, ofCell, Nat.reduceEqDiff, reduceIte, g2, g4, g5] <;> rfl) (by decide) ?_
  refine ro_nil ?_
  try simp only
  refine ex_cond (t := false) (by simp only [evalF, upd, arg0, argS, ofConst, ofCell, Nat.reduceEqDiff, reduceIte, g2, g4, g5] <;> rfl) (fun h => by simp at h) (fun h => ?_)
  refine ex_test_f (by simp only [evalF, upd, arg0, argS, ofConst, ofCell, Nat.reduceEqDiff, reduceIte, g2, g4, g5] <;> rfl) (by omega) (by decide) (by decide) ?_
  refine ex_test_f (by simp only [evalF, upd, arg0, argS, ofConst, ofCell, Nat.reduceEqDiff, reduceIte, g2, g4, g5] <;> rfl) (by omega) (by decide) (by decide) ?_
  refine ex_seq (ex_test_f (by simp only [evalF, upd, arg0, argS, ofConst, ofCell, Nat.reduceEqDiff, reduceIte, g2, g4, g5] <;> rfl) (by omega) (by decide) (by decide) ?_)
  refine ex_region ?_
  refine ro_bin (by simp only [evalF, upd, arg0, argS, ofConst, ofCell, Nat.reduceEqDiff, reduceIte, g2, g4, g5] <;> rfl) (by simp only [evalF, upd, arg0, argS, ofConst, ofCell, Nat.reduceEqDiff, reduceIte, g2, g4, g5] <;> rfl) (by exact (eql_t (by omega))) (by decide) ?_
  refine ro_assign (by simp only [evalF, upd, arg0, argS, ofConst, ofCell, Nat.reduceEqDiff, reduceIte, g2, g4, g5] <;> rfl) (by decide) ?_
  refine ro_nil ?_
  try simp only
  refine ex_cond (t := true) (by simp only [evalF, upd, arg0, argS, ofConst, ofCell, Nat.reduceEqDiff, reduceIte, g2, g4, g5] <;> rfl) (fun h => ?_) (fun h => by simp at h)
  refine ex_seq (ex_region ?_)
  refine ro_move (by simp only [evalF, upd, arg0, argS, ofConst, ofCell, Nat.reduceEqDiff, reduceIte, g2, g4, g5] <;> rfl) (by decide) ?_
  refine ro_call (f := 32) («as» := [.ptr idr 1 0]) rfl (by simp [evalF, upd, arg0, argS, ofConst, ofCell, Nat.reduceEqDiff, reduceIte, g4]) plains_32 rfl (id32 (d + 1) fl0.rr) (by decide) ?_
  rintro v1 hp1 nb1 ⟨rfl, hr1, hk1⟩
  obtain ⟨L1, D1, hl1, hput1⟩ := fl_num fl0 hr1 hk1
  have hl321 : (idG 32 [] r0 e0).1.length = 32 := by rw [idG_len]; rfl
  refine ro_fieldAddr (by simp only [evalF, upd, arg0, argS, ofConst, ofCell, Nat.reduceEqDiff, reduceIte, g2, g4, g5] <;> rfl) (by exact (fa30_5 _ _ _)) (by decide) ?_
  refine ro_store (by simp only [evalF, upd, arg0, argS, ofConst, ofCell, Nat.reduceEqDiff, reduceIte, g2, g4, g5] <;> rfl) (by simp only [evalF, upd, arg0, argS, ofConst, ofCell, Nat.reduceEqDiff, reduceIte, g2, g4, g5] <;> rfl) (sts_key fl0.pm.key hl321 hl1) ?_
  refine ro_nil ?_
  try simp only
  have hF1 := hput1 { m0 with key := (idG 32 [] r0 e0).1 } hl321 rfl rfl
  generalize setHp hp1 idm (.cells 1 (mcells { m0 with key := (idG 32 [] r0 e0).1 } L1 D1)) = hq1 at hF1 ⊢
  obtain ⟨fl1, hQ1⟩ := hF1
  obtain ⟨m1, r1, e1, hS1⟩ : ∃ x y z, refS 5 m0 r0 e0 = (x, y, z) := ⟨_, _, _, rfl⟩
  have fl1 : Fl hq1 nb1 idm idr q (refS 5 m0 r0 e0).1 vb b (refS 5 m0 r0 e0).2.1 (refS 5 m0 r0 e0).2.2 := fl1
  rw [hS1] at fl1
  have fl1 : Fl hq1 nb1 idm idr q m1 vb b r1 e1 := fl1
  have kq1 := keepQ_trans kq0 hQ1
  refine ex_region ?_
  refine ro_move (by simp only [evalF, upd, arg0, argS, ofConst, ofCell, Nat.reduceEqDiff, reduceIte, g2, g4, g5] <;> rfl) (by decide) ?_
  refine ro_call (f := 33) («as» := [.ptr idr 1 0]) rfl (by simp [evalF, upd, arg0, argS, ofConst, ofCell, Nat.reduceEqDiff, reduceIte, g4]) plains_33 rfl (data33 (d + 1) fl1.rr) (by decide) ?_
  rintro v2 hp2 nb2 ⟨hg2, ho2, hr2, hk2⟩
  obtain ⟨L2, D2, hl2, hF2⟩ := fl_data fl1 hr2 hk2 hg2 ho2
  refine ro_fieldAddr (by simp only [evalF, upd, arg0, argS, ofConst, ofCell, Nat.reduceEqDiff, reduceIte, g2, g4, g5] <;> rfl) (by exact (fa30_6 _ _ _)) (by decide) ?_
  refine ro_store (by simp only [evalF, upd, arg0, argS, ofConst, ofCell, Nat.reduceEqDiff, reduceIte, g2, g4, g5] <;> rfl) (by simp only [evalF, upd, arg0, argS, ofConst, ofCell, Nat.reduceEqDiff, reduceIte, g2, g4, g5] <;> rfl) (put_field fl1.pm.key sz27 hl2 ⟨(row_cell hg2).2, (row_cell hg2).1⟩ (by omega) (spl37 fl1.pm.key _ (dataF r1 e1).1)) ?_
  refine ro_nil ?_
  try simp only
  generalize setHp hp2 idm (.cells 1 (mcells { m1 with data := (dataF r1 e1).1 } L2 v2)) = hq2 at hF2 ⊢
  obtain ⟨fl2, hQ2⟩ := hF2
  obtain ⟨m2, r2, e2, hS2⟩ : ∃ x y z, refS 6 m1 r1 e1 = (x, y, z) := ⟨_, _, _, rfl⟩
  have fl2 : Fl hq2 nb2 idm idr q (refS 6 m1 r1 e1).1 vb b (refS 6 m1 r1 e1).2.1 (refS 6 m1 r1 e1).2.2 := fl2
  rw [hS2] at fl2
  have fl2 : Fl hq2 nb2 idm idr q m2 vb b r2 e2 := fl2
  have kq2 := keepQ_trans kq1 hQ2
  simp only [refsS, hS1, hS2]
  exact ⟨by first | rfl | trivial, by simp [upd, g2], by simp [upd, g4], by simp [upd, g5], fl2, kq2⟩
theorem sw16_11 (d : Nat) {hq0 : Hp} {nb0 idm idr q res : Nat} {m0 : M} {vb : AV} {b r0 : List Int} {e0 : Int} {g : Gm} (hk : m0.kind = 11) (fl0 : Fl hq0 nb0 idm idr q m0 vb b r0 e0) (g2 : g 2 = .ptr res 1 0) (g4 : g 4 = .ptr idr 1 0) (g5 : g 5 = .ptr idm 1 0) :
    EX Try.prog plains (callA Try.prog facts plains 10000 (d + 3)) (orS facts (pureOf (callA Try.prog facts plains 10000 (d + 3)))) 10000 149 (codeAt (bodyOf Try.f16) [true, true, true, true, false]) g hq0 nb0 fun x g' hp' nb' => x = .normal ∧ g' 2 = .ptr res 1 0 ∧ g' 4 = .ptr idr 1 0 ∧ g' 5 = .ptr idm 1 0 ∧
      Fl hp' nb' idm idr q (refsS [5] m0 r0 e0).1 vb b (refsS [5] m0 r0 e0).2.1 (refsS [5] m0 r0 e0).2.2 ∧ KeepQ hq0 nb0 q hp' nb' := by
  have kq0 := keepQ_refl hq0 nb0 q
  obtain ⟨L0, D0, hl0, _⟩ := fl0.pm.ex
  show EX _ _ _ _ _ 149 _ _ _ _ _
  simp only [codeAt, bodyOf, Try.f16, if_true, if_false, Bool.false_eq_true]
  refine ex_seq (ex_region ?_)
  refine ro_fieldAddr (by simp only [evalF, upd, arg0, argS, ofConst, ofCell, Nat.reduceEqDiff, reduceIte, g2, g4, g5] <;> rfl) (by exact (fa30_0 _ _ _)) (by decide) ?_
  refine ro_load (by simp only [evalF, upd, arg0, argS, ofConst, ofCell, Nat.reduceEqDiff, reduceIte, g2, g4, g5] <;> rfl) (by exact (load1 ag3 hl0 mc0)) (by decide) ?_
  refine ro_nil ?_
  try simp only
  refine ex_block ?_
  refine ex_test_f (by simp only [evalF, upd, arg0, argS, ofConst, ofCell, Nat.reduceEqDiff, reduceIte, g2, g4, g5] <;> rfl) (by omega) (by decide) (by decide) ?_
  refine ex_test_f (by simp only [evalF, upd, arg0, argS, ofConst, ofCell, Nat.reduceEqDiff, reduceIte, g2, g4, g5] <;> rfl) (by omega) (by decide) (by decide) ?_
  refine ex_test_f (by simp only [evalF, upd, arg0, argS, ofConst, ofCell, Nat.reduceEqDiff, reduceIte, g2, g4, g5] <;> rfl) (by omega) (by decide) (by decide) ?_
  refine ex_seq (ex_test_f (by simp only [evalF, upd, arg0, argS, ofConst, ofCell, Nat.reduceEqDiff, reduceIte, g2, g4, g5] <;> rfl) (by omega) (by decide) (by decide) ?_)
  refine ex_test_f (by simp only [evalF, upd, arg0, argS, ofConst, ofCell, Nat.reduceEqDiff, reduceIte, g2, g4, g5] <;> rfl) (by omega) (by decide) (by decide) ?_
  refine ex_region ?_
  refine ro_bin (by simp only [evalF, upd, arg0, argS, ofConst, ofCell, Nat.reduceEqDiff, reduceIte, g2, g4, g5] <;> rfl) (by simp only [evalF, upd, arg0, argS, ofConst, ofCell, Nat.reduceEqDiff, reduceIte, g2, g4, g5] <;> rfl) (by exact (eql_t (by omega))) (by decide) ?_
  refine ro_assign (by simp only [evalF, upd, arg0, argS, ofConst, ofCell, Nat.reduceEqDiff, reduceIte, g2, g4, g5] <;> rfl) (by decide) ?_
  refine ro_nil ?_
  try simp only
  refine ex_cond (t := true) (by simp only [evalF, upd, arg0, argS, ofConst, ofCell, Nat.reduceEqDiff, reduceIte, g2, g4, g5] <;> rfl) (fun h => ?_) (fun h => by simp at h)
  refine ex_region ?_
  refine ro_move (by simp only [evalF, upd, arg0, argS, ofConst, ofCell, Nat.reduceEqDiff, reduceIte, g2, g4, g5] <;> rfl) (by decide) ?_
  refine ro_call (f := 32) («as» := [.ptr idr 1 0]) rfl (by simp [evalF, upd, arg0, argS, ofConst, ofCell, Nat.reduceEqDiff, reduceIte, g4]) plains_32 rfl (id32 (d + 1) fl0.rr) (by decide) ?_
  rintro v1 hp1 nb1 ⟨rfl, hr1, hk1⟩
  obtain ⟨L1, D1, hl1, hput1⟩ := fl_num fl0 hr1 hk1
  have hl321 : (idG 32 [] r0 e0).1.length = 32 := by rw [idG_len]; rfl
  refine ro_fieldAddr (by simp only [evalF, upd, arg0, argS, ofConst, ofCell, Nat.reduceEqDiff, reduceIte, g2, g4, g5] <;> rfl) (by exact (fa30_5 _ _ _)) (by decide) ?_
  refine ro_store (by simp only [evalF, upd, arg0, argS, ofConst, ofCell, Nat.reduceEqDiff, reduceIte, g2, g4, g5] <;> rfl) (by simp only [evalF, upd, arg0, argS, ofConst, ofCell, Nat.reduceEqDiff, reduceIte, g2, g4, g5] <;> rfl) (sts_key fl0.pm.key hl321 hl1) ?_
  refine ro_nil ?_
  try simp only
  have hF1 := hput1 { m0 with key := (idG 32 [] r0 e0).1 } hl321 rfl rfl
  generalize setHp hp1 idm (.cells 1 (mcells { m0 with key := (idG 32 [] r0 e0).1 } L1 D1)) = hq1 at hF1 ⊢
  obtain ⟨fl1, hQ1⟩ := hF1
  obtain ⟨m1, r1, e1, hS1⟩ : ∃ x y z, refS 5 m0 r0 e0 = (x, y, z) := ⟨_, _, _, rfl⟩
  have fl1 : Fl hq1 nb1 idm idr q (refS 5 m0 r0 e0).1 vb b (refS 5 m0 r0 e0).2.1 (refS 5 m0 r0 e0).2.2 := fl1
  rw [hS1] at fl1
  have fl1 : Fl hq1 nb1 idm idr q m1 vb b r1 e1 := fl1
  have kq1 := keepQ_trans kq0 hQ1
  simp only [refsS, hS1]
  exact ⟨by first | rfl | trivial, by simp [upd, g2], by simp [upd, g4], by simp [upd, g5], fl1, kq1⟩
theorem sw16_12 (d : Nat) {hq0 : Hp} {nb0 idm idr q res : Nat} {m0 : M} {vb : AV} {b r0 : List Int} {e0 : Int} {g : Gm} (hk : m0.kind = 12) (fl0 : Fl hq0 nb0 idm idr q m0 vb b r0 e0) (g2 : g 2 = .ptr res 1 0) (g4 : g 4 = .ptr idr 1 0) (g5 : g 5 = .ptr idm 1 0) :
    EX Try.prog plains (callA Try.prog facts plains 10000 (d + 3)) (orS facts (pureOf (callA Try.prog facts plains 10000 (d + 3)))) 10000 149 (codeAt (bodyOf Try.f16) [true, true, true, true, false]) g hq0 nb0 fun x g' hp' nb' => x = .normal ∧ g' 2 = .ptr res 1 0 ∧ g' 4 = .ptr idr 1 0 ∧ g' 5 = .ptr idm 1 0 ∧
      Fl hp' nb' idm idr q (refsS [6] m0 r0 e0).1 vb b (refsS [6] m0 r0 e0).2.1 (refsS [6] m0 r0 e0).2.2 ∧ KeepQ hq0 nb0 q hp' nb' := by
  have kq0 := keepQ_refl hq0 nb0 q
  obtain ⟨L0, D0, hl0, _⟩ := fl0.pm.ex
  show EX _ _ _ _ _ 149 _ _ _ _ _
  simp only [codeAt, bodyOf, Try.f16, if_true, if_false, Bool.false_eq_true]
  refine ex_seq (ex_region ?_)
  refine ro_fieldAddr (by simp only [evalF, upd, arg0, argS, ofConst, ofCell, Nat.reduceEqDiff, reduceIte, g2, g4, g5] <;> rfl) (by exact (fa30_0 _ _ _)) (by decide) ?_
  refine ro_load (by simp only [evalF, upd, arg0, argS, ofConst, ofCell, Nat.reduceEqDiff, reduceIte, g2, g4, g5] <;> rfl) (by exact (load1 ag3 hl0 mc0)) (by decide) ?_
  refine ro_nil ?_
  try simp only
  refine ex_block ?_
  refine ex_test_f (by simp only [evalF, upd, arg0, argS, ofConst, ofCell, Nat.reduceEqDiff, reduceIte, g2, g4, g5] <;> rfl) (by omega) (by decide) (by decide) ?_
  refine ex_test_f (by simp only [evalF, upd, arg0, argS, ofConst, ofCell, Nat.reduceEqDiff, reduceIte, g2, g4, g5] <;> rfl) (by omega) (by decide) (by decide) ?_
  refine ex_test_f (by simp only [evalF, upd, arg0, argS, ofConst, ofCell, Nat.reduceEqDiff, reduceIte, g2, g4, g5] <;> rfl) (by omega) (by decide) (by decide) ?_
  refine ex_seq (ex_test_f (by simp only [evalF, upd, arg0, argS, ofConst, ofCell, Nat.reduceEqDiff, reduceIte, g2, g4, g5] <;> rfl) (by omega) (by decide) (by decide) ?_)
  refine ex_test_f (by simp only [evalF, upd, arg0, argS, ofConst, ofCell, Nat.reduceEqDiff, reduceIte, g2, g4, g5] <;> rfl) (by omega) (by decide) (by decide) ?_
  refine ex_region ?_
  refine ro_bin (by simp only [evalF, upd, arg0, argS, ofConst, ofCell, Nat.reduceEqDiff, reduceIte, g2, g4, g5] <;> rfl) (by simp only [evalF, upd, arg0, argS, ofConst, ofCell, Nat.reduceEqDiff, reduceIte, g2, g4, g5] <;> rfl) (by exact (eql_f (by omega))) (by decide) ?_
  refine ro_assign (by simp only [evalF, upd, arg0, argS, ofConst, ofCell, Nat.reduceEqDiff, reduceIte, g2, g4, g5] <;> rfl) (by decide) ?_
  refine ro_nil ?_
  try simp only
  refine ex_cond (t := false) (by simp only [evalF, upd, arg0, argS, ofConst, ofCell, Nat.reduceEqDiff, reduceIte, g2, g4, g5] <;> rfl) (fun h => by simp at h) (fun h => ?_)
  refine ex_test_f (by simp only [evalF, upd, arg0, argS, ofConst, ofCell, Nat.reduceEqDiff, reduceIte, g2, g4, g5] <;> rfl) (by omega) (by decide) (by decide) ?_
  refine ex_test_f (by simp only [evalF, upd, arg0, argS, ofConst, ofCell, Nat.reduceEqDiff, reduceIte, g2, g4, g5] <;> rfl) (by omega) (by decide) (by decide) ?_
  refine ex_seq (ex_test_f (by simp only [evalF, upd, arg0, argS, ofConst, ofCell, Nat.reduceEqDiff, reduceIte, g2, g4, g5] <;> rfl) (by omega) (by decide) (by decide) ?_)
  refine ex_region ?_
  refine ro_bin (by simp only [evalF, upd, arg0, argS, ofConst, ofCell, Nat.reduceEqDiff, reduceIte, g2, g4, g5] <;> rfl) (by simp only [evalF, upd, arg0, argS, ofConst, ofCell, Nat.reduceEqDiff, reduceIte, g2, g4, g5] <;> rfl) (by exact (eql_f (by omega))) (by decide) ?_
  refine ro_assign (by simp only [evalF, upd, arg0, argS, ofConst, ofCell, Nat.reduceEqDiff, reduceIte, g2, g4, g5] <;> rfl) (by decide) ?_
  refine ro_nil ?_
  try simp only
  refine ex_cond (t := false) (by simp only [evalF, upd, arg0, argS, ofConst, ofCell, Nat.reduceEqDiff, reduceIte, g2, g4, g5] <;> rfl) (fun h => by simp at h) (fun h => ?_)
  refine ex_test_t (by simp only [evalF, upd, arg0, argS, ofConst, ofCell, Nat.reduceEqDiff, reduceIte, g2, g4, g5] <;> rfl) (by omega) (by decide) (by decide) ?_
  refine ex_region ?_
  refine ro_move (by simp only [evalF, upd, arg0, argS, ofConst, ofCell, Nat.reduceEqDiff, reduceIte, g2, g4, g5] <;> rfl) (by decide) ?_
  refine ro_call (f := 33) («as» := [.ptr idr 1 0]) rfl (by simp [evalF, upd, arg0, argS, ofConst, ofCell, Nat.reduceEqDiff, reduceIte, g4]) plains_33 rfl (data33 (d + 1) fl0.rr) (by decide) ?_
  rintro v1 hp1 nb1 ⟨hg1, ho1, hr1, hk1⟩
  obtain ⟨L1, D1, hl1, hF1⟩ := fl_data fl0 hr1 hk1 hg1 ho1
  refine ro_fieldAddr (by simp only [evalF, upd, arg0, argS, ofConst, ofCell, Nat.reduceEqDiff, reduceIte, g2, g4, g5] <;> rfl) (by exact (fa30_6 _ _ _)) (by decide) ?_
  refine ro_store (by simp only [evalF, upd, arg0, argS, ofConst, ofCell, Nat.reduceEqDiff, reduceIte, g2, g4, g5] <;> rfl) (by simp only [evalF, upd, arg0, argS, ofConst, ofCell, Nat.reduceEqDiff, reduceIte, g2, g4, g5] <;> rfl) (put_field fl0.pm.key sz27 hl1 ⟨(row_cell hg1).2, (row_cell hg1).1⟩ (by omega) (spl37 fl0.pm.key _ (dataF r0 e0).1)) ?_
  refine ro_nil ?_
  try simp only
  generalize setHp hp1 idm (.cells 1 (mcells { m0 with data := (dataF r0 e0).1 } L1 v1)) = hq1 at hF1 ⊢
  obtain ⟨fl1, hQ1⟩ := hF1
  obtain ⟨m1, r1, e1, hS1⟩ : ∃ x y z, refS 6 m0 r0 e0 = (x, y, z) := ⟨_, _, _, rfl⟩
  have fl1 : Fl hq1 nb1 idm idr q (refS 6 m0 r0 e0).1 vb b (refS 6 m0 r0 e0).2.1 (refS 6 m0 r0 e0).2.2 := fl1
  rw [hS1] at fl1
  have fl1 : Fl hq1 nb1 idm idr q m1 vb b r1 e1 := fl1
  have kq1 := keepQ_trans kq0 hQ1
  simp only [refsS, hS1]
  exact ⟨by first | rfl | trivial, by simp [upd, g2], by simp [upd, g4], by simp [upd, g5], fl1, kq1⟩
theorem sw16_n (d : Nat) {hq0 : Hp} {nb0 idm idr q res : Nat} {m0 : M} {vb : AV} {b r0 : List Int} {e0 : Int} {g : Gm} (hk : ¬ (1 ≤ m0.kind ∧ m0.kind ≤ 12)) (fl0 : Fl hq0 nb0 idm idr q m0 vb b r0 e0) (g2 : g 2 = .ptr res 1 0) (g4 : g 4 = .ptr idr 1 0) (g5 : g 5 = .ptr idm 1 0) :
    EX Try.prog plains (callA Try.prog facts plains 10000 (d + 3)) (orS facts (pureOf (callA Try.prog facts plains 10000 (d + 3)))) 10000 149 (codeAt (bodyOf Try.f16) [true, true, true, true, false]) g hq0 nb0 fun x g' hp' nb' => x = .normal ∧ g' 2 = .ptr res 1 0 ∧ g' 4 = .ptr idr 1 0 ∧ g' 5 = .ptr idm 1 0 ∧
      Fl hp' nb' idm idr q (refsS [] m0 r0 e0).1 vb b (refsS [] m0 r0 e0).2.1 (refsS [] m0 r0 e0).2.2 ∧ KeepQ hq0 nb0 q hp' nb' := by
  have kq0 := keepQ_refl hq0 nb0 q
  obtain ⟨L0, D0, hl0, _⟩ := fl0.pm.ex
  show EX _ _ _ _ _ 149 _ _ _ _ _
  simp only [codeAt, bodyOf, Try.f16, if_true, if_false, Bool.false_eq_true]
  refine ex_seq (ex_region ?_)
  refine ro_fieldAddr (by simp only [evalF, upd, arg0, argS, ofConst, ofCell, Nat.reduceEqDiff, reduceIte, g2, g4, g5] <;> rfl) (by exact (fa30_0 _ _ _)) (by decide) ?_
  refine ro_load (by simp only [evalF, upd, arg0, argS, ofConst, ofCell, Nat.reduceEqDiff, reduceIte, g2, g4, g5] <;> rfl) (by exact (load1 ag3 hl0 mc0)) (by decide) ?_
  refine ro_nil ?_
  try simp only
  refine ex_block ?_
  refine ex_test_f (by simp only [evalF, upd, arg0, argS, ofConst, ofCell, Nat.reduceEqDiff, reduceIte, g2, g4, g5] <;> rfl) (by omega) (by decide) (by decide) ?_
  refine ex_test_f (by simp only [evalF, upd, arg0, argS, ofConst, ofCell, Nat.reduceEqDiff, reduceIte, g2, g4, g5] <;> rfl) (by omega) (by decide) (by decide) ?_
  refine ex_test_f (by simp only [evalF, upd, arg0, argS, ofConst, ofCell, Nat.reduceEqDiff, reduceIte, g2, g4, g5] <;> rfl) (by omega) (by decide) (by decide) ?_
  refine ex_seq (ex_test_f (by simp only [evalF, upd, arg0, argS, ofConst, ofCell, Nat.reduceEqDiff, reduceIte, g2, g4, g5] <;> rfl) (by omega) (by decide) (by decide) ?_)
  refine ex_test_f (by simp only [evalF, upd, arg0, argS, ofConst, ofCell, Nat.reduceEqDiff, reduceIte, g2, g4, g5] <;> rfl) (by omega) (by decide) (by decide) ?_
  refine ex_region ?_
  refine ro_bin (by simp only [evalF, upd, arg0, argS, ofConst, ofCell, Nat.reduceEqDiff, reduceIte, g2, g4, g5] <;> rfl) (by simp only [evalF, upd, arg0, argS, ofConst, ofCell, Nat.reduceEqDiff, reduceIte, g2, g4, g5] <;> rfl) (by exact (eql_f (by omega))) (by decide) ?_
  refine ro_assign (by simp only [evalF, upd, arg0, argS, ofConst, ofCell, Nat.reduceEqDiff, reduceIte, g2, g4, g5] <;> rfl) (by decide) ?_
  refine ro_nil ?_
  try simp only
  refine ex_cond (t := false) (by simp only [evalF, upd, arg0, argS, ofConst, ofCell, Nat.reduceEqDiff, reduceIte, g2, g4, g5] <;> rfl) (fun h => by simp at h) (fun h => ?_)
  refine ex_test_f (by simp only [evalF, upd, arg0, argS, ofConst, ofCell, Nat.reduceEqDiff, reduceIte, g2, g4, g5] <;> rfl) (by omega) (by decide) (by decide) ?_
  refine ex_test_f (by simp only [evalF, upd, arg0, argS, ofConst, ofCell, Nat.reduceEqDiff, reduceIte, g2, g4, g5] <;> rfl) (by omega) (by decide) (by decide) ?_
  refine ex_seq (ex_test_f (by simp only [evalF, upd, arg0, argS, ofConst, ofCell, Nat.reduceEqDiff, reduceIte, g2, g4, g5] <;> rfl) (by omega) (by decide) (by decide) ?_)
  refine ex_region ?_
  refine ro_bin (by simp only [evalF, upd, arg0, argS, ofConst, ofCell, Nat.reduceEqDiff, reduceIte, g2, g4, g5] <;> rfl) (by simp only [evalF, upd, arg0, argS, ofConst, ofCell, Nat.reduceEqDiff, reduceIte, g2, g4, g5] <;> rfl) (by exact (eql_f (by omega))) (by decide) ?_
  refine ro_assign (by simp only [evalF, upd, arg0, argS, ofConst, ofCell, Nat.reduceEqDiff, reduceIte, g2, g4, g5] <;> rfl) (by decide) ?_
  refine ro_nil ?_
  try simp only
  refine ex_cond (t := false) (by simp only [evalF, upd, arg0, argS, ofConst, ofCell, Nat.reduceEqDiff, reduceIte, g2, g4, g5] <;> rfl) (fun h => by simp at h) (fun h => ?_)
  refine ex_test_f (by simp only [evalF, upd, arg0, argS, ofConst, ofCell, Nat.reduceEqDiff, reduceIte, g2, g4, g5] <;> rfl) (by omega) (by decide) (by decide) ?_
  refine ex_skip ?_
  try simp only
  simp only [refsS]
  exact ⟨by first | rfl | trivial, by simp [upd, g2], by simp [upd, g4], by simp [upd, g5], fl0, kq0⟩
theorem mid16_y (d : Nat) {hq0 : Hp} {nb0 idm idr q res : Nat} {m0 : M} {vb : AV} {b r0 : List Int} {e0 : Int} {g : Gm} (hk : m0.kind = 9 ∨ m0.kind = 12) (fl0 : Fl hq0 nb0 idm idr q m0 vb b r0 e0) (g2 : g 2 = .ptr res 1 0) (g4 : g 4 = .ptr idr 1 0) (g5 : g 5 = .ptr idm 1 0) :
    EX Try.prog plains (callA Try.prog facts plains 10000 (d + 3)) (orS facts (pureOf (callA Try.prog facts plains 10000 (d + 3)))) 10000 149 (codeAt (bodyOf Try.f16) [true, true, true, true, true, false]) g hq0 nb0 fun x g' hp' nb' => x = .normal ∧ g' 2 = .ptr res 1 0 ∧ g' 4 = .ptr idr 1 0 ∧ g' 5 = .ptr idm 1 0 ∧
      Fl hp' nb' idm idr q (refsS [1, 7] m0 r0 e0).1 vb b (refsS [1, 7] m0 r0 e0).2.1 (refsS [1, 7] m0 r0 e0).2.2 ∧ KeepQ hq0 nb0 q hp' nb' := by
  have kq0 := keepQ_refl hq0 nb0 q
  obtain ⟨L0, D0, hl0, _⟩ := fl0.pm.ex
  show EX _ _ _ _ _ 149 _ _ _ _ _
  simp only [codeAt, bodyOf, Try.f16, if_true, if_false, Bool.false_eq_true]
  refine ex_seq (ex_region ?_)
  refine ro_fieldAddr (by simp only [evalF, upd, arg0, argS, ofConst, ofCell, Nat.reduceEqDiff, reduceIte, g2, g4, g5] <;> rfl) (by exact (fa30_0 _ _ _)) (by decide) ?_
  refine ro_load (by simp only [evalF, upd, arg0, argS, ofConst, ofCell, Nat.reduceEqDiff, reduceIte, g2, g4, g5] <;> rfl) (by exact (load1 ag3 hl0 mc0)) (by decide) ?_
  refine ro_bin (by simp only [evalF, upd, arg0, argS, ofConst, ofCell, Nat.reduceEqDiff, reduceIte, g2, g4, g5] <;> rfl) (by simp only [evalF, upd, arg0, argS, ofConst, ofCell, Nat.reduceEqDiff, reduceIte, g2, g4, g5] <;> rfl) (by exact (eql_v)) (by decide) ?_
  refine ro_move (by simp only [evalF, upd, arg0, argS, ofConst, ofCell, Nat.reduceEqDiff, reduceIte, g2, g4, g5] <;> rfl) (by decide) ?_
  refine ro_gsel (b := m0.kind == 9) (want := false) (v := .ptr idm 1 0) rfl (by simp only [evalF, upd, arg0, argS, ofConst, ofCell, Nat.reduceEqDiff, reduceIte, g2, g4, g5] <;> rfl) rfl (fun hb => by simp only [primA, evalF, upd, arg0, argS, ofConst, ofCell, Nat.reduceEqDiff, reduceIte, g5, selV_hit hb, fa30_0, Option.map_some] <;> rfl) (by decide) ?_
  refine ro_gsel (b := m0.kind == 9) (want := false) (v := .pv (.int .i64 m0.kind)) rfl (by simp only [evalF, upd, arg0, argS, ofConst, ofCell, Nat.reduceEqDiff, reduceIte, g2, g4, g5] <;> rfl) rfl (fun hb => by simp only [primA, evalF, upd, arg0, argS, ofConst, ofCell, Nat.reduceEqDiff, reduceIte, g5, selV_hit hb, load1 ag3 hl0 mc0, Option.map_some] <;> rfl) (by decide) ?_
  refine ro_gsel (b := m0.kind == 9) (want := false) (v := .pv (.bool (m0.kind == 12))) rfl (by simp only [evalF, upd, arg0, argS, ofConst, ofCell, Nat.reduceEqDiff, reduceIte, g2, g4, g5] <;> rfl) rfl (fun hb => by simp only [primA, evalF, upd, arg0, argS, ofConst, ofCell, Nat.reduceEqDiff, reduceIte, g5, selV_hit hb, eql_v, Option.map_some] <;> rfl) (by decide) ?_
  refine ro_por (b := m0.kind == 9) (z := m0.kind == 12) (by simp only [evalF, upd, arg0, argS, ofConst, ofCell, Nat.reduceEqDiff, reduceIte, g2, g4, g5] <;> rfl) (by simp only [evalF, upd, arg0, argS, ofConst, ofCell, Nat.reduceEqDiff, reduceIte] <;> rfl) (by decide) ?_
  refine ro_nil ?_
  try simp only
  refine ex_cond (t := m0.kind == 9 || m0.kind == 12) (by simp only [evalF, upd, arg0, argS, ofConst, ofCell, Nat.reduceEqDiff, reduceIte, g2, g4, g5] <;> rfl) (fun h => ?_) (fun h => absurd h (by rcases hk with h9 | h9 <;> simp [h9]))
  refine ex_seq (ex_region ?_)
  refine ro_move (by simp only [evalF, upd, arg0, argS, ofConst, ofCell, Nat.reduceEqDiff, reduceIte, g2, g4, g5] <;> rfl) (by decide) ?_
  refine ro_call (f := 29) («as» := [.ptr idr 1 0, .pv (.bool false)]) rfl (by simp [evalF, upd, arg0, argS, ofConst, ofCell, Nat.reduceEqDiff, reduceIte, g4]) plains_29 rfl (node29 (d + 1) false fl0.rr) (by decide) ?_
  rintro v1 hp1 nb1 ⟨rfl, hr1, hk1⟩
  obtain ⟨L1, D1, hl1, hput1⟩ := fl_num fl0 hr1 (keepN_of hk1)
  refine ro_fieldAddr (by simp only [evalF, upd, arg0, argS, ofConst, ofCell, Nat.reduceEqDiff, reduceIte, g2, g4, g5] <;> rfl) (by exact (fa30_1 _ _ _)) (by decide) ?_
  refine ro_store (by simp only [evalF, upd, arg0, argS, ofConst, ofCell, Nat.reduceEqDiff, reduceIte, g2, g4, g5] <;> rfl) (by simp only [evalF, upd, arg0, argS, ofConst, ofCell, Nat.reduceEqDiff, reduceIte, g2, g4, g5] <;> rfl) (put_field fl0.pm.key sz3 hl1 ⟨rfl, rfl⟩ (by omega) (spl1 _)) ?_
  refine ro_nil ?_
  try simp only
  have hF1 := hput1 { m0 with node := (nodeF false r0 e0).1 } fl0.pm.key rfl rfl
  generalize setHp hp1 idm (.cells 1 (mcells { m0 with node := (nodeF false r0 e0).1 } L1 D1)) = hq1 at hF1 ⊢
  obtain ⟨fl1, hQ1⟩ := hF1
  obtain ⟨m1, r1, e1, hS1⟩ : ∃ x y z, refS 1 m0 r0 e0 = (x, y, z) := ⟨_, _, _, rfl⟩
  have fl1 : Fl hq1 nb1 idm idr q (refS 1 m0 r0 e0).1 vb b (refS 1 m0 r0 e0).2.1 (refS 1 m0 r0 e0).2.2 := fl1
  rw [hS1] at fl1
  have fl1 : Fl hq1 nb1 idm idr q m1 vb b r1 e1 := fl1
  have kq1 := keepQ_trans kq0 hQ1
  refine ex_region ?_
  refine ro_move (by simp only [evalF, upd, arg0, argS, ofConst, ofCell, Nat.reduceEqDiff, reduceIte, g2, g4, g5] <;> rfl) (by decide) ?_
  refine ro_call (f := 34) («as» := [.ptr idr 1 0]) rfl (by simp [evalF, upd, arg0, argS, ofConst, ofCell, Nat.reduceEqDiff, reduceIte, g4]) plains_34 rfl (time34 (d + 1) fl1.rr) (by decide) ?_
  rintro v2 hp2 nb2 ⟨rfl, hr2, hk2⟩
  obtain ⟨L2, D2, hl2, hput2⟩ := fl_num fl1 hr2 (keepN_of hk2)
  refine ro_fieldAddr (by simp only [evalF, upd, arg0, argS, ofConst, ofCell, Nat.reduceEqDiff, reduceIte, g2, g4, g5] <;> rfl) (by exact (fa30_7 _ _ _)) (by decide) ?_
  refine ro_store (by simp only [evalF, upd, arg0, argS, ofConst, ofCell, Nat.reduceEqDiff, reduceIte, g2, g4, g5] <;> rfl) (by simp only [evalF, upd, arg0, argS, ofConst, ofCell, Nat.reduceEqDiff, reduceIte, g2, g4, g5] <;> rfl) (put_field fl1.pm.key sz3 hl2 ⟨rfl, rfl⟩ (by omega) (spl38 fl1.pm.key _)) ?_
  refine ro_nil ?_
  try simp only
  have hF2 := hput2 { m1 with lease := (timeF r1 e1).1 } fl1.pm.key rfl rfl
  generalize setHp hp2 idm (.cells 1 (mcells { m1 with lease := (timeF r1 e1).1 } L2 D2)) = hq2 at hF2 ⊢
  obtain ⟨fl2, hQ2⟩ := hF2
  obtain ⟨m2, r2, e2, hS2⟩ : ∃ x y z, refS 7 m1 r1 e1 = (x, y, z) := ⟨_, _, _, rfl⟩
  have fl2 : Fl hq2 nb2 idm idr q (refS 7 m1 r1 e1).1 vb b (refS 7 m1 r1 e1).2.1 (refS 7 m1 r1 e1).2.2 := fl2
  rw [hS2] at fl2
  have fl2 : Fl hq2 nb2 idm idr q m2 vb b r2 e2 := fl2
  have kq2 := keepQ_trans kq1 hQ2
  simp only [refsS, hS1, hS2]
  exact ⟨by first | rfl | trivial, by simp [upd, g2], by simp [upd, g4], by simp [upd, g5], fl2, kq2⟩
theorem mid16_n (d : Nat) {hq0 : Hp} {nb0 idm idr q res : Nat} {m0 : M} {vb : AV} {b r0 : List Int} {e0 : Int} {g : Gm} (hk : ¬ (m0.kind = 9 ∨ m0.kind = 12)) (fl0 : Fl hq0 nb0 idm idr q m0 vb b r0 e0) (g2 : g 2 = .ptr res 1 0) (g4 : g 4 = .ptr idr 1 0) (g5 : g 5 = .ptr idm 1 0) :
    EX Try.prog plains (callA Try.prog facts plains 10000 (d + 3)) (orS facts (pureOf (callA Try.prog facts plains 10000 (d + 3)))) 10000 149 (codeAt (bodyOf Try.f16) [true, true, true, true, true, false]) g hq0 nb0 fun x g' hp' nb' => x = .normal ∧ g' 2 = .ptr res 1 0 ∧ g' 4 = .ptr idr 1 0 ∧ g' 5 = .ptr idm 1 0 ∧
      Fl hp' nb' idm idr q (refsS [] m0 r0 e0).1 vb b (refsS [] m0 r0 e0).2.1 (refsS [] m0 r0 e0).2.2 ∧ KeepQ hq0 nb0 q hp' nb' := by
  have kq0 := keepQ_refl hq0 nb0 q
  obtain ⟨L0, D0, hl0, _⟩ := fl0.pm.ex
  show EX _ _ _ _ _ 149 _ _ _ _ _
  simp only [codeAt, bodyOf, Try.f16, if_true, if_false, Bool.false_eq_true]
  refine ex_seq (ex_region ?_)
  refine ro_fieldAddr (by simp only [evalF, upd, arg0, argS, ofConst, ofCell, Nat.reduceEqDiff, reduceIte, g2, g4, g5] <;> rfl) (by exact (fa30_0 _ _ _)) (by decide) ?_
  refine ro_load (by simp only [evalF, upd, arg0, argS, ofConst, ofCell, Nat.reduceEqDiff, reduceIte, g2, g4, g5] <;> rfl) (by exact (load1 ag3 hl0 mc0)) (by decide) ?_
  refine ro_bin (by simp only [evalF, upd, arg0, argS, ofConst, ofCell, Nat.reduceEqDiff, reduceIte, g2, g4, g5] <;> rfl) (by simp only [evalF, upd, arg0, argS, ofConst, ofCell, Nat.reduceEqDiff, reduceIte, g2, g4, g5] <;> rfl) (by exact (eql_v)) (by decide) ?_
  refine ro_move (by simp only [evalF, upd, arg0, argS, ofConst, ofCell, Nat.reduceEqDiff, reduceIte, g2, g4, g5] <;> rfl) (by decide) ?_
  refine ro_gsel (b := m0.kind == 9) (want := false) (v := .ptr idm 1 0) rfl (by simp only [evalF, upd, arg0, argS, ofConst, ofCell, Nat.reduceEqDiff, reduceIte, g2, g4, g5] <;> rfl) rfl (fun hb => by simp only [primA, evalF, upd, arg0, argS, ofConst, ofCell, Nat.reduceEqDiff, reduceIte, g5, selV_hit hb, fa30_0, Option.map_some] <;> rfl) (by decide) ?_
  refine ro_gsel (b := m0.kind == 9) (want := false) (v := .pv (.int .i64 m0.kind)) rfl (by simp only [evalF, upd, arg0, argS, ofConst, ofCell, Nat.reduceEqDiff, reduceIte, g2, g4, g5] <;> rfl) rfl (fun hb => by simp only [primA, evalF, upd, arg0, argS, ofConst, ofCell, Nat.reduceEqDiff, reduceIte, g5, selV_hit hb, load1 ag3 hl0 mc0, Option.map_some] <;> rfl) (by decide) ?_
  refine ro_gsel (b := m0.kind == 9) (want := false) (v := .pv (.bool (m0.kind == 12))) rfl (by simp only [evalF, upd, arg0, argS, ofConst, ofCell, Nat.reduceEqDiff, reduceIte, g2, g4, g5] <;> rfl) rfl (fun hb => by simp only [primA, evalF, upd, arg0, argS, ofConst, ofCell, Nat.reduceEqDiff, reduceIte, g5, selV_hit hb, eql_v, Option.map_some] <;> rfl) (by decide) ?_
  refine ro_por (b := m0.kind == 9) (z := m0.kind == 12) (by simp only [evalF, upd, arg0, argS, ofConst, ofCell, Nat.reduceEqDiff, reduceIte, g2, g4, g5] <;> rfl) (by simp only [evalF, upd, arg0, argS, ofConst, ofCell, Nat.reduceEqDiff, reduceIte] <;> rfl) (by decide) ?_
  refine ro_nil ?_
  try simp only
  refine ex_cond (t := m0.kind == 9 || m0.kind == 12) (by simp only [evalF, upd, arg0, argS, ofConst, ofCell, Nat.reduceEqDiff, reduceIte, g2, g4, g5] <;> rfl) (fun h => absurd h (by simpa using hk)) (fun h => ?_)
  refine ex_skip ?_
  try simp only
  simp only [refsS]
  exact ⟨by first | rfl | trivial, by simp [upd, g2], by simp [upd, g4], by simp [upd, g5], fl0, kq0⟩
theorem sw16 (d : Nat) {hq0 : Hp} {nb0 idm idr q res : Nat} {m0 : M} {vb : AV} {b r0 : List Int} {e0 : Int} (fl0 : Fl hq0 nb0 idm idr q m0 vb b r0 e0) :
    ∃ fs1 fs2, ((rowOf m0.kind).getD [] = fs1 ++ fs2) ∧ (fs2 = if m0.kind = 9 ∨ m0.kind = 12 then [1, 7] else []) ∧
    ∀ g : Gm, g 2 = .ptr res 1 0 → g 4 = .ptr idr 1 0 → g 5 = .ptr idm 1 0 → EX Try.prog plains (callA Try.prog facts plains 10000 (d + 3)) (orS facts (pureOf (callA Try.prog facts plains 10000 (d + 3)))) 10000 149 (codeAt (bodyOf Try.f16) [true, true, true, true, false]) g hq0 nb0 fun x g' hp' nb' => x = .normal ∧ g' 2 = .ptr res 1 0 ∧ g' 4 = .ptr idr 1 0 ∧ g' 5 = .ptr idm 1 0 ∧
      Fl hp' nb' idm idr q (refsS fs1 m0 r0 e0).1 vb b (refsS fs1 m0 r0 e0).2.1 (refsS fs1 m0 r0 e0).2.2 ∧ KeepQ hq0 nb0 q hp' nb' := by
  by_cases hk : 1 ≤ m0.kind ∧ m0.kind ≤ 12
  · have : m0.kind = 1 ∨ m0.kind = 2 ∨ m0.kind = 3 ∨ m0.kind = 4 ∨ m0.kind = 5 ∨ m0.kind = 6 ∨ m0.kind = 7 ∨ m0.kind = 8 ∨ m0.kind = 9 ∨ m0.kind = 10 ∨ m0.kind = 11 ∨ m0.kind = 12 := by omega
    rcases this with h | h | h | h | h | h | h | h | h | h | h | h
    · exact ⟨[], [], by rw [h]; rfl, by simp [h], fun g g2 g4 g5 => sw16_1 d h fl0 g2 g4 g5⟩
    · exact ⟨[0, 2], [], by rw [h]; rfl, by simp [h], fun g g2 g4 g5 => sw16_2 d h fl0 g2 g4 g5⟩
    · exact ⟨[1], [], by rw [h]; rfl, by simp [h], fun g g2 g4 g5 => sw16_3 d h fl0 g2 g4 g5⟩
    · exact ⟨[4], [], by rw [h]; rfl, by simp [h], fun g g2 g4 g5 => sw16_4 d h fl0 g2 g4 g5⟩
    · exact ⟨[5], [], by rw [h]; rfl, by simp [h], fun g g2 g4 g5 => sw16_5 d h fl0 g2 g4 g5⟩
    · exact ⟨[3, 2], [], by rw [h]; rfl, by simp [h], fun g g2 g4 g5 => sw16_6 d h fl0 g2 g4 g5⟩
    · exact ⟨[5], [], by rw [h]; rfl, by simp [h], fun g g2 g4 g5 => sw16_7 d h fl0 g2 g4 g5⟩
    · exact ⟨[4, 6], [], by rw [h]; rfl, by simp [h], fun g g2 g4 g5 => sw16_8 d h fl0 g2 g4 g5⟩
    · exact ⟨[5, 6], [1, 7], by rw [h]; rfl, by simp [h], fun g g2 g4 g5 => sw16_9 d h fl0 g2 g4 g5⟩
    · exact ⟨[5, 6], [], by rw [h]; rfl, by simp [h], fun g g2 g4 g5 => sw16_10 d h fl0 g2 g4 g5⟩
    · exact ⟨[5], [], by rw [h]; rfl, by simp [h], fun g g2 g4 g5 => sw16_11 d h fl0 g2 g4 g5⟩
    · exact ⟨[6], [1, 7], by rw [h]; rfl, by simp [h], fun g g2 g4 g5 => sw16_12 d h fl0 g2 g4 g5⟩
  · refine ⟨[], [], ?_, by rw [if_neg (by omega)], fun g g2 g4 g5 => sw16_n d hk fl0 g2 g4 g5⟩
    unfold rowOf
    rw [if_neg (by omega), if_neg (by omega), if_neg (by omega), if_neg (by omega), if_neg (by omega), if_neg (by omega), if_neg (by omega), if_neg (by omega), if_neg (by omega), if_neg (by omega), if_neg (by omega), if_neg (by omega)]
    rfl
/-- More behind the end. -/
def moreE (rest : List Int) (e : Int) : Int := if (e == 0 && decide ((rest.length : Int) > 0)) = true then 9 else e
theorem endNeeds : needs (regOf Try.f16 39) = [(4, 5)] := by kernel_rfl
theorem endStat : statOk (regOf Try.f16 39) = true := by kernel_rfl
theorem end16 {F : CallF} {G : CallG} {hp : Hp} {nb idm idr q res : Nat} {m : M} {vb : AV} {b rest : List Int} {e : Int} {g : Gm} (fl : Fl hp nb idm idr q m vb b rest e) (hres : AI.look hp res 1 = some zcells) (hlt : res < q) (g2 : g 2 = .ptr res 1 0) (g4 : g 4 = .ptr idr 1 0) (g5 : g 5 = .ptr idm 1 0) :
    EX Try.prog plains F G 10000 149 (codeAt (bodyOf Try.f16) [true, true, true, true, true, true]) g hp nb fun x g' hp' nb' => x = .ret ∧ g' 2 = .ptr res 1 0 ∧ nb' = nb ∧ (∀ id, id < q → id ≠ res → hp' id = hp id) ∧ (Tidy hp nb → Tidy hp' nb') ∧
      ((moreE rest e = 0 ∧ ∃ L D, g' 3 = .pv (.int .i64 0) ∧ AI.look hp' res 1 = some (mcells m L D) ∧ Row hp' nb' L (ints m.list) ∧ Row hp' nb' D (u8s m.data) ∧ (∀ id, ownOf L = some id → q ≤ id) ∧ (∀ id, ownOf D = some id → q ≤ id)) ∨
       (moreE rest e ≠ 0 ∧ g' 3 = .pv (.int .i64 (moreE rest e)) ∧ AI.look hp' res 1 = some zcells)) := by
  obtain ⟨p, hpl, hrest, hl⟩ := fl.rr.ex
  have hsz := fl.rr.sz
  have hbl : (u8s b).length = b.length := by simp [u8s]
  have hrl : rest.length = b.length - p := by rw [hrest, List.length_drop]
  have hql := fl.rr.le
  have hqm := fl.pm.le
  have hlr := fl.rr.lt
  show EX _ _ _ _ _ 149 _ _ _ _ _
  simp only [codeAt, bodyOf, Try.f16, if_true, if_false, Bool.false_eq_true]
  refine ex_seq (ex_weaken (K := fun x g' hp' nb' => x = .normal ∧ g' 2 = .ptr res 1 0 ∧ g' 4 = .ptr idr 1 0 ∧ g' 5 = .ptr idm 1 0 ∧ nb' = nb ∧ AI.look hp' idr 1 = some [vb, .pv (.int .i64 p), .pv (.int .i64 (moreE rest e))] ∧ Fl hp' nb idm idr q m vb b rest (moreE rest e) ∧ KeepR hp nb idr hp' nb) ?_ ?_)
  · by_cases he : e = 0
    · refine ex_seq (ex_draw (by kernel_rfl) ?_)
      refine rdw_move rfl (by simp only [evalF, upd, arg0, argS, ofConst, ofCell, Nat.reduceEqDiff, reduceIte, g2, g4, g5] <;> rfl) (by decide) ?_
      refine rdw_nilCheck rfl (by simp only [evalF, upd, arg0, argS, ofConst, ofCell, Nat.reduceEqDiff, reduceIte, g2, g4, g5] <;> rfl) (by decide) ?_
      refine rdw_fieldAddr rfl (by simp only [evalF, upd, arg0, argS, ofConst, ofCell, Nat.reduceEqDiff, reduceIte, g2, g4, g5] <;> rfl) (by exact (fa63_2 _ _ _)) (by decide) ?_
      refine rdw_load rfl (by simp only [evalF, upd, arg0, argS, ofConst, ofCell, Nat.reduceEqDiff, reduceIte, g2, g4, g5] <;> rfl) (by exact (load1 ag3 hl rfl)) (by decide) ?_
      refine rdw_bin rfl (by simp only [evalF, upd, arg0, argS, ofConst, ofCell, Nat.reduceEqDiff, reduceIte, g2, g4, g5] <;> rfl) (by simp only [evalF, upd, arg0, argS, ofConst, ofCell, Nat.reduceEqDiff, reduceIte, g2, g4, g5] <;> rfl) (by exact (eql_t he)) (by decide) ?_
      refine rdw_move rfl (by simp only [evalF, upd, arg0, argS, ofConst, ofCell, Nat.reduceEqDiff, reduceIte, g2, g4, g5] <;> rfl) (by decide) ?_
      refine rdw_move (want_of rfl (by simp only [evalF, upd, arg0, argS, ofConst, ofCell, Nat.reduceEqDiff, reduceIte, g2, g4, g5] <;> rfl) rfl) (by simp only [evalF, upd, arg0, argS, ofConst, ofCell, Nat.reduceEqDiff, reduceIte, g2, g4, g5] <;> rfl) (by decide) ?_
      refine rdw_nilCheck (want_of rfl (by simp only [evalF, upd, arg0, argS, ofConst, ofCell, Nat.reduceEqDiff, reduceIte, g2, g4, g5] <;> rfl) rfl) (by simp only [evalF, upd, arg0, argS, ofConst, ofCell, Nat.reduceEqDiff, reduceIte, g2, g4, g5] <;> rfl) (by decide) ?_
      refine rdw_fieldAddr (want_of rfl (by simp only [evalF, upd, arg0, argS, ofConst, ofCell, Nat.reduceEqDiff, reduceIte, g2, g4, g5] <;> rfl) rfl) (by simp only [evalF, upd, arg0, argS, ofConst, ofCell, Nat.reduceEqDiff, reduceIte, g2, g4, g5] <;> rfl) (by exact (fa63_1 _ _ _)) (by decide) ?_
      refine rdw_load (want_of rfl (by simp only [evalF, upd, arg0, argS, ofConst, ofCell, Nat.reduceEqDiff, reduceIte, g2, g4, g5] <;> rfl) rfl) (by simp only [evalF, upd, arg0, argS, ofConst, ofCell, Nat.reduceEqDiff, reduceIte, g2, g4, g5] <;> rfl) (by exact (load1 ag3 hl rfl)) (by decide) ?_
      refine rdw_move (want_of rfl (by simp only [evalF, upd, arg0, argS, ofConst, ofCell, Nat.reduceEqDiff, reduceIte, g2, g4, g5] <;> rfl) rfl) (by simp only [evalF, upd, arg0, argS, ofConst, ofCell, Nat.reduceEqDiff, reduceIte, g2, g4, g5] <;> rfl) (by decide) ?_
      refine rdw_nilCheck (want_of rfl (by simp only [evalF, upd, arg0, argS, ofConst, ofCell, Nat.reduceEqDiff, reduceIte, g2, g4, g5] <;> rfl) rfl) (by simp only [evalF, upd, arg0, argS, ofConst, ofCell, Nat.reduceEqDiff, reduceIte, g2, g4, g5] <;> rfl) (by decide) ?_
      refine rdw_fieldAddr (want_of rfl (by simp only [evalF, upd, arg0, argS, ofConst, ofCell, Nat.reduceEqDiff, reduceIte, g2, g4, g5] <;> rfl) rfl) (by simp only [evalF, upd, arg0, argS, ofConst, ofCell, Nat.reduceEqDiff, reduceIte, g2, g4, g5] <;> rfl) (by exact (fa63_0 _ _ _)) (by decide) ?_
      refine rdw_load (want_of rfl (by simp only [evalF, upd, arg0, argS, ofConst, ofCell, Nat.reduceEqDiff, reduceIte, g2, g4, g5] <;> rfl) rfl) (by simp only [evalF, upd, arg0, argS, ofConst, ofCell, Nat.reduceEqDiff, reduceIte, g2, g4, g5] <;> rfl) (by exact (load1 ag27 hl rfl)) (by decide) ?_
      refine rdw_builtin (want_of rfl (by simp only [evalF, upd, arg0, argS, ofConst, ofCell, Nat.reduceEqDiff, reduceIte, g2, g4, g5] <;> rfl) rfl) (by simp only [List.map_cons, List.map_nil, evalF, upd, Nat.reduceEqDiff, reduceIte] <;> rfl) (by exact (row_len st27 fl.rr.row)) (by decide) ?_
      refine rdw_bin (want_of rfl (by simp only [evalF, upd, arg0, argS, ofConst, ofCell, Nat.reduceEqDiff, reduceIte, g2, g4, g5] <;> rfl) rfl) (by simp only [evalF, upd, arg0, argS, ofConst, ofCell, Nat.reduceEqDiff, reduceIte, g2, g4, g5] <;> rfl) (by simp only [evalF, upd, arg0, argS, ofConst, ofCell, Nat.reduceEqDiff, reduceIte, g2, g4, g5] <;> rfl) (by exact (lss_v)) (by decide) ?_
      refine rdw_pick rfl (by simp only [evalF, upd, arg0, argS, ofConst, ofCell, Nat.reduceEqDiff, reduceIte, g2, g4, g5] <;> rfl) (by simp only [evalF, upd, arg0, argS, ofConst, ofCell, Nat.reduceEqDiff, reduceIte, g2, g4, g5] <;> rfl) (by simp only [evalF, upd, arg0, argS, ofConst, ofCell, Nat.reduceEqDiff, reduceIte, g2, g4, g5] <;> rfl) (by decide) ?_
      refine rd_nil ⟨rfl, ?_⟩
      try simp only
      rw [hbl]
      by_cases hc : (rest.length : Int) > 0
      · have hm : moreE rest e = 9 := by unfold moreE; rw [if_pos (by rw [Bool.and_eq_true]; exact ⟨by simp [he], decide_eq_true hc⟩)]
        rw [hm]
        refine ex_cond (t := true) (by simp only [evalF, upd, Nat.reduceEqDiff, reduceIte, if_true]; rw [decide_eq_true (by omega)]) (fun _ => ?_) (fun h => by simp at h)
        refine ex_region ?_
        refine ro_move (by simp only [evalF, upd, arg0, argS, ofConst, ofCell, Nat.reduceEqDiff, reduceIte, g2, g4, g5] <;> rfl) (by decide) ?_
        refine ro_nilCheck (by simp only [evalF, upd, arg0, argS, ofConst, ofCell, Nat.reduceEqDiff, reduceIte, g2, g4, g5] <;> rfl) (by decide) ?_
        refine ro_fieldAddr (by simp only [evalF, upd, arg0, argS, ofConst, ofCell, Nat.reduceEqDiff, reduceIte, g2, g4, g5] <;> rfl) (by exact (fa63_2 _ _ _)) (by decide) ?_
        refine ro_store (by simp only [evalF, upd, arg0, argS, ofConst, ofCell, Nat.reduceEqDiff, reduceIte, g2, g4, g5] <;> rfl) (by simp only [evalF, upd, arg0, argS, ofConst, ofCell, Nat.reduceEqDiff, reduceIte, g2, g4, g5] <;> rfl) (st_err _ hl) ?_
        refine ro_nil ?_
        have hx := rr_put fl.rr p hpl 9
        rw [← hrest] at hx
        exact ⟨by first | rfl | trivial, by simp [upd, g2], by simp [upd, g4], by simp [upd, g5], rfl, look_same _ _ _ _, (fl_same fl hx.1 (keepN_of hx.2)).1, hx.2⟩
      · have hm : moreE rest e = e := by unfold moreE; rw [if_neg (by rw [Bool.and_eq_true, not_and]; intro _; rw [decide_eq_true_eq]; exact hc)]
        rw [hm]
        refine ex_cond (t := false) (by simp only [evalF, upd, Nat.reduceEqDiff, reduceIte, if_true]; rw [decide_eq_false (by omega)]) (fun h => by simp at h) (fun _ => ex_skip ?_)
        exact ⟨by first | rfl | trivial, by simp [upd, g2], by simp [upd, g4], by simp [upd, g5], rfl, hl, fl, keepR_refl _ _ _⟩
    · have hm : moreE rest e = e := by unfold moreE; rw [if_neg (by simp [he])]
      rw [hm]
      refine ex_seq (ex_draw (by kernel_rfl) ?_)
      refine rdw_move rfl (by simp only [evalF, upd, arg0, argS, ofConst, ofCell, Nat.reduceEqDiff, reduceIte, g2, g4, g5] <;> rfl) (by decide) ?_
      refine rdw_nilCheck rfl (by simp only [evalF, upd, arg0, argS, ofConst, ofCell, Nat.reduceEqDiff, reduceIte, g2, g4, g5] <;> rfl) (by decide) ?_
      refine rdw_fieldAddr rfl (by simp only [evalF, upd, arg0, argS, ofConst, ofCell, Nat.reduceEqDiff, reduceIte, g2, g4, g5] <;> rfl) (by exact (fa63_2 _ _ _)) (by decide) ?_
      refine rdw_load rfl (by simp only [evalF, upd, arg0, argS, ofConst, ofCell, Nat.reduceEqDiff, reduceIte, g2, g4, g5] <;> rfl) (by exact (load1 ag3 hl rfl)) (by decide) ?_
      refine rdw_bin rfl (by simp only [evalF, upd, arg0, argS, ofConst, ofCell, Nat.reduceEqDiff, reduceIte, g2, g4, g5] <;> rfl) (by simp only [evalF, upd, arg0, argS, ofConst, ofCell, Nat.reduceEqDiff, reduceIte, g2, g4, g5] <;> rfl) (by exact (eql_f he)) (by decide) ?_
      refine rdw_move rfl (by simp only [evalF, upd, arg0, argS, ofConst, ofCell, Nat.reduceEqDiff, reduceIte, g2, g4, g5] <;> rfl) (by decide) ?_
      refine rd_gskip rfl (by simp only [evalF, upd, arg0, argS, ofConst, ofCell, Nat.reduceEqDiff, reduceIte, g2, g4, g5] <;> rfl) rfl (by decide) ?_
      refine rd_gskip rfl (by simp only [evalF, upd, arg0, argS, ofConst, ofCell, Nat.reduceEqDiff, reduceIte, g2, g4, g5] <;> rfl) rfl (by decide) ?_
      refine rd_gskip rfl (by simp only [evalF, upd, arg0, argS, ofConst, ofCell, Nat.reduceEqDiff, reduceIte, g2, g4, g5] <;> rfl) rfl (by decide) ?_
      refine rd_gskip rfl (by simp only [evalF, upd, arg0, argS, ofConst, ofCell, Nat.reduceEqDiff, reduceIte, g2, g4, g5] <;> rfl) rfl (by decide) ?_
      refine rd_gskip rfl (by simp only [evalF, upd, arg0, argS, ofConst, ofCell, Nat.reduceEqDiff, reduceIte, g2, g4, g5] <;> rfl) rfl (by decide) ?_
      refine rd_gskip rfl (by simp only [evalF, upd, arg0, argS, ofConst, ofCell, Nat.reduceEqDiff, reduceIte, g2, g4, g5] <;> rfl) rfl (by decide) ?_
      refine rd_gskip rfl (by simp only [evalF, upd, arg0, argS, ofConst, ofCell, Nat.reduceEqDiff, reduceIte, g2, g4, g5] <;> rfl) rfl (by decide) ?_
      refine rd_gskip rfl (by simp only [evalF, upd, arg0, argS, ofConst, ofCell, Nat.reduceEqDiff, reduceIte, g2, g4, g5] <;> rfl) rfl (by decide) ?_
      refine rd_gskip rfl (by simp only [evalF, upd, arg0, argS, ofConst, ofCell, Nat.reduceEqDiff, reduceIte, g2, g4, g5] <;> rfl) rfl (by decide) ?_
      refine rd_gskip rfl (by simp only [evalF, upd, arg0, argS, ofConst, ofCell, Nat.reduceEqDiff, reduceIte, g2, g4, g5] <;> rfl) rfl (by decide) ?_
      refine rdw_pick rfl (by simp only [evalF, upd, arg0, argS, ofConst, ofCell, Nat.reduceEqDiff, reduceIte, g2, g4, g5] <;> rfl) (by simp only [evalF, upd, arg0, argS, ofConst, ofCell, Nat.reduceEqDiff, reduceIte, g2, g4, g5] <;> rfl) (by simp only [evalF, upd, arg0, argS, ofConst, ofCell, Nat.reduceEqDiff, reduceIte, g2, g4, g5] <;> rfl) (by decide) ?_
      refine rd_nil ⟨rfl, ?_⟩
      try simp only
      refine ex_cond (t := false) (by simp only [evalF, upd, arg0, argS, ofConst, ofCell, Nat.reduceEqDiff, reduceIte, g2, g4, g5] <;> rfl) (fun h => by simp at h) (fun _ => ex_skip ?_)
      exact ⟨by first | rfl | trivial, by simp [upd, g2], by simp [upd, g4], by simp [upd, g5], rfl, hl, fl, keepR_refl _ _ _⟩
  rintro x g1 hp1 nb1 ⟨rfl, g2', g4', g5', e1, hl1, fl1, hk1⟩
  rw [e1]
  clear e1 nb1
  try simp only
  generalize moreE rest e = e1 at *
  have hres1 : AI.look hp1 res 1 = some zcells := by rw [look_at 1 (hk1.2.1 res (by omega))]; exact hres
  refine ex_seq (ex_seq (ex_region ?_))
  refine ro_move (by simp only [evalF, upd, arg0, argS, ofConst, ofCell, Nat.reduceEqDiff, reduceIte, g2', g4', g5'] <;> rfl) (by decide) ?_
  refine ro_nilCheck (by simp only [evalF, upd, arg0, argS, ofConst, ofCell, Nat.reduceEqDiff, reduceIte, g2', g4', g5'] <;> rfl) (by decide) ?_
  refine ro_fieldAddr (by simp only [evalF, upd, arg0, argS, ofConst, ofCell, Nat.reduceEqDiff, reduceIte, g2', g4', g5'] <;> rfl) (by exact (fa63_2 _ _ _)) (by decide) ?_
  refine ro_load (by simp only [evalF, upd, arg0, argS, ofConst, ofCell, Nat.reduceEqDiff, reduceIte, g2', g4', g5'] <;> rfl) (by exact (load1 ag3 hl1 rfl)) (by decide) ?_
  refine ro_bin (by simp only [evalF, upd, arg0, argS, ofConst, ofCell, Nat.reduceEqDiff, reduceIte, g2', g4', g5'] <;> rfl) (by simp only [evalF, upd, arg0, argS, ofConst, ofCell, Nat.reduceEqDiff, reduceIte, g2', g4', g5'] <;> rfl) (by exact (neq_v)) (by decide) ?_
  refine ro_nil ?_
  try simp only
  refine ex_cond (t := (e1 != 0)) (by simp only [evalF, upd, arg0, argS, ofConst, ofCell, Nat.reduceEqDiff, reduceIte, g2', g4', g5'] <;> rfl) (fun hc => ?_) (fun hc => ?_)
  · have hne : e1 ≠ 0 := by simpa using hc
    refine ex_seq (ex_draw endStat ?_)
    refine rdw_val (v := .agg zcells) rfl rfl (by show Option.map Eff.val (buildA Try.prog 30 []) = _; rw [bld30]; rfl) (by decide) ?_
    refine rdw_move rfl (by simp only [evalF, upd, arg0, argS, ofConst, ofCell, Nat.reduceEqDiff, reduceIte, g2', g4', g5'] <;> rfl) (by decide) ?_
    refine rdw_nilCheck rfl (by simp only [evalF, upd, arg0, argS, ofConst, ofCell, Nat.reduceEqDiff, reduceIte, g2', g4', g5'] <;> rfl) (by decide) ?_
    refine rdw_fieldAddr rfl (by simp only [evalF, upd, arg0, argS, ofConst, ofCell, Nat.reduceEqDiff, reduceIte, g2', g4', g5'] <;> rfl) (by exact (fa63_2 _ _ _)) (by decide) ?_
    refine rdw_load rfl (by simp only [evalF, upd, arg0, argS, ofConst, ofCell, Nat.reduceEqDiff, reduceIte, g2', g4', g5'] <;> rfl) (by exact (load1 ag3 hl1 rfl)) (by decide) ?_
    refine rdw_store rfl (by simp only [evalF, upd, arg0, argS, ofConst, ofCell, Nat.reduceEqDiff, reduceIte, g2', g4', g5'] <;> rfl) (by simp only [evalF, upd, arg0, argS, ofConst, ofCell, Nat.reduceEqDiff, reduceIte, g2', g4', g5'] <;> rfl) (storeZ hres1 z_all z_len z_len) (look_live hres1) ?_
    refine rdw_assign rfl (by simp only [evalF, upd, arg0, argS, ofConst, ofCell, Nat.reduceEqDiff, reduceIte, g2', g4', g5'] <;> rfl) (by decide) ?_
    refine rd_nil ⟨dyn_of rfl (fun p hp' => ?_), ?_⟩
    · have hp'' : p ∈ needs (regOf Try.f16 39) := hp'
      rw [endNeeds] at hp''
      simp only [List.mem_cons, List.not_mem_nil, or_false] at hp''
      subst hp''
      intro x y hx hy
      cases hx; cases hy
      simp [heapPart, footF, Chg.isAll, Chg.ids, disjointL, looksIn, Op.operands, evalF, upd, idOf, heapful, g4']
      omega
    try simp only
    refine ex_ret ?_
    exact ⟨rfl, by simp [upd, g2'], rfl, fun id hid hne' => by rw [show setHp hp1 res (.cells 1 zcells) id = hp1 id by simp [setHp, hne']]; exact hk1.2.1 id (by omega), fun ht => tidy_put (hk1.2.2 ht) (z_ok _), .inr ⟨hne, by simp [upd], look_same _ _ _ _⟩⟩
  · have h0 : e1 = 0 := by simpa using hc
    obtain ⟨L, D, i1, i2, i3, i4, i5⟩ := fl1.pm.ex
    have hrm : res ≠ idm := by omega
    refine ex_skip ?_
    try simp only
    refine ex_seq (ex_region ?_)
    refine ro_load (by simp only [evalF, upd, arg0, argS, ofConst, ofCell, Nat.reduceEqDiff, reduceIte, g2', g4', g5'] <;> rfl) (by exact (load_whole fl1.pm.key i1)) (by decide) ?_
    refine ro_store (by simp only [evalF, upd, arg0, argS, ofConst, ofCell, Nat.reduceEqDiff, reduceIte, g2', g4', g5'] <;> rfl) (by simp only [evalF, upd, arg0, argS, ofConst, ofCell, Nat.reduceEqDiff, reduceIte, g2', g4', g5'] <;> rfl) (storeZ hres1 (mc_all (row_cell i2.row).1 (row_cell i3).1) (mc_length fl1.pm.key) z_len) ?_
    refine ro_assign (by simp only [evalF, upd, arg0, argS, ofConst, ofCell, Nat.reduceEqDiff, reduceIte, g2', g4', g5'] <;> rfl) (by decide) ?_
    refine ro_nil ?_
    try simp only
    refine ex_ret ?_
    refine ⟨rfl, by simp [upd, g2'], rfl, fun id hid hne' => by rw [show setHp hp1 res (.cells 1 (mcells m L D)) id = hp1 id by simp [setHp, hne']]; exact hk1.2.1 id (by omega), fun ht => tidy_put (hk1.2.2 ht) (ok_cells (grow_okC i2) (row_ok' i3)), .inl ⟨h0, L, D, by simp [upd, ofConst, ofCell, evalF], look_same _ _ _ _, ?_, ?_, fun id h => (i4 id h).1, fun id h => (i5 id h).1⟩⟩
    · exact i2.row.keep (Nat.le_refl _) (fun id hid ho => by have := (i4 id ho).1; simp [setHp, show id ≠ res by omega])
    · exact i3.keep (Nat.le_refl _) (fun id hid ho => by have := (i5 id ho).1; simp [setHp, show id ≠ res by omega])
theorem dec_ref {k : Int} {r : List Int} (hb : ∀ x ∈ r, 0 ≤ x ∧ x ≤ 255) {fs : List Nat} (hr : rowOf k = some fs) :
    match dec (k :: r) with
    | .ok m => moreE (refsS fs { zeroM with kind := k } r 0).2.1 (refsS fs { zeroM with kind := k } r 0).2.2 = 0 ∧ (refsS fs { zeroM with kind := k } r 0).1 = m
    | .error e => moreE (refsS fs { zeroM with kind := k } r 0).2.1 (refsS fs { zeroM with kind := k } r 0).2.2 = e ∧ e ≠ 0 := by
  have ha := refs_ok fs { zeroM with kind := k } r hb
  have hd : dec (k :: r) = match fieldsR fs { zeroM with kind := k } r with
      | .ok (m, []) => .ok m
      | .ok (_, _ :: _) => .error 9
      | .error e => .error e := by
    rw [dec, hr]
    rfl
  rw [hd]
  cases hf : fieldsR fs { zeroM with kind := k } r with
  | ok p =>
    obtain ⟨m1, rest⟩ := p
    rw [hf] at ha
    have ha : refsS fs { zeroM with kind := k } r 0 = (m1, rest, 0) := ha
    rw [ha]
    cases rest with
    | nil => exact ⟨rfl, rfl⟩
    | cons y t =>
      refine ⟨?_, by decide⟩
      unfold moreE
      rw [if_pos (by simp)]
  | error x =>
    rw [hf] at ha
    obtain ⟨h1, h2⟩ := ha
    refine ⟨?_, h2⟩
    rw [h1]
    unfold moreE
    rw [if_neg (by simp [h2])]
end Go.Proofs.Ytlinbbjobjnipaa

set_option linter.unusedVariables false
set_option linter.unusedSimpArgs false
set_option linter.unusedSectionVars false
namespace Go.Proofs.Ytlinbbjobjnipaa
open Go AI
set_option maxHeartbeats 4000000
set_option maxRecDepth 10000
theorem bld63 {hp : Hp} {nb : Nat} {v : AV} {l : List PV} (hr : Row hp nb v l) : buildA Try.prog 63 [(0, v)] = some (.agg [v, .pv (.int .i64 0), .pv (.int .i64 0)]) := by
  cases hr <;> kernel_rfl
theorem res16 {g : Gm} {hp : Hp} {id : Nat} {cs : List AV} {e : Int} (h2 : g 2 = .ptr id 1 0) (h3 : g 3 = .pv (.int .i64 e)) (hl : AI.look hp id 1 = some cs) (ho : cs.length = 40) : resF Try.prog Try.f16 g hp = some (.tuple [.agg cs, .pv (.int .i64 e)]) := by
  show (([ResultVar.cell 2 30, ResultVar.tmp 3] : List ResultVar).mapM (resOneF Try.prog g hp)).map AV.tuple = _
  simp only [List.mapM_cons, List.mapM_nil, resOneF, h2, h3, loadZ hl ho]
  rfl
def kindE (k e : Int) : Int := if (e == 0 && (decide (k < 1) || decide (k > 12))) = true then 3 else e
theorem kind_ok {k : Int} (h : 1 ≤ k ∧ k ≤ 12) : ∃ fs, rowOf k = some fs := by
  have : k = 1 ∨ k = 2 ∨ k = 3 ∨ k = 4 ∨ k = 5 ∨ k = 6 ∨ k = 7 ∨ k = 8 ∨ k = 9 ∨ k = 10 ∨ k = 11 ∨ k = 12 := by omega
  rcases this with rfl | rfl | rfl | rfl | rfl | rfl | rfl | rfl | rfl | rfl | rfl | rfl <;> exact ⟨_, rfl⟩
theorem kind_bad {k : Int} (h : ¬ (1 ≤ k ∧ k ≤ 12)) : rowOf k = none := by
  unfold rowOf
  rw [if_neg (by omega), if_neg (by omega), if_neg (by omega), if_neg (by omega), if_neg (by omega), if_neg (by omega), if_neg (by omega), if_neg (by omega), if_neg (by omega), if_neg (by omega), if_neg (by omega), if_neg (by omega)]
theorem first_byte (b : List Int) : (kindE (u8F b 0).1 (u8F b 0).2.2 ≠ 0 ∧ dec b = .error (kindE (u8F b 0).1 (u8F b 0).2.2)) ∨
    (kindE (u8F b 0).1 (u8F b 0).2.2 = 0 ∧ ∃ k r fs, b = k :: r ∧ u8F b 0 = (k, r, 0) ∧ rowOf k = some fs) := by
  cases b with
  | nil => exact .inl ⟨by decide, rfl⟩
  | cons k r =>
    rw [u8_cons]
    by_cases hk : 1 ≤ k ∧ k ≤ 12
    · right
      obtain ⟨fs, hfs⟩ := kind_ok hk
      refine ⟨?_, k, r, fs, rfl, rfl, hfs⟩
      unfold kindE
      rw [if_neg (by simp; omega)]
    · left
      have : kindE k 0 = 3 := by
        unfold kindE
        rw [if_pos (by simp; omega)]
      show kindE k 0 ≠ 0 ∧ dec (k :: r) = .error (kindE k 0)
      rw [this]
      refine ⟨by decide, ?_⟩
      rw [dec, kind_bad hk]
/-- latticeref4.Parse. -/
theorem refparse16 (d : Nat) {hp : Hp} {nb : Nat} {v : AV} {b : List Int} (hb : ∀ x ∈ b, 0 ≤ x ∧ x ≤ 255) (hr : Row hp nb v (u8s b)) (hsz : b.length < 100000) :
    CA (callA Try.prog facts plains 10000 (d + 4)) 16 [v] hp nb (ParseOk b hp nb) := by
  refine ca_body (fn := Try.f16) (c := bodyOf Try.f16) Try.func16 rfl (by show 1 ≤ 149; omega) ?_
  show EX _ _ _ _ _ 149 _ _ _ _ _
  unfold bodyOf Try.f16
  refine ex_seq (ex_region ?_)
  refine ro_alloc zero30 (by kernel_rfl) (by decide) ?_
  refine ro_assign (by simp only [evalF, upd, arg0, argS, ofConst, ofCell, Nat.reduceEqDiff, reduceIte] <;> rfl) (by decide) ?_
  refine ro_nil ?_
  try simp only
  have ha0 : After hp nb (.pv .nilSlice) (setHp hp nb (.cells 1 zcells)) (nb + 1) := after_new hp nb _ _ (z_ok _)
  have hl0 : AI.look (setHp hp nb (.cells 1 zcells)) nb 1 = some zcells := look_same _ _ _ _
  show EX _ _ _ _ _ 149 _ _ (setHp hp nb (.cells 1 zcells)) _ _
  generalize setHp hp nb (.cells 1 zcells) = hp1 at ha0 hl0 ⊢
  have hr1 : Row hp1 (nb + 1) v (u8s b) := hr.keep (Nat.le_succ _) (fun id hid _ => ha0.2.1 id hid (by simp [ownOf]))
  refine ex_seq (ex_region ?_)
  refine ro_move (by simp only [evalF, upd, arg0, argS, ofConst, ofCell, Nat.reduceEqDiff, reduceIte] <;> rfl) (by decide) ?_
  refine ro_build (ps := [(0, v)]) (by simp only [List.map_cons, List.map_nil, evalF, upd, arg0, argS, Nat.reduceEqDiff, reduceIte]) (bld63 hr1) (by decide) ?_
  refine ro_box (v := .agg [v, .pv (.int .i64 0), .pv (.int .i64 0)]) (by simp only [evalF, upd, Nat.reduceEqDiff, reduceIte]) (by simp only [AV.cells, List.all_cons, List.all_nil, (row_cell hr).1]; rfl) (by decide) ?_
  refine ro_assign (by simp only [evalF, upd, arg0, argS, ofConst, ofCell, Nat.reduceEqDiff, reduceIte] <;> rfl) (by decide) ?_
  refine ro_nil ?_
  try simp only
  have ha1 : After hp1 (nb + 1) (.pv .nilSlice) (setHp hp1 (nb + 1) (.cells 1 [v, .pv (.int .i64 0), .pv (.int .i64 0)])) (nb + 1 + 1) := after_new hp1 (nb + 1) _ _ (by
    intro c hc
    simp only [List.mem_cons, List.not_mem_nil, or_false] at hc
    rcases hc with rfl | rfl | rfl
    · exact row_ok' hr1
    · exact okC_pv _ _
    · exact okC_pv _ _)
  have hl1 : AI.look (setHp hp1 (nb + 1) (.cells 1 [v, .pv (.int .i64 0), .pv (.int .i64 0)])) (nb + 1) 1 = some [v, .pv (.int .i64 0), .pv (.int .i64 0)] := look_same _ _ _ _
  show EX _ _ _ _ _ 149 _ _ (setHp hp1 (nb + 1) (.cells 1 [v, .pv (.int .i64 0), .pv (.int .i64 0)])) _ _
  generalize setHp hp1 (nb + 1) (.cells 1 [v, .pv (.int .i64 0), .pv (.int .i64 0)]) = hp2 at ha1 hl1 ⊢
  have hr2 : Rr hp2 (nb + 1 + 1) (nb + 1) (nb + 1) v b b 0 := ⟨by omega, Nat.le_refl _, hr1.keep (Nat.le_succ _) (fun id hid _ => ha1.2.1 id hid (by simp [ownOf])), fun id h => by have := row_own hr h; omega, hsz, hb, 0, Nat.zero_le _, rfl, hl1⟩
  have hz2 : AI.look hp2 nb 1 = some zcells := by rw [look_at 1 (ha1.2.1 nb (by omega) (by simp [ownOf]))]; exact hl0
  refine ex_seq (ex_region ?_)
  refine ro_move (by simp only [evalF, upd, arg0, argS, ofConst, ofCell, Nat.reduceEqDiff, reduceIte] <;> rfl) (by decide) ?_
  refine ro_call (f := 28) («as» := [.ptr (nb + 1) 1 0]) rfl (by simp [evalF, upd]) plains_28 rfl (u8_28 (d + 2) hr2) (by decide) ?_
  rintro v3 hp3 nb3 ⟨rfl, hr3, hk3⟩
  obtain rfl := hk3.1
  have hfb := first_byte b
  generalize u8F b 0 = u at hr3 hfb ⊢
  refine ro_build (ps := [(0, .pv (.int .i64 u.1))]) (by simp only [List.map_cons, List.map_nil, evalF, upd, Nat.reduceEqDiff, reduceIte]) (bld30k _) (by decide) ?_
  refine ro_alloc zero30 (by kernel_rfl) (by decide) ?_
  refine ro_store (by simp only [evalF, upd, arg0, argS, ofConst, ofCell, Nat.reduceEqDiff, reduceIte] <;> rfl) (by simp only [evalF, upd, arg0, argS, ofConst, ofCell, Nat.reduceEqDiff, reduceIte] <;> rfl) (storeZ (look_same _ _ _ _) (mc_all rfl rfl) (mc_length (by simp [zeroM])) z_len) ?_
  refine ro_nil ?_
  try simp only
  have ha4 : After hp3 (nb + 1 + 1) (.pv .nilSlice) (setHp (setHp hp3 (nb + 1 + 1) (.cells 1 zcells)) (nb + 1 + 1) (.cells 1 (mcells { zeroM with kind := u.1 } (.pv .nilSlice) (.pv .nilSlice)))) (nb + 1 + 1 + 1) :=
    after_put (after_new hp3 (nb + 1 + 1) _ _ (z_ok _)) (Nat.le_refl _) (ok_cells (okC_pv _ _) (okC_pv _ _))
  have hl4 : AI.look (setHp (setHp hp3 (nb + 1 + 1) (.cells 1 zcells)) (nb + 1 + 1) (.cells 1 (mcells { zeroM with kind := u.1 } (.pv .nilSlice) (.pv .nilSlice)))) (nb + 1 + 1) 1 = some (mcells { zeroM with kind := u.1 } (.pv .nilSlice) (.pv .nilSlice)) := look_same _ _ _ _
  show EX _ _ _ _ _ 149 _ _ (setHp (setHp hp3 (nb + 1 + 1) (.cells 1 zcells)) (nb + 1 + 1) (.cells 1 (mcells { zeroM with kind := u.1 } (.pv .nilSlice) (.pv .nilSlice)))) _ _
  generalize setHp (setHp hp3 (nb + 1 + 1) (.cells 1 zcells)) (nb + 1 + 1) (.cells 1 (mcells { zeroM with kind := u.1 } (.pv .nilSlice) (.pv .nilSlice))) = hp4 at ha4 hl4 ⊢
  have k4 : ∀ id, id < nb + 1 + 1 → hp4 id = hp3 id := fun id hid => ha4.2.1 id hid (by simp [ownOf])
  have fl4 : Fl hp4 (nb + 1 + 1 + 1) (nb + 1 + 1) (nb + 1) (nb + 1) { zeroM with kind := u.1 } v b u.2.1 u.2.2 :=
    ⟨⟨by omega, by omega, by omega, by simp [zeroM], .pv .nilSlice, .pv .nilSlice, hl4, .nil, .nil, fun id h => by simp [ownOf] at h, fun id h => by simp [ownOf] at h⟩, rr_keep hr3 (Nat.le_succ _) (fun id hid => k4 id (by rcases hid with hid | hid <;> omega))⟩
  have hz4 : AI.look hp4 nb 1 = some zcells := by rw [look_at 1 (k4 nb (by omega)), look_at 1 (hk3.2.1 nb (by omega))]; exact hz2
  have ha04 : After hp nb (.pv .nilSlice) hp4 (nb + 1 + 1 + 1) :=
    ⟨by omega, fun id hid ho => by rw [k4 id (by omega), hk3.2.1 id (by omega), ha1.2.1 id (by omega) (by simp [ownOf])]; exact ha0.2.1 id hid ho, fun ht => ha4.2.2 (hk3.2.2 (ha1.2.2 (ha0.2.2 ht)))⟩
  clear hl4
  obtain ⟨p, hpl, hrest, hle⟩ := fl4.rr.ex
  obtain ⟨L0, D0, hlm, _⟩ := fl4.pm.ex
  -- the kind
  refine ex_seq (ex_weaken (K := fun x g' hp' nb' => x = .normal ∧ g' 2 = .ptr nb 1 0 ∧ g' 4 = .ptr (nb + 1) 1 0 ∧ g' 5 = .ptr (nb + 1 + 1) 1 0 ∧ nb' = nb + 1 + 1 + 1 ∧ Fl hp' (nb + 1 + 1 + 1) (nb + 1 + 1) (nb + 1) (nb + 1) { zeroM with kind := u.1 } v b u.2.1 (kindE u.1 u.2.2) ∧ KeepR hp4 (nb + 1 + 1 + 1) (nb + 1) hp' (nb + 1 + 1 + 1)) ?_ ?_)
  · by_cases he : u.2.2 = 0
    · refine ex_seq (ex_region ?_)
      refine ro_move (by simp only [evalF, upd, arg0, argS, ofConst, ofCell, Nat.reduceEqDiff, reduceIte] <;> rfl) (by decide) ?_
      refine ro_nilCheck (by simp only [evalF, upd, arg0, argS, ofConst, ofCell, Nat.reduceEqDiff, reduceIte] <;> rfl) (by decide) ?_
      refine ro_fieldAddr (by simp only [evalF, upd, arg0, argS, ofConst, ofCell, Nat.reduceEqDiff, reduceIte] <;> rfl) (by exact (fa63_2 _ _ _)) (by decide) ?_
      refine ro_load (by simp only [evalF, upd, arg0, argS, ofConst, ofCell, Nat.reduceEqDiff, reduceIte] <;> rfl) (by exact (load1 ag3 hle rfl)) (by decide) ?_
      refine ro_bin (by simp only [evalF, upd, arg0, argS, ofConst, ofCell, Nat.reduceEqDiff, reduceIte] <;> rfl) (by simp only [evalF, upd, arg0, argS, ofConst, ofCell, Nat.reduceEqDiff, reduceIte] <;> rfl) (by exact (eql_t he)) (by decide) ?_
      refine ro_move (by simp only [evalF, upd, arg0, argS, ofConst, ofCell, Nat.reduceEqDiff, reduceIte] <;> rfl) (by decide) ?_
      refine ro_guard rfl (by simp only [evalF, upd, arg0, argS, ofConst, ofCell, Nat.reduceEqDiff, reduceIte] <;> rfl) rfl ?_
      refine ro_fieldAddr (by simp only [evalF, upd, arg0, argS, ofConst, ofCell, Nat.reduceEqDiff, reduceIte] <;> rfl) (by exact (fa30_0 _ _ _)) (by decide) ?_
      refine ro_guard rfl (by simp only [evalF, upd, arg0, argS, ofConst, ofCell, Nat.reduceEqDiff, reduceIte] <;> rfl) rfl ?_
      refine ro_load (by simp only [evalF, upd, arg0, argS, ofConst, ofCell, Nat.reduceEqDiff, reduceIte] <;> rfl) (by exact (load1 ag3 hlm mc0)) (by decide) ?_
      refine ro_guard rfl (by simp only [evalF, upd, arg0, argS, ofConst, ofCell, Nat.reduceEqDiff, reduceIte] <;> rfl) rfl ?_
      refine ro_bin (by simp only [evalF, upd, arg0, argS, ofConst, ofCell, Nat.reduceEqDiff, reduceIte] <;> rfl) (by simp only [evalF, upd, arg0, argS, ofConst, ofCell, Nat.reduceEqDiff, reduceIte] <;> rfl) (by exact (lss_v)) (by decide) ?_
      refine ro_guard rfl (by simp only [evalF, upd, arg0, argS, ofConst, ofCell, Nat.reduceEqDiff, reduceIte] <;> rfl) rfl ?_
      refine ro_move (by simp only [evalF, upd, arg0, argS, ofConst, ofCell, Nat.reduceEqDiff, reduceIte] <;> rfl) (by decide) ?_
      refine ro_gsel (b := decide (u.1 < 1)) (want := false) (v := .ptr (nb + 1 + 1) 1 0) rfl (by simp only [evalF, upd, arg0, argS, ofConst, ofCell, Nat.reduceEqDiff, reduceIte] <;> rfl) rfl (fun hb => by simp only [primA, evalF, upd, Nat.reduceEqDiff, reduceIte, selV_hit hb, fa30_0, Option.map_some] <;> rfl) (by decide) ?_
      refine ro_gsel (b := decide (u.1 < 1)) (want := false) (v := .pv (.int .i64 u.1)) rfl (by simp only [evalF, upd, arg0, argS, ofConst, ofCell, Nat.reduceEqDiff, reduceIte] <;> rfl) rfl (fun hb => by simp only [primA, evalF, upd, Nat.reduceEqDiff, reduceIte, selV_hit hb, load1 ag3 hlm mc0, Option.map_some] <;> rfl) (by decide) ?_
      refine ro_gsel (b := decide (u.1 < 1)) (want := false) (v := .pv (.bool (decide (u.1 > 12)))) rfl (by simp only [evalF, upd, arg0, argS, ofConst, ofCell, Nat.reduceEqDiff, reduceIte] <;> rfl) rfl (fun hb => by simp only [primA, evalF, upd, ofConst, ofCell, Nat.reduceEqDiff, reduceIte, selV_hit hb, gtr_v, Option.map_some] <;> rfl) (by decide) ?_
      refine ro_guard rfl (by simp only [evalF, upd, arg0, argS, ofConst, ofCell, Nat.reduceEqDiff, reduceIte] <;> rfl) rfl ?_
      refine ro_por (b := decide (u.1 < 1)) (z := decide (u.1 > 12)) (by simp only [evalF, upd, arg0, argS, ofConst, ofCell, Nat.reduceEqDiff, reduceIte] <;> rfl) (by simp only [evalF, upd, Nat.reduceEqDiff, reduceIte] <;> rfl) (by decide) ?_
      refine ro_pick (by simp only [evalF, upd, arg0, argS, ofConst, ofCell, Nat.reduceEqDiff, reduceIte] <;> rfl) (by simp only [evalF, upd, arg0, argS, ofConst, ofCell, Nat.reduceEqDiff, reduceIte] <;> rfl) (by simp only [evalF, upd, arg0, argS, ofConst, ofCell, Nat.reduceEqDiff, reduceIte] <;> rfl) (by decide) ?_
      refine ro_nil ?_
      try simp only
      refine ex_cond (t := decide (u.1 < 1) || decide (u.1 > 12)) (by simp only [evalF, upd, Nat.reduceEqDiff, reduceIte, if_true]) (fun hc => ?_) (fun hc => ?_)
      · have hkk : kindE u.1 u.2.2 = 3 := by unfold kindE; rw [if_pos (by rw [Bool.and_eq_true]; exact ⟨by simp [he], hc⟩)]
        rw [hkk]
        refine ex_region ?_
        refine ro_move (by simp only [evalF, upd, arg0, argS, ofConst, ofCell, Nat.reduceEqDiff, reduceIte] <;> rfl) (by decide) ?_
        refine ro_nilCheck (by simp only [evalF, upd, arg0, argS, ofConst, ofCell, Nat.reduceEqDiff, reduceIte] <;> rfl) (by decide) ?_
        refine ro_fieldAddr (by simp only [evalF, upd, arg0, argS, ofConst, ofCell, Nat.reduceEqDiff, reduceIte] <;> rfl) (by exact (fa63_2 _ _ _)) (by decide) ?_
        refine ro_store (by simp only [evalF, upd, arg0, argS, ofConst, ofCell, Nat.reduceEqDiff, reduceIte] <;> rfl) (by simp only [evalF, upd, arg0, argS, ofConst, ofCell, Nat.reduceEqDiff, reduceIte] <;> rfl) (st_err _ hle) ?_
        refine ro_nil ?_
        have hx := rr_put fl4.rr p hpl 3
        rw [← hrest] at hx
        exact ⟨by first | rfl | trivial, by simp [upd], by simp [upd], by simp [upd], rfl, (fl_same fl4 hx.1 (keepN_of hx.2)).1, hx.2⟩
      · have hkk : kindE u.1 u.2.2 = u.2.2 := by unfold kindE; rw [if_neg (by rw [hc]; simp)]
        rw [hkk]
        refine ex_skip ?_
        exact ⟨by first | rfl | trivial, by simp [upd], by simp [upd], by simp [upd], rfl, fl4, keepR_refl _ _ _⟩
    · have hkk : kindE u.1 u.2.2 = u.2.2 := by unfold kindE; rw [if_neg (by simp [he])]
      rw [hkk]
      refine ex_seq (ex_region ?_)
      refine ro_move (by simp only [evalF, upd, arg0, argS, ofConst, ofCell, Nat.reduceEqDiff, reduceIte] <;> rfl) (by decide) ?_
      refine ro_nilCheck (by simp only [evalF, upd, arg0, argS, ofConst, ofCell, Nat.reduceEqDiff, reduceIte] <;> rfl) (by decide) ?_
      refine ro_fieldAddr (by simp only [evalF, upd, arg0, argS, ofConst, ofCell, Nat.reduceEqDiff, reduceIte] <;> rfl) (by exact (fa63_2 _ _ _)) (by decide) ?_
      refine ro_load (by simp only [evalF, upd, arg0, argS, ofConst, ofCell, Nat.reduceEqDiff, reduceIte] <;> rfl) (by exact (load1 ag3 hle rfl)) (by decide) ?_
      refine ro_bin (by simp only [evalF, upd, arg0, argS, ofConst, ofCell, Nat.reduceEqDiff, reduceIte] <;> rfl) (by simp only [evalF, upd, arg0, argS, ofConst, ofCell, Nat.reduceEqDiff, reduceIte] <;> rfl) (by exact (eql_f he)) (by decide) ?_
      refine ro_move (by simp only [evalF, upd, arg0, argS, ofConst, ofCell, Nat.reduceEqDiff, reduceIte] <;> rfl) (by decide) ?_
      refine ro_skip rfl (by simp only [evalF, upd, arg0, argS, ofConst, ofCell, Nat.reduceEqDiff, reduceIte] <;> rfl) rfl (fun e he => by cases he; decide) ?_
      simp only [putF]
      refine ro_skip rfl (by simp only [evalF, upd, arg0, argS, ofConst, ofCell, Nat.reduceEqDiff, reduceIte] <;> rfl) rfl (fun e he => by cases he; decide) ?_
      simp only [putF]
      refine ro_skip rfl (by simp only [evalF, upd, arg0, argS, ofConst, ofCell, Nat.reduceEqDiff, reduceIte] <;> rfl) rfl (fun e he => by cases he; decide) ?_
      simp only [putF]
      refine ro_skip rfl (by simp only [evalF, upd, arg0, argS, ofConst, ofCell, Nat.reduceEqDiff, reduceIte] <;> rfl) rfl (fun e he => by cases he; decide) ?_
      simp only [putF]
      refine ro_skipU rfl (by simp only [evalF, upd, Nat.reduceEqDiff, reduceIte]) (by decide) ?_
      refine ro_skipU rfl (by simp only [evalF, upd, Nat.reduceEqDiff, reduceIte]) (by decide) ?_
      refine ro_skipU rfl (by simp only [evalF, upd, Nat.reduceEqDiff, reduceIte]) (by decide) ?_
      refine ro_skip rfl (by simp only [evalF, upd, arg0, argS, ofConst, ofCell, Nat.reduceEqDiff, reduceIte] <;> rfl) rfl (fun e he => by cases he; decide) ?_
      simp only [putF]
      refine ro_pick (by simp only [evalF, upd, arg0, argS, ofConst, ofCell, Nat.reduceEqDiff, reduceIte] <;> rfl) (by simp only [evalF, upd, arg0, argS, ofConst, ofCell, Nat.reduceEqDiff, reduceIte] <;> rfl) (by simp only [evalF, upd, arg0, argS, ofConst, ofCell, Nat.reduceEqDiff, reduceIte] <;> rfl) (by decide) ?_
      refine ro_nil ?_
      try simp only
      refine ex_cond (t := false) (by simp only [evalF, upd, arg0, argS, ofConst, ofCell, Nat.reduceEqDiff, reduceIte] <;> rfl) (fun h => by simp at h) (fun _ => ex_skip ?_)
      exact ⟨by first | rfl | trivial, by simp [upd], by simp [upd], by simp [upd], rfl, fl4, keepR_refl _ _ _⟩
  rintro x g5 hp5 nb5 ⟨rfl, g2, g4, g5', e5, fl5, hk5⟩
  rw [e5]
  clear e5 nb5
  try simp only
  obtain ⟨fs1, fs2, hfs, hfs2, hsw⟩ := sw16 (res := nb) d fl5
  refine ex_seq (ex_weaken (hsw _ g2 g4 g5') ?_)
  rintro x g6 hp6 nb6 ⟨rfl, g2, g4, g5', fl6, hq6⟩
  try simp only
  have hkd : (refsS fs1 { zeroM with kind := u.1 } u.2.1 (kindE u.1 u.2.2)).1.kind = u.1 := refsS_kind _ _ _ _
  have hmid : EX Try.prog plains (callA Try.prog facts plains 10000 (d + 3)) (orS facts (pureOf (callA Try.prog facts plains 10000 (d + 3)))) 10000 149 (codeAt (bodyOf Try.f16) [true, true, true, true, true, false]) g6 hp6 nb6 fun x g' hp' nb' => x = .normal ∧ g' 2 = .ptr nb 1 0 ∧ g' 4 = .ptr (nb + 1) 1 0 ∧ g' 5 = .ptr (nb + 1 + 1) 1 0 ∧
      Fl hp' nb' (nb + 1 + 1) (nb + 1) (nb + 1) (refsS (fs1 ++ fs2) { zeroM with kind := u.1 } u.2.1 (kindE u.1 u.2.2)).1 v b (refsS (fs1 ++ fs2) { zeroM with kind := u.1 } u.2.1 (kindE u.1 u.2.2)).2.1 (refsS (fs1 ++ fs2) { zeroM with kind := u.1 } u.2.1 (kindE u.1 u.2.2)).2.2 ∧ KeepQ hp6 nb6 (nb + 1) hp' nb' := by
    rw [refsS_app, hfs2]
    show EX _ _ _ _ _ _ _ _ _ _ _
    by_cases h9 : u.1 = 9 ∨ u.1 = 12
    · rw [if_pos h9]; exact mid16_y d (by rw [hkd]; exact h9) fl6 g2 g4 g5'
    · rw [if_neg h9]; exact mid16_n d (by rw [hkd]; exact h9) fl6 g2 g4 g5'
  refine ex_seq (ex_weaken hmid ?_)
  rintro x g7 hp7 nb7 ⟨rfl, g2, g4, g5', fl7, hq7⟩
  try simp only
  have hq := keepQ_trans hq6 hq7
  have hz7 : AI.look hp7 nb 1 = some zcells := by
    rw [look_at 1 (hq.2.1 nb (by omega)), look_at 1 (hk5.2.1 nb (by omega))]
    exact hz4
  refine ex_weaken (end16 fl7 hz7 (by omega) g2 g4 g5') ?_
  rintro x g8 hp8 nb8 ⟨rfl, g2, rfl, hk8, ht8, hres⟩
  show ∃ w, resF Try.prog Try.f16 g8 hp8 = some w ∧ ParseOk b hp nb w hp8 nb8
  have haf : After hp nb (.pv .nilSlice) hp8 nb8 := by
    refine ⟨by have := hq.1; omega, fun id hid ho => ?_, fun ht => ht8 (hq.2.2 (hk5.2.2 (ha04.2.2 ht)))⟩
    rw [hk8 id (by omega) (by omega), hq.2.1 id (by omega), hk5.2.1 id (by omega)]
    exact ha04.2.1 id hid ho
  rw [← hfs] at hres fl7
  have fl7k := fl7.pm.key
  rcases hfb with ⟨hne, hdec⟩ | ⟨h0, k, r, fs, rfl, hu, hrow⟩
  · have hst := refsS_stuck ((rowOf ({ zeroM with kind := u.1 } : M).kind).getD []) { zeroM with kind := u.1 } u.2.1 hne
    have hmo : ∀ rest : List Int, moreE rest (kindE u.1 u.2.2) = kindE u.1 u.2.2 := fun rest => by
      unfold moreE
      rw [if_neg (by simp [hne])]
    rw [hst, hmo] at hres
    rcases hres with ⟨h, _⟩ | ⟨_, g3, hl8⟩
    · exact absurd h hne
    · refine ⟨_, res16 g2 g3 hl8 z_len, haf, ?_⟩
      rw [hdec]
  · have hrow' : (rowOf ({ zeroM with kind := u.1 } : M).kind).getD [] = fs := by
      rw [hu]
      show (rowOf k).getD [] = fs
      rw [hrow]; rfl
    rw [hrow', h0] at hres fl7k
    have hd := dec_ref (k := k) (r := r) (fun x hx => hb x (List.mem_cons_of_mem _ hx)) hrow
    rw [hu] at hres fl7k
    simp only at hres fl7k
    cases hE : dec (k :: r) with
    | ok m =>
      rw [hE] at hd
      obtain ⟨d1, d2⟩ := hd
      rw [d1, d2] at hres
      rw [d2] at fl7k
      rcases hres with ⟨_, L, D, g3, hl8, r1, r2, o1, o2⟩ | ⟨h, _⟩
      · refine ⟨_, res16 g2 g3 hl8 (mc_length fl7k), haf, ?_⟩
        rw [hE]
        exact ⟨fl7k, L, D, rfl, r1, r2, fun id h => by have := o1 id h; omega, fun id h => by have := o2 id h; omega⟩
      · exact absurd rfl h
    | error e =>
      rw [hE] at hd
      obtain ⟨d1, d2⟩ := hd
      rw [d1] at hres
      rcases hres with ⟨h, _⟩ | ⟨_, g3, hl8⟩
      · exact absurd h d2
      · refine ⟨_, res16 g2 g3 hl8 z_len, haf, ?_⟩
        rw [hE]
end Go.Proofs.Ytlinbbjobjnipaa

set_option linter.unusedVariables false
set_option linter.unusedSimpArgs false
namespace Go.Proofs.Ytlinbbjobjnipaa
open Go
def bytes (b : List Int) : Prop := ∀ x ∈ b, 0 ≤ x ∧ x ≤ 255
theorem readList_back : ∀ (n : Nat) (b acc l r : List Int), bytes b → readList n b acc = .ok (l, r) → ∃ s, l = acc ++ s ∧ s.length = n ∧ b = s ++ r ∧ (∀ x ∈ s, 0 ≤ x ∧ x ≤ 9)
  | 0, b, acc, l, r, hb, h => by
    simp only [readList, Except.ok.injEq, Prod.mk.injEq] at h
    obtain ⟨rfl, rfl⟩ := h
    exact ⟨[], by simp, rfl, rfl, by simp⟩
  | n + 1, [], acc, l, r, hb, h => by simp [readList] at h
  | n + 1, x :: b, acc, l, r, hb, h => by
    rw [readList] at h
    split at h
    · simp at h
    · rename_i hx
      obtain ⟨s, h1, h2, h3, h4⟩ := readList_back n b _ l r (fun y hy => hb y (List.mem_cons_of_mem _ hy)) h
      have := hb x List.mem_cons_self
      refine ⟨x :: s, by rw [h1]; simp, by simp [h2], by rw [h3]; rfl, fun y hy => ?_⟩
      rcases List.mem_cons.1 hy with rfl | hy
      · omega
      · exact h4 y hy
theorem nodes_same {s : List Int} (h : ∀ x ∈ s, 0 ≤ x ∧ x ≤ 9) : s.all isNode = true ∧ s.map u8 = s := by
  constructor
  · rw [List.all_eq_true]
    intro x hx
    have := h x hx
    unfold isNode
    simp; omega
  · have : s.map u8 = s.map id := List.map_congr_left (fun x hx => by have := h x hx; unfold u8; simp; omega)
    rw [this, List.map_id]
/-- What was read for a field is written as it stood; nothing else has changed. -/
theorem write_field {x x' : M} {f : Nat} {b rest : List Int} (hf : f < 8) (hb : bytes b) (h : readE f x b = .ok (x', rest)) : ∃ r, b = r ++ rest ∧ fieldE x' f = .ok r ∧ x' = setF f x' x := by
  have h8 : f = 0 ∨ f = 1 ∨ f = 2 ∨ f = 3 ∨ f = 4 ∨ f = 5 ∨ f = 6 ∨ f = 7 := by omega
  rcases h8 with rfl | rfl | rfl | rfl | rfl | rfl | rfl | rfl
  · simp only [readE] at h
    cases b with
    | nil => simp at h
    | cons y b =>
      have hy := hb y List.mem_cons_self
      simp only at h
      split at h
      · rename_i e
        simp only [Except.ok.injEq, Prod.mk.injEq] at h
        obtain ⟨rfl, rfl⟩ := h
        exact ⟨[y], rfl, by simp [fieldE, u8, e], rfl⟩
      · split at h
        · simp at h
        · simp only [Except.ok.injEq, Prod.mk.injEq] at h
          obtain ⟨rfl, rfl⟩ := h
          refine ⟨[y], rfl, ?_, rfl⟩
          simp only [fieldE]
          rw [if_neg (by simp [isNode]; omega)]
          simp [u8]; omega
  · simp only [readE] at h
    cases b with
    | nil => simp at h
    | cons y b =>
      have hy := hb y List.mem_cons_self
      simp only at h
      split at h
      · simp at h
      · simp only [Except.ok.injEq, Prod.mk.injEq] at h
        obtain ⟨rfl, rfl⟩ := h
        refine ⟨[y], rfl, ?_, rfl⟩
        simp only [fieldE]
        rw [if_neg (by simp [isNode]; omega)]
        simp [u8]; omega
  · simp only [readE] at h
    cases b with
    | nil => simp at h
    | cons y b =>
      have hy := hb y List.mem_cons_self
      simp only at h
      split at h
      · simp at h
      · split at h
        · rename_i l r hl
          simp only [Except.ok.injEq, Prod.mk.injEq] at h
          obtain ⟨rfl, rfl⟩ := h
          obtain ⟨s, h1, h2, h3, h4⟩ := readList_back _ _ _ _ _ (fun z hz => hb z (List.mem_cons_of_mem _ hz)) hl
          simp only [List.nil_append] at h1
          subst h1
          obtain ⟨n1, n2⟩ := nodes_same h4
          refine ⟨y :: l, by rw [h3]; rfl, ?_, rfl⟩
          simp only [fieldE]
          rw [if_neg (by omega), if_pos n1, n2]
          simp [u8]; omega
        · simp at h
  · simp only [readE] at h
    cases b with
    | nil => simp at h
    | cons y b =>
      have hy := hb y List.mem_cons_self
      simp only at h
      split at h
      · simp at h
      · simp only [Except.ok.injEq, Prod.mk.injEq] at h
        obtain ⟨rfl, rfl⟩ := h
        refine ⟨[y], rfl, ?_, rfl⟩
        simp only [fieldE]
        have : y = 0 ∨ y = 1 := by omega
        rcases this with rfl | rfl <;> simp
  · simp only [readE] at h
    cases b with
    | nil => simp at h
    | cons y b =>
      have hy := hb y List.mem_cons_self
      simp only at h
      split at h
      · simp at h
      · simp only [Except.ok.injEq, Prod.mk.injEq] at h
        obtain ⟨rfl, rfl⟩ := h
        refine ⟨[y], rfl, ?_, rfl⟩
        simp only [fieldE]
        rw [if_neg (by omega)]
        simp [u8]; omega
  · simp only [readE] at h
    split at h
    · simp at h
    · simp only [Except.ok.injEq, Prod.mk.injEq] at h
      obtain ⟨rfl, rfl⟩ := h
      exact ⟨b.take 32, by rw [List.take_append_drop], rfl, rfl⟩
  · simp only [readE] at h
    split at h
    · rename_i y z r
      have hy := hb y List.mem_cons_self
      have hz := hb z (List.mem_cons_of_mem _ List.mem_cons_self)
      split at h
      · simp at h
      · split at h
        · simp at h
        · rename_i h1 h2
          simp only [Except.ok.injEq, Prod.mk.injEq] at h
          obtain ⟨rfl, rfl⟩ := h
          have hl : (r.take (y * 256 + z).toNat).length = (y * 256 + z).toNat := by simp; omega
          refine ⟨y :: z :: r.take (y * 256 + z).toNat, by simp, ?_, rfl⟩
          simp only [fieldE, hl]
          rw [if_neg (by omega)]
          have e1 : u8 (((y * 256 + z).toNat : Int) / 256) = y := by unfold u8; omega
          have e2 : u8 ((y * 256 + z).toNat : Int) = z := by unfold u8; omega
          rw [e1, e2]
    · simp at h
  · simp only [readE] at h
    split at h
    · rename_i y z w v r
      have hy := hb y List.mem_cons_self
      have hz := hb z (List.mem_cons_of_mem _ List.mem_cons_self)
      have hw := hb w (List.mem_cons_of_mem _ (List.mem_cons_of_mem _ List.mem_cons_self))
      have hv := hb v (List.mem_cons_of_mem _ (List.mem_cons_of_mem _ (List.mem_cons_of_mem _ List.mem_cons_self)))
      split at h
      · simp at h
      · simp only [Except.ok.injEq, Prod.mk.injEq] at h
        obtain ⟨rfl, rfl⟩ := h
        refine ⟨[y, z, w, v], rfl, ?_, rfl⟩
        simp only [fieldE]
        rw [if_neg (by omega)]
        have e1 : u8 ((y * 16777216 + z * 65536 + w * 256 + v) / 16777216) = y := by unfold u8; omega
        have e2 : u8 ((y * 16777216 + z * 65536 + w * 256 + v) / 65536) = z := by unfold u8; omega
        have e3 : u8 ((y * 16777216 + z * 65536 + w * 256 + v) / 256) = w := by unfold u8; omega
        have e4 : u8 (y * 16777216 + z * 65536 + w * 256 + v) = v := by unfold u8; omega
        rw [e1, e2, e3, e4]
    · simp at h
theorem fieldE_other {f g : Nat} (hf : f < 8) (hg : g < 8) (hne : f ≠ g) (y x : M) : fieldE (setF g y x) f = fieldE x f := by
  have h8 : f = 0 ∨ f = 1 ∨ f = 2 ∨ f = 3 ∨ f = 4 ∨ f = 5 ∨ f = 6 ∨ f = 7 := by omega
  have g8 : g = 0 ∨ g = 1 ∨ g = 2 ∨ g = 3 ∨ g = 4 ∨ g = 5 ∨ g = 6 ∨ g = 7 := by omega
  rcases h8 with rfl | rfl | rfl | rfl | rfl | rfl | rfl | rfl <;> rcases g8 with rfl | rfl | rfl | rfl | rfl | rfl | rfl | rfl <;> first | rfl | exact absurd rfl hne
theorem read_keeps : ∀ (fs : List Nat) (x m : M) (b rest : List Int) (f : Nat), f < 8 → (∀ g ∈ fs, g < 8 ∧ g ≠ f) → bytes b → fieldsR fs x b = .ok (m, rest) → fieldE m f = fieldE x f ∧ m.kind = x.kind
  | [], x, m, b, rest, f, hf, hfs, hb, h => by
    simp only [fieldsR, Except.ok.injEq, Prod.mk.injEq] at h
    obtain ⟨rfl, rfl⟩ := h
    exact ⟨rfl, rfl⟩
  | g :: fs, x, m, b, rest, f, hf, hfs, hb, h => by
    rw [fieldsR] at h
    split at h
    · rename_i x' b' h1
      obtain ⟨r, e1, e2, e3⟩ := write_field (hfs g List.mem_cons_self).1 hb h1
      have hb' : bytes b' := fun y hy => hb y (by rw [e1]; exact List.mem_append_right _ hy)
      obtain ⟨k1, k2⟩ := read_keeps fs x' m b' rest f hf (fun g' hg' => hfs g' (List.mem_cons_of_mem _ hg')) hb' h
      have hg := hfs g List.mem_cons_self
      constructor
      · rw [k1, e3, fieldE_other hf hg.1 (Ne.symm hg.2)]
      · rw [k2, e3]
        have g8 : g = 0 ∨ g = 1 ∨ g = 2 ∨ g = 3 ∨ g = 4 ∨ g = 5 ∨ g = 6 ∨ g = 7 := by omega
        rcases g8 with rfl | rfl | rfl | rfl | rfl | rfl | rfl | rfl <;> rfl
    · simp at h
theorem setF_kind (g : Nat) (y x : M) : (setF g y x).kind = x.kind := by
  unfold setF
  split <;> rfl
theorem read_keeps_kind : ∀ (fs : List Nat) (x m : M) (b rest : List Int), (∀ g ∈ fs, g < 8) → bytes b → fieldsR fs x b = .ok (m, rest) → m.kind = x.kind
  | [], x, m, b, rest, hfs, hb, h => by
    simp only [fieldsR, Except.ok.injEq, Prod.mk.injEq] at h
    obtain ⟨rfl, rfl⟩ := h
    rfl
  | g :: fs, x, m, b, rest, hfs, hb, h => by
    rw [fieldsR] at h
    split at h
    · rename_i x' b' h1
      obtain ⟨r, e1, e2, e3⟩ := write_field (hfs g List.mem_cons_self) hb h1
      have hb' : bytes b' := fun y hy => hb y (by rw [e1]; exact List.mem_append_right _ hy)
      rw [read_keeps_kind fs x' m b' rest (fun g' hg' => hfs g' (List.mem_cons_of_mem _ hg')) hb' h, e3, setF_kind]
    · simp at h
theorem write_fields : ∀ (fs : List Nat) (x m : M) (b rest pre : List Int), (∀ g ∈ fs, g < 8) → fs.Nodup → bytes b → fieldsR fs x b = .ok (m, rest) → ∃ r, b = r ++ rest ∧ fieldsE m fs pre = .ok (pre ++ r)
  | [], x, m, b, rest, pre, hfs, hnd, hb, h => by
    simp only [fieldsR, Except.ok.injEq, Prod.mk.injEq] at h
    obtain ⟨rfl, rfl⟩ := h
    exact ⟨[], rfl, by simp [fieldsE]⟩
  | g :: fs, x, m, b, rest, pre, hfs, hnd, hb, h => by
    rw [fieldsR] at h
    split at h
    · rename_i x' b' h1
      obtain ⟨r, e1, e2, e3⟩ := write_field (hfs g List.mem_cons_self) hb h1
      have hb' : bytes b' := fun y hy => hb y (by rw [e1]; exact List.mem_append_right _ hy)
      obtain ⟨hn1, hn2⟩ := List.nodup_cons.1 hnd
      obtain ⟨k1, _⟩ := read_keeps fs x' m b' rest g (hfs g List.mem_cons_self) (fun g' hg' => ⟨hfs g' (List.mem_cons_of_mem _ hg'), fun e => hn1 (e ▸ hg')⟩) hb' h
      obtain ⟨r2, e4, e5⟩ := write_fields fs x' m b' rest (pre ++ r) (fun g' hg' => hfs g' (List.mem_cons_of_mem _ hg')) hn2 hb' h
      refine ⟨r ++ r2, by rw [e1, e4, List.append_assoc], ?_⟩
      rw [fieldsE, k1, e2]
      simp only [e5, List.append_assoc]
    · simp at h
theorem row_ok {k : Int} {fs : List Nat} (h : rowOf k = some fs) : (∀ g ∈ fs, g < 8) ∧ fs.Nodup := by
  by_cases hk : 1 ≤ k ∧ k ≤ 12
  · have : k = 1 ∨ k = 2 ∨ k = 3 ∨ k = 4 ∨ k = 5 ∨ k = 6 ∨ k = 7 ∨ k = 8 ∨ k = 9 ∨ k = 10 ∨ k = 11 ∨ k = 12 := by omega
    rcases this with rfl | rfl | rfl | rfl | rfl | rfl | rfl | rfl | rfl | rfl | rfl | rfl <;> simp [rowOf] at h <;> subst h <;> decide
  · exfalso
    unfold rowOf at h
    rw [if_neg (by omega), if_neg (by omega), if_neg (by omega), if_neg (by omega), if_neg (by omega), if_neg (by omega), if_neg (by omega), if_neg (by omega), if_neg (by omega), if_neg (by omega), if_neg (by omega), if_neg (by omega)] at h
    simp at h
/-- What can be read is written as it stood. -/
theorem enc_dec {b : List Int} {m : M} (hb : bytes b) (h : dec b = .ok m) : enc m = .ok b := by
  unfold dec at h
  split at h
  · simp at h
  · rename_i k r
    split at h
    · simp at h
    · rename_i fs hfs
      split at h
      · rename_i m' hm
        simp only [Except.ok.injEq] at h; subst h
        have hb' : bytes r := fun y hy => hb y (List.mem_cons_of_mem _ hy)
        obtain ⟨h1, h2⟩ := row_ok hfs
        obtain ⟨r1, e1, e2⟩ := write_fields fs _ m' r [] [k] h1 h2 hb' hm
        have hk : m'.kind = k := (read_keeps_kind fs _ m' r [] h1 hb' hm)
        unfold enc
        rw [hk, hfs]
        simp only [row_u8 hfs, e2, e1, List.append_nil]
        rfl
      · simp at h
      · simp at h
end Go.Proofs.Ytlinbbjobjnipaa

set_option linter.unusedVariables false
set_option linter.unusedSimpArgs false
set_option linter.unusedSectionVars false
namespace Go.Proofs.Ytlinbbjobjnipaa
open Go AI
theorem und38 : Try.prog.underlying 38 = some (.slice 27) := by kernel_rfl
theorem szA27 : szA Try.prog 27 = some 1 := by kernel_rfl
theorem zero27 : zeroA Try.prog 27 = some [.pv .nilSlice] := by kernel_rfl
theorem ag5 : isAggA Try.prog 5 = some false := by kernel_rfl
theorem bs38 {nb : Nat} {a b c : AV} (ha : a.cells = [a] ∧ a.isCell = true) (hb : b.cells = [b] ∧ b.isCell = true) (hc : c.cells = [c] ∧ c.isCell = true) :
    buildSliceA Try.prog nb 38 3 [(0, a), (1, b), (2, c)] = some (.new (.slice nb 1 0 3 3 1 true) (.cells 1 [a, b, c])) := by
  unfold buildSliceA
  simp only [und38, szA27, Option.bind_some, zero27]
  rw [if_pos (by decide), if_neg (by decide)]
  simp only [Option.bind_some]
  rw [if_pos (by decide)]
  simp [fillA, zerosA, ha.1, hb.1, hc.1, ha.2, hb.2, hc.2, splice, newCells]
theorem ia38 {id k : Nat} (h : k < 3) : indexAddrA Try.prog 38 (.slice id 1 0 3 3 1 true) (.pv (.int .i64 k)) = some (.ptr id 1 k) := by
  unfold indexAddrA
  simp only [asIntA, Option.bind_some, und38, szA27]
  rw [if_pos (by omega)]
  simp
theorem rem_v {a b : Int} (h : b ≠ 0) : binOpA Try.prog .rem 3 (.pv (.int .i64 a)) (.pv (.int .i64 b)) = some (.pv (.int .i64 (a.tmod b))) := by
  show (if b = 0 then none else some (PV.int .i64 (a.tmod b))).map AV.pv = _
  rw [if_neg h]; rfl
theorem half_in {a : Int} (h : -9223372036854775808 ≤ a ∧ a ≤ 9223372036854775807) : -9223372036854775808 ≤ a.tdiv 2 ∧ a.tdiv 2 ≤ 9223372036854775807 := by
  have e : Int.sign 2 = 1 := rfl
  rw [Int.tdiv_eq_ediv]
  split <;> omega
theorem quo2_v {a : Int} (h : -9223372036854775808 ≤ a ∧ a ≤ 9223372036854775807) : binOpA Try.prog .quo 3 (.pv (.int .i64 a)) (.pv (.int .i64 2)) = some (.pv (.int .i64 (a.tdiv 2))) := by
  show some (AV.pv (.int .i64 (IntKind.i64.wrap (a.tdiv 2)))) = _
  rw [IntWalk.i64_in _ (half_in h)]
theorem wf_in {a : Int} (h : -9223372036854775808 ≤ a ∧ a ≤ 9223372036854775807) : (Lit.int .i64 a).wf = true := by
  simp [Lit.wf, IntKind.min, IntKind.max, IntKind.signed, IntKind.bits]
  omega
theorem add_u8 {a b : Int} : binOpA Try.prog .add 5 (.pv (.int .u8 a)) (.pv (.int .u8 b)) = some (.pv (.int .u8 (u8 (a + b)))) := by
  show some (AV.pv (.int .u8 (IntKind.u8.wrap (a + b)))) = _
  rfl
/-- A byte of a row that grows is set. -/
theorem grow_at {hp : Hp} {nb : Nat} {v : AV} {x : List Int} (hg : Grow hp nb v (u8s x)) {k : Nat} (hk : k < x.length) :
    ∃ id ver, id < nb ∧ ownOf v = some id ∧ indexAddrA Try.prog 27 v (.pv (.int .i64 k)) = some (.ptr id ver k) ∧ AI.look hp id ver = some ((u8s x).map .pv) ∧
      ∀ z, storeA Try.prog hp 5 (.ptr id ver k) (.pv (.int .u8 z)) = some (.upd undefA id (.cells ver ((u8s (x.set k z)).map .pv))) ∧ Grow (setHp hp id (.cells ver ((u8s (x.set k z)).map .pv))) nb v (u8s (x.set k z)) := by
  have hl : (u8s x).length = x.length := by simp [u8s]
  generalize hu : u8s x = l at hg hl
  cases hg with
  | nil => simp at hl; omega
  | own id ver n xc l h hi hc =>
    have hlook : AI.look hp id ver = some (l.map .pv) := by simp [AI.look, hc]
    refine ⟨id, ver, hi, rfl, ?_, hlook, fun z => ⟨?_, ?_⟩⟩
    · unfold indexAddrA
      simp only [asIntA, Option.bind_some, st27.und, szA5]
      rw [if_pos (by omega)]
      simp
    · rw [store1 szA5 hlook rfl rfl (by simp; omega)]
      congr 2
      have : (u8s (x.set k z)).map AV.pv = splice (l.map AV.pv) k [.pv (.int .u8 z)] := by
        rw [← hu]
        unfold splice u8s
        rw [List.set_eq_take_append_cons_drop, if_pos hk]
        simp [List.map_take, List.map_drop]
      rw [this]
    · refine .own id ver n xc _ (by simp [u8s]; omega) hi ?_
      simp [setHp]
structure Sm (m : M) : Prop where
  key : m.key.length = 32
  kind : -1 ≤ m.kind ∧ m.kind ≤ 5000
  node : -1 ≤ m.node ∧ m.node ≤ 5000
  pred : -1 ≤ m.pred ∧ m.pred ≤ 5000
  lease : -1 ≤ m.lease ∧ m.lease ≤ 5000
  err : -1 ≤ m.err ∧ m.err ≤ 5000
  list : ∀ x ∈ m.list, -1 ≤ x ∧ x ≤ 5000
  ll : m.list.length ≤ 10
  dl : m.data.length ≤ 6000
  db : ∀ x ∈ m.data, 0 ≤ x ∧ x ≤ 255
  kb : ∀ x ∈ m.key, 0 ≤ x ∧ x ≤ 255
theorem sm_fit {m : M} (h : Sm m) : Fit m :=
  ⟨h.key, wf_in (by have := h.kind; omega), wf_in (by have := h.node; omega), wf_in (by have := h.pred; omega), wf_in (by have := h.lease; omega), wf_in (by have := h.err; omega), fun x hx => wf_in (by have := h.list x hx; omega)⟩
/-- A field that was read: its value alone. -/
theorem read_small {x x' : M} {f : Nat} {b rest : List Int} (hf : f < 8) (hb : bytes b) (h : readE f x b = .ok (x', rest)) (hx : Sm x) : Sm x' ∧ bytes rest := by
  obtain ⟨a1, a2, a3, a4, a5, a6, a7, a8, a9, a10, a11⟩ := hx
  have h8 : f = 0 ∨ f = 1 ∨ f = 2 ∨ f = 3 ∨ f = 4 ∨ f = 5 ∨ f = 6 ∨ f = 7 := by omega
  rcases h8 with rfl | rfl | rfl | rfl | rfl | rfl | rfl | rfl
  · simp only [readE] at h
    cases b with
    | nil => simp at h
    | cons y b =>
      have hy := hb y List.mem_cons_self
      have hr : bytes b := fun z hz => hb z (List.mem_cons_of_mem _ hz)
      simp only at h
      split at h
      · simp only [Except.ok.injEq, Prod.mk.injEq] at h
        obtain ⟨rfl, rfl⟩ := h
        exact ⟨⟨a1, a2, a3, by simp, a5, a6, a7, a8, a9, a10, a11⟩, hr⟩
      · split at h
        · simp at h
        · simp only [Except.ok.injEq, Prod.mk.injEq] at h
          obtain ⟨rfl, rfl⟩ := h
          exact ⟨⟨a1, a2, a3, by simp only; omega, a5, a6, a7, a8, a9, a10, a11⟩, hr⟩
  · simp only [readE] at h
    cases b with
    | nil => simp at h
    | cons y b =>
      have hy := hb y List.mem_cons_self
      have hr : bytes b := fun z hz => hb z (List.mem_cons_of_mem _ hz)
      simp only at h
      split at h
      · simp at h
      · simp only [Except.ok.injEq, Prod.mk.injEq] at h
        obtain ⟨rfl, rfl⟩ := h
        exact ⟨⟨a1, a2, by simp only; omega, a4, a5, a6, a7, a8, a9, a10, a11⟩, hr⟩
  · simp only [readE] at h
    cases b with
    | nil => simp at h
    | cons y b =>
      have hy := hb y List.mem_cons_self
      have hr : bytes b := fun z hz => hb z (List.mem_cons_of_mem _ hz)
      simp only at h
      split at h
      · simp at h
      · split at h
        · rename_i l r hl
          simp only [Except.ok.injEq, Prod.mk.injEq] at h
          obtain ⟨rfl, rfl⟩ := h
          obtain ⟨s, e1, e2, e3, e4⟩ := readList_back _ _ _ _ _ hr hl
          have e1 : l = s := by rw [e1, List.nil_append]
          subst e1
          refine ⟨⟨a1, a2, a3, a4, a5, a6, fun z hz => by have := e4 z hz; omega, by simp only; omega, a9, a10, a11⟩, fun z hz => hr z (by rw [e3]; exact List.mem_append_right _ hz)⟩
        · simp at h
  · simp only [readE] at h
    cases b with
    | nil => simp at h
    | cons y b =>
      have hr : bytes b := fun z hz => hb z (List.mem_cons_of_mem _ hz)
      simp only at h
      split at h
      · simp at h
      · simp only [Except.ok.injEq, Prod.mk.injEq] at h
        obtain ⟨rfl, rfl⟩ := h
        exact ⟨⟨a1, a2, a3, a4, a5, a6, a7, a8, a9, a10, a11⟩, hr⟩
  · simp only [readE] at h
    cases b with
    | nil => simp at h
    | cons y b =>
      have hy := hb y List.mem_cons_self
      have hr : bytes b := fun z hz => hb z (List.mem_cons_of_mem _ hz)
      simp only at h
      split at h
      · simp at h
      · simp only [Except.ok.injEq, Prod.mk.injEq] at h
        obtain ⟨rfl, rfl⟩ := h
        exact ⟨⟨a1, a2, a3, a4, a5, by simp only; omega, a7, a8, a9, a10, a11⟩, hr⟩
  · simp only [readE] at h
    split at h
    · simp at h
    · simp only [Except.ok.injEq, Prod.mk.injEq] at h
      obtain ⟨rfl, rfl⟩ := h
      exact ⟨⟨by simp; omega, a2, a3, a4, a5, a6, a7, a8, a9, a10, fun z hz => hb z (List.mem_of_mem_take hz)⟩, fun z hz => hb z (List.mem_of_mem_drop hz)⟩
  · simp only [readE] at h
    split at h
    · rename_i y z r
      have hr : bytes r := fun w hw => hb w (List.mem_cons_of_mem _ (List.mem_cons_of_mem _ hw))
      split at h
      · simp at h
      · split at h
        · simp at h
        · simp only [Except.ok.injEq, Prod.mk.injEq] at h
          obtain ⟨rfl, rfl⟩ := h
          exact ⟨⟨a1, a2, a3, a4, a5, a6, a7, a8, by simp; omega, fun w hw => hr w (List.mem_of_mem_take hw), a11⟩, fun w hw => hr w (List.mem_of_mem_drop hw)⟩
    · simp at h
  · simp only [readE] at h
    split at h
    · rename_i y z w v r
      have hr : bytes r := fun u hu => hb u (List.mem_cons_of_mem _ (List.mem_cons_of_mem _ (List.mem_cons_of_mem _ (List.mem_cons_of_mem _ hu))))
      split at h
      · simp at h
      · simp only [Except.ok.injEq, Prod.mk.injEq] at h
        obtain ⟨rfl, rfl⟩ := h
        exact ⟨⟨a1, a2, a3, a4, by simp only; omega, a6, a7, a8, a9, a10, a11⟩, hr⟩
    · simp at h
theorem reads_small : ∀ (fs : List Nat) (x m : M) (b rest : List Int), (∀ g ∈ fs, g < 8) → bytes b → fieldsR fs x b = .ok (m, rest) → Sm x → Sm m
  | [], x, m, b, rest, hfs, hb, h, hx => by
    simp only [fieldsR, Except.ok.injEq, Prod.mk.injEq] at h
    obtain ⟨rfl, rfl⟩ := h
    exact hx
  | g :: fs, x, m, b, rest, hfs, hb, h, hx => by
    rw [fieldsR] at h
    split at h
    · rename_i x' b' h1
      obtain ⟨k1, k2⟩ := read_small (hfs g List.mem_cons_self) hb h1 hx
      exact reads_small fs x' m b' rest (fun g' hg' => hfs g' (List.mem_cons_of_mem _ hg')) k2 h k1
    · simp at h
theorem zero_small {k : Int} (h : 0 ≤ k ∧ k ≤ 255) : Sm { zeroM with kind := k } :=
  ⟨by simp [zeroM], by simp only; omega, by simp [zeroM], by simp [zeroM], by simp [zeroM], by simp [zeroM], by simp [zeroM], by simp [zeroM], by simp [zeroM], by simp [zeroM], fun x hx => by
    have : x = 0 := by simp [zeroM] at hx; exact hx
    omega⟩
theorem dec_small {b : List Int} {m : M} (hb : bytes b) (h : dec b = .ok m) : Sm m := by
  unfold dec at h
  split at h
  · simp at h
  · rename_i k r
    split at h
    · simp at h
    · rename_i fs hfs
      split at h
      · rename_i m' hm
        simp only [Except.ok.injEq] at h; subst h
        exact reads_small fs _ _ r [] (row_ok hfs).1 (fun y hy => hb y (List.mem_cons_of_mem _ hy)) hm (zero_small (hb k List.mem_cons_self))
      · simp at h
      · simp at h
end Go.Proofs.Ytlinbbjobjnipaa

set_option linter.unusedVariables false
set_option linter.unusedSimpArgs false
set_option linter.unusedSectionVars false
namespace Go.Proofs.Ytlinbbjobjnipaa
open Go AI
set_option maxHeartbeats 4000000
set_option maxRecDepth 10000
theorem fa50_0 (id ver off : Nat) : fieldAddrA Try.prog 50 (.ptr id ver off) 0 = some (.ptr id ver off) := by kernel_rfl
theorem fa50_1 (id ver off : Nat) : fieldAddrA Try.prog 50 (.ptr id ver off) 1 = some (.ptr id ver (off + 1)) := by kernel_rfl
/-- The writer: bytes, and the first thing that was wrong. -/
structure Wr (hp : Hp) (nb idw q : Nat) (bs : List Int) (e : Int) : Prop where
  lt : idw < nb
  le : q ≤ idw
  ex : ∃ v, AI.look hp idw 1 = some [v, .pv (.int .i64 e)] ∧ Grow hp nb v (u8s bs) ∧ ∀ id, ownOf v = some id → q ≤ id ∧ id ≠ idw
/-- What a call of a writer's method gives. -/
def WrS (hp : Hp) (nb idw q : Nat) (bs : List Int) (e : Int) (v : AV) (hp' : Hp) (nb' : Nat) : Prop :=
  v = .tuple [] ∧ Wr hp' nb' idw q bs e ∧ nb ≤ nb' ∧ (∀ id, id < q → hp' id = hp id) ∧ (Tidy hp nb → Tidy hp' nb')
def wrongE (e : Int) (is : Bool) (x : Int) : Int := if (e == 0 && is) = true then x else e
theorem wrs_trans {hp hp1 hp2 : Hp} {nb nb1 nb2 idw q : Nat} {bs1 bs2 : List Int} {e1 e2 : Int} {v1 v2 : AV} (h1 : WrS hp nb idw q bs1 e1 v1 hp1 nb1) (h2 : WrS hp1 nb1 idw q bs2 e2 v2 hp2 nb2) : WrS hp nb idw q bs2 e2 v2 hp2 nb2 := by
  obtain ⟨_, _, a1, a2, a3⟩ := h1
  obtain ⟨b0, b1, b2, b3, b4⟩ := h2
  exact ⟨b0, b1, Nat.le_trans a1 b2, fun id hid => (b3 id hid).trans (a2 id hid), fun ht => b4 (a3 ht)⟩
theorem wr_err {hp : Hp} {nb idw q : Nat} {bs : List Int} {e x : Int} (h : Wr hp nb idw q bs e) : ∃ v, AI.look hp idw 1 = some [v, .pv (.int .i64 e)] ∧ WrS hp nb idw q bs x (.tuple []) (setHp hp idw (.cells 1 [v, .pv (.int .i64 x)])) nb := by
  obtain ⟨v, h1, h2, h3⟩ := h.ex
  refine ⟨v, h1, rfl, ⟨h.lt, h.le, v, look_same _ _ _ _, h2.keep (Nat.le_refl _) (fun id hid ho => by simp [setHp, (h3 id ho).2]), h3⟩, Nat.le_refl _, fun id hid => ?_, fun ht => tidy_put ht ?_⟩
  · have := h.le
    simp [setHp, show id ≠ idw by omega]
  · intro c hc
    simp only [List.mem_cons, List.not_mem_nil, or_false] at hc
    rcases hc with rfl | rfl
    · exact grow_okC h2
    · exact okC_pv _ _
theorem wr_store {hp hp2 : Hp} {nb nb2 idw q : Nat} {bs : List Int} {e : Int} {v v' : AV} (hlt : idw < nb) (hle : q ≤ idw) (hl : AI.look hp idw 1 = some [v, .pv (.int .i64 e)]) (ho : ∀ id, ownOf v = some id → q ≤ id ∧ id ≠ idw) (hax : After hp nb v hp2 nb2) (hg : Grow hp2 nb2 v' (u8s bs)) (ho' : ∀ id, ownOf v' = some id → ownOf v = some id ∨ nb ≤ id) :
    storeA Try.prog hp2 27 (.ptr idw 1 0) v' = some (.upd undefA idw (.cells 1 [v', .pv (.int .i64 e)])) ∧ WrS hp nb idw q bs e (.tuple []) (setHp hp2 idw (.cells 1 [v', .pv (.int .i64 e)])) nb2 := by
  have hne : ownOf v ≠ some idw := fun h => (ho idw h).2 rfl
  have hl2 : AI.look hp2 idw 1 = some [v, .pv (.int .i64 e)] := by rw [look_at 1 (hax.2.1 idw hlt hne)]; exact hl
  have hne' : ∀ id, ownOf v' = some id → q ≤ id ∧ id ≠ idw := fun id h => by
    rcases ho' id h with h | h
    · exact ho id h
    · exact ⟨by omega, by omega⟩
  have hc := row_cell hg.row
  refine ⟨store1 sz27 hl2 hc.2 hc.1 (by simp), rfl, ⟨by have := hax.1; omega, hle, v', look_same _ _ _ _, hg.keep (Nat.le_refl _) (fun id hid h => by simp [setHp, (hne' id h).2]), hne'⟩, hax.1, fun id hid => ?_, fun ht => tidy_put (hax.2.2 ht) ?_⟩
  · rw [show setHp hp2 idw (.cells 1 [v', .pv (.int .i64 e)]) id = hp2 id by simp [setHp, show id ≠ idw by omega]]
    exact hax.2.1 id (by omega) (fun h => by have := (ho id h).1; omega)
  · intro c hc
    simp only [List.mem_cons, List.not_mem_nil, or_false] at hc
    rcases hc with rfl | rfl
    · exact grow_okC hg
    · exact okC_pv _ _
theorem plains_41 : plains 41 = false := rfl
theorem plains_21 : plains 21 = false := rfl
theorem wrong41 (d : Nat) {hp : Hp} {nb idw q : Nat} {bs : List Int} {e : Int} (is : Bool) (x : Int) (h : Wr hp nb idw q bs e) :
    CA (callA Try.prog facts plains 10000 (d + 1)) 41 [.ptr idw 1 0, .pv (.bool is), .pv (.int .i64 x)] hp nb (WrS hp nb idw q bs (wrongE e is x)) := by
  refine ca_body (fn := Try.f41) (c := bodyOf Try.f41) Try.func41 rfl (by show 3 ≤ 18; omega) ?_
  show EX _ _ _ _ _ 18 _ _ _ _ _
  unfold bodyOf Try.f41
  obtain ⟨v, h1, hs⟩ := wr_err (x := x) h
  refine ex_seq (ex_region ?_)
  refine ro_move (by simp only [evalF, upd, arg0, argS, ofConst, ofCell, Nat.reduceEqDiff, reduceIte] <;> rfl) (by decide) ?_
  refine ro_nilCheck (by simp only [evalF, upd, arg0, argS, ofConst, ofCell, Nat.reduceEqDiff, reduceIte] <;> rfl) (by decide) ?_
  refine ro_fieldAddr (by simp only [evalF, upd, arg0, argS, ofConst, ofCell, Nat.reduceEqDiff, reduceIte] <;> rfl) (by exact (fa50_1 _ _ _)) (by decide) ?_
  refine ro_load (by simp only [evalF, upd, arg0, argS, ofConst, ofCell, Nat.reduceEqDiff, reduceIte] <;> rfl) (by exact (load1 ag3 h1 rfl)) (by decide) ?_
  refine ro_bin (by simp only [evalF, upd, arg0, argS, ofConst, ofCell, Nat.reduceEqDiff, reduceIte] <;> rfl) (by simp only [evalF, upd, arg0, argS, ofConst, ofCell, Nat.reduceEqDiff, reduceIte] <;> rfl) (by exact (eql_v)) (by decide) ?_
  refine ro_move (by simp only [evalF, upd, arg0, argS, ofConst, ofCell, Nat.reduceEqDiff, reduceIte] <;> rfl) (by decide) ?_
  refine ro_gsel (b := e == 0) (want := true) (v := .pv (.bool is)) rfl (by simp only [evalF, upd, arg0, argS, ofConst, ofCell, Nat.reduceEqDiff, reduceIte] <;> rfl) rfl (fun hb => by simp only [primA, evalF, upd, arg0, argS, ofConst, ofCell, Nat.reduceEqDiff, reduceIte, selV_hit hb] <;> rfl) (by decide) ?_
  refine ro_pand (b := e == 0) (z := is) (by simp only [evalF, upd, arg0, argS, ofConst, ofCell, Nat.reduceEqDiff, reduceIte] <;> rfl) (by simp only [evalF, upd, arg0, argS, ofConst, ofCell, Nat.reduceEqDiff, reduceIte] <;> rfl) (by decide) ?_
  refine ro_nil ?_
  try simp only
  refine ex_cond (t := e == 0 && is) (by simp only [evalF, upd, arg0, argS, ofConst, ofCell, Nat.reduceEqDiff, reduceIte] <;> rfl) (fun hc => ?_) (fun hc => ?_)
  · refine ex_region ?_
    refine ro_move (by simp only [evalF, upd, arg0, argS, ofConst, ofCell, Nat.reduceEqDiff, reduceIte] <;> rfl) (by decide) ?_
    refine ro_move (by simp only [evalF, upd, arg0, argS, ofConst, ofCell, Nat.reduceEqDiff, reduceIte] <;> rfl) (by decide) ?_
    refine ro_nilCheck (by simp only [evalF, upd, arg0, argS, ofConst, ofCell, Nat.reduceEqDiff, reduceIte] <;> rfl) (by decide) ?_
    refine ro_fieldAddr (by simp only [evalF, upd, arg0, argS, ofConst, ofCell, Nat.reduceEqDiff, reduceIte] <;> rfl) (by exact (fa50_1 _ _ _)) (by decide) ?_
    refine ro_store (by simp only [evalF, upd, arg0, argS, ofConst, ofCell, Nat.reduceEqDiff, reduceIte] <;> rfl) (by simp only [evalF, upd, arg0, argS, ofConst, ofCell, Nat.reduceEqDiff, reduceIte] <;> rfl) (store1 sz3 h1 rfl rfl (by simp)) ?_
    refine ro_nil ?_
    try simp only
    refine ⟨.tuple [], rfl, ?_⟩
    unfold wrongE
    rw [if_pos hc]
    exact hs
  · refine ex_skip ?_
    try simp only
    refine ⟨.tuple [], rfl, rfl, ?_, Nat.le_refl _, fun _ _ => rfl, fun ht => ht⟩
    unfold wrongE
    rw [if_neg (by simp [hc])]
    exact h
def nodeBad (n least : Int) : Bool := decide (n < least) || decide (n ≥ 10)
theorem node21 (d : Nat) {hp : Hp} {nb idw q : Nat} {bs : List Int} {e : Int} (n least : Int) (h : Wr hp nb idw q bs e) (hsz : bs.length < 200000) :
    CA (callA Try.prog facts plains 10000 (d + 2)) 21 [.ptr idw 1 0, .pv (.int .i64 n), .pv (.int .i64 least)] hp nb (WrS hp nb idw q (bs ++ [u8 n]) (wrongE e (nodeBad n least) 1)) := by
  refine ca_body (fn := Try.f21) (c := bodyOf Try.f21) Try.func21 rfl (by show 3 ≤ 26; omega) ?_
  show EX _ _ _ _ _ 26 _ _ _ _ _
  unfold bodyOf Try.f21
  refine ex_seq (ex_region ?_)
  refine ro_move (by simp only [evalF, upd, arg0, argS, ofConst, ofCell, Nat.reduceEqDiff, reduceIte] <;> rfl) (by decide) ?_
  refine ro_move (by simp only [evalF, upd, arg0, argS, ofConst, ofCell, Nat.reduceEqDiff, reduceIte] <;> rfl) (by decide) ?_
  refine ro_move (by simp only [evalF, upd, arg0, argS, ofConst, ofCell, Nat.reduceEqDiff, reduceIte] <;> rfl) (by decide) ?_
  refine ro_bin (by simp only [evalF, upd, arg0, argS, ofConst, ofCell, Nat.reduceEqDiff, reduceIte] <;> rfl) (by simp only [evalF, upd, arg0, argS, ofConst, ofCell, Nat.reduceEqDiff, reduceIte] <;> rfl) (by exact (lss_v)) (by decide) ?_
  refine ro_move (by simp only [evalF, upd, arg0, argS, ofConst, ofCell, Nat.reduceEqDiff, reduceIte] <;> rfl) (by decide) ?_
  refine ro_gsel (b := decide (n < least)) (want := false) (v := .pv (.int .i64 n)) rfl (by simp only [evalF, upd, arg0, argS, ofConst, ofCell, Nat.reduceEqDiff, reduceIte] <;> rfl) rfl (fun hb => by simp only [primA, evalF, upd, arg0, argS, ofConst, ofCell, Nat.reduceEqDiff, reduceIte, selV_hit hb] <;> rfl) (by decide) ?_
  refine ro_gsel (b := decide (n < least)) (want := false) (v := .pv (.bool (decide (n ≥ 10)))) rfl (by simp only [evalF, upd, arg0, argS, ofConst, ofCell, Nat.reduceEqDiff, reduceIte] <;> rfl) rfl (fun hb => by simp only [primA, evalF, upd, arg0, argS, ofConst, ofCell, Nat.reduceEqDiff, reduceIte, selV_hit hb, geq_v, Option.map_some] <;> rfl) (by decide) ?_
  refine ro_por (b := decide (n < least)) (z := decide (n ≥ 10)) (by simp only [evalF, upd, arg0, argS, ofConst, ofCell, Nat.reduceEqDiff, reduceIte] <;> rfl) (by simp only [evalF, upd, arg0, argS, ofConst, ofCell, Nat.reduceEqDiff, reduceIte] <;> rfl) (by decide) ?_
  refine ro_call (f := 41) («as» := [.ptr idw 1 0, .pv (.bool (nodeBad n least)), .pv (.int .i64 1)]) rfl (by simp [nodeBad, evalF, upd, arg0, argS, ofConst, ofCell, Nat.reduceEqDiff, reduceIte]) plains_41 rfl (wrong41 _ (nodeBad n least) 1 h) (by decide) ?_
  rintro v2 hp2 nb2 hS1
  obtain ⟨rfl, hw2, _, _, _⟩ := id hS1
  refine ro_nil ?_
  try simp only
  obtain ⟨vb, hl2, hg2, ho2⟩ := hw2.ex
  refine ex_region ?_
  refine ro_move (by simp only [evalF, upd, arg0, argS, ofConst, ofCell, Nat.reduceEqDiff, reduceIte] <;> rfl) (by decide) ?_
  refine ro_move (by simp only [evalF, upd, arg0, argS, ofConst, ofCell, Nat.reduceEqDiff, reduceIte] <;> rfl) (by decide) ?_
  refine ro_nilCheck (by simp only [evalF, upd, arg0, argS, ofConst, ofCell, Nat.reduceEqDiff, reduceIte] <;> rfl) (by decide) ?_
  refine ro_fieldAddr (by simp only [evalF, upd, arg0, argS, ofConst, ofCell, Nat.reduceEqDiff, reduceIte] <;> rfl) (by exact (fa50_0 _ _ _)) (by decide) ?_
  refine ro_load (by simp only [evalF, upd, arg0, argS, ofConst, ofCell, Nat.reduceEqDiff, reduceIte] <;> rfl) (by exact (load1 ag27 hl2 rfl)) (by decide) ?_
  refine ro_move (by simp only [evalF, upd, arg0, argS, ofConst, ofCell, Nat.reduceEqDiff, reduceIte] <;> rfl) (by decide) ?_
  refine ro_conv (by simp only [evalF, upd, arg0, argS, ofConst, ofCell, Nat.reduceEqDiff, reduceIte] <;> rfl) (by exact (conv_u8 _ _)) (by decide) ?_
  refine ro_buildSlice rfl (by simp only [List.map_cons, List.map_nil, evalF, upd, arg0, argS, ofConst, ofCell, Nat.reduceEqDiff, reduceIte]; exact bs27_1 _ _) (by decide) ?_
  refine ro_append (r := [.int .u8 (u8 n)]) st27 Try.underlying27 (by simp only [evalF, upd, arg0, argS, ofConst, ofCell, Nat.reduceEqDiff, reduceIte] <;> rfl) (by simp only [evalF, upd, arg0, argS, ofConst, ofCell, Nat.reduceEqDiff, reduceIte] <;> rfl) (hg2.keep (Nat.le_succ _) (fun id hid _ => by simp [setHp, show id ≠ nb2 by omega])) (src_built rfl (by simp [setHp])) (by simp [u8s]; omega) (by decide) ?_
  intro v3 hp3 nb3 hg3 ha3 ho3
  have hax := after_trans (after_new hp2 nb2 vb [.pv (.int .u8 (u8 n))] (pvs_ok [.int .u8 (u8 n)])) ha3 (fun id h => .inl h)
  obtain ⟨hst, hS⟩ := wr_store (bs := bs ++ [u8 n]) hw2.lt hw2.le hl2 ho2 hax (by simpa [u8s] using hg3) (fun id h => (ho3 id h).imp (fun h => h) (fun h => by omega))
  refine ro_nilCheck (by simp only [evalF, upd, arg0, argS, ofConst, ofCell, Nat.reduceEqDiff, reduceIte] <;> rfl) (by decide) ?_
  refine ro_fieldAddr (by simp only [evalF, upd, arg0, argS, ofConst, ofCell, Nat.reduceEqDiff, reduceIte] <;> rfl) (by exact (fa50_0 _ _ _)) (by decide) ?_
  refine ro_store (by simp only [evalF, upd, arg0, argS, ofConst, ofCell, Nat.reduceEqDiff, reduceIte] <;> rfl) (by simp only [evalF, upd, arg0, argS, ofConst, ofCell, Nat.reduceEqDiff, reduceIte] <;> rfl) hst ?_
  refine ro_nil ?_
  try simp only
  exact ⟨.tuple [], rfl, wrs_trans hS1 hS⟩
theorem err23 (d : Nat) {hp : Hp} {nb idw q : Nat} {bs : List Int} {e : Int} (n : Int) (h : Wr hp nb idw q bs e) (hsz : bs.length < 100000) :
    CA (callA Try.prog facts plains 10000 (d + 2)) 23 [.ptr idw 1 0, .pv (.int .i64 n)] hp nb (WrS hp nb idw q (bs ++ [u8 n]) (wrongE e (decide (n < 0) || decide (n > 20)) 1)) := by
  refine ca_body (fn := Try.f23) (c := bodyOf Try.f23) Try.func23 rfl (by show 2 ≤ 23; omega) ?_
  show EX _ _ _ _ _ 23 _ _ _ _ _
  unfold bodyOf Try.f23
  refine ex_seq (ex_region ?_)
  refine ro_move (by simp only [evalF, upd, arg0, argS, ofConst, ofCell, Nat.reduceEqDiff, reduceIte] <;> rfl) (by decide) ?_
  refine ro_move (by simp only [evalF, upd, arg0, argS, ofConst, ofCell, Nat.reduceEqDiff, reduceIte] <;> rfl) (by decide) ?_
  refine ro_bin (by simp only [evalF, upd, arg0, argS, ofConst, ofCell, Nat.reduceEqDiff, reduceIte] <;> rfl) (by simp only [evalF, upd, arg0, argS, ofConst, ofCell, Nat.reduceEqDiff, reduceIte] <;> rfl) (by exact (lss_v)) (by decide) ?_
  refine ro_move (by simp only [evalF, upd, arg0, argS, ofConst, ofCell, Nat.reduceEqDiff, reduceIte] <;> rfl) (by decide) ?_
  refine ro_gsel (b := decide (n < 0)) (want := false) (v := .pv (.int .i64 n)) rfl (by simp only [evalF, upd, arg0, argS, ofConst, ofCell, Nat.reduceEqDiff, reduceIte] <;> rfl) rfl (fun hb => by simp only [primA, evalF, upd, arg0, argS, ofConst, ofCell, Nat.reduceEqDiff, reduceIte, selV_hit hb] <;> rfl) (by decide) ?_
  refine ro_gsel (b := decide (n < 0)) (want := false) (v := .pv (.bool (decide (n > 20)))) rfl (by simp only [evalF, upd, arg0, argS, ofConst, ofCell, Nat.reduceEqDiff, reduceIte] <;> rfl) rfl (fun hb => by simp only [primA, evalF, upd, arg0, argS, ofConst, ofCell, Nat.reduceEqDiff, reduceIte, selV_hit hb, gtr_v, Option.map_some] <;> rfl) (by decide) ?_
  refine ro_por (b := decide (n < 0)) (z := decide (n > 20)) (by simp only [evalF, upd, arg0, argS, ofConst, ofCell, Nat.reduceEqDiff, reduceIte] <;> rfl) (by simp only [evalF, upd, arg0, argS, ofConst, ofCell, Nat.reduceEqDiff, reduceIte] <;> rfl) (by decide) ?_
  refine ro_call (f := 41) («as» := [.ptr idw 1 0, .pv (.bool (decide (n < 0) || decide (n > 20))), .pv (.int .i64 1)]) rfl (by simp [nodeBad, evalF, upd, arg0, argS, ofConst, ofCell, Nat.reduceEqDiff, reduceIte]) plains_41 rfl (wrong41 _ (decide (n < 0) || decide (n > 20)) 1 h) (by decide) ?_
  rintro v2 hp2 nb2 hS1
  obtain ⟨rfl, hw2, _, _, _⟩ := id hS1
  refine ro_nil ?_
  try simp only
  obtain ⟨vb, hl2, hg2, ho2⟩ := hw2.ex
  refine ex_region ?_
  refine ro_move (by simp only [evalF, upd, arg0, argS, ofConst, ofCell, Nat.reduceEqDiff, reduceIte] <;> rfl) (by decide) ?_
  refine ro_move (by simp only [evalF, upd, arg0, argS, ofConst, ofCell, Nat.reduceEqDiff, reduceIte] <;> rfl) (by decide) ?_
  refine ro_nilCheck (by simp only [evalF, upd, arg0, argS, ofConst, ofCell, Nat.reduceEqDiff, reduceIte] <;> rfl) (by decide) ?_
  refine ro_fieldAddr (by simp only [evalF, upd, arg0, argS, ofConst, ofCell, Nat.reduceEqDiff, reduceIte] <;> rfl) (by exact (fa50_0 _ _ _)) (by decide) ?_
  refine ro_load (by simp only [evalF, upd, arg0, argS, ofConst, ofCell, Nat.reduceEqDiff, reduceIte] <;> rfl) (by exact (load1 ag27 hl2 rfl)) (by decide) ?_
  refine ro_move (by simp only [evalF, upd, arg0, argS, ofConst, ofCell, Nat.reduceEqDiff, reduceIte] <;> rfl) (by decide) ?_
  refine ro_conv (by simp only [evalF, upd, arg0, argS, ofConst, ofCell, Nat.reduceEqDiff, reduceIte] <;> rfl) (by exact (conv_u8e _ _)) (by decide) ?_
  refine ro_buildSlice rfl (by simp only [List.map_cons, List.map_nil, evalF, upd, arg0, argS, ofConst, ofCell, Nat.reduceEqDiff, reduceIte]; exact bs27_1 _ _) (by decide) ?_
  refine ro_append (r := [.int .u8 (u8 n)]) st27 Try.underlying27 (by simp only [evalF, upd, arg0, argS, ofConst, ofCell, Nat.reduceEqDiff, reduceIte] <;> rfl) (by simp only [evalF, upd, arg0, argS, ofConst, ofCell, Nat.reduceEqDiff, reduceIte] <;> rfl) (hg2.keep (Nat.le_succ _) (fun id hid _ => by simp [setHp, show id ≠ nb2 by omega])) (src_built rfl (by simp [setHp])) (by simp [u8s]; omega) (by decide) ?_
  intro v3 hp3 nb3 hg3 ha3 ho3
  have hax := after_trans (after_new hp2 nb2 vb [.pv (.int .u8 (u8 n))] (pvs_ok [.int .u8 (u8 n)])) ha3 (fun id h => .inl h)
  obtain ⟨hst, hS⟩ := wr_store (bs := bs ++ [u8 n]) hw2.lt hw2.le hl2 ho2 hax (by simpa [u8s] using hg3) (fun id h => (ho3 id h).imp (fun h => h) (fun h => by omega))
  refine ro_nilCheck (by simp only [evalF, upd, arg0, argS, ofConst, ofCell, Nat.reduceEqDiff, reduceIte] <;> rfl) (by decide) ?_
  refine ro_fieldAddr (by simp only [evalF, upd, arg0, argS, ofConst, ofCell, Nat.reduceEqDiff, reduceIte] <;> rfl) (by exact (fa50_0 _ _ _)) (by decide) ?_
  refine ro_store (by simp only [evalF, upd, arg0, argS, ofConst, ofCell, Nat.reduceEqDiff, reduceIte] <;> rfl) (by simp only [evalF, upd, arg0, argS, ofConst, ofCell, Nat.reduceEqDiff, reduceIte] <;> rfl) hst ?_
  refine ro_nil ?_
  try simp only
  exact ⟨.tuple [], rfl, wrs_trans hS1 hS⟩
theorem time25 (d : Nat) {hp : Hp} {nb idw q : Nat} {bs : List Int} {e : Int} (n : Int) (h : Wr hp nb idw q bs e) (hsz : bs.length < 100000) :
    CA (callA Try.prog facts plains 10000 (d + 2)) 25 [.ptr idw 1 0, .pv (.int .i64 n)] hp nb (WrS hp nb idw q (bs ++ [u8 (n / 16777216), u8 (n / 65536), u8 (n / 256), u8 n]) (wrongE e (decide (n < 1) || decide (n > 1000)) 1)) := by
  refine ca_body (fn := Try.f25) (c := bodyOf Try.f25) Try.func25 rfl (by show 2 ≤ 32; omega) ?_
  show EX _ _ _ _ _ 32 _ _ _ _ _
  unfold bodyOf Try.f25
  refine ex_seq (ex_region ?_)
  refine ro_move (by simp only [evalF, upd, arg0, argS, ofConst, ofCell, Nat.reduceEqDiff, reduceIte] <;> rfl) (by decide) ?_
  refine ro_move (by simp only [evalF, upd, arg0, argS, ofConst, ofCell, Nat.reduceEqDiff, reduceIte] <;> rfl) (by decide) ?_
  refine ro_bin (by simp only [evalF, upd, arg0, argS, ofConst, ofCell, Nat.reduceEqDiff, reduceIte] <;> rfl) (by simp only [evalF, upd, arg0, argS, ofConst, ofCell, Nat.reduceEqDiff, reduceIte] <;> rfl) (by exact (lss_v)) (by decide) ?_
  refine ro_move (by simp only [evalF, upd, arg0, argS, ofConst, ofCell, Nat.reduceEqDiff, reduceIte] <;> rfl) (by decide) ?_
  refine ro_gsel (b := decide (n < 1)) (want := false) (v := .pv (.int .i64 n)) rfl (by simp only [evalF, upd, arg0, argS, ofConst, ofCell, Nat.reduceEqDiff, reduceIte] <;> rfl) rfl (fun hb => by simp only [primA, evalF, upd, arg0, argS, ofConst, ofCell, Nat.reduceEqDiff, reduceIte, selV_hit hb] <;> rfl) (by decide) ?_
  refine ro_gsel (b := decide (n < 1)) (want := false) (v := .pv (.bool (decide (n > 1000)))) rfl (by simp only [evalF, upd, arg0, argS, ofConst, ofCell, Nat.reduceEqDiff, reduceIte] <;> rfl) rfl (fun hb => by simp only [primA, evalF, upd, arg0, argS, ofConst, ofCell, Nat.reduceEqDiff, reduceIte, selV_hit hb, gtr_v, Option.map_some] <;> rfl) (by decide) ?_
  refine ro_por (b := decide (n < 1)) (z := decide (n > 1000)) (by simp only [evalF, upd, arg0, argS, ofConst, ofCell, Nat.reduceEqDiff, reduceIte] <;> rfl) (by simp only [evalF, upd, arg0, argS, ofConst, ofCell, Nat.reduceEqDiff, reduceIte] <;> rfl) (by decide) ?_
  refine ro_call (f := 41) («as» := [.ptr idw 1 0, .pv (.bool (decide (n < 1) || decide (n > 1000))), .pv (.int .i64 1)]) rfl (by simp [nodeBad, evalF, upd, arg0, argS, ofConst, ofCell, Nat.reduceEqDiff, reduceIte]) plains_41 rfl (wrong41 _ (decide (n < 1) || decide (n > 1000)) 1 h) (by decide) ?_
  rintro v2 hp2 nb2 hS1
  obtain ⟨rfl, hw2, _, _, _⟩ := id hS1
  refine ro_nil ?_
  try simp only
  obtain ⟨vb, hl2, hg2, ho2⟩ := hw2.ex
  refine ex_region ?_
  refine ro_move (by simp only [evalF, upd, arg0, argS, ofConst, ofCell, Nat.reduceEqDiff, reduceIte] <;> rfl) (by decide) ?_
  refine ro_move (by simp only [evalF, upd, arg0, argS, ofConst, ofCell, Nat.reduceEqDiff, reduceIte] <;> rfl) (by decide) ?_
  refine ro_nilCheck (by simp only [evalF, upd, arg0, argS, ofConst, ofCell, Nat.reduceEqDiff, reduceIte] <;> rfl) (by decide) ?_
  refine ro_fieldAddr (by simp only [evalF, upd, arg0, argS, ofConst, ofCell, Nat.reduceEqDiff, reduceIte] <;> rfl) (by exact (fa50_0 _ _ _)) (by decide) ?_
  refine ro_load (by simp only [evalF, upd, arg0, argS, ofConst, ofCell, Nat.reduceEqDiff, reduceIte] <;> rfl) (by exact (load1 ag27 hl2 rfl)) (by decide) ?_
  refine ro_move (by simp only [evalF, upd, arg0, argS, ofConst, ofCell, Nat.reduceEqDiff, reduceIte] <;> rfl) (by decide) ?_
  refine ro_bin (by simp only [evalF, upd, arg0, argS, ofConst, ofCell, Nat.reduceEqDiff, reduceIte] <;> rfl) (by simp only [evalF, upd, arg0, argS, ofConst, ofCell, Nat.reduceEqDiff, reduceIte] <;> rfl) (by exact (shr_v 24 (by omega))) (by decide) ?_
  refine ro_conv (by simp only [evalF, upd, arg0, argS, ofConst, ofCell, Nat.reduceEqDiff, reduceIte] <;> rfl) (by exact (conv_u8 _ _)) (by decide) ?_
  refine ro_move (by simp only [evalF, upd, arg0, argS, ofConst, ofCell, Nat.reduceEqDiff, reduceIte] <;> rfl) (by decide) ?_
  refine ro_bin (by simp only [evalF, upd, arg0, argS, ofConst, ofCell, Nat.reduceEqDiff, reduceIte] <;> rfl) (by simp only [evalF, upd, arg0, argS, ofConst, ofCell, Nat.reduceEqDiff, reduceIte] <;> rfl) (by exact (shr_v 16 (by omega))) (by decide) ?_
  refine ro_conv (by simp only [evalF, upd, arg0, argS, ofConst, ofCell, Nat.reduceEqDiff, reduceIte] <;> rfl) (by exact (conv_u8 _ _)) (by decide) ?_
  refine ro_move (by simp only [evalF, upd, arg0, argS, ofConst, ofCell, Nat.reduceEqDiff, reduceIte] <;> rfl) (by decide) ?_
  refine ro_bin (by simp only [evalF, upd, arg0, argS, ofConst, ofCell, Nat.reduceEqDiff, reduceIte] <;> rfl) (by simp only [evalF, upd, arg0, argS, ofConst, ofCell, Nat.reduceEqDiff, reduceIte] <;> rfl) (by exact (shr_v 8 (by omega))) (by decide) ?_
  refine ro_conv (by simp only [evalF, upd, arg0, argS, ofConst, ofCell, Nat.reduceEqDiff, reduceIte] <;> rfl) (by exact (conv_u8 _ _)) (by decide) ?_
  refine ro_move (by simp only [evalF, upd, arg0, argS, ofConst, ofCell, Nat.reduceEqDiff, reduceIte] <;> rfl) (by decide) ?_
  refine ro_conv (by simp only [evalF, upd, arg0, argS, ofConst, ofCell, Nat.reduceEqDiff, reduceIte] <;> rfl) (by exact (conv_u8 _ _)) (by decide) ?_
  refine ro_buildSlice rfl (by simp only [List.map_cons, List.map_nil, evalF, upd, arg0, argS, ofConst, ofCell, Nat.reduceEqDiff, reduceIte]; exact bs27_4 _ _ _ _ _) (by decide) ?_
  refine ro_append (r := [.int .u8 (u8 (n / 2 ^ 24)), .int .u8 (u8 (n / 2 ^ 16)), .int .u8 (u8 (n / 2 ^ 8)), .int .u8 (u8 n)]) st27 Try.underlying27 (by simp only [evalF, upd, arg0, argS, ofConst, ofCell, Nat.reduceEqDiff, reduceIte] <;> rfl) (by simp only [evalF, upd, arg0, argS, ofConst, ofCell, Nat.reduceEqDiff, reduceIte] <;> rfl) (hg2.keep (Nat.le_succ _) (fun id hid _ => by simp [setHp, show id ≠ nb2 by omega])) (src_built rfl (by simp [setHp])) (by simp [u8s]; omega) (by decide) ?_
  intro v3 hp3 nb3 hg3 ha3 ho3
  have hax := after_trans (after_new hp2 nb2 vb [.pv (.int .u8 (u8 (n / 2 ^ 24))), .pv (.int .u8 (u8 (n / 2 ^ 16))), .pv (.int .u8 (u8 (n / 2 ^ 8))), .pv (.int .u8 (u8 n))] (pvs_ok [.int .u8 (u8 (n / 2 ^ 24)), .int .u8 (u8 (n / 2 ^ 16)), .int .u8 (u8 (n / 2 ^ 8)), .int .u8 (u8 n)])) ha3 (fun id h => .inl h)
  obtain ⟨hst, hS⟩ := wr_store (bs := bs ++ [u8 (n / 16777216), u8 (n / 65536), u8 (n / 256), u8 n]) hw2.lt hw2.le hl2 ho2 hax (by simpa [u8s] using hg3) (fun id h => (ho3 id h).imp (fun h => h) (fun h => by omega))
  refine ro_nilCheck (by simp only [evalF, upd, arg0, argS, ofConst, ofCell, Nat.reduceEqDiff, reduceIte] <;> rfl) (by decide) ?_
  refine ro_fieldAddr (by simp only [evalF, upd, arg0, argS, ofConst, ofCell, Nat.reduceEqDiff, reduceIte] <;> rfl) (by exact (fa50_0 _ _ _)) (by decide) ?_
  refine ro_store (by simp only [evalF, upd, arg0, argS, ofConst, ofCell, Nat.reduceEqDiff, reduceIte] <;> rfl) (by simp only [evalF, upd, arg0, argS, ofConst, ofCell, Nat.reduceEqDiff, reduceIte] <;> rfl) hst ?_
  refine ro_nil ?_
  try simp only
  exact ⟨.tuple [], rfl, wrs_trans hS1 hS⟩
theorem data24 (d : Nat) {hp : Hp} {nb idw q : Nat} {bs : List Int} {e : Int} {D : AV} {b : List Int} (hD : Row hp nb D (u8s b)) (hq : ∀ id, ownOf D = some id → id < q) (hbl : b.length < 100000) (h : Wr hp nb idw q bs e) (hsz : bs.length < 100000) :
    CA (callA Try.prog facts plains 10000 (d + 2)) 24 [.ptr idw 1 0, D] hp nb (WrS hp nb idw q (bs ++ (u8 ((b.length : Int) / 256) :: u8 b.length :: b)) (wrongE e (decide ((b.length : Int) > 6000)) 5)) := by
  refine ca_body (fn := Try.f24) (c := bodyOf Try.f24) Try.func24 rfl (by show 2 ≤ 27; omega) ?_
  show EX _ _ _ _ _ 27 _ _ _ _ _
  unfold bodyOf Try.f24
  refine ex_seq (ex_region ?_)
  have hbs : (u8s b).length = b.length := by simp [u8s]
  refine ro_move (by simp only [evalF, upd, arg0, argS, ofConst, ofCell, Nat.reduceEqDiff, reduceIte] <;> rfl) (by decide) ?_
  refine ro_move (by simp only [evalF, upd, arg0, argS, ofConst, ofCell, Nat.reduceEqDiff, reduceIte] <;> rfl) (by decide) ?_
  refine ro_builtin rfl (by simp only [List.map_cons, List.map_nil, evalF, upd, arg0, argS, ofConst, ofCell, Nat.reduceEqDiff, reduceIte] <;> rfl) (by exact (row_len st27 hD)) (by decide) ?_
  refine ro_bin (by simp only [evalF, upd, arg0, argS, ofConst, ofCell, Nat.reduceEqDiff, reduceIte] <;> rfl) (by simp only [evalF, upd, arg0, argS, ofConst, ofCell, Nat.reduceEqDiff, reduceIte] <;> rfl) (by exact (gtr_v)) (by decide) ?_
  rw [hbs]
  refine ro_call (f := 41) («as» := [.ptr idw 1 0, .pv (.bool (decide ((b.length : Int) > 6000))), .pv (.int .i64 5)]) rfl (by simp [nodeBad, evalF, upd, arg0, argS, ofConst, ofCell, Nat.reduceEqDiff, reduceIte]) plains_41 rfl (wrong41 _ (decide ((b.length : Int) > 6000)) 5 h) (by decide) ?_
  rintro v2 hp2 nb2 hS1
  obtain ⟨rfl, hw2, _, _, _⟩ := id hS1
  refine ro_nil ?_
  try simp only
  obtain ⟨vb, hl2, hg2, ho2⟩ := hw2.ex
  have hD2 : Row hp2 nb2 D (u8s b) := hD.keep hS1.2.2.1 (fun id hid ho => hS1.2.2.2.1 id (hq id ho))
  refine ex_region ?_
  refine ro_move (by simp only [evalF, upd, arg0, argS, ofConst, ofCell, Nat.reduceEqDiff, reduceIte] <;> rfl) (by decide) ?_
  refine ro_move (by simp only [evalF, upd, arg0, argS, ofConst, ofCell, Nat.reduceEqDiff, reduceIte] <;> rfl) (by decide) ?_
  refine ro_nilCheck (by simp only [evalF, upd, arg0, argS, ofConst, ofCell, Nat.reduceEqDiff, reduceIte] <;> rfl) (by decide) ?_
  refine ro_fieldAddr (by simp only [evalF, upd, arg0, argS, ofConst, ofCell, Nat.reduceEqDiff, reduceIte] <;> rfl) (by exact (fa50_0 _ _ _)) (by decide) ?_
  refine ro_load (by simp only [evalF, upd, arg0, argS, ofConst, ofCell, Nat.reduceEqDiff, reduceIte] <;> rfl) (by exact (load1 ag27 hl2 rfl)) (by decide) ?_
  refine ro_move (by simp only [evalF, upd, arg0, argS, ofConst, ofCell, Nat.reduceEqDiff, reduceIte] <;> rfl) (by decide) ?_
  refine ro_builtin rfl (by simp only [List.map_cons, List.map_nil, evalF, upd, arg0, argS, ofConst, ofCell, Nat.reduceEqDiff, reduceIte] <;> rfl) (by exact (row_len st27 hD2)) (by decide) ?_
  refine ro_bin (by simp only [evalF, upd, arg0, argS, ofConst, ofCell, Nat.reduceEqDiff, reduceIte] <;> rfl) (by simp only [evalF, upd, arg0, argS, ofConst, ofCell, Nat.reduceEqDiff, reduceIte] <;> rfl) (by exact (shr_v 8 (by omega))) (by decide) ?_
  refine ro_conv (by simp only [evalF, upd, arg0, argS, ofConst, ofCell, Nat.reduceEqDiff, reduceIte] <;> rfl) (by exact (conv_u8 _ _)) (by decide) ?_
  refine ro_move (by simp only [evalF, upd, arg0, argS, ofConst, ofCell, Nat.reduceEqDiff, reduceIte] <;> rfl) (by decide) ?_
  refine ro_builtin rfl (by simp only [List.map_cons, List.map_nil, evalF, upd, arg0, argS, ofConst, ofCell, Nat.reduceEqDiff, reduceIte] <;> rfl) (by exact (row_len st27 hD2)) (by decide) ?_
  refine ro_conv (by simp only [evalF, upd, arg0, argS, ofConst, ofCell, Nat.reduceEqDiff, reduceIte] <;> rfl) (by exact (conv_u8 _ _)) (by decide) ?_
  refine ro_buildSlice rfl (by simp only [List.map_cons, List.map_nil, evalF, upd, arg0, argS, ofConst, ofCell, Nat.reduceEqDiff, reduceIte]; exact (by rw [hbs]; exact bs27_2 _ _ _)) (by decide) ?_
  refine ro_append (r := [.int .u8 (u8 ((b.length : Int) / 2 ^ 8)), .int .u8 (u8 b.length)]) st27 Try.underlying27 (by simp only [evalF, upd, arg0, argS, ofConst, ofCell, Nat.reduceEqDiff, reduceIte] <;> rfl) (by simp only [evalF, upd, arg0, argS, ofConst, ofCell, Nat.reduceEqDiff, reduceIte] <;> rfl) (hg2.keep (Nat.le_succ _) (fun id hid _ => by simp [setHp, show id ≠ nb2 by omega])) (src_built rfl (by simp [setHp])) (by simp [u8s]; omega) (by decide) ?_
  intro v3 hp3 nb3 hg3 ha3 ho3
  have hax := after_trans (after_new hp2 nb2 vb [.pv (.int .u8 (u8 ((b.length : Int) / 2 ^ 8))), .pv (.int .u8 (u8 b.length))] (pvs_ok [.int .u8 (u8 ((b.length : Int) / 2 ^ 8)), .int .u8 (u8 b.length)])) ha3 (fun id h => .inl h)
  have hD3 : Row hp3 nb3 D (u8s b) := hD2.keep hax.1 (fun id hid ho => hax.2.1 id hid (fun h => by have := hq id ho; have := (ho2 id h).1; omega))
  refine ro_move (by simp only [evalF, upd, arg0, argS, ofConst, ofCell, Nat.reduceEqDiff, reduceIte] <;> rfl) (by decide) ?_
  refine ro_append (r := u8s b) st27 Try.underlying27 (by simp only [evalF, upd, arg0, argS, ofConst, ofCell, Nat.reduceEqDiff, reduceIte] <;> rfl) (by simp only [evalF, upd, arg0, argS, ofConst, ofCell, Nat.reduceEqDiff, reduceIte] <;> rfl) hg3 (row_src hD3) (by simp [u8s]; omega) (by decide) ?_
  intro v4 hp4 nb4 hg4 ha4 ho4
  have hax4 := after_trans hax ha4 (fun id h => (ho3 id h).imp (fun h => h) (fun h => by omega))
  obtain ⟨hst, hS⟩ := wr_store (bs := bs ++ (u8 ((b.length : Int) / 256) :: u8 b.length :: b)) hw2.lt hw2.le hl2 ho2 hax4 (by simpa [u8s] using hg4) (fun id h => by
    rcases ho4 id h with h | h
    · exact (ho3 id h).imp (fun h => h) (fun h => by omega)
    · exact .inr (by have := hax.1; omega))
  refine ro_nilCheck (by simp only [evalF, upd, arg0, argS, ofConst, ofCell, Nat.reduceEqDiff, reduceIte] <;> rfl) (by decide) ?_
  refine ro_fieldAddr (by simp only [evalF, upd, arg0, argS, ofConst, ofCell, Nat.reduceEqDiff, reduceIte] <;> rfl) (by exact (fa50_0 _ _ _)) (by decide) ?_
  refine ro_store (by simp only [evalF, upd, arg0, argS, ofConst, ofCell, Nat.reduceEqDiff, reduceIte] <;> rfl) (by simp only [evalF, upd, arg0, argS, ofConst, ofCell, Nat.reduceEqDiff, reduceIte] <;> rfl) hst ?_
  refine ro_nil ?_
  try simp only
  exact ⟨.tuple [], rfl, wrs_trans hS1 hS⟩
def listW (e : Int) (l : List Int) : Int := l.foldl (fun e n => wrongE e (nodeBad n 0) 1) e
theorem list22 (d : Nat) {hp : Hp} {nb idw q : Nat} {bs : List Int} {e : Int} {L : AV} {l : List Int} (hL : Row hp nb L (ints l)) (hq : ∀ id, ownOf L = some id → id < q) (hll : l.length < 9000) (h : Wr hp nb idw q bs e) (hsz : bs.length < 100000) :
    CA (callA Try.prog facts plains 10000 (d + 3)) 22 [.ptr idw 1 0, L] hp nb (WrS hp nb idw q (bs ++ (u8 l.length :: l.map u8)) (listW (wrongE e (decide ((l.length : Int) > 10)) 4) l)) := by
  refine ca_body (fn := Try.f22) (c := bodyOf Try.f22) Try.func22 rfl (by show 2 ≤ 34; omega) ?_
  show EX _ _ _ _ _ 34 _ _ _ _ _
  unfold bodyOf Try.f22
  refine ex_seq (ex_region ?_)
  have hls : (ints l).length = l.length := by simp [ints]
  refine ro_move (by simp only [evalF, upd, arg0, argS, ofConst, ofCell, Nat.reduceEqDiff, reduceIte] <;> rfl) (by decide) ?_
  refine ro_move (by simp only [evalF, upd, arg0, argS, ofConst, ofCell, Nat.reduceEqDiff, reduceIte] <;> rfl) (by decide) ?_
  refine ro_builtin rfl (by simp only [List.map_cons, List.map_nil, evalF, upd, arg0, argS, ofConst, ofCell, Nat.reduceEqDiff, reduceIte] <;> rfl) (by exact (row_len st24 hL)) (by decide) ?_
  refine ro_bin (by simp only [evalF, upd, arg0, argS, ofConst, ofCell, Nat.reduceEqDiff, reduceIte] <;> rfl) (by simp only [evalF, upd, arg0, argS, ofConst, ofCell, Nat.reduceEqDiff, reduceIte] <;> rfl) (by exact (gtr_v)) (by decide) ?_
  rw [hls]
  refine ro_call (f := 41) («as» := [.ptr idw 1 0, .pv (.bool (decide ((l.length : Int) > 10))), .pv (.int .i64 4)]) rfl (by simp [nodeBad, evalF, upd, arg0, argS, ofConst, ofCell, Nat.reduceEqDiff, reduceIte]) plains_41 rfl (wrong41 _ (decide ((l.length : Int) > 10)) 4 h) (by decide) ?_
  rintro v2 hp2 nb2 hS1
  obtain ⟨rfl, hw2, _, _, _⟩ := id hS1
  refine ro_nil ?_
  try simp only
  obtain ⟨vb, hl2, hg2, ho2⟩ := hw2.ex
  have hL2 : Row hp2 nb2 L (ints l) := hL.keep hS1.2.2.1 (fun id hid ho => hS1.2.2.2.1 id (hq id ho))
  refine ex_seq (ex_region ?_)
  refine ro_move (by simp only [evalF, upd, arg0, argS, ofConst, ofCell, Nat.reduceEqDiff, reduceIte] <;> rfl) (by decide) ?_
  refine ro_move (by simp only [evalF, upd, arg0, argS, ofConst, ofCell, Nat.reduceEqDiff, reduceIte] <;> rfl) (by decide) ?_
  refine ro_nilCheck (by simp only [evalF, upd, arg0, argS, ofConst, ofCell, Nat.reduceEqDiff, reduceIte] <;> rfl) (by decide) ?_
  refine ro_fieldAddr (by simp only [evalF, upd, arg0, argS, ofConst, ofCell, Nat.reduceEqDiff, reduceIte] <;> rfl) (by exact (fa50_0 _ _ _)) (by decide) ?_
  refine ro_load (by simp only [evalF, upd, arg0, argS, ofConst, ofCell, Nat.reduceEqDiff, reduceIte] <;> rfl) (by exact (load1 ag27 hl2 rfl)) (by decide) ?_
  refine ro_move (by simp only [evalF, upd, arg0, argS, ofConst, ofCell, Nat.reduceEqDiff, reduceIte] <;> rfl) (by decide) ?_
  refine ro_builtin rfl (by simp only [List.map_cons, List.map_nil, evalF, upd, arg0, argS, ofConst, ofCell, Nat.reduceEqDiff, reduceIte] <;> rfl) (by exact (row_len st24 hL2)) (by decide) ?_
  refine ro_conv (by simp only [evalF, upd, arg0, argS, ofConst, ofCell, Nat.reduceEqDiff, reduceIte] <;> rfl) (by exact (conv_u8 _ _)) (by decide) ?_
  refine ro_buildSlice rfl (by simp only [List.map_cons, List.map_nil, evalF, upd, arg0, argS, ofConst, ofCell, Nat.reduceEqDiff, reduceIte]; exact (by rw [hls]; exact bs27_1 _ _)) (by decide) ?_
  refine ro_append (r := [.int .u8 (u8 l.length)]) st27 Try.underlying27 (by simp only [evalF, upd, arg0, argS, ofConst, ofCell, Nat.reduceEqDiff, reduceIte] <;> rfl) (by simp only [evalF, upd, arg0, argS, ofConst, ofCell, Nat.reduceEqDiff, reduceIte] <;> rfl) (hg2.keep (Nat.le_succ _) (fun id hid _ => by simp [setHp, show id ≠ nb2 by omega])) (src_built rfl (by simp [setHp])) (by simp [u8s]; omega) (by decide) ?_
  intro v3 hp3 nb3 hg3 ha3 ho3
  have hax := after_trans (after_new hp2 nb2 vb [.pv (.int .u8 (u8 l.length))] (pvs_ok [.int .u8 (u8 l.length)])) ha3 (fun id h => .inl h)
  obtain ⟨hst, hS⟩ := wr_store (bs := bs ++ [u8 l.length]) hw2.lt hw2.le hl2 ho2 hax (by simpa [u8s] using hg3) (fun id h => (ho3 id h).imp (fun h => h) (fun h => by omega))
  refine ro_nilCheck (by simp only [evalF, upd, arg0, argS, ofConst, ofCell, Nat.reduceEqDiff, reduceIte] <;> rfl) (by decide) ?_
  refine ro_fieldAddr (by simp only [evalF, upd, arg0, argS, ofConst, ofCell, Nat.reduceEqDiff, reduceIte] <;> rfl) (by exact (fa50_0 _ _ _)) (by decide) ?_
  refine ro_store (by simp only [evalF, upd, arg0, argS, ofConst, ofCell, Nat.reduceEqDiff, reduceIte] <;> rfl) (by simp only [evalF, upd, arg0, argS, ofConst, ofCell, Nat.reduceEqDiff, reduceIte] <;> rfl) hst ?_
  refine ro_nil ?_
  try simp only
  have hS3 := wrs_trans hS1 hS
  refine ex_seq (ex_region ?_)
  refine ro_assign (by simp only [evalF, upd, arg0, argS, ofConst, ofCell, Nat.reduceEqDiff, reduceIte] <;> rfl) (by decide) ?_
  refine ro_nil ?_
  try simp only
  refine ex_block (ex_loop (I := fun k g hpx nbx => ∃ i : Nat, k = l.length - i ∧ i ≤ l.length ∧ g 0 = .ptr idw 1 0 ∧ g 1 = L ∧ g 4 = .pv (.int .i64 i) ∧ WrS hp nb idw q (bs ++ (u8 l.length :: (l.take i).map u8)) (listW (wrongE e (decide ((l.length : Int) > 10)) 4) (l.take i)) (.tuple []) hpx nbx)
    (m := l.length) ⟨0, rfl, Nat.zero_le _, by simp [upd, argsF], by simp [upd, argsF], by simp [upd, ofConst, ofCell, evalF], by simpa [listW] using hS3⟩ (by omega) ?_)
  rintro k g hpx nbx ⟨i, hkk, hi, g0, g1, g4, hSx⟩
  have hLx : Row hpx nbx L (ints l) := hL.keep hSx.2.2.1 (fun id hid ho => hSx.2.2.2.1 id (hq id ho))
  refine ex_seq (ex_seq (ex_region ?_))
  refine ro_move (by simp only [evalF, upd, arg0, argS, ofConst, ofCell, Nat.reduceEqDiff, reduceIte, g0, g1, g4] <;> rfl) (by decide) ?_
  refine ro_move (by simp only [evalF, upd, arg0, argS, ofConst, ofCell, Nat.reduceEqDiff, reduceIte, g0, g1, g4] <;> rfl) (by decide) ?_
  refine ro_builtin rfl (by simp only [List.map_cons, List.map_nil, evalF, upd, arg0, argS, ofConst, ofCell, Nat.reduceEqDiff, reduceIte, g0, g1, g4] <;> rfl) (by exact (row_len st24 hLx)) (by decide) ?_
  refine ro_bin (by simp only [evalF, upd, arg0, argS, ofConst, ofCell, Nat.reduceEqDiff, reduceIte, g0, g1, g4] <;> rfl) (by simp only [evalF, upd, arg0, argS, ofConst, ofCell, Nat.reduceEqDiff, reduceIte, g0, g1, g4] <;> rfl) (by exact (lss_v)) (by decide) ?_
  refine ro_nil ?_
  try simp only
  rw [hls]
  refine ex_cond (t := decide ((i : Int) < l.length)) (by simp only [evalF, upd, arg0, argS, ofConst, ofCell, Nat.reduceEqDiff, reduceIte, g0, g1, g4] <;> rfl) (fun ht => ?_) (fun ht => ?_)
  rotate_left
  · have hie : i = l.length := by
      have := of_decide_eq_false ht
      omega
    refine ex_exit ?_
    simp only [if_true]
    rw [hie, List.take_of_length_le (Nat.le_refl _)] at hSx
    exact ⟨.tuple [], rfl, hSx⟩
  refine ex_skip ?_
  try simp only
  have hil : i < l.length := by
    have := of_decide_eq_true ht
    omega
  have hgi : (ints l)[i]? = some (.int .i64 l[i]) := by unfold ints; rw [List.getElem?_map, List.getElem?_eq_getElem hil]; rfl
  obtain ⟨p, p1, p2⟩ := row_at st24 hLx hgi
  refine ex_seq (ex_block ?_)
  refine ex_region ?_
  refine ro_move (by simp only [evalF, upd, arg0, argS, ofConst, ofCell, Nat.reduceEqDiff, reduceIte, g0, g1, g4] <;> rfl) (by decide) ?_
  refine ro_move (by simp only [evalF, upd, arg0, argS, ofConst, ofCell, Nat.reduceEqDiff, reduceIte, g0, g1, g4] <;> rfl) (by decide) ?_
  refine ro_move (by simp only [evalF, upd, arg0, argS, ofConst, ofCell, Nat.reduceEqDiff, reduceIte, g0, g1, g4] <;> rfl) (by decide) ?_
  refine ro_indexAddr (by simp only [evalF, upd, arg0, argS, ofConst, ofCell, Nat.reduceEqDiff, reduceIte, g0, g1, g4] <;> rfl) (by simp only [evalF, upd, arg0, argS, ofConst, ofCell, Nat.reduceEqDiff, reduceIte, g0, g1, g4] <;> rfl) (by exact (p1)) (by decide) ?_
  refine ro_load (by simp only [evalF, upd, arg0, argS, ofConst, ofCell, Nat.reduceEqDiff, reduceIte, g0, g1, g4] <;> rfl) (by exact (p2)) (by decide) ?_
  refine ro_call (f := 21) («as» := [.ptr idw 1 0, .pv (.int .i64 l[i]), .pv (.int .i64 0)]) rfl (by simp [evalF, upd, argsF, ofConst, ofCell, g0]) plains_21 rfl (node21 _ l[i] 0 hSx.2.1 (by simp; omega)) (by decide) ?_
  rintro v5 hp5 nb5 hS5
  obtain ⟨rfl, _, _, _, _⟩ := id hS5
  refine ro_nil ?_
  try simp only
  refine ex_region ?_
  refine ro_move (by simp only [evalF, upd, arg0, argS, ofConst, ofCell, Nat.reduceEqDiff, reduceIte, g0, g1, g4] <;> rfl) (by decide) ?_
  refine ro_bin (by simp only [evalF, upd, arg0, argS, ofConst, ofCell, Nat.reduceEqDiff, reduceIte, g0, g1, g4] <;> rfl) (by simp only [evalF, upd, arg0, argS, ofConst, ofCell, Nat.reduceEqDiff, reduceIte, g0, g1, g4] <;> rfl) (by exact (add_v (by omega))) (by decide) ?_
  refine ro_assign (by simp only [evalF, upd, arg0, argS, ofConst, ofCell, Nat.reduceEqDiff, reduceIte, g0, g1, g4] <;> rfl) (by decide) ?_
  refine ro_nil ?_
  refine ⟨l.length - (i + 1), by omega, i + 1, rfl, by omega, by simp [upd, g0], by simp [upd, g1], by simp [upd], ?_⟩
  have := wrs_trans hSx hS5
  have e1 : l.take (i + 1) = l.take i ++ [l[i]] := by
    rw [List.take_add_one, List.getElem?_eq_getElem hil]
    rfl
  have e2 : bs ++ (u8 l.length :: (l.take (i + 1)).map u8) = bs ++ (u8 l.length :: (l.take i).map u8) ++ [u8 l[i]] := by
    rw [e1, List.map_append, List.append_assoc]
    rfl
  have e3 : ∀ E, listW E (l.take (i + 1)) = wrongE (listW E (l.take i)) (nodeBad l[i] 0) 1 := by
    intro E
    rw [e1]
    unfold listW
    rw [List.foldl_append]
    rfl
  rw [e2, e3]
  exact this
end Go.Proofs.Ytlinbbjobjnipaa
