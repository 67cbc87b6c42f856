/- Reading: a field. Printed by gen_read.py. -/
import Derived.Test.YtlinbbjobjnipaaP3
set_option linter.unusedVariables false
set_option linter.unusedSimpArgs false
set_option linter.unusedSectionVars false
namespace Go.Proofs.Ytlinbbjobjnipaa
open Go AI

set_option maxHeartbeats 4000000
set_option maxRecDepth 10000

/-- A message that is being read. -/
structure Pm (hp : Hp) (nb idm idr q : Nat) (m : M) : Prop where
  lt : idm < nb
  le : q ≤ idm
  ne : idm ≠ idr
  key : m.key.length = 32
  ex : ∃ L D, AI.look hp idm 1 = some (mcells m L D) ∧ Grow hp nb L (ints m.list) ∧ Row hp nb D (u8s m.data) ∧ (∀ id, ownOf L = some id → q ≤ id ∧ id ≠ idm ∧ id ≠ idr ∧ ownOf D ≠ some id) ∧ (∀ id, ownOf D = some id → q ≤ id ∧ id ≠ idm ∧ id ≠ idr)

/-- What reading a field gives. -/
def FldOk (hp : Hp) (nb idm idr q : Nat) (m : M) (b : List Int) (e : Int) (v : AV) (hp' : Hp) (nb' : Nat) : Prop :=
  v = .tuple [] ∧ Pm hp' nb' idm idr q m ∧ Rd hp' nb' idr q b e ∧ nb ≤ nb' ∧ (∀ id, id < q → hp' id = hp id) ∧ (Tidy hp nb → Tidy hp' nb')

theorem rd_keep {hp hp' : Hp} {nb nb' idr q : Nat} {b : List Int} {e : Int} (h : Rd hp nb idr q b e) (hn : nb ≤ nb') (hk : ∀ id, id < q ∨ id = idr → hp' id = hp id) : Rd hp' nb' idr q b e := by
  obtain ⟨v, h1, h2, h3⟩ := h.ex
  exact ⟨by have := h.lt; omega, h.le, v, by rw [look_at 1 (hk idr (.inr rfl))]; exact h1, h2.keep hn (fun id hid ho => hk id (.inl (h3 id ho))), h3⟩

theorem pm_keepR {hp hp' : Hp} {nb nb' idm idr q : Nat} {m : M} (h : Pm hp nb idm idr q m) (hk : KeepR hp nb idr hp' nb') : Pm hp' nb' idm idr q m := by
  obtain ⟨L, D, h1, h2, h3, h4, h5⟩ := h.ex
  obtain ⟨rfl, k2, _⟩ := hk
  exact ⟨h.lt, h.le, h.ne, h.key, L, D, by rw [look_at 1 (k2 idm h.ne)]; exact h1, h2.keep (Nat.le_refl _) (fun id hid ho => k2 id (h4 id ho).2.2.1), h3.keep (Nat.le_refl _) (fun id hid ho => k2 id (h5 id ho).2.2), h4, h5⟩

/-- A number is stored into a field of the message. -/
theorem fld_store {hp : Hp} {nb idm idr q : Nat} {m m' : M} {b : List Int} {e : Int} {L D : AV} (hpm : Pm hp nb idm idr q m) (hrd : Rd hp nb idr q b e) (hL : Grow hp nb L (ints m.list)) (hD : Row hp nb D (u8s m.data))
    (h4 : ∀ id, ownOf L = some id → q ≤ id ∧ id ≠ idm ∧ id ≠ idr ∧ ownOf D ≠ some id) (h5 : ∀ id, ownOf D = some id → q ≤ id ∧ id ≠ idm ∧ id ≠ idr) (hk : m'.key.length = 32) (hl' : m'.list = m.list) (hd' : m'.data = m.data) :
    FldOk hp nb idm idr q m' b e (.tuple []) (setHp hp idm (.cells 1 (mcells m' L D))) nb := by
  have hk' : ∀ id, id ≠ idm → setHp hp idm (.cells 1 (mcells m' L D)) id = hp id := fun id h => by simp [setHp, h]
  refine ⟨rfl, ⟨hpm.lt, hpm.le, hpm.ne, hk, L, D, look_same _ _ _ _, ?_, ?_, h4, h5⟩, rd_keep hrd (Nat.le_refl _) (fun id h => hk' id ?_), Nat.le_refl _, fun id hid => hk' id ?_, fun ht => tidy_put ht (ok_cells (grow_okC hL) (row_ok' hD))⟩
  · rw [hl']; exact hL.keep (Nat.le_refl _) (fun id hid ho => hk' id (h4 id ho).2.1)
  · rw [hd']; exact hD.keep (Nat.le_refl _) (fun id hid ho => hk' id (h5 id ho).2.1)
  · have := hpm.le
    have := hpm.ne
    rcases h with h | h <;> omega
  · have := hpm.le; omega

theorem fld_trans {hp hp1 hp2 : Hp} {nb nb1 nb2 idm idr q : Nat} {m2 : M} {b : List Int} {e : Int} {v : AV} (hq : q ≤ idr) (hk : KeepR hp nb idr hp1 nb1) (h : FldOk hp1 nb1 idm idr q m2 b e v hp2 nb2) : FldOk hp nb idm idr q m2 b e v hp2 nb2 := by
  obtain ⟨h1, h2, h3, h4, h5, h6⟩ := h
  obtain ⟨rfl, k2, k3⟩ := hk
  exact ⟨h1, h2, h3, h4, fun id hid => by rw [h5 id hid, k2 id (by omega)], fun ht => h6 (k3 ht)⟩

theorem sz4 : szA Try.prog 4 = some 1 := by kernel_rfl
theorem spl4 {m : M} {L D : AV} (z : Bool) : splice (mcells m L D) 4 [.pv (.bool z)] = mcells { m with done := z } L D := rfl

theorem plains_27 : plains 27 = false := rfl
theorem plains_42 : plains 42 = false := rfl
theorem plains_43 : plains 43 = false := rfl
theorem plains_44 : plains 44 = false := rfl
theorem plains_46 : plains 46 = false := rfl

theorem read_0 (d : Nat) {hp : Hp} {nb idm idr q : Nat} {m : M} {b : List Int} {e : Int} (hb : ∀ x ∈ b, 0 ≤ x ∧ x ≤ 255) (hpm : Pm hp nb idm idr q m) (hrd : Rd hp nb idr q b e) :
    CA (callA Try.prog facts plains 10000 (d + 5)) 26 [.ptr idr 1 0, .ptr idm 1 0, .pv (.int .i64 0)] hp nb (FldOk hp nb idm idr q { m with pred := (predR b e).1 } (predR b e).2.1 (predR b e).2.2) := by
  refine ca_body (fn := Try.f26) (c := bodyOf Try.f26) Try.func26 rfl (by show 3 ≤ 82; omega) ?_
  show EX _ _ _ _ _ 82 _ _ _ _ _
  unfold bodyOf Try.f26
  refine ex_seq (ex_region ?_)
  refine ro_move (by simp only [evalF, upd, arg0, argS, ofConst, ofCell, Nat.reduceEqDiff, reduceIte] <;> rfl) (by decide) ?_
  refine ro_nil ?_
  try simp only
  refine ex_block ?_
  refine ex_seq (ex_region ?_)
  refine ro_bin (by simp only [evalF, upd, arg0, argS, ofConst, ofCell, Nat.reduceEqDiff, reduceIte] <;> rfl) (by simp only [evalF, upd, arg0, argS, ofConst, ofCell, Nat.reduceEqDiff, reduceIte] <;> rfl) (by exact (eql_t rfl)) (by decide) ?_
  refine ro_assign (by simp only [evalF, upd, arg0, argS, ofConst, ofCell, Nat.reduceEqDiff, reduceIte] <;> rfl) (by decide) ?_
  refine ro_nil ?_
  try simp only
  refine ex_cond (t := true) (by simp only [evalF, upd, arg0, argS, ofConst, ofCell, Nat.reduceEqDiff, reduceIte] <;> rfl) (fun _ => ?_) (fun h => by simp at h)
  refine ex_region ?_
  refine ro_move (by simp only [evalF, upd, arg0, argS, ofConst, ofCell, Nat.reduceEqDiff, reduceIte] <;> rfl) (by decide) ?_
  refine ro_move (by simp only [evalF, upd, arg0, argS, ofConst, ofCell, Nat.reduceEqDiff, reduceIte] <;> rfl) (by decide) ?_
  refine ro_call (f := 42) («as» := [.ptr idr 1 0]) rfl (by simp [evalF, upd, argsF]) plains_42 rfl (pred_calls facts plains 10000 d plains_27 plains_44 plains_43 (by omega) hb hrd) (by decide) ?_
  rintro v2 hp2 nb2 ⟨rfl, hr2, hk2⟩
  obtain rfl := hk2.1
  have hpm2 := pm_keepR hpm hk2
  obtain ⟨L, D, g1, g2, g3, g4, g5⟩ := hpm2.ex
  refine ro_nilCheck (by simp only [evalF, upd, arg0, argS, ofConst, ofCell, Nat.reduceEqDiff, reduceIte] <;> rfl) (by decide) ?_
  refine ro_fieldAddr (by simp only [evalF, upd, arg0, argS, ofConst, ofCell, Nat.reduceEqDiff, reduceIte] <;> rfl) (by exact (fa30_2 _ _ _)) (by decide) ?_
  refine ro_store (by simp only [evalF, upd, arg0, argS, ofConst, ofCell, Nat.reduceEqDiff, reduceIte] <;> rfl) (by simp only [evalF, upd, arg0, argS, ofConst, ofCell, Nat.reduceEqDiff, reduceIte] <;> rfl) (put_field hpm.key sz3 g1 ⟨rfl, rfl⟩ (by omega) (spl2 _)) ?_
  refine ro_nil ?_
  try simp only
  refine ⟨.tuple [], rfl, ?_⟩
  exact fld_trans hrd.le hk2 (fld_store (m := m) hpm2 hr2 g2 g3 g4 g5 hpm.key rfl rfl)

theorem read_1 (d : Nat) {hp : Hp} {nb idm idr q : Nat} {m : M} {b : List Int} {e : Int} (hb : ∀ x ∈ b, 0 ≤ x ∧ x ≤ 255) (hpm : Pm hp nb idm idr q m) (hrd : Rd hp nb idr q b e) :
    CA (callA Try.prog facts plains 10000 (d + 5)) 26 [.ptr idr 1 0, .ptr idm 1 0, .pv (.int .i64 1)] hp nb (FldOk hp nb idm idr q { m with node := (byteR b e 9).1 } (byteR b e 9).2.1 (byteR b e 9).2.2) := by
  refine ca_body (fn := Try.f26) (c := bodyOf Try.f26) Try.func26 rfl (by show 3 ≤ 82; omega) ?_
  show EX _ _ _ _ _ 82 _ _ _ _ _
  unfold bodyOf Try.f26
  refine ex_seq (ex_region ?_)
  refine ro_move (by simp only [evalF, upd, arg0, argS, ofConst, ofCell, Nat.reduceEqDiff, reduceIte] <;> rfl) (by decide) ?_
  refine ro_nil ?_
  try simp only
  refine ex_block ?_
  refine ex_seq (ex_region ?_)
  refine ro_bin (by simp only [evalF, upd, arg0, argS, ofConst, ofCell, Nat.reduceEqDiff, reduceIte] <;> rfl) (by simp only [evalF, upd, arg0, argS, ofConst, ofCell, Nat.reduceEqDiff, reduceIte] <;> rfl) (by exact (eql_f (by decide))) (by decide) ?_
  refine ro_assign (by simp only [evalF, upd, arg0, argS, ofConst, ofCell, Nat.reduceEqDiff, reduceIte] <;> rfl) (by decide) ?_
  refine ro_nil ?_
  try simp only
  refine ex_cond (t := false) (by simp only [evalF, upd, arg0, argS, ofConst, ofCell, Nat.reduceEqDiff, reduceIte] <;> rfl) (fun h => by simp at h) (fun _ => ?_)
  refine ex_seq (ex_region ?_)
  refine ro_bin (by simp only [evalF, upd, arg0, argS, ofConst, ofCell, Nat.reduceEqDiff, reduceIte] <;> rfl) (by simp only [evalF, upd, arg0, argS, ofConst, ofCell, Nat.reduceEqDiff, reduceIte] <;> rfl) (by exact (eql_t rfl)) (by decide) ?_
  refine ro_assign (by simp only [evalF, upd, arg0, argS, ofConst, ofCell, Nat.reduceEqDiff, reduceIte] <;> rfl) (by decide) ?_
  refine ro_nil ?_
  try simp only
  refine ex_cond (t := true) (by simp only [evalF, upd, arg0, argS, ofConst, ofCell, Nat.reduceEqDiff, reduceIte] <;> rfl) (fun _ => ?_) (fun h => by simp at h)
  refine ex_region ?_
  refine ro_move (by simp only [evalF, upd, arg0, argS, ofConst, ofCell, Nat.reduceEqDiff, reduceIte] <;> rfl) (by decide) ?_
  refine ro_move (by simp only [evalF, upd, arg0, argS, ofConst, ofCell, Nat.reduceEqDiff, reduceIte] <;> rfl) (by decide) ?_
  refine ro_call (f := 43) («as» := [.ptr idr 1 0, .pv (.int .i64 9)]) rfl (by simp [evalF, upd, argsF, ofConst, ofCell]) plains_43 rfl (byte_calls facts plains 10000 (d + 1) plains_27 plains_44 (by omega) 9 hb hrd) (by decide) ?_
  rintro v2 hp2 nb2 ⟨rfl, hr2, hk2⟩
  obtain rfl := hk2.1
  have hpm2 := pm_keepR hpm hk2
  obtain ⟨L, D, g1, g2, g3, g4, g5⟩ := hpm2.ex
  refine ro_nilCheck (by simp only [evalF, upd, arg0, argS, ofConst, ofCell, Nat.reduceEqDiff, reduceIte] <;> rfl) (by decide) ?_
  refine ro_fieldAddr (by simp only [evalF, upd, arg0, argS, ofConst, ofCell, Nat.reduceEqDiff, reduceIte] <;> rfl) (by exact (fa30_1 _ _ _)) (by decide) ?_
  refine ro_store (by simp only [evalF, upd, arg0, argS, ofConst, ofCell, Nat.reduceEqDiff, reduceIte] <;> rfl) (by simp only [evalF, upd, arg0, argS, ofConst, ofCell, Nat.reduceEqDiff, reduceIte] <;> rfl) (put_field hpm.key sz3 g1 ⟨rfl, rfl⟩ (by omega) (spl1 _)) ?_
  refine ro_nil ?_
  try simp only
  refine ⟨.tuple [], rfl, ?_⟩
  exact fld_trans hrd.le hk2 (fld_store (m := m) hpm2 hr2 g2 g3 g4 g5 hpm.key rfl rfl)

theorem read_3 (d : Nat) {hp : Hp} {nb idm idr q : Nat} {m : M} {b : List Int} {e : Int} (hb : ∀ x ∈ b, 0 ≤ x ∧ x ≤ 255) (hpm : Pm hp nb idm idr q m) (hrd : Rd hp nb idr q b e) :
    CA (callA Try.prog facts plains 10000 (d + 5)) 26 [.ptr idr 1 0, .ptr idm 1 0, .pv (.int .i64 3)] hp nb (FldOk hp nb idm idr q { m with done := (byteR b e 1).1 == 1 } (byteR b e 1).2.1 (byteR b e 1).2.2) := by
  refine ca_body (fn := Try.f26) (c := bodyOf Try.f26) Try.func26 rfl (by show 3 ≤ 82; omega) ?_
  show EX _ _ _ _ _ 82 _ _ _ _ _
  unfold bodyOf Try.f26
  refine ex_seq (ex_region ?_)
  refine ro_move (by simp only [evalF, upd, arg0, argS, ofConst, ofCell, Nat.reduceEqDiff, reduceIte] <;> rfl) (by decide) ?_
  refine ro_nil ?_
  try simp only
  refine ex_block ?_
  refine ex_seq (ex_region ?_)
  refine ro_bin (by simp only [evalF, upd, arg0, argS, ofConst, ofCell, Nat.reduceEqDiff, reduceIte] <;> rfl) (by simp only [evalF, upd, arg0, argS, ofConst, ofCell, Nat.reduceEqDiff, reduceIte] <;> rfl) (by exact (eql_f (by decide))) (by decide) ?_
  refine ro_assign (by simp only [evalF, upd, arg0, argS, ofConst, ofCell, Nat.reduceEqDiff, reduceIte] <;> rfl) (by decide) ?_
  refine ro_nil ?_
  try simp only
  refine ex_cond (t := false) (by simp only [evalF, upd, arg0, argS, ofConst, ofCell, Nat.reduceEqDiff, reduceIte] <;> rfl) (fun h => by simp at h) (fun _ => ?_)
  refine ex_seq (ex_region ?_)
  refine ro_bin (by simp only [evalF, upd, arg0, argS, ofConst, ofCell, Nat.reduceEqDiff, reduceIte] <;> rfl) (by simp only [evalF, upd, arg0, argS, ofConst, ofCell, Nat.reduceEqDiff, reduceIte] <;> rfl) (by exact (eql_f (by decide))) (by decide) ?_
  refine ro_assign (by simp only [evalF, upd, arg0, argS, ofConst, ofCell, Nat.reduceEqDiff, reduceIte] <;> rfl) (by decide) ?_
  refine ro_nil ?_
  try simp only
  refine ex_cond (t := false) (by simp only [evalF, upd, arg0, argS, ofConst, ofCell, Nat.reduceEqDiff, reduceIte] <;> rfl) (fun h => by simp at h) (fun _ => ?_)
  refine ex_seq (ex_region ?_)
  refine ro_bin (by simp only [evalF, upd, arg0, argS, ofConst, ofCell, Nat.reduceEqDiff, reduceIte] <;> rfl) (by simp only [evalF, upd, arg0, argS, ofConst, ofCell, Nat.reduceEqDiff, reduceIte] <;> rfl) (by exact (eql_f (by decide))) (by decide) ?_
  refine ro_assign (by simp only [evalF, upd, arg0, argS, ofConst, ofCell, Nat.reduceEqDiff, reduceIte] <;> rfl) (by decide) ?_
  refine ro_nil ?_
  try simp only
  refine ex_cond (t := false) (by simp only [evalF, upd, arg0, argS, ofConst, ofCell, Nat.reduceEqDiff, reduceIte] <;> rfl) (fun h => by simp at h) (fun _ => ?_)
  refine ex_seq (ex_region ?_)
  refine ro_bin (by simp only [evalF, upd, arg0, argS, ofConst, ofCell, Nat.reduceEqDiff, reduceIte] <;> rfl) (by simp only [evalF, upd, arg0, argS, ofConst, ofCell, Nat.reduceEqDiff, reduceIte] <;> rfl) (by exact (eql_t rfl)) (by decide) ?_
  refine ro_assign (by simp only [evalF, upd, arg0, argS, ofConst, ofCell, Nat.reduceEqDiff, reduceIte] <;> rfl) (by decide) ?_
  refine ro_nil ?_
  try simp only
  refine ex_cond (t := true) (by simp only [evalF, upd, arg0, argS, ofConst, ofCell, Nat.reduceEqDiff, reduceIte] <;> rfl) (fun _ => ?_) (fun h => by simp at h)
  refine ex_region ?_
  refine ro_move (by simp only [evalF, upd, arg0, argS, ofConst, ofCell, Nat.reduceEqDiff, reduceIte] <;> rfl) (by decide) ?_
  refine ro_move (by simp only [evalF, upd, arg0, argS, ofConst, ofCell, Nat.reduceEqDiff, reduceIte] <;> rfl) (by decide) ?_
  refine ro_call (f := 43) («as» := [.ptr idr 1 0, .pv (.int .i64 1)]) rfl (by simp [evalF, upd, argsF, ofConst, ofCell]) plains_43 rfl (byte_calls facts plains 10000 (d + 1) plains_27 plains_44 (by omega) 1 hb hrd) (by decide) ?_
  rintro v2 hp2 nb2 ⟨rfl, hr2, hk2⟩
  obtain rfl := hk2.1
  have hpm2 := pm_keepR hpm hk2
  obtain ⟨L, D, g1, g2, g3, g4, g5⟩ := hpm2.ex
  refine ro_bin (by simp only [evalF, upd, arg0, argS, ofConst, ofCell, Nat.reduceEqDiff, reduceIte] <;> rfl) (by simp only [evalF, upd, arg0, argS, ofConst, ofCell, Nat.reduceEqDiff, reduceIte] <;> rfl) (by exact (eql_v)) (by decide) ?_
  refine ro_nilCheck (by simp only [evalF, upd, arg0, argS, ofConst, ofCell, Nat.reduceEqDiff, reduceIte] <;> rfl) (by decide) ?_
  refine ro_fieldAddr (by simp only [evalF, upd, arg0, argS, ofConst, ofCell, Nat.reduceEqDiff, reduceIte] <;> rfl) (by exact (fa30_4 _ _ _)) (by decide) ?_
  refine ro_store (by simp only [evalF, upd, arg0, argS, ofConst, ofCell, Nat.reduceEqDiff, reduceIte] <;> rfl) (by simp only [evalF, upd, arg0, argS, ofConst, ofCell, Nat.reduceEqDiff, reduceIte] <;> rfl) (put_field hpm.key sz4 g1 ⟨rfl, rfl⟩ (by omega) (spl4 _)) ?_
  refine ro_nil ?_
  try simp only
  refine ⟨.tuple [], rfl, ?_⟩
  exact fld_trans hrd.le hk2 (fld_store (m := m) hpm2 hr2 g2 g3 g4 g5 hpm.key rfl rfl)

theorem read_4 (d : Nat) {hp : Hp} {nb idm idr q : Nat} {m : M} {b : List Int} {e : Int} (hb : ∀ x ∈ b, 0 ≤ x ∧ x ≤ 255) (hpm : Pm hp nb idm idr q m) (hrd : Rd hp nb idr q b e) :
    CA (callA Try.prog facts plains 10000 (d + 5)) 26 [.ptr idr 1 0, .ptr idm 1 0, .pv (.int .i64 4)] hp nb (FldOk hp nb idm idr q { m with err := (byteR b e 20).1 } (byteR b e 20).2.1 (byteR b e 20).2.2) := by
  refine ca_body (fn := Try.f26) (c := bodyOf Try.f26) Try.func26 rfl (by show 3 ≤ 82; omega) ?_
  show EX _ _ _ _ _ 82 _ _ _ _ _
  unfold bodyOf Try.f26
  refine ex_seq (ex_region ?_)
  refine ro_move (by simp only [evalF, upd, arg0, argS, ofConst, ofCell, Nat.reduceEqDiff, reduceIte] <;> rfl) (by decide) ?_
  refine ro_nil ?_
  try simp only
  refine ex_block ?_
  refine ex_seq (ex_region ?_)
  refine ro_bin (by simp only [evalF, upd, arg0, argS, ofConst, ofCell, Nat.reduceEqDiff, reduceIte] <;> rfl) (by simp only [evalF, upd, arg0, argS, ofConst, ofCell, Nat.reduceEqDiff, reduceIte] <;> rfl) (by exact (eql_f (by decide))) (by decide) ?_
  refine ro_assign (by simp only [evalF, upd, arg0, argS, ofConst, ofCell, Nat.reduceEqDiff, reduceIte] <;> rfl) (by decide) ?_
  refine ro_nil ?_
  try simp only
  refine ex_cond (t := false) (by simp only [evalF, upd, arg0, argS, ofConst, ofCell, Nat.reduceEqDiff, reduceIte] <;> rfl) (fun h => by simp at h) (fun _ => ?_)
  refine ex_seq (ex_region ?_)
  refine ro_bin (by simp only [evalF, upd, arg0, argS, ofConst, ofCell, Nat.reduceEqDiff, reduceIte] <;> rfl) (by simp only [evalF, upd, arg0, argS, ofConst, ofCell, Nat.reduceEqDiff, reduceIte] <;> rfl) (by exact (eql_f (by decide))) (by decide) ?_
  refine ro_assign (by simp only [evalF, upd, arg0, argS, ofConst, ofCell, Nat.reduceEqDiff, reduceIte] <;> rfl) (by decide) ?_
  refine ro_nil ?_
  try simp only
  refine ex_cond (t := false) (by simp only [evalF, upd, arg0, argS, ofConst, ofCell, Nat.reduceEqDiff, reduceIte] <;> rfl) (fun h => by simp at h) (fun _ => ?_)
  refine ex_seq (ex_region ?_)
  refine ro_bin (by simp only [evalF, upd, arg0, argS, ofConst, ofCell, Nat.reduceEqDiff, reduceIte] <;> rfl) (by simp only [evalF, upd, arg0, argS, ofConst, ofCell, Nat.reduceEqDiff, reduceIte] <;> rfl) (by exact (eql_f (by decide))) (by decide) ?_
  refine ro_assign (by simp only [evalF, upd, arg0, argS, ofConst, ofCell, Nat.reduceEqDiff, reduceIte] <;> rfl) (by decide) ?_
  refine ro_nil ?_
  try simp only
  refine ex_cond (t := false) (by simp only [evalF, upd, arg0, argS, ofConst, ofCell, Nat.reduceEqDiff, reduceIte] <;> rfl) (fun h => by simp at h) (fun _ => ?_)
  refine ex_seq (ex_region ?_)
  refine ro_bin (by simp only [evalF, upd, arg0, argS, ofConst, ofCell, Nat.reduceEqDiff, reduceIte] <;> rfl) (by simp only [evalF, upd, arg0, argS, ofConst, ofCell, Nat.reduceEqDiff, reduceIte] <;> rfl) (by exact (eql_f (by decide))) (by decide) ?_
  refine ro_assign (by simp only [evalF, upd, arg0, argS, ofConst, ofCell, Nat.reduceEqDiff, reduceIte] <;> rfl) (by decide) ?_
  refine ro_nil ?_
  try simp only
  refine ex_cond (t := false) (by simp only [evalF, upd, arg0, argS, ofConst, ofCell, Nat.reduceEqDiff, reduceIte] <;> rfl) (fun h => by simp at h) (fun _ => ?_)
  refine ex_seq (ex_region ?_)
  refine ro_bin (by simp only [evalF, upd, arg0, argS, ofConst, ofCell, Nat.reduceEqDiff, reduceIte] <;> rfl) (by simp only [evalF, upd, arg0, argS, ofConst, ofCell, Nat.reduceEqDiff, reduceIte] <;> rfl) (by exact (eql_t rfl)) (by decide) ?_
  refine ro_assign (by simp only [evalF, upd, arg0, argS, ofConst, ofCell, Nat.reduceEqDiff, reduceIte] <;> rfl) (by decide) ?_
  refine ro_nil ?_
  try simp only
  refine ex_cond (t := true) (by simp only [evalF, upd, arg0, argS, ofConst, ofCell, Nat.reduceEqDiff, reduceIte] <;> rfl) (fun _ => ?_) (fun h => by simp at h)
  refine ex_region ?_
  refine ro_move (by simp only [evalF, upd, arg0, argS, ofConst, ofCell, Nat.reduceEqDiff, reduceIte] <;> rfl) (by decide) ?_
  refine ro_move (by simp only [evalF, upd, arg0, argS, ofConst, ofCell, Nat.reduceEqDiff, reduceIte] <;> rfl) (by decide) ?_
  refine ro_call (f := 43) («as» := [.ptr idr 1 0, .pv (.int .i64 20)]) rfl (by simp [evalF, upd, argsF, ofConst, ofCell]) plains_43 rfl (byte_calls facts plains 10000 (d + 1) plains_27 plains_44 (by omega) 20 hb hrd) (by decide) ?_
  rintro v2 hp2 nb2 ⟨rfl, hr2, hk2⟩
  obtain rfl := hk2.1
  have hpm2 := pm_keepR hpm hk2
  obtain ⟨L, D, g1, g2, g3, g4, g5⟩ := hpm2.ex
  refine ro_nilCheck (by simp only [evalF, upd, arg0, argS, ofConst, ofCell, Nat.reduceEqDiff, reduceIte] <;> rfl) (by decide) ?_
  refine ro_fieldAddr (by simp only [evalF, upd, arg0, argS, ofConst, ofCell, Nat.reduceEqDiff, reduceIte] <;> rfl) (by exact (fa30_8 _ _ _)) (by decide) ?_
  refine ro_store (by simp only [evalF, upd, arg0, argS, ofConst, ofCell, Nat.reduceEqDiff, reduceIte] <;> rfl) (by simp only [evalF, upd, arg0, argS, ofConst, ofCell, Nat.reduceEqDiff, reduceIte] <;> rfl) (put_field hpm.key sz28 g1 ⟨rfl, rfl⟩ (by omega) (spl39 hpm.key _)) ?_
  refine ro_nil ?_
  try simp only
  refine ⟨.tuple [], rfl, ?_⟩
  exact fld_trans hrd.le hk2 (fld_store (m := m) hpm2 hr2 g2 g3 g4 g5 hpm.key rfl rfl)

theorem read_7 (d : Nat) {hp : Hp} {nb idm idr q : Nat} {m : M} {b : List Int} {e : Int} (hb : ∀ x ∈ b, 0 ≤ x ∧ x ≤ 255) (hpm : Pm hp nb idm idr q m) (hrd : Rd hp nb idr q b e) :
    CA (callA Try.prog facts plains 10000 (d + 5)) 26 [.ptr idr 1 0, .ptr idm 1 0, .pv (.int .i64 7)] hp nb (FldOk hp nb idm idr q { m with lease := (numR b e 4 1 1000).1 } (numR b e 4 1 1000).2.1 (numR b e 4 1 1000).2.2) := by
  refine ca_body (fn := Try.f26) (c := bodyOf Try.f26) Try.func26 rfl (by show 3 ≤ 82; omega) ?_
  show EX _ _ _ _ _ 82 _ _ _ _ _
  unfold bodyOf Try.f26
  refine ex_seq (ex_region ?_)
  refine ro_move (by simp only [evalF, upd, arg0, argS, ofConst, ofCell, Nat.reduceEqDiff, reduceIte] <;> rfl) (by decide) ?_
  refine ro_nil ?_
  try simp only
  refine ex_block ?_
  refine ex_seq (ex_region ?_)
  refine ro_bin (by simp only [evalF, upd, arg0, argS, ofConst, ofCell, Nat.reduceEqDiff, reduceIte] <;> rfl) (by simp only [evalF, upd, arg0, argS, ofConst, ofCell, Nat.reduceEqDiff, reduceIte] <;> rfl) (by exact (eql_f (by decide))) (by decide) ?_
  refine ro_assign (by simp only [evalF, upd, arg0, argS, ofConst, ofCell, Nat.reduceEqDiff, reduceIte] <;> rfl) (by decide) ?_
  refine ro_nil ?_
  try simp only
  refine ex_cond (t := false) (by simp only [evalF, upd, arg0, argS, ofConst, ofCell, Nat.reduceEqDiff, reduceIte] <;> rfl) (fun h => by simp at h) (fun _ => ?_)
  refine ex_seq (ex_region ?_)
  refine ro_bin (by simp only [evalF, upd, arg0, argS, ofConst, ofCell, Nat.reduceEqDiff, reduceIte] <;> rfl) (by simp only [evalF, upd, arg0, argS, ofConst, ofCell, Nat.reduceEqDiff, reduceIte] <;> rfl) (by exact (eql_f (by decide))) (by decide) ?_
  refine ro_assign (by simp only [evalF, upd, arg0, argS, ofConst, ofCell, Nat.reduceEqDiff, reduceIte] <;> rfl) (by decide) ?_
  refine ro_nil ?_
  try simp only
  refine ex_cond (t := false) (by simp only [evalF, upd, arg0, argS, ofConst, ofCell, Nat.reduceEqDiff, reduceIte] <;> rfl) (fun h => by simp at h) (fun _ => ?_)
  refine ex_seq (ex_region ?_)
  refine ro_bin (by simp only [evalF, upd, arg0, argS, ofConst, ofCell, Nat.reduceEqDiff, reduceIte] <;> rfl) (by simp only [evalF, upd, arg0, argS, ofConst, ofCell, Nat.reduceEqDiff, reduceIte] <;> rfl) (by exact (eql_f (by decide))) (by decide) ?_
  refine ro_assign (by simp only [evalF, upd, arg0, argS, ofConst, ofCell, Nat.reduceEqDiff, reduceIte] <;> rfl) (by decide) ?_
  refine ro_nil ?_
  try simp only
  refine ex_cond (t := false) (by simp only [evalF, upd, arg0, argS, ofConst, ofCell, Nat.reduceEqDiff, reduceIte] <;> rfl) (fun h => by simp at h) (fun _ => ?_)
  refine ex_seq (ex_region ?_)
  refine ro_bin (by simp only [evalF, upd, arg0, argS, ofConst, ofCell, Nat.reduceEqDiff, reduceIte] <;> rfl) (by simp only [evalF, upd, arg0, argS, ofConst, ofCell, Nat.reduceEqDiff, reduceIte] <;> rfl) (by exact (eql_f (by decide))) (by decide) ?_
  refine ro_assign (by simp only [evalF, upd, arg0, argS, ofConst, ofCell, Nat.reduceEqDiff, reduceIte] <;> rfl) (by decide) ?_
  refine ro_nil ?_
  try simp only
  refine ex_cond (t := false) (by simp only [evalF, upd, arg0, argS, ofConst, ofCell, Nat.reduceEqDiff, reduceIte] <;> rfl) (fun h => by simp at h) (fun _ => ?_)
  refine ex_seq (ex_region ?_)
  refine ro_bin (by simp only [evalF, upd, arg0, argS, ofConst, ofCell, Nat.reduceEqDiff, reduceIte] <;> rfl) (by simp only [evalF, upd, arg0, argS, ofConst, ofCell, Nat.reduceEqDiff, reduceIte] <;> rfl) (by exact (eql_f (by decide))) (by decide) ?_
  refine ro_assign (by simp only [evalF, upd, arg0, argS, ofConst, ofCell, Nat.reduceEqDiff, reduceIte] <;> rfl) (by decide) ?_
  refine ro_nil ?_
  try simp only
  refine ex_cond (t := false) (by simp only [evalF, upd, arg0, argS, ofConst, ofCell, Nat.reduceEqDiff, reduceIte] <;> rfl) (fun h => by simp at h) (fun _ => ?_)
  refine ex_seq (ex_region ?_)
  refine ro_bin (by simp only [evalF, upd, arg0, argS, ofConst, ofCell, Nat.reduceEqDiff, reduceIte] <;> rfl) (by simp only [evalF, upd, arg0, argS, ofConst, ofCell, Nat.reduceEqDiff, reduceIte] <;> rfl) (by exact (eql_f (by decide))) (by decide) ?_
  refine ro_assign (by simp only [evalF, upd, arg0, argS, ofConst, ofCell, Nat.reduceEqDiff, reduceIte] <;> rfl) (by decide) ?_
  refine ro_nil ?_
  try simp only
  refine ex_cond (t := false) (by simp only [evalF, upd, arg0, argS, ofConst, ofCell, Nat.reduceEqDiff, reduceIte] <;> rfl) (fun h => by simp at h) (fun _ => ?_)
  refine ex_seq (ex_region ?_)
  refine ro_bin (by simp only [evalF, upd, arg0, argS, ofConst, ofCell, Nat.reduceEqDiff, reduceIte] <;> rfl) (by simp only [evalF, upd, arg0, argS, ofConst, ofCell, Nat.reduceEqDiff, reduceIte] <;> rfl) (by exact (eql_f (by decide))) (by decide) ?_
  refine ro_assign (by simp only [evalF, upd, arg0, argS, ofConst, ofCell, Nat.reduceEqDiff, reduceIte] <;> rfl) (by decide) ?_
  refine ro_nil ?_
  try simp only
  refine ex_cond (t := false) (by simp only [evalF, upd, arg0, argS, ofConst, ofCell, Nat.reduceEqDiff, reduceIte] <;> rfl) (fun h => by simp at h) (fun _ => ?_)
  refine ex_seq (ex_region ?_)
  refine ro_bin (by simp only [evalF, upd, arg0, argS, ofConst, ofCell, Nat.reduceEqDiff, reduceIte] <;> rfl) (by simp only [evalF, upd, arg0, argS, ofConst, ofCell, Nat.reduceEqDiff, reduceIte] <;> rfl) (by exact (eql_t rfl)) (by decide) ?_
  refine ro_assign (by simp only [evalF, upd, arg0, argS, ofConst, ofCell, Nat.reduceEqDiff, reduceIte] <;> rfl) (by decide) ?_
  refine ro_nil ?_
  try simp only
  refine ex_cond (t := true) (by simp only [evalF, upd, arg0, argS, ofConst, ofCell, Nat.reduceEqDiff, reduceIte] <;> rfl) (fun _ => ?_) (fun h => by simp at h)
  refine ex_region ?_
  refine ro_move (by simp only [evalF, upd, arg0, argS, ofConst, ofCell, Nat.reduceEqDiff, reduceIte] <;> rfl) (by decide) ?_
  refine ro_move (by simp only [evalF, upd, arg0, argS, ofConst, ofCell, Nat.reduceEqDiff, reduceIte] <;> rfl) (by decide) ?_
  refine ro_call (f := 46) («as» := [.ptr idr 1 0, .pv (.int .i64 (4 : Nat)), .pv (.int .i64 1), .pv (.int .i64 1000)]) rfl (by simp [evalF, upd, argsF, ofConst, ofCell]) plains_46 rfl (number_calls facts plains 10000 (d + 1) plains_27 plains_44 (by omega) 4 (by omega) 1 1000 hb hrd) (by decide) ?_
  rintro v2 hp2 nb2 ⟨rfl, hr2, hk2⟩
  obtain rfl := hk2.1
  have hpm2 := pm_keepR hpm hk2
  obtain ⟨L, D, g1, g2, g3, g4, g5⟩ := hpm2.ex
  refine ro_nilCheck (by simp only [evalF, upd, arg0, argS, ofConst, ofCell, Nat.reduceEqDiff, reduceIte] <;> rfl) (by decide) ?_
  refine ro_fieldAddr (by simp only [evalF, upd, arg0, argS, ofConst, ofCell, Nat.reduceEqDiff, reduceIte] <;> rfl) (by exact (fa30_7 _ _ _)) (by decide) ?_
  refine ro_store (by simp only [evalF, upd, arg0, argS, ofConst, ofCell, Nat.reduceEqDiff, reduceIte] <;> rfl) (by simp only [evalF, upd, arg0, argS, ofConst, ofCell, Nat.reduceEqDiff, reduceIte] <;> rfl) (put_field hpm.key sz3 g1 ⟨rfl, rfl⟩ (by omega) (spl38 hpm.key _)) ?_
  refine ro_nil ?_
  try simp only
  refine ⟨.tuple [], rfl, ?_⟩
  exact fld_trans hrd.le hk2 (fld_store (m := m) hpm2 hr2 g2 g3 g4 g5 hpm.key rfl rfl)

end Go.Proofs.Ytlinbbjobjnipaa
