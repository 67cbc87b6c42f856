/- Reading: data; a key. -/
import Derived.Test.YtlinbbjobjnipaaP4
set_option linter.unusedVariables false
set_option linter.unusedSimpArgs false
set_option linter.unusedSectionVars false
namespace Go.Proofs.Ytlinbbjobjnipaa
open Go AI

set_option maxHeartbeats 4000000
set_option maxRecDepth 10000

def dataR (b : List Int) (e : Int) : List Int × List Int × Int := takeR (numR b e 2 0 6000).2.1 (numR b e 2 0 6000).2.2 (numR b e 2 0 6000).1.toNat

theorem fld_data {hp hp1 : Hp} {nb nb1 idm idr q : Nat} {m : M} {b : List Int} {e : Int} {L D v : AV} {l : List Int} (hpm : Pm hp nb idm idr q m) (hrd : Rd hp nb idr q b e) (g1 : AI.look hp idm 1 = some (mcells m L D)) (hL : Grow hp nb L (ints m.list)) 
    (h4 : ∀ id, ownOf L = some id → q ≤ id ∧ id ≠ idm ∧ id ≠ idr ∧ ownOf D ≠ some id) (hc : CloneOk (u8s l) hp nb v hp1 nb1) :
    FldOk hp nb idm idr q { m with data := l } b e (.tuple []) (setHp hp1 idm (.cells 1 (mcells { m with data := l } L v))) nb1 := by
  obtain ⟨c1, c2, c3⟩ := hc
  have hold : ∀ id, id < nb → hp1 id = hp id := fun id hid => c3.2.1 id hid (by simp [ownOf])
  have hnb := c3.1
  have hk' : ∀ id, id ≠ idm → setHp hp1 idm (.cells 1 (mcells { m with data := l } L v)) id = hp1 id := fun id h => by simp [setHp, h]
  have hlt := hpm.lt
  have hle := hpm.le
  have hrl := hrd.lt
  have hLn : ∀ id, ownOf L = some id → id < nb := fun id ho => row_own hL.row ho
  refine ⟨rfl, ⟨by omega, hpm.le, hpm.ne, hpm.key, L, v, look_same _ _ _ _, hL.keep hnb (fun id hid ho => by rw [hk' id (h4 id ho).2.1, hold id hid]), c1.keep (Nat.le_refl _) (fun id hid ho => hk' id (by have := c2 id ho; omega)), fun id ho => ⟨(h4 id ho).1, (h4 id ho).2.1, (h4 id ho).2.2.1, fun h => by have := c2 id h; have := hLn id ho; omega⟩, fun id ho => by have := c2 id ho; omega⟩, ?_, hnb, ?_, ?_⟩
  · refine rd_keep hrd hnb (fun id h => ?_)
    have := hpm.ne
    have hne : id ≠ idm := by rcases h with h | h <;> omega
    rw [hk' id hne, hold id (by rcases h with h | h <;> omega)]
  · intro id hid
    rw [hk' id (by omega), hold id (by omega)]
  · intro ht
    exact tidy_put (c3.2.2 ht) (ok_cells (okC_mono hnb (grow_okC hL)) (row_ok' c1))

theorem read_6 (d : Nat) {hp : Hp} {nb idm idr q : Nat} {m : M} {b : List Int} {e : Int} (hb : ∀ x ∈ b, 0 ≤ x ∧ x ≤ 255) (hpm : Pm hp nb idm idr q m) (hrd : Rd hp nb idr q b e) :
    CA (callA Try.prog facts plains 10000 (d + 5)) 26 [.ptr idr 1 0, .ptr idm 1 0, .pv (.int .i64 6)] hp nb (FldOk hp nb idm idr q { m with data := (dataR b e).1 } (dataR b e).2.1 (dataR b e).2.2) := by
  refine ca_body (fn := Try.f26) (c := bodyOf Try.f26) Try.func26 rfl (by show 3 ≤ 82; omega) ?_
  show EX _ _ _ _ _ 82 _ _ _ _ _
  unfold bodyOf Try.f26
  refine ex_seq (ex_region ?_)
  refine ro_move (by simp only [evalF, upd, arg0, argS, ofConst, ofCell, Nat.reduceEqDiff, reduceIte] <;> rfl) (by decide) ?_
  refine ro_nil ?_
  try simp only
  refine ex_block ?_
  refine ex_seq (ex_region ?_)
  refine ro_bin (by simp only [evalF, upd, arg0, argS, ofConst, ofCell, Nat.reduceEqDiff, reduceIte] <;> rfl) (by simp only [evalF, upd, arg0, argS, ofConst, ofCell, Nat.reduceEqDiff, reduceIte] <;> rfl) (by exact (eql_f (by decide))) (by decide) ?_
  refine ro_assign (by simp only [evalF, upd, arg0, argS, ofConst, ofCell, Nat.reduceEqDiff, reduceIte] <;> rfl) (by decide) ?_
  refine ro_nil ?_
  try simp only
  refine ex_cond (t := false) (by simp only [evalF, upd, arg0, argS, ofConst, ofCell, Nat.reduceEqDiff, reduceIte] <;> rfl) (fun h => by simp at h) (fun _ => ?_)
  refine ex_seq (ex_region ?_)
  refine ro_bin (by simp only [evalF, upd, arg0, argS, ofConst, ofCell, Nat.reduceEqDiff, reduceIte] <;> rfl) (by simp only [evalF, upd, arg0, argS, ofConst, ofCell, Nat.reduceEqDiff, reduceIte] <;> rfl) (by exact (eql_f (by decide))) (by decide) ?_
  refine ro_assign (by simp only [evalF, upd, arg0, argS, ofConst, ofCell, Nat.reduceEqDiff, reduceIte] <;> rfl) (by decide) ?_
  refine ro_nil ?_
  try simp only
  refine ex_cond (t := false) (by simp only [evalF, upd, arg0, argS, ofConst, ofCell, Nat.reduceEqDiff, reduceIte] <;> rfl) (fun h => by simp at h) (fun _ => ?_)
  refine ex_seq (ex_region ?_)
  refine ro_bin (by simp only [evalF, upd, arg0, argS, ofConst, ofCell, Nat.reduceEqDiff, reduceIte] <;> rfl) (by simp only [evalF, upd, arg0, argS, ofConst, ofCell, Nat.reduceEqDiff, reduceIte] <;> rfl) (by exact (eql_f (by decide))) (by decide) ?_
  refine ro_assign (by simp only [evalF, upd, arg0, argS, ofConst, ofCell, Nat.reduceEqDiff, reduceIte] <;> rfl) (by decide) ?_
  refine ro_nil ?_
  try simp only
  refine ex_cond (t := false) (by simp only [evalF, upd, arg0, argS, ofConst, ofCell, Nat.reduceEqDiff, reduceIte] <;> rfl) (fun h => by simp at h) (fun _ => ?_)
  refine ex_seq (ex_region ?_)
  refine ro_bin (by simp only [evalF, upd, arg0, argS, ofConst, ofCell, Nat.reduceEqDiff, reduceIte] <;> rfl) (by simp only [evalF, upd, arg0, argS, ofConst, ofCell, Nat.reduceEqDiff, reduceIte] <;> rfl) (by exact (eql_f (by decide))) (by decide) ?_
  refine ro_assign (by simp only [evalF, upd, arg0, argS, ofConst, ofCell, Nat.reduceEqDiff, reduceIte] <;> rfl) (by decide) ?_
  refine ro_nil ?_
  try simp only
  refine ex_cond (t := false) (by simp only [evalF, upd, arg0, argS, ofConst, ofCell, Nat.reduceEqDiff, reduceIte] <;> rfl) (fun h => by simp at h) (fun _ => ?_)
  refine ex_seq (ex_region ?_)
  refine ro_bin (by simp only [evalF, upd, arg0, argS, ofConst, ofCell, Nat.reduceEqDiff, reduceIte] <;> rfl) (by simp only [evalF, upd, arg0, argS, ofConst, ofCell, Nat.reduceEqDiff, reduceIte] <;> rfl) (by exact (eql_f (by decide))) (by decide) ?_
  refine ro_assign (by simp only [evalF, upd, arg0, argS, ofConst, ofCell, Nat.reduceEqDiff, reduceIte] <;> rfl) (by decide) ?_
  refine ro_nil ?_
  try simp only
  refine ex_cond (t := false) (by simp only [evalF, upd, arg0, argS, ofConst, ofCell, Nat.reduceEqDiff, reduceIte] <;> rfl) (fun h => by simp at h) (fun _ => ?_)
  refine ex_seq (ex_region ?_)
  refine ro_bin (by simp only [evalF, upd, arg0, argS, ofConst, ofCell, Nat.reduceEqDiff, reduceIte] <;> rfl) (by simp only [evalF, upd, arg0, argS, ofConst, ofCell, Nat.reduceEqDiff, reduceIte] <;> rfl) (by exact (eql_f (by decide))) (by decide) ?_
  refine ro_assign (by simp only [evalF, upd, arg0, argS, ofConst, ofCell, Nat.reduceEqDiff, reduceIte] <;> rfl) (by decide) ?_
  refine ro_nil ?_
  try simp only
  refine ex_cond (t := false) (by simp only [evalF, upd, arg0, argS, ofConst, ofCell, Nat.reduceEqDiff, reduceIte] <;> rfl) (fun h => by simp at h) (fun _ => ?_)
  refine ex_seq (ex_region ?_)
  refine ro_bin (by simp only [evalF, upd, arg0, argS, ofConst, ofCell, Nat.reduceEqDiff, reduceIte] <;> rfl) (by simp only [evalF, upd, arg0, argS, ofConst, ofCell, Nat.reduceEqDiff, reduceIte] <;> rfl) (by exact (eql_t rfl)) (by decide) ?_
  refine ro_assign (by simp only [evalF, upd, arg0, argS, ofConst, ofCell, Nat.reduceEqDiff, reduceIte] <;> rfl) (by decide) ?_
  refine ro_nil ?_
  try simp only
  refine ex_cond (t := true) (by simp only [evalF, upd, arg0, argS, ofConst, ofCell, Nat.reduceEqDiff, reduceIte] <;> rfl) (fun _ => ?_) (fun h => by simp at h)
  refine ex_region ?_
  refine ro_move (by simp only [evalF, upd, arg0, argS, ofConst, ofCell, Nat.reduceEqDiff, reduceIte] <;> rfl) (by decide) ?_
  refine ro_move (by simp only [evalF, upd, arg0, argS, ofConst, ofCell, Nat.reduceEqDiff, reduceIte] <;> rfl) (by decide) ?_
  refine ro_move (by simp only [evalF, upd, arg0, argS, ofConst, ofCell, Nat.reduceEqDiff, reduceIte] <;> rfl) (by decide) ?_
  refine ro_call (f := 46) («as» := [.ptr idr 1 0, .pv (.int .i64 (2 : Nat)), .pv (.int .i64 0), .pv (.int .i64 6000)]) rfl (by simp [evalF, upd, argsF, ofConst, ofCell]) plains_46 rfl (number_calls facts plains 10000 (d + 1) plains_27 plains_44 (by omega) 2 (by omega) 0 6000 hb hrd) (by decide) ?_
  rintro v2 hp2 nb2 ⟨rfl, hr2, hk2⟩
  obtain rfl := hk2.1
  have hpm2 := pm_keepR hpm hk2
  have hnum : (numR b e 2 0 6000).1 = numOf (takeR b e 2).1 := rfl
  obtain ⟨tl1, tl2, tl3⟩ := take_len (e := e) (n := 2) hb
  obtain ⟨nb0, nb1⟩ := num_bound _ tl2
  have hn6 : numOf (takeR b e 2).1 < 65536 := by
    refine Int.lt_of_lt_of_le nb1 ?_
    have : (takeR b e 2).1.length = 0 ∨ (takeR b e 2).1.length = 1 ∨ (takeR b e 2).1.length = 2 := by omega
    rcases this with h | h | h <;> rw [h] <;> decide
  have hnn : (numR b e 2 0 6000).1 = (((numR b e 2 0 6000).1.toNat : Nat) : Int) := by rw [hnum]; omega
  rw [hnn]
  refine ro_call (f := 44) («as» := [.ptr idr 1 0, .pv (.int .i64 ((numR b e 2 0 6000).1.toNat : Nat))]) rfl (by simp [evalF, upd, argsF]) plains_44 rfl (take_calls facts plains 10000 (d + 2) plains_27 (numR b e 2 0 6000).1.toNat hr2) (by decide) ?_
  rintro v3 hp3 nb3 ⟨hr3, _, hrd3, hk3⟩
  obtain rfl := hk3.1
  have hpm3 := pm_keepR hpm2 hk3
  have hlen3 : (takeR (numR b e 2 0 6000).2.1 (numR b e 2 0 6000).2.2 (numR b e 2 0 6000).1.toNat).1.length ≤ 65535 := by
    unfold takeR
    split
    · simp
    · simp; rw [hnum]; omega
  obtain ⟨L, D, g1, g2, g3, g4, g5⟩ := hpm3.ex
  refine ro_clone (d + 3) hr3 (by simp [u8s]; omega) (by simp only [evalF, upd, arg0, argS, ofConst, ofCell, Nat.reduceEqDiff, reduceIte] <;> rfl) (by decide) ?_
  intro v4 hp4 nb4 hc4
  have hm4 : AI.look hp4 idm 1 = some (mcells m L D) := by rw [look_at 1 (hc4.2.2.2.1 idm hpm3.lt (by simp [ownOf]))]; exact g1
  refine ro_nilCheck (by simp only [evalF, upd, arg0, argS, ofConst, ofCell, Nat.reduceEqDiff, reduceIte] <;> rfl) (by decide) ?_
  refine ro_fieldAddr (by simp only [evalF, upd, arg0, argS, ofConst, ofCell, Nat.reduceEqDiff, reduceIte] <;> rfl) (by exact (fa30_6 _ _ _)) (by decide) ?_
  refine ro_store (by simp only [evalF, upd, arg0, argS, ofConst, ofCell, Nat.reduceEqDiff, reduceIte] <;> rfl) (by simp only [evalF, upd, arg0, argS, ofConst, ofCell, Nat.reduceEqDiff, reduceIte] <;> rfl) (put_field hpm.key sz27 hm4 ⟨(row_cell hc4.1).2, (row_cell hc4.1).1⟩ (by omega) (spl37 hpm.key _ (dataR b e).1)) ?_
  refine ro_nil ?_
  try simp only
  refine ⟨.tuple [], rfl, ?_⟩
  exact fld_trans hrd.le (keepR_trans hk2 hk3) (fld_data hpm3 hrd3 g1 g2 g4 hc4)

theorem keyStat : statOk (regOf Try.f26 15) = true := by kernel_rfl
theorem keyNeeds : needs (regOf Try.f26 15) = [] := by kernel_rfl
end Go.Proofs.Ytlinbbjobjnipaa
