/- Reading: a key. -/
import Derived.Test.YtlinbbjobjnipaaP5
set_option linter.unusedVariables false
set_option linter.unusedSimpArgs false
set_option linter.unusedSectionVars false
namespace Go.Proofs.Ytlinbbjobjnipaa
open Go AI

set_option maxHeartbeats 4000000
set_option maxRecDepth 10000

def keyR (m : M) (b : List Int) (e : Int) : List Int := if (takeR b e 32).1.length = 32 then (takeR b e 32).1 else m.key

theorem take_all {b : List Int} {e : Int} {n : Nat} : (takeR b e n).1 = [] ∨ (takeR b e n).1.length = n := by
  unfold takeR
  split
  · exact .inl rfl
  · rename_i h
    right
    simp only [not_or, Nat.not_lt] at h
    simp; omega

theorem splKey {m : M} {L D : AV} {t : List Int} (hk : m.key.length = 32) (ht : t.length = 32) : splice (mcells m L D) 5 ((u8s t).map .pv) = mcells { m with key := t } L D := by
  unfold splice mcells
  have h1 : (([.pv (.int .i64 m.kind), .pv (.int .i64 m.node), .pv (.int .i64 m.pred), L, .pv (.bool m.done)] : List AV) ++ ((u8s m.key).map AV.pv ++ [D, .pv (.int .i64 m.lease), .pv (.int .i64 m.err)])).take 5 = [.pv (.int .i64 m.kind), .pv (.int .i64 m.node), .pv (.int .i64 m.pred), L, .pv (.bool m.done)] := rfl
  have h2 : (([.pv (.int .i64 m.kind), .pv (.int .i64 m.node), .pv (.int .i64 m.pred), L, .pv (.bool m.done)] : List AV) ++ ((u8s m.key).map AV.pv ++ [D, .pv (.int .i64 m.lease), .pv (.int .i64 m.err)])).drop (5 + ((u8s t).map AV.pv).length) = [D, .pv (.int .i64 m.lease), .pv (.int .i64 m.err)] := by
    rw [show ((u8s t).map AV.pv).length = 32 by simp [u8s, ht], ← List.drop_drop]
    show List.drop 32 ((u8s m.key).map AV.pv ++ _) = _
    rw [List.drop_append_of_le_length (by simp [u8s, hk]), List.drop_of_length_le (by simp [u8s, hk])]
    rfl
  rw [h1, h2]
  simp

theorem splice_nil {α : Type} (l : List α) (i : Nat) : splice l i [] = l := by simp [splice]

/-- A copy into the key. -/
theorem copy_key {hp : Hp} {nb idm : Nat} {m : M} {L D v : AV} {t : List Int} (hk : m.key.length = 32) (hl : AI.look hp idm 1 = some (mcells m L D)) (hr : Row hp nb v (u8s t)) (ht : t = [] ∨ t.length = 32) :
    ∃ z, builtinA Try.prog hp nb .copy #[27, 27] [.slice idm 1 (0 + 5 + 0) 32 32 1 true, v] = some (.upd z idm (.cells 1 (mcells { m with key := if t.length = 32 then t else m.key } L D))) := by
  refine ⟨.pv (.int .i64 (Nat.min t.length 32 : Nat)), ?_⟩
  have hb : ∀ z, (copyA Try.prog hp #[27, 27] (.slice idm 1 (0 + 5 + 0) 32 32 1 true) v = some z → builtinA Try.prog hp nb .copy #[27, 27] [.slice idm 1 (0 + 5 + 0) 32 32 1 true, v] = some z) := fun z h => h
  refine hb _ ?_
  unfold copyA
  have hul : (u8s t).length = t.length := by simp [u8s]
  simp only [show (#[27, 27] : Array TypeId)[0]? = some 27 from rfl, st27.und, st27.sz, Option.bind_some, row_src hr, hl, ne_eq, not_true, if_false]
  have hall : ∀ l : List PV, (l.map AV.pv).all AV.isCell = true := by
    intro l
    induction l with
    | nil => rfl
    | cons a l ih => rw [List.map_cons, List.all_cons, ih]; rfl
  rw [hul]
  rcases ht with rfl | ht
  · rw [if_pos ⟨by rw [mc_length hk]; omega, by simp [u8s]⟩]
    simp [u8s, splice_nil]
  · rw [ht]
    have h32 : ((u8s t).map AV.pv).take (Nat.min 32 32 * 1) = (u8s t).map AV.pv := List.take_of_length_le (by simp [u8s, ht])
    rw [h32, if_pos ⟨by rw [mc_length hk]; omega, hall _⟩]
    show some (Eff.upd _ idm (.cells 1 (splice (mcells m L D) 5 ((u8s t).map AV.pv)))) = _
    rw [splKey hk ht]
    simp

theorem read_5 (d : Nat) {hp : Hp} {nb idm idr q : Nat} {m : M} {b : List Int} {e : Int} (hb : ∀ x ∈ b, 0 ≤ x ∧ x ≤ 255) (hpm : Pm hp nb idm idr q m) (hrd : Rd hp nb idr q b e) :
    CA (callA Try.prog facts plains 10000 (d + 5)) 26 [.ptr idr 1 0, .ptr idm 1 0, .pv (.int .i64 5)] hp nb (FldOk hp nb idm idr q { m with key := keyR m b e } (takeR b e 32).2.1 (takeR b e 32).2.2) := by
  refine ca_body (fn := Try.f26) (c := bodyOf Try.f26) Try.func26 rfl (by show 3 ≤ 82; omega) ?_
  show EX _ _ _ _ _ 82 _ _ _ _ _
  unfold bodyOf Try.f26
  refine ex_seq (ex_region ?_)
  refine ro_move (by simp only [evalF, upd, arg0, argS, ofConst, ofCell, Nat.reduceEqDiff, reduceIte] <;> rfl) (by decide) ?_
  refine ro_nil ?_
  try simp only
  refine ex_block ?_
  refine ex_seq (ex_region ?_)
  refine ro_bin (by simp only [evalF, upd, arg0, argS, ofConst, ofCell, Nat.reduceEqDiff, reduceIte] <;> rfl) (by simp only [evalF, upd, arg0, argS, ofConst, ofCell, Nat.reduceEqDiff, reduceIte] <;> rfl) (by exact (eql_f (by decide))) (by decide) ?_
  refine ro_assign (by simp only [evalF, upd, arg0, argS, ofConst, ofCell, Nat.reduceEqDiff, reduceIte] <;> rfl) (by decide) ?_
  refine ro_nil ?_
  try simp only
  refine ex_cond (t := false) (by simp only [evalF, upd, arg0, argS, ofConst, ofCell, Nat.reduceEqDiff, reduceIte] <;> rfl) (fun h => by simp at h) (fun _ => ?_)
  refine ex_seq (ex_region ?_)
  refine ro_bin (by simp only [evalF, upd, arg0, argS, ofConst, ofCell, Nat.reduceEqDiff, reduceIte] <;> rfl) (by simp only [evalF, upd, arg0, argS, ofConst, ofCell, Nat.reduceEqDiff, reduceIte] <;> rfl) (by exact (eql_f (by decide))) (by decide) ?_
  refine ro_assign (by simp only [evalF, upd, arg0, argS, ofConst, ofCell, Nat.reduceEqDiff, reduceIte] <;> rfl) (by decide) ?_
  refine ro_nil ?_
  try simp only
  refine ex_cond (t := false) (by simp only [evalF, upd, arg0, argS, ofConst, ofCell, Nat.reduceEqDiff, reduceIte] <;> rfl) (fun h => by simp at h) (fun _ => ?_)
  refine ex_seq (ex_region ?_)
  refine ro_bin (by simp only [evalF, upd, arg0, argS, ofConst, ofCell, Nat.reduceEqDiff, reduceIte] <;> rfl) (by simp only [evalF, upd, arg0, argS, ofConst, ofCell, Nat.reduceEqDiff, reduceIte] <;> rfl) (by exact (eql_f (by decide))) (by decide) ?_
  refine ro_assign (by simp only [evalF, upd, arg0, argS, ofConst, ofCell, Nat.reduceEqDiff, reduceIte] <;> rfl) (by decide) ?_
  refine ro_nil ?_
  try simp only
  refine ex_cond (t := false) (by simp only [evalF, upd, arg0, argS, ofConst, ofCell, Nat.reduceEqDiff, reduceIte] <;> rfl) (fun h => by simp at h) (fun _ => ?_)
  refine ex_seq (ex_region ?_)
  refine ro_bin (by simp only [evalF, upd, arg0, argS, ofConst, ofCell, Nat.reduceEqDiff, reduceIte] <;> rfl) (by simp only [evalF, upd, arg0, argS, ofConst, ofCell, Nat.reduceEqDiff, reduceIte] <;> rfl) (by exact (eql_f (by decide))) (by decide) ?_
  refine ro_assign (by simp only [evalF, upd, arg0, argS, ofConst, ofCell, Nat.reduceEqDiff, reduceIte] <;> rfl) (by decide) ?_
  refine ro_nil ?_
  try simp only
  refine ex_cond (t := false) (by simp only [evalF, upd, arg0, argS, ofConst, ofCell, Nat.reduceEqDiff, reduceIte] <;> rfl) (fun h => by simp at h) (fun _ => ?_)
  refine ex_seq (ex_region ?_)
  refine ro_bin (by simp only [evalF, upd, arg0, argS, ofConst, ofCell, Nat.reduceEqDiff, reduceIte] <;> rfl) (by simp only [evalF, upd, arg0, argS, ofConst, ofCell, Nat.reduceEqDiff, reduceIte] <;> rfl) (by exact (eql_f (by decide))) (by decide) ?_
  refine ro_assign (by simp only [evalF, upd, arg0, argS, ofConst, ofCell, Nat.reduceEqDiff, reduceIte] <;> rfl) (by decide) ?_
  refine ro_nil ?_
  try simp only
  refine ex_cond (t := false) (by simp only [evalF, upd, arg0, argS, ofConst, ofCell, Nat.reduceEqDiff, reduceIte] <;> rfl) (fun h => by simp at h) (fun _ => ?_)
  refine ex_seq (ex_region ?_)
  refine ro_bin (by simp only [evalF, upd, arg0, argS, ofConst, ofCell, Nat.reduceEqDiff, reduceIte] <;> rfl) (by simp only [evalF, upd, arg0, argS, ofConst, ofCell, Nat.reduceEqDiff, reduceIte] <;> rfl) (by exact (eql_t rfl)) (by decide) ?_
  refine ro_assign (by simp only [evalF, upd, arg0, argS, ofConst, ofCell, Nat.reduceEqDiff, reduceIte] <;> rfl) (by decide) ?_
  refine ro_nil ?_
  try simp only
  refine ex_cond (t := true) (by simp only [evalF, upd, arg0, argS, ofConst, ofCell, Nat.reduceEqDiff, reduceIte] <;> rfl) (fun _ => ?_) (fun h => by simp at h)
  refine ex_draw keyStat ?_
  refine rd_val (v := .ptr idm 1 0) rfl (by simp [primA, evalF, upd, argsF]) (by decide) ?_
  refine rd_val (v := .ptr idm 1 0) rfl (by simp [primA, evalF, upd]) (by decide) ?_
  refine rd_val (v := .ptr idm 1 (0 + 5)) rfl (by simp only [primA, evalF, upd, Nat.reduceEqDiff, reduceIte, fa30_5, Option.map_some]) (by decide) ?_
  refine rd_val (v := .slice idm 1 (0 + 5 + 0) 32 32 1 true) rfl (by simp only [primA, evalF, upd, Nat.reduceEqDiff, reduceIte, Option.map_none, slice26, Option.map_some]) (by decide) ?_
  refine rd_val (v := .ptr idr 1 0) rfl (by simp [primA, evalF, upd, argsF]) (by decide) ?_
  refine rd_call (f := 44) («as» := [.ptr idr 1 0, .pv (.int .i64 (32 : Nat))]) (by simp [evalF, upd, ofConst, ofCell]) plains_44 rfl (take_calls facts plains 10000 (d + 2) plains_27 32 hrd) (by decide) ?_
  rintro v2 h h' hh hn ⟨hr2, ho2, hrd2, hk2⟩
  have hnb := hk2.1
  have hpm2 := pm_keepR hpm hk2
  obtain ⟨L, D, g1, g2, g3, g4, g5⟩ := hpm2.ex
  obtain ⟨z, hcp⟩ := copy_key hpm.key g1 hr2 take_all
  refine rd_upd (dst := some 64) (v := z) rfl (by simp only [primA, List.map_cons, List.map_nil, evalF, upd, Nat.reduceEqDiff, reduceIte]; exact hcp) (look_live g1) (fun e he => by cases he; decide) ?_
  refine rd_nil ⟨dyn_of rfl (fun p hp' => ?_), ?_⟩
  · have hp'' : p ∈ needs (regOf Try.f26 15) := hp'
    rw [keyNeeds] at hp''
    simp at hp''
  try simp only
  refine ⟨.tuple [], rfl, ?_⟩
  have hkl : (keyR m b e).length = 32 := by
    unfold keyR
    split
    · assumption
    · exact hpm.key
  have hrd3 : Rd (hf h') h'.length idr q (takeR b e 32).2.1 (takeR b e 32).2.2 := by rw [hnb]; exact hrd2
  exact fld_trans hrd.le hk2 (fld_store (m := m) (m' := { m with key := keyR m b e }) hpm2 hrd3 g2 g3 g4 g5 hkl rfl rfl)
end Go.Proofs.Ytlinbbjobjnipaa
