/- The document's Encode. Printed by gen_refenc.py. -/
import Derived.Test.YtlinbbjobjnipaaG3
import Derived.Test.YtlinbbjobjnipaaG4
set_option linter.unusedVariables false
set_option linter.unusedSimpArgs false
set_option linter.unusedSectionVars false
namespace Go.Proofs.Ytlinbbjobjnipaa
open Go AI

set_option maxHeartbeats 4000000
set_option maxRecDepth 10000

/-! What the document writes, told plainly. -/

def fieldW (m : M) (s : List Int × Int) (f : Nat) : List Int × Int :=
  match f with
  | 0 => (s.1 ++ [u8 m.pred], wrongE s.2 (nodeBad m.pred (-1)) 1)
  | 1 => (s.1 ++ [u8 m.node], wrongE s.2 (nodeBad m.node 0) 1)
  | 2 => (s.1 ++ (u8 m.list.length :: m.list.map u8), listW (wrongE s.2 (decide ((m.list.length : Int) > 10)) 4) m.list)
  | 3 => (s.1 ++ [if m.done then 1 else 0], s.2)
  | 4 => (s.1 ++ [u8 m.err], wrongE s.2 (decide (m.err < 0) || decide (m.err > 20)) 1)
  | 5 => (s.1 ++ m.key, s.2)
  | 6 => (s.1 ++ (u8 ((m.data.length : Int) / 256) :: u8 m.data.length :: m.data), wrongE s.2 (decide ((m.data.length : Int) > 6000)) 5)
  | _ => (s.1 ++ [u8 (m.lease / 16777216), u8 (m.lease / 65536), u8 (m.lease / 256), u8 m.lease], wrongE s.2 (decide (m.lease < 1) || decide (m.lease > 1000)) 1)

theorem wrong_stuck {e : Int} (is : Bool) (x : Int) (h : e ≠ 0) : wrongE e is x = e := by
  unfold wrongE
  rw [if_neg (by simp [h])]

theorem listW_stuck {e : Int} (h : e ≠ 0) : ∀ l : List Int, listW e l = e
  | [] => rfl
  | a :: l => by
    show listW (wrongE e (nodeBad a 0) 1) l = e
    rw [wrong_stuck _ _ h, listW_stuck h l]

theorem fieldW_stuck (m : M) (s : List Int × Int) (f : Nat) (h : s.2 ≠ 0) : (fieldW m s f).2 = s.2 := by
  unfold fieldW
  split <;> first
    | rfl
    | exact wrong_stuck _ _ h
    | (show listW (wrongE _ _ _) _ = _
       rw [wrong_stuck _ _ h, listW_stuck h])

theorem wrong_0 (is : Bool) (x : Int) : wrongE 0 is x = if is = true then x else 0 := by
  unfold wrongE
  cases is <;> rfl

theorem nodeBad_0 (n : Int) : nodeBad n 0 = !isNode n := by
  unfold nodeBad isNode
  by_cases h1 : n < 0 <;> by_cases h2 : n ≥ 10 <;> simp [h1, h2] <;> omega

theorem listW_0 : ∀ l : List Int, listW 0 l = if l.all isNode = true then 0 else 1
  | [] => rfl
  | a :: l => by
    show listW (wrongE 0 (nodeBad a 0) 1) l = _
    rw [wrong_0, nodeBad_0]
    cases h : isNode a with
    | true =>
      rw [if_neg (by simp), listW_0 l]
      simp [h]
    | false =>
      rw [if_pos (by simp), listW_stuck (by decide)]
      simp [h]

def AgreeW (r : Except Int (List Int)) (b : List Int) (s : List Int × Int) : Prop :=
  match r with
  | .ok x => s = (b ++ x, 0)
  | .error e => s.2 = e ∧ e ≠ 0

theorem agreeW_if {c : Prop} [Decidable c] {r1 r2 : Except Int (List Int)} {b : List Int} {s : List Int × Int} (h1 : c → AgreeW r1 b s) (h2 : ¬ c → AgreeW r2 b s) : AgreeW (if c then r1 else r2) b s := by
  split
  · rename_i h; exact h1 h
  · rename_i h; exact h2 h

theorem agW_bad {b x : List Int} {is : Bool} {e : Int} (h : is = true) (he : e ≠ 0) : AgreeW (.error e) b (x, wrongE 0 is e) := ⟨by show wrongE 0 is e = e; rw [wrong_0, if_pos h], he⟩
theorem agW_ok {b x : List Int} {is : Bool} {e : Int} (h : is = false) : AgreeW (.ok x) b (b ++ x, wrongE 0 is e) := by
  show (b ++ x, wrongE 0 is e) = _
  rw [wrong_0, if_neg (by simp [h])]

/-- A field, as the document writes it. -/
theorem fieldW_ok (m : M) (b : List Int) : ∀ f, AgreeW (fieldE m f) b (fieldW m (b, 0) f)
  | 0 => by
    have hbad : nodeBad m.pred (-1) = decide (m.pred ≠ -1 ∧ isNode m.pred = false) := by
      unfold nodeBad isNode
      rw [Bool.eq_iff_iff]
      simp only [Bool.or_eq_true, decide_eq_true_eq, Bool.and_eq_false_iff, decide_eq_false_iff_not]
      omega
    exact agreeW_if (fun h => agW_bad (by rw [hbad]; exact decide_eq_true h) (by decide)) (fun h => agW_ok (by rw [hbad]; exact decide_eq_false h))
  | 1 => agreeW_if (fun h => agW_bad (by rw [nodeBad_0, h]; rfl) (by decide)) (fun h => agW_ok (by rw [nodeBad_0]; simpa using h))
  | 2 => by
    show AgreeW (if m.list.length > 10 then .error 4 else if m.list.all isNode then .ok _ else .error 1) b (_, listW (wrongE 0 _ 4) m.list)
    refine agreeW_if (fun h => ?_) (fun h => ?_)
    · rw [wrong_0, if_pos (decide_eq_true (show (m.list.length : Int) > 10 by omega))]
      exact ⟨listW_stuck (by decide) _, by decide⟩
    · have e1 : wrongE 0 (decide ((m.list.length : Int) > 10)) 4 = 0 := by rw [wrong_0, decide_eq_false (show ¬ (m.list.length : Int) > 10 by omega)]; rfl
      rw [e1]
      refine agreeW_if (fun h2 => ?_) (fun h2 => ?_)
      · show (_, listW 0 m.list) = _
        rw [listW_0, if_pos h2]
      · refine ⟨?_, by decide⟩
        show listW 0 m.list = 1
        rw [listW_0, if_neg h2]
  | 3 => rfl
  | 4 => agreeW_if (fun h => agW_bad (by simpa using h) (by decide)) (fun h => agW_ok (by simp; omega))
  | 5 => rfl
  | 6 => agreeW_if (fun h => agW_bad (by simp; omega) (by decide)) (fun h => agW_ok (by simp; omega))
  | _ + 7 => agreeW_if (fun h => agW_bad (by simpa using h) (by decide)) (fun h => agW_ok (by simp; omega))

theorem foldW_stuck (m : M) : ∀ (fs : List Nat) (s : List Int × Int), s.2 ≠ 0 → (fs.foldl (fieldW m) s).2 = s.2
  | [], s, h => rfl
  | f :: fs, s, h => by
    rw [List.foldl_cons, foldW_stuck m fs _ (by rw [fieldW_stuck m s f h]; exact h), fieldW_stuck m s f h]

theorem fieldsW_ok (m : M) : ∀ (fs : List Nat) (b : List Int), match fieldsE m fs b with
    | .ok r => fs.foldl (fieldW m) (b, 0) = (r, 0)
    | .error e => (fs.foldl (fieldW m) (b, 0)).2 = e ∧ e ≠ 0
  | [], b => rfl
  | f :: fs, b => by
    have h := fieldW_ok m b f
    rw [fieldsE]
    cases hE : fieldE m f with
    | ok r =>
      rw [hE] at h
      have h : fieldW m (b, 0) f = (b ++ r, 0) := h
      rw [List.foldl_cons, h]
      exact fieldsW_ok m fs (b ++ r)
    | error e =>
      rw [hE] at h
      obtain ⟨h1, h2⟩ := h
      show (List.foldl (fieldW m) _ (f :: fs)).2 = e ∧ e ≠ 0
      rw [List.foldl_cons, foldW_stuck m fs _ (by rw [h1]; exact h2)]
      exact ⟨h1, h2⟩

/-! The walk. -/

/-- The message's box. -/
structure Mb (hp : Hp) (nb i1 q : Nat) (m : M) (L D : AV) : Prop where
  l : AI.look hp i1 1 = some (mcells m L D)
  lt : i1 < q
  k : m.key.length = 32
  rl : Row hp nb L (ints m.list)
  rd : Row hp nb D (u8s m.data)
  ol : ∀ id, ownOf L = some id → id < q
  od : ∀ id, ownOf D = some id → id < q
  sl : m.list.length < 9000
  sd : m.data.length < 9999

theorem mb_keep {hp hp' : Hp} {nb nb' i1 q idw : Nat} {m : M} {L D v : AV} {bs : List Int} {e : Int} (h : Mb hp nb i1 q m L D) (hs : WrS hp nb idw q bs e v hp' nb') : Mb hp' nb' i1 q m L D :=
  ⟨by rw [look_at 1 (hs.2.2.2.1 i1 h.lt)]; exact h.l, h.lt, h.k, h.rl.keep hs.2.2.1 (fun id _ ho => hs.2.2.2.1 id (h.ol id ho)), h.rd.keep hs.2.2.1 (fun id _ ho => hs.2.2.2.1 id (h.od id ho)), h.ol, h.od, h.sl, h.sd⟩

theorem plains_22 : plains 22 = false := rfl
theorem plains_23 : plains 23 = false := rfl
theorem plains_24 : plains 24 = false := rfl
theorem plains_25 : plains 25 = false := rfl

theorem key_row {hp : Hp} {nb i1 : Nat} {m : M} {L D : AV} (hk : m.key.length = 32) (hl : AI.look hp i1 1 = some (mcells m L D)) (hi : i1 < nb) : Row hp nb (.slice i1 1 (0 + 5 + 0) 32 32 1 true) (u8s m.key) :=
  .own _ _ _ _ _ _ _ _ (by simp [u8s, hk]) hi (look_blk hl) (by rw [mc_length hk]; omega) (Nat.le_refl _) (mcKey hk)

theorem mb_lt {hp : Hp} {nb i1 q idw : Nat} {m : M} {L D : AV} {bs : List Int} {e : Int} (h : Mb hp nb i1 q m L D) (hw : Wr hp nb idw q bs e) : i1 < nb := by
  have := h.lt; have := hw.le; have := hw.lt; omega


theorem sw14_1 (d : Nat) {hp0 : Hp} {nb0 idw q i1 : Nat} {m : M} {L D : AV} {g : Gm} {bs : List Int} (hk : m.kind = 1) (mb0 : Mb hp0 nb0 i1 q m L D) (hw0 : Wr hp0 nb0 idw q bs 0) (hbs : bs.length ≤ 10) (g1 : g 1 = .ptr i1 1 0) (g4 : g 4 = .ptr idw 1 0) :
    EX Try.prog plains (callA Try.prog facts plains 10000 (d + 3)) (orS facts (pureOf (callA Try.prog facts plains 10000 (d + 3)))) 10000 145 (codeAt (bodyOf Try.f14) [true, true, true, false]) g hp0 nb0 fun x g' hp' nb' => x = .normal ∧ g' 1 = .ptr i1 1 0 ∧ g' 4 = .ptr idw 1 0 ∧
      WrS hp0 nb0 idw q ([].foldl (fieldW m) (bs, 0)).1 ([].foldl (fieldW m) (bs, 0)).2 (.tuple []) hp' nb' := by
  simp only [List.foldl_cons, List.foldl_nil, fieldW]
  have hS0 : WrS hp0 nb0 idw q bs 0 (.tuple []) hp0 nb0 := ⟨rfl, hw0, Nat.le_refl _, fun _ _ => rfl, fun h => h⟩
  show EX _ _ _ _ _ 145 _ _ _ _ _
  simp only [codeAt, bodyOf, Try.f14, if_true, if_false, Bool.false_eq_true]
  refine ex_seq (ex_region ?_)
  refine ro_fieldAddr (by simp only [evalF, upd, arg0, argS, ofConst, ofCell, Nat.reduceEqDiff, reduceIte, g1, g4] <;> rfl) (by exact (fa30_0 _ _ _)) (by decide) ?_
  refine ro_load (by simp only [evalF, upd, arg0, argS, ofConst, ofCell, Nat.reduceEqDiff, reduceIte, g1, g4] <;> rfl) (by exact (load1 ag3 mb0.l mc0)) (by decide) ?_
  refine ro_nil ?_
  try simp only
  refine ex_block ?_
  refine ex_seq (ex_region ?_)
  refine ro_bin (by simp only [evalF, upd, arg0, argS, ofConst, ofCell, Nat.reduceEqDiff, reduceIte, g1, g4] <;> rfl) (by simp only [evalF, upd, arg0, argS, ofConst, ofCell, Nat.reduceEqDiff, reduceIte, g1, g4] <;> rfl) (by exact (eql_f (by omega))) (by decide) ?_
  refine ro_assign (by simp only [evalF, upd, arg0, argS, ofConst, ofCell, Nat.reduceEqDiff, reduceIte, g1, g4] <;> rfl) (by decide) ?_
  refine ro_nil ?_
  try simp only
  refine ex_cond (t := false) (by simp only [evalF, upd, arg0, argS, ofConst, ofCell, Nat.reduceEqDiff, reduceIte, g1, g4] <;> rfl) (fun h => by simp at h) (fun h => ?_)
  refine ex_seq (ex_region ?_)
  refine ro_bin (by simp only [evalF, upd, arg0, argS, ofConst, ofCell, Nat.reduceEqDiff, reduceIte, g1, g4] <;> rfl) (by simp only [evalF, upd, arg0, argS, ofConst, ofCell, Nat.reduceEqDiff, reduceIte, g1, g4] <;> rfl) (by exact (eql_f (by omega))) (by decide) ?_
  refine ro_assign (by simp only [evalF, upd, arg0, argS, ofConst, ofCell, Nat.reduceEqDiff, reduceIte, g1, g4] <;> rfl) (by decide) ?_
  refine ro_nil ?_
  try simp only
  refine ex_cond (t := false) (by simp only [evalF, upd, arg0, argS, ofConst, ofCell, Nat.reduceEqDiff, reduceIte, g1, g4] <;> rfl) (fun h => by simp at h) (fun h => ?_)
  refine ex_seq (ex_region ?_)
  refine ro_bin (by simp only [evalF, upd, arg0, argS, ofConst, ofCell, Nat.reduceEqDiff, reduceIte, g1, g4] <;> rfl) (by simp only [evalF, upd, arg0, argS, ofConst, ofCell, Nat.reduceEqDiff, reduceIte, g1, g4] <;> rfl) (by exact (eql_f (by omega))) (by decide) ?_
  refine ro_assign (by simp only [evalF, upd, arg0, argS, ofConst, ofCell, Nat.reduceEqDiff, reduceIte, g1, g4] <;> rfl) (by decide) ?_
  refine ro_nil ?_
  try simp only
  refine ex_cond (t := false) (by simp only [evalF, upd, arg0, argS, ofConst, ofCell, Nat.reduceEqDiff, reduceIte, g1, g4] <;> rfl) (fun h => by simp at h) (fun h => ?_)
  refine ex_seq (ex_seq (ex_region ?_))
  refine ro_bin (by simp only [evalF, upd, arg0, argS, ofConst, ofCell, Nat.reduceEqDiff, reduceIte, g1, g4] <;> rfl) (by simp only [evalF, upd, arg0, argS, ofConst, ofCell, Nat.reduceEqDiff, reduceIte, g1, g4] <;> rfl) (by exact (eql_f (by omega))) (by decide) ?_
  refine ro_assign (by simp only [evalF, upd, arg0, argS, ofConst, ofCell, Nat.reduceEqDiff, reduceIte, g1, g4] <;> rfl) (by decide) ?_
  refine ro_nil ?_
  try simp only
  refine ex_cond (t := false) (by simp only [evalF, upd, arg0, argS, ofConst, ofCell, Nat.reduceEqDiff, reduceIte, g1, g4] <;> rfl) (fun h => by simp at h) (fun h => ?_)
  refine ex_seq (ex_region ?_)
  refine ro_bin (by simp only [evalF, upd, arg0, argS, ofConst, ofCell, Nat.reduceEqDiff, reduceIte, g1, g4] <;> rfl) (by simp only [evalF, upd, arg0, argS, ofConst, ofCell, Nat.reduceEqDiff, reduceIte, g1, g4] <;> rfl) (by exact (eql_f (by omega))) (by decide) ?_
  refine ro_assign (by simp only [evalF, upd, arg0, argS, ofConst, ofCell, Nat.reduceEqDiff, reduceIte, g1, g4] <;> rfl) (by decide) ?_
  refine ro_nil ?_
  try simp only
  refine ex_cond (t := false) (by simp only [evalF, upd, arg0, argS, ofConst, ofCell, Nat.reduceEqDiff, reduceIte, g1, g4] <;> rfl) (fun h => by simp at h) (fun h => ?_)
  refine ex_region ?_
  refine ro_bin (by simp only [evalF, upd, arg0, argS, ofConst, ofCell, Nat.reduceEqDiff, reduceIte, g1, g4] <;> rfl) (by simp only [evalF, upd, arg0, argS, ofConst, ofCell, Nat.reduceEqDiff, reduceIte, g1, g4] <;> rfl) (by exact (eql_f (by omega))) (by decide) ?_
  refine ro_assign (by simp only [evalF, upd, arg0, argS, ofConst, ofCell, Nat.reduceEqDiff, reduceIte, g1, g4] <;> rfl) (by decide) ?_
  refine ro_nil ?_
  try simp only
  refine ex_cond (t := false) (by simp only [evalF, upd, arg0, argS, ofConst, ofCell, Nat.reduceEqDiff, reduceIte, g1, g4] <;> rfl) (fun h => by simp at h) (fun h => ?_)
  refine ex_seq (ex_region ?_)
  refine ro_bin (by simp only [evalF, upd, arg0, argS, ofConst, ofCell, Nat.reduceEqDiff, reduceIte, g1, g4] <;> rfl) (by simp only [evalF, upd, arg0, argS, ofConst, ofCell, Nat.reduceEqDiff, reduceIte, g1, g4] <;> rfl) (by exact (eql_f (by omega))) (by decide) ?_
  refine ro_assign (by simp only [evalF, upd, arg0, argS, ofConst, ofCell, Nat.reduceEqDiff, reduceIte, g1, g4] <;> rfl) (by decide) ?_
  refine ro_nil ?_
  try simp only
  refine ex_cond (t := false) (by simp only [evalF, upd, arg0, argS, ofConst, ofCell, Nat.reduceEqDiff, reduceIte, g1, g4] <;> rfl) (fun h => by simp at h) (fun h => ?_)
  refine ex_seq (ex_region ?_)
  refine ro_bin (by simp only [evalF, upd, arg0, argS, ofConst, ofCell, Nat.reduceEqDiff, reduceIte, g1, g4] <;> rfl) (by simp only [evalF, upd, arg0, argS, ofConst, ofCell, Nat.reduceEqDiff, reduceIte, g1, g4] <;> rfl) (by exact (eql_f (by omega))) (by decide) ?_
  refine ro_assign (by simp only [evalF, upd, arg0, argS, ofConst, ofCell, Nat.reduceEqDiff, reduceIte, g1, g4] <;> rfl) (by decide) ?_
  refine ro_nil ?_
  try simp only
  refine ex_cond (t := false) (by simp only [evalF, upd, arg0, argS, ofConst, ofCell, Nat.reduceEqDiff, reduceIte, g1, g4] <;> rfl) (fun h => by simp at h) (fun h => ?_)
  refine ex_seq (ex_seq (ex_region ?_))
  refine ro_bin (by simp only [evalF, upd, arg0, argS, ofConst, ofCell, Nat.reduceEqDiff, reduceIte, g1, g4] <;> rfl) (by simp only [evalF, upd, arg0, argS, ofConst, ofCell, Nat.reduceEqDiff, reduceIte, g1, g4] <;> rfl) (by exact (eql_f (by omega))) (by decide) ?_
  refine ro_assign (by simp only [evalF, upd, arg0, argS, ofConst, ofCell, Nat.reduceEqDiff, reduceIte, g1, g4] <;> rfl) (by decide) ?_
  refine ro_nil ?_
  try simp only
  refine ex_cond (t := false) (by simp only [evalF, upd, arg0, argS, ofConst, ofCell, Nat.reduceEqDiff, reduceIte, g1, g4] <;> rfl) (fun h => by simp at h) (fun h => ?_)
  refine ex_region ?_
  refine ro_bin (by simp only [evalF, upd, arg0, argS, ofConst, ofCell, Nat.reduceEqDiff, reduceIte, g1, g4] <;> rfl) (by simp only [evalF, upd, arg0, argS, ofConst, ofCell, Nat.reduceEqDiff, reduceIte, g1, g4] <;> rfl) (by exact (eql_f (by omega))) (by decide) ?_
  refine ro_assign (by simp only [evalF, upd, arg0, argS, ofConst, ofCell, Nat.reduceEqDiff, reduceIte, g1, g4] <;> rfl) (by decide) ?_
  refine ro_nil ?_
  try simp only
  refine ex_cond (t := false) (by simp only [evalF, upd, arg0, argS, ofConst, ofCell, Nat.reduceEqDiff, reduceIte, g1, g4] <;> rfl) (fun h => by simp at h) (fun h => ?_)
  refine ex_seq (ex_region ?_)
  refine ro_bin (by simp only [evalF, upd, arg0, argS, ofConst, ofCell, Nat.reduceEqDiff, reduceIte, g1, g4] <;> rfl) (by simp only [evalF, upd, arg0, argS, ofConst, ofCell, Nat.reduceEqDiff, reduceIte, g1, g4] <;> rfl) (by exact (eql_f (by omega))) (by decide) ?_
  refine ro_assign (by simp only [evalF, upd, arg0, argS, ofConst, ofCell, Nat.reduceEqDiff, reduceIte, g1, g4] <;> rfl) (by decide) ?_
  refine ro_nil ?_
  try simp only
  refine ex_cond (t := false) (by simp only [evalF, upd, arg0, argS, ofConst, ofCell, Nat.reduceEqDiff, reduceIte, g1, g4] <;> rfl) (fun h => by simp at h) (fun h => ?_)
  refine ex_skip ?_
  try simp only
  exact ⟨by first | rfl | trivial, by simp [upd, g1], by simp [upd, g4], hS0⟩

theorem sw14_2 (d : Nat) {hp0 : Hp} {nb0 idw q i1 : Nat} {m : M} {L D : AV} {g : Gm} {bs : List Int} (hk : m.kind = 2) (mb0 : Mb hp0 nb0 i1 q m L D) (hw0 : Wr hp0 nb0 idw q bs 0) (hbs : bs.length ≤ 10) (g1 : g 1 = .ptr i1 1 0) (g4 : g 4 = .ptr idw 1 0) :
    EX Try.prog plains (callA Try.prog facts plains 10000 (d + 3)) (orS facts (pureOf (callA Try.prog facts plains 10000 (d + 3)))) 10000 145 (codeAt (bodyOf Try.f14) [true, true, true, false]) g hp0 nb0 fun x g' hp' nb' => x = .normal ∧ g' 1 = .ptr i1 1 0 ∧ g' 4 = .ptr idw 1 0 ∧
      WrS hp0 nb0 idw q ([0, 2].foldl (fieldW m) (bs, 0)).1 ([0, 2].foldl (fieldW m) (bs, 0)).2 (.tuple []) hp' nb' := by
  simp only [List.foldl_cons, List.foldl_nil, fieldW]
  have hS0 : WrS hp0 nb0 idw q bs 0 (.tuple []) hp0 nb0 := ⟨rfl, hw0, Nat.le_refl _, fun _ _ => rfl, fun h => h⟩
  show EX _ _ _ _ _ 145 _ _ _ _ _
  simp only [codeAt, bodyOf, Try.f14, if_true, if_false, Bool.false_eq_true]
  refine ex_seq (ex_region ?_)
  refine ro_fieldAddr (by simp only [evalF, upd, arg0, argS, ofConst, ofCell, Nat.reduceEqDiff, reduceIte, g1, g4] <;> rfl) (by exact (fa30_0 _ _ _)) (by decide) ?_
  refine ro_load (by simp only [evalF, upd, arg0, argS, ofConst, ofCell, Nat.reduceEqDiff, reduceIte, g1, g4] <;> rfl) (by exact (load1 ag3 mb0.l mc0)) (by decide) ?_
  refine ro_nil ?_
  try simp only
  refine ex_block ?_
  refine ex_seq (ex_region ?_)
  refine ro_bin (by simp only [evalF, upd, arg0, argS, ofConst, ofCell, Nat.reduceEqDiff, reduceIte, g1, g4] <;> rfl) (by simp only [evalF, upd, arg0, argS, ofConst, ofCell, Nat.reduceEqDiff, reduceIte, g1, g4] <;> rfl) (by exact (eql_t (by omega))) (by decide) ?_
  refine ro_assign (by simp only [evalF, upd, arg0, argS, ofConst, ofCell, Nat.reduceEqDiff, reduceIte, g1, g4] <;> rfl) (by decide) ?_
  refine ro_nil ?_
  try simp only
  refine ex_cond (t := true) (by simp only [evalF, upd, arg0, argS, ofConst, ofCell, Nat.reduceEqDiff, reduceIte, g1, g4] <;> rfl) (fun h => ?_) (fun h => by simp at h)
  refine ex_seq (ex_region ?_)
  refine ro_move (by simp only [evalF, upd, arg0, argS, ofConst, ofCell, Nat.reduceEqDiff, reduceIte, g1, g4] <;> rfl) (by decide) ?_
  refine ro_fieldAddr (by simp only [evalF, upd, arg0, argS, ofConst, ofCell, Nat.reduceEqDiff, reduceIte, g1, g4] <;> rfl) (by exact (fa30_2 _ _ _)) (by decide) ?_
  refine ro_load (by simp only [evalF, upd, arg0, argS, ofConst, ofCell, Nat.reduceEqDiff, reduceIte, g1, g4] <;> rfl) (by exact (load1 ag3 mb0.l mc2)) (by decide) ?_
  refine ro_call (f := 21) («as» := [.ptr idw 1 0, .pv (.int .i64 m.pred), .pv (.int .i64 (-1))]) rfl (by simp [evalF, upd, arg0, argS, ofConst, ofCell, Nat.reduceEqDiff, reduceIte, g1, g4]) plains_21 rfl (node21 (d + 1) m.pred (-1) hw0 (by have := mb0.k; have := mb0.sd; have := mb0.sl; simp; omega)) (by decide) ?_
  rintro v1 hp1 nb1 hT1
  obtain ⟨rfl, hw1, _, _, _⟩ := id hT1
  have hS1 := wrs_trans hS0 hT1
  have mb1 := mb_keep mb0 hT1
  refine ro_nil ?_
  try simp only
  refine ex_region ?_
  refine ro_move (by simp only [evalF, upd, arg0, argS, ofConst, ofCell, Nat.reduceEqDiff, reduceIte, g1, g4] <;> rfl) (by decide) ?_
  refine ro_fieldAddr (by simp only [evalF, upd, arg0, argS, ofConst, ofCell, Nat.reduceEqDiff, reduceIte, g1, g4] <;> rfl) (by exact (fa30_3 _ _ _)) (by decide) ?_
  refine ro_load (by simp only [evalF, upd, arg0, argS, ofConst, ofCell, Nat.reduceEqDiff, reduceIte, g1, g4] <;> rfl) (by exact (load1 ag24 mb1.l mc3)) (by decide) ?_
  refine ro_call (f := 22) («as» := [.ptr idw 1 0, L]) rfl (by simp [evalF, upd, arg0, argS, ofConst, ofCell, Nat.reduceEqDiff, reduceIte, g1, g4]) plains_22 rfl (list22 d mb1.rl mb1.ol mb1.sl hw1 (by have := mb1.k; have := mb1.sd; have := mb1.sl; simp; omega)) (by decide) ?_
  rintro v2 hp2 nb2 hT2
  obtain ⟨rfl, hw2, _, _, _⟩ := id hT2
  have hS2 := wrs_trans hS1 hT2
  have mb2 := mb_keep mb1 hT2
  refine ro_nil ?_
  try simp only
  exact ⟨by first | rfl | trivial, by simp [upd, g1], by simp [upd, g4], hS2⟩

theorem sw14_3 (d : Nat) {hp0 : Hp} {nb0 idw q i1 : Nat} {m : M} {L D : AV} {g : Gm} {bs : List Int} (hk : m.kind = 3) (mb0 : Mb hp0 nb0 i1 q m L D) (hw0 : Wr hp0 nb0 idw q bs 0) (hbs : bs.length ≤ 10) (g1 : g 1 = .ptr i1 1 0) (g4 : g 4 = .ptr idw 1 0) :
    EX Try.prog plains (callA Try.prog facts plains 10000 (d + 3)) (orS facts (pureOf (callA Try.prog facts plains 10000 (d + 3)))) 10000 145 (codeAt (bodyOf Try.f14) [true, true, true, false]) g hp0 nb0 fun x g' hp' nb' => x = .normal ∧ g' 1 = .ptr i1 1 0 ∧ g' 4 = .ptr idw 1 0 ∧
      WrS hp0 nb0 idw q ([1].foldl (fieldW m) (bs, 0)).1 ([1].foldl (fieldW m) (bs, 0)).2 (.tuple []) hp' nb' := by
  simp only [List.foldl_cons, List.foldl_nil, fieldW]
  have hS0 : WrS hp0 nb0 idw q bs 0 (.tuple []) hp0 nb0 := ⟨rfl, hw0, Nat.le_refl _, fun _ _ => rfl, fun h => h⟩
  show EX _ _ _ _ _ 145 _ _ _ _ _
  simp only [codeAt, bodyOf, Try.f14, if_true, if_false, Bool.false_eq_true]
  refine ex_seq (ex_region ?_)
  refine ro_fieldAddr (by simp only [evalF, upd, arg0, argS, ofConst, ofCell, Nat.reduceEqDiff, reduceIte, g1, g4] <;> rfl) (by exact (fa30_0 _ _ _)) (by decide) ?_
  refine ro_load (by simp only [evalF, upd, arg0, argS, ofConst, ofCell, Nat.reduceEqDiff, reduceIte, g1, g4] <;> rfl) (by exact (load1 ag3 mb0.l mc0)) (by decide) ?_
  refine ro_nil ?_
  try simp only
  refine ex_block ?_
  refine ex_seq (ex_region ?_)
  refine ro_bin (by simp only [evalF, upd, arg0, argS, ofConst, ofCell, Nat.reduceEqDiff, reduceIte, g1, g4] <;> rfl) (by simp only [evalF, upd, arg0, argS, ofConst, ofCell, Nat.reduceEqDiff, reduceIte, g1, g4] <;> rfl) (by exact (eql_f (by omega))) (by decide) ?_
  refine ro_assign (by simp only [evalF, upd, arg0, argS, ofConst, ofCell, Nat.reduceEqDiff, reduceIte, g1, g4] <;> rfl) (by decide) ?_
  refine ro_nil ?_
  try simp only
  refine ex_cond (t := false) (by simp only [evalF, upd, arg0, argS, ofConst, ofCell, Nat.reduceEqDiff, reduceIte, g1, g4] <;> rfl) (fun h => by simp at h) (fun h => ?_)
  refine ex_seq (ex_region ?_)
  refine ro_bin (by simp only [evalF, upd, arg0, argS, ofConst, ofCell, Nat.reduceEqDiff, reduceIte, g1, g4] <;> rfl) (by simp only [evalF, upd, arg0, argS, ofConst, ofCell, Nat.reduceEqDiff, reduceIte, g1, g4] <;> rfl) (by exact (eql_t (by omega))) (by decide) ?_
  refine ro_assign (by simp only [evalF, upd, arg0, argS, ofConst, ofCell, Nat.reduceEqDiff, reduceIte, g1, g4] <;> rfl) (by decide) ?_
  refine ro_nil ?_
  try simp only
  refine ex_cond (t := true) (by simp only [evalF, upd, arg0, argS, ofConst, ofCell, Nat.reduceEqDiff, reduceIte, g1, g4] <;> rfl) (fun h => ?_) (fun h => by simp at h)
  refine ex_region ?_
  refine ro_move (by simp only [evalF, upd, arg0, argS, ofConst, ofCell, Nat.reduceEqDiff, reduceIte, g1, g4] <;> rfl) (by decide) ?_
  refine ro_fieldAddr (by simp only [evalF, upd, arg0, argS, ofConst, ofCell, Nat.reduceEqDiff, reduceIte, g1, g4] <;> rfl) (by exact (fa30_1 _ _ _)) (by decide) ?_
  refine ro_load (by simp only [evalF, upd, arg0, argS, ofConst, ofCell, Nat.reduceEqDiff, reduceIte, g1, g4] <;> rfl) (by exact (load1 ag3 mb0.l mc1)) (by decide) ?_
  refine ro_call (f := 21) («as» := [.ptr idw 1 0, .pv (.int .i64 m.node), .pv (.int .i64 0)]) rfl (by simp [evalF, upd, arg0, argS, ofConst, ofCell, Nat.reduceEqDiff, reduceIte, g1, g4]) plains_21 rfl (node21 (d + 1) m.node 0 hw0 (by have := mb0.k; have := mb0.sd; have := mb0.sl; simp; omega)) (by decide) ?_
  rintro v1 hp1 nb1 hT1
  obtain ⟨rfl, hw1, _, _, _⟩ := id hT1
  have hS1 := wrs_trans hS0 hT1
  have mb1 := mb_keep mb0 hT1
  refine ro_nil ?_
  try simp only
  exact ⟨by first | rfl | trivial, by simp [upd, g1], by simp [upd, g4], hS1⟩

theorem sw14_4 (d : Nat) {hp0 : Hp} {nb0 idw q i1 : Nat} {m : M} {L D : AV} {g : Gm} {bs : List Int} (hk : m.kind = 4) (mb0 : Mb hp0 nb0 i1 q m L D) (hw0 : Wr hp0 nb0 idw q bs 0) (hbs : bs.length ≤ 10) (g1 : g 1 = .ptr i1 1 0) (g4 : g 4 = .ptr idw 1 0) :
    EX Try.prog plains (callA Try.prog facts plains 10000 (d + 3)) (orS facts (pureOf (callA Try.prog facts plains 10000 (d + 3)))) 10000 145 (codeAt (bodyOf Try.f14) [true, true, true, false]) g hp0 nb0 fun x g' hp' nb' => x = .normal ∧ g' 1 = .ptr i1 1 0 ∧ g' 4 = .ptr idw 1 0 ∧
      WrS hp0 nb0 idw q ([4].foldl (fieldW m) (bs, 0)).1 ([4].foldl (fieldW m) (bs, 0)).2 (.tuple []) hp' nb' := by
  simp only [List.foldl_cons, List.foldl_nil, fieldW]
  have hS0 : WrS hp0 nb0 idw q bs 0 (.tuple []) hp0 nb0 := ⟨rfl, hw0, Nat.le_refl _, fun _ _ => rfl, fun h => h⟩
  show EX _ _ _ _ _ 145 _ _ _ _ _
  simp only [codeAt, bodyOf, Try.f14, if_true, if_false, Bool.false_eq_true]
  refine ex_seq (ex_region ?_)
  refine ro_fieldAddr (by simp only [evalF, upd, arg0, argS, ofConst, ofCell, Nat.reduceEqDiff, reduceIte, g1, g4] <;> rfl) (by exact (fa30_0 _ _ _)) (by decide) ?_
  refine ro_load (by simp only [evalF, upd, arg0, argS, ofConst, ofCell, Nat.reduceEqDiff, reduceIte, g1, g4] <;> rfl) (by exact (load1 ag3 mb0.l mc0)) (by decide) ?_
  refine ro_nil ?_
  try simp only
  refine ex_block ?_
  refine ex_seq (ex_region ?_)
  refine ro_bin (by simp only [evalF, upd, arg0, argS, ofConst, ofCell, Nat.reduceEqDiff, reduceIte, g1, g4] <;> rfl) (by simp only [evalF, upd, arg0, argS, ofConst, ofCell, Nat.reduceEqDiff, reduceIte, g1, g4] <;> rfl) (by exact (eql_f (by omega))) (by decide) ?_
  refine ro_assign (by simp only [evalF, upd, arg0, argS, ofConst, ofCell, Nat.reduceEqDiff, reduceIte, g1, g4] <;> rfl) (by decide) ?_
  refine ro_nil ?_
  try simp only
  refine ex_cond (t := false) (by simp only [evalF, upd, arg0, argS, ofConst, ofCell, Nat.reduceEqDiff, reduceIte, g1, g4] <;> rfl) (fun h => by simp at h) (fun h => ?_)
  refine ex_seq (ex_region ?_)
  refine ro_bin (by simp only [evalF, upd, arg0, argS, ofConst, ofCell, Nat.reduceEqDiff, reduceIte, g1, g4] <;> rfl) (by simp only [evalF, upd, arg0, argS, ofConst, ofCell, Nat.reduceEqDiff, reduceIte, g1, g4] <;> rfl) (by exact (eql_f (by omega))) (by decide) ?_
  refine ro_assign (by simp only [evalF, upd, arg0, argS, ofConst, ofCell, Nat.reduceEqDiff, reduceIte, g1, g4] <;> rfl) (by decide) ?_
  refine ro_nil ?_
  try simp only
  refine ex_cond (t := false) (by simp only [evalF, upd, arg0, argS, ofConst, ofCell, Nat.reduceEqDiff, reduceIte, g1, g4] <;> rfl) (fun h => by simp at h) (fun h => ?_)
  refine ex_seq (ex_region ?_)
  refine ro_bin (by simp only [evalF, upd, arg0, argS, ofConst, ofCell, Nat.reduceEqDiff, reduceIte, g1, g4] <;> rfl) (by simp only [evalF, upd, arg0, argS, ofConst, ofCell, Nat.reduceEqDiff, reduceIte, g1, g4] <;> rfl) (by exact (eql_t (by omega))) (by decide) ?_
  refine ro_assign (by simp only [evalF, upd, arg0, argS, ofConst, ofCell, Nat.reduceEqDiff, reduceIte, g1, g4] <;> rfl) (by decide) ?_
  refine ro_nil ?_
  try simp only
  refine ex_cond (t := true) (by simp only [evalF, upd, arg0, argS, ofConst, ofCell, Nat.reduceEqDiff, reduceIte, g1, g4] <;> rfl) (fun h => ?_) (fun h => by simp at h)
  refine ex_region ?_
  refine ro_move (by simp only [evalF, upd, arg0, argS, ofConst, ofCell, Nat.reduceEqDiff, reduceIte, g1, g4] <;> rfl) (by decide) ?_
  refine ro_fieldAddr (by simp only [evalF, upd, arg0, argS, ofConst, ofCell, Nat.reduceEqDiff, reduceIte, g1, g4] <;> rfl) (by exact (fa30_8 _ _ _)) (by decide) ?_
  refine ro_load (by simp only [evalF, upd, arg0, argS, ofConst, ofCell, Nat.reduceEqDiff, reduceIte, g1, g4] <;> rfl) (by exact (load1 ag28 mb0.l (mc39 mb0.k))) (by decide) ?_
  refine ro_call (f := 23) («as» := [.ptr idw 1 0, .pv (.int .i64 m.err)]) rfl (by simp [evalF, upd, arg0, argS, ofConst, ofCell, Nat.reduceEqDiff, reduceIte, g1, g4]) plains_23 rfl (err23 (d + 1) m.err hw0 (by have := mb0.k; have := mb0.sd; have := mb0.sl; simp; omega)) (by decide) ?_
  rintro v1 hp1 nb1 hT1
  obtain ⟨rfl, hw1, _, _, _⟩ := id hT1
  have hS1 := wrs_trans hS0 hT1
  have mb1 := mb_keep mb0 hT1
  refine ro_nil ?_
  try simp only
  exact ⟨by first | rfl | trivial, by simp [upd, g1], by simp [upd, g4], hS1⟩

theorem sw14_5 (d : Nat) {hp0 : Hp} {nb0 idw q i1 : Nat} {m : M} {L D : AV} {g : Gm} {bs : List Int} (hk : m.kind = 5) (mb0 : Mb hp0 nb0 i1 q m L D) (hw0 : Wr hp0 nb0 idw q bs 0) (hbs : bs.length ≤ 10) (g1 : g 1 = .ptr i1 1 0) (g4 : g 4 = .ptr idw 1 0) :
    EX Try.prog plains (callA Try.prog facts plains 10000 (d + 3)) (orS facts (pureOf (callA Try.prog facts plains 10000 (d + 3)))) 10000 145 (codeAt (bodyOf Try.f14) [true, true, true, false]) g hp0 nb0 fun x g' hp' nb' => x = .normal ∧ g' 1 = .ptr i1 1 0 ∧ g' 4 = .ptr idw 1 0 ∧
      WrS hp0 nb0 idw q ([5].foldl (fieldW m) (bs, 0)).1 ([5].foldl (fieldW m) (bs, 0)).2 (.tuple []) hp' nb' := by
  simp only [List.foldl_cons, List.foldl_nil, fieldW]
  have hS0 : WrS hp0 nb0 idw q bs 0 (.tuple []) hp0 nb0 := ⟨rfl, hw0, Nat.le_refl _, fun _ _ => rfl, fun h => h⟩
  show EX _ _ _ _ _ 145 _ _ _ _ _
  simp only [codeAt, bodyOf, Try.f14, if_true, if_false, Bool.false_eq_true]
  refine ex_seq (ex_region ?_)
  refine ro_fieldAddr (by simp only [evalF, upd, arg0, argS, ofConst, ofCell, Nat.reduceEqDiff, reduceIte, g1, g4] <;> rfl) (by exact (fa30_0 _ _ _)) (by decide) ?_
  refine ro_load (by simp only [evalF, upd, arg0, argS, ofConst, ofCell, Nat.reduceEqDiff, reduceIte, g1, g4] <;> rfl) (by exact (load1 ag3 mb0.l mc0)) (by decide) ?_
  refine ro_nil ?_
  try simp only
  refine ex_block ?_
  refine ex_seq (ex_region ?_)
  refine ro_bin (by simp only [evalF, upd, arg0, argS, ofConst, ofCell, Nat.reduceEqDiff, reduceIte, g1, g4] <;> rfl) (by simp only [evalF, upd, arg0, argS, ofConst, ofCell, Nat.reduceEqDiff, reduceIte, g1, g4] <;> rfl) (by exact (eql_f (by omega))) (by decide) ?_
  refine ro_assign (by simp only [evalF, upd, arg0, argS, ofConst, ofCell, Nat.reduceEqDiff, reduceIte, g1, g4] <;> rfl) (by decide) ?_
  refine ro_nil ?_
  try simp only
  refine ex_cond (t := false) (by simp only [evalF, upd, arg0, argS, ofConst, ofCell, Nat.reduceEqDiff, reduceIte, g1, g4] <;> rfl) (fun h => by simp at h) (fun h => ?_)
  refine ex_seq (ex_region ?_)
  refine ro_bin (by simp only [evalF, upd, arg0, argS, ofConst, ofCell, Nat.reduceEqDiff, reduceIte, g1, g4] <;> rfl) (by simp only [evalF, upd, arg0, argS, ofConst, ofCell, Nat.reduceEqDiff, reduceIte, g1, g4] <;> rfl) (by exact (eql_f (by omega))) (by decide) ?_
  refine ro_assign (by simp only [evalF, upd, arg0, argS, ofConst, ofCell, Nat.reduceEqDiff, reduceIte, g1, g4] <;> rfl) (by decide) ?_
  refine ro_nil ?_
  try simp only
  refine ex_cond (t := false) (by simp only [evalF, upd, arg0, argS, ofConst, ofCell, Nat.reduceEqDiff, reduceIte, g1, g4] <;> rfl) (fun h => by simp at h) (fun h => ?_)
  refine ex_seq (ex_region ?_)
  refine ro_bin (by simp only [evalF, upd, arg0, argS, ofConst, ofCell, Nat.reduceEqDiff, reduceIte, g1, g4] <;> rfl) (by simp only [evalF, upd, arg0, argS, ofConst, ofCell, Nat.reduceEqDiff, reduceIte, g1, g4] <;> rfl) (by exact (eql_f (by omega))) (by decide) ?_
  refine ro_assign (by simp only [evalF, upd, arg0, argS, ofConst, ofCell, Nat.reduceEqDiff, reduceIte, g1, g4] <;> rfl) (by decide) ?_
  refine ro_nil ?_
  try simp only
  refine ex_cond (t := false) (by simp only [evalF, upd, arg0, argS, ofConst, ofCell, Nat.reduceEqDiff, reduceIte, g1, g4] <;> rfl) (fun h => by simp at h) (fun h => ?_)
  refine ex_seq (ex_seq (ex_region ?_))
  refine ro_bin (by simp only [evalF, upd, arg0, argS, ofConst, ofCell, Nat.reduceEqDiff, reduceIte, g1, g4] <;> rfl) (by simp only [evalF, upd, arg0, argS, ofConst, ofCell, Nat.reduceEqDiff, reduceIte, g1, g4] <;> rfl) (by exact (eql_t (by omega))) (by decide) ?_
  refine ro_assign (by simp only [evalF, upd, arg0, argS, ofConst, ofCell, Nat.reduceEqDiff, reduceIte, g1, g4] <;> rfl) (by decide) ?_
  refine ro_nil ?_
  try simp only
  refine ex_cond (t := true) (by simp only [evalF, upd, arg0, argS, ofConst, ofCell, Nat.reduceEqDiff, reduceIte, g1, g4] <;> rfl) (fun h => ?_) (fun h => by simp at h)
  refine ex_skip ?_
  try simp only
  refine ex_cond (t := true) (by simp only [evalF, upd, arg0, argS, ofConst, ofCell, Nat.reduceEqDiff, reduceIte, g1, g4] <;> rfl) (fun h => ?_) (fun h => by simp at h)
  refine ex_draw (by kernel_rfl) ?_
  obtain ⟨vb1, hl1, hg1, ho1⟩ := hw0.ex
  refine rdw_move rfl (by simp only [evalF, upd, arg0, argS, ofConst, ofCell, Nat.reduceEqDiff, reduceIte, g1, g4] <;> rfl) (by decide) ?_
  refine rdw_move rfl (by simp only [evalF, upd, arg0, argS, ofConst, ofCell, Nat.reduceEqDiff, reduceIte, g1, g4] <;> rfl) (by decide) ?_
  refine rdw_nilCheck rfl (by simp only [evalF, upd, arg0, argS, ofConst, ofCell, Nat.reduceEqDiff, reduceIte, g1, g4] <;> rfl) (by decide) ?_
  refine rdw_fieldAddr rfl (by simp only [evalF, upd, arg0, argS, ofConst, ofCell, Nat.reduceEqDiff, reduceIte, g1, g4] <;> rfl) (by exact (fa50_0 _ _ _)) (by decide) ?_
  refine rdw_load rfl (by simp only [evalF, upd, arg0, argS, ofConst, ofCell, Nat.reduceEqDiff, reduceIte, g1, g4] <;> rfl) (by exact (load1 ag27 hl1 rfl)) (by decide) ?_
  refine rdw_fieldAddr rfl (by simp only [evalF, upd, arg0, argS, ofConst, ofCell, Nat.reduceEqDiff, reduceIte, g1, g4] <;> rfl) (by exact (fa30_5 _ _ _)) (by decide) ?_
  refine rdw_slice rfl (by simp only [evalF, upd, arg0, argS, ofConst, ofCell, Nat.reduceEqDiff, reduceIte, g1, g4] <;> rfl) rfl rfl rfl (slice26 _ _ _) (by decide) ?_
  refine rd_append (r := u8s m.key) st27 Try.underlying27 (by simp only [evalF, upd, arg0, argS, ofConst, ofCell, Nat.reduceEqDiff, reduceIte, g1, g4] <;> rfl) (by simp only [evalF, upd, arg0, argS, ofConst, ofCell, Nat.reduceEqDiff, reduceIte, g1, g4] <;> rfl) hg1 (row_src (key_row mb0.k mb0.l (mb_lt mb0 hw0))) (by have := mb0.k; simp [u8s]; omega) (by decide) ?_
  intro v1 hp1' nb1 c1 hg1' ha1 hc1 ho1'
  obtain ⟨hst1, hT1⟩ := wr_store (bs := bs ++ m.key) hw0.lt hw0.le hl1 ho1 ha1 (by simpa [u8s] using hg1') ho1'
  refine rdw_nilCheck rfl (by simp only [evalF, upd, arg0, argS, ofConst, ofCell, Nat.reduceEqDiff, reduceIte, g1, g4] <;> rfl) (by decide) ?_
  refine rdw_fieldAddr rfl (by simp only [evalF, upd, arg0, argS, ofConst, ofCell, Nat.reduceEqDiff, reduceIte, g1, g4] <;> rfl) (by exact (fa50_0 _ _ _)) (by decide) ?_
  refine rdw_store rfl (by simp only [evalF, upd, arg0, argS, ofConst, ofCell, Nat.reduceEqDiff, reduceIte, g1, g4] <;> rfl) (by simp only [evalF, upd, arg0, argS, ofConst, ofCell, Nat.reduceEqDiff, reduceIte, g1, g4] <;> rfl) hst1 (by rw [ha1.2.1 idw hw0.lt (fun h => (ho1 idw h).2 rfl)]; exact look_live hl1) ?_
  refine rd_nil ⟨dyn_of rfl (fun p hp' => ?_), ?_⟩
  · have hp'' : p ∈ needs (regOf Try.f14 15) := hp'
    rw [show needs (regOf Try.f14 15) = [] from by kernel_rfl] at hp''
    simp at hp''
  try simp only
  generalize setHp hp1' idw _ = hp1 at hT1 ⊢
  obtain ⟨_, hw1, _, _, _⟩ := id hT1
  have hS1 := wrs_trans hS0 hT1
  have mb1 := mb_keep mb0 hT1
  exact ⟨by first | rfl | trivial, by simp [upd, g1], by simp [upd, g4], hS1⟩

theorem sw14_6 (d : Nat) {hp0 : Hp} {nb0 idw q i1 : Nat} {m : M} {L D : AV} {g : Gm} {bs : List Int} (hk : m.kind = 6) (mb0 : Mb hp0 nb0 i1 q m L D) (hw0 : Wr hp0 nb0 idw q bs 0) (hbs : bs.length ≤ 10) (g1 : g 1 = .ptr i1 1 0) (g4 : g 4 = .ptr idw 1 0) :
    EX Try.prog plains (callA Try.prog facts plains 10000 (d + 3)) (orS facts (pureOf (callA Try.prog facts plains 10000 (d + 3)))) 10000 145 (codeAt (bodyOf Try.f14) [true, true, true, false]) g hp0 nb0 fun x g' hp' nb' => x = .normal ∧ g' 1 = .ptr i1 1 0 ∧ g' 4 = .ptr idw 1 0 ∧
      WrS hp0 nb0 idw q ([3, 2].foldl (fieldW m) (bs, 0)).1 ([3, 2].foldl (fieldW m) (bs, 0)).2 (.tuple []) hp' nb' := by
  simp only [List.foldl_cons, List.foldl_nil, fieldW]
  have hS0 : WrS hp0 nb0 idw q bs 0 (.tuple []) hp0 nb0 := ⟨rfl, hw0, Nat.le_refl _, fun _ _ => rfl, fun h => h⟩
  show EX _ _ _ _ _ 145 _ _ _ _ _
  simp only [codeAt, bodyOf, Try.f14, if_true, if_false, Bool.false_eq_true]
  refine ex_seq (ex_region ?_)
  refine ro_fieldAddr (by simp only [evalF, upd, arg0, argS, ofConst, ofCell, Nat.reduceEqDiff, reduceIte, g1, g4] <;> rfl) (by exact (fa30_0 _ _ _)) (by decide) ?_
  refine ro_load (by simp only [evalF, upd, arg0, argS, ofConst, ofCell, Nat.reduceEqDiff, reduceIte, g1, g4] <;> rfl) (by exact (load1 ag3 mb0.l mc0)) (by decide) ?_
  refine ro_nil ?_
  try simp only
  refine ex_block ?_
  refine ex_seq (ex_region ?_)
  refine ro_bin (by simp only [evalF, upd, arg0, argS, ofConst, ofCell, Nat.reduceEqDiff, reduceIte, g1, g4] <;> rfl) (by simp only [evalF, upd, arg0, argS, ofConst, ofCell, Nat.reduceEqDiff, reduceIte, g1, g4] <;> rfl) (by exact (eql_f (by omega))) (by decide) ?_
  refine ro_assign (by simp only [evalF, upd, arg0, argS, ofConst, ofCell, Nat.reduceEqDiff, reduceIte, g1, g4] <;> rfl) (by decide) ?_
  refine ro_nil ?_
  try simp only
  refine ex_cond (t := false) (by simp only [evalF, upd, arg0, argS, ofConst, ofCell, Nat.reduceEqDiff, reduceIte, g1, g4] <;> rfl) (fun h => by simp at h) (fun h => ?_)
  refine ex_seq (ex_region ?_)
  refine ro_bin (by simp only [evalF, upd, arg0, argS, ofConst, ofCell, Nat.reduceEqDiff, reduceIte, g1, g4] <;> rfl) (by simp only [evalF, upd, arg0, argS, ofConst, ofCell, Nat.reduceEqDiff, reduceIte, g1, g4] <;> rfl) (by exact (eql_f (by omega))) (by decide) ?_
  refine ro_assign (by simp only [evalF, upd, arg0, argS, ofConst, ofCell, Nat.reduceEqDiff, reduceIte, g1, g4] <;> rfl) (by decide) ?_
  refine ro_nil ?_
  try simp only
  refine ex_cond (t := false) (by simp only [evalF, upd, arg0, argS, ofConst, ofCell, Nat.reduceEqDiff, reduceIte, g1, g4] <;> rfl) (fun h => by simp at h) (fun h => ?_)
  refine ex_seq (ex_region ?_)
  refine ro_bin (by simp only [evalF, upd, arg0, argS, ofConst, ofCell, Nat.reduceEqDiff, reduceIte, g1, g4] <;> rfl) (by simp only [evalF, upd, arg0, argS, ofConst, ofCell, Nat.reduceEqDiff, reduceIte, g1, g4] <;> rfl) (by exact (eql_f (by omega))) (by decide) ?_
  refine ro_assign (by simp only [evalF, upd, arg0, argS, ofConst, ofCell, Nat.reduceEqDiff, reduceIte, g1, g4] <;> rfl) (by decide) ?_
  refine ro_nil ?_
  try simp only
  refine ex_cond (t := false) (by simp only [evalF, upd, arg0, argS, ofConst, ofCell, Nat.reduceEqDiff, reduceIte, g1, g4] <;> rfl) (fun h => by simp at h) (fun h => ?_)
  refine ex_seq (ex_seq (ex_region ?_))
  refine ro_bin (by simp only [evalF, upd, arg0, argS, ofConst, ofCell, Nat.reduceEqDiff, reduceIte, g1, g4] <;> rfl) (by simp only [evalF, upd, arg0, argS, ofConst, ofCell, Nat.reduceEqDiff, reduceIte, g1, g4] <;> rfl) (by exact (eql_f (by omega))) (by decide) ?_
  refine ro_assign (by simp only [evalF, upd, arg0, argS, ofConst, ofCell, Nat.reduceEqDiff, reduceIte, g1, g4] <;> rfl) (by decide) ?_
  refine ro_nil ?_
  try simp only
  refine ex_cond (t := false) (by simp only [evalF, upd, arg0, argS, ofConst, ofCell, Nat.reduceEqDiff, reduceIte, g1, g4] <;> rfl) (fun h => by simp at h) (fun h => ?_)
  refine ex_seq (ex_region ?_)
  refine ro_bin (by simp only [evalF, upd, arg0, argS, ofConst, ofCell, Nat.reduceEqDiff, reduceIte, g1, g4] <;> rfl) (by simp only [evalF, upd, arg0, argS, ofConst, ofCell, Nat.reduceEqDiff, reduceIte, g1, g4] <;> rfl) (by exact (eql_f (by omega))) (by decide) ?_
  refine ro_assign (by simp only [evalF, upd, arg0, argS, ofConst, ofCell, Nat.reduceEqDiff, reduceIte, g1, g4] <;> rfl) (by decide) ?_
  refine ro_nil ?_
  try simp only
  refine ex_cond (t := false) (by simp only [evalF, upd, arg0, argS, ofConst, ofCell, Nat.reduceEqDiff, reduceIte, g1, g4] <;> rfl) (fun h => by simp at h) (fun h => ?_)
  refine ex_region ?_
  refine ro_bin (by simp only [evalF, upd, arg0, argS, ofConst, ofCell, Nat.reduceEqDiff, reduceIte, g1, g4] <;> rfl) (by simp only [evalF, upd, arg0, argS, ofConst, ofCell, Nat.reduceEqDiff, reduceIte, g1, g4] <;> rfl) (by exact (eql_f (by omega))) (by decide) ?_
  refine ro_assign (by simp only [evalF, upd, arg0, argS, ofConst, ofCell, Nat.reduceEqDiff, reduceIte, g1, g4] <;> rfl) (by decide) ?_
  refine ro_nil ?_
  try simp only
  refine ex_cond (t := false) (by simp only [evalF, upd, arg0, argS, ofConst, ofCell, Nat.reduceEqDiff, reduceIte, g1, g4] <;> rfl) (fun h => by simp at h) (fun h => ?_)
  refine ex_seq (ex_region ?_)
  refine ro_bin (by simp only [evalF, upd, arg0, argS, ofConst, ofCell, Nat.reduceEqDiff, reduceIte, g1, g4] <;> rfl) (by simp only [evalF, upd, arg0, argS, ofConst, ofCell, Nat.reduceEqDiff, reduceIte, g1, g4] <;> rfl) (by exact (eql_t (by omega))) (by decide) ?_
  refine ro_assign (by simp only [evalF, upd, arg0, argS, ofConst, ofCell, Nat.reduceEqDiff, reduceIte, g1, g4] <;> rfl) (by decide) ?_
  refine ro_nil ?_
  try simp only
  refine ex_cond (t := true) (by simp only [evalF, upd, arg0, argS, ofConst, ofCell, Nat.reduceEqDiff, reduceIte, g1, g4] <;> rfl) (fun h => ?_) (fun h => by simp at h)
  refine ex_seq (ex_seq (ex_region ?_))
  refine ro_fieldAddr (by simp only [evalF, upd, arg0, argS, ofConst, ofCell, Nat.reduceEqDiff, reduceIte, g1, g4] <;> rfl) (by exact (fa30_4 _ _ _)) (by decide) ?_
  refine ro_load (by simp only [evalF, upd, arg0, argS, ofConst, ofCell, Nat.reduceEqDiff, reduceIte, g1, g4] <;> rfl) (by exact (load1 ag4 mb0.l mc4)) (by decide) ?_
  refine ro_nil ?_
  try simp only
  refine ex_cond (t := m.done) (by simp only [evalF, upd, arg0, argS, ofConst, ofCell, Nat.reduceEqDiff, reduceIte, g1, g4] <;> rfl) (fun hd => ?_) (fun hd => ?_)
  · refine ex_region ?_
    obtain ⟨vb1, hl1, hg1, ho1⟩ := hw0.ex
    refine ro_move (by simp only [evalF, upd, arg0, argS, ofConst, ofCell, Nat.reduceEqDiff, reduceIte, g1, g4] <;> rfl) (by decide) ?_
    refine ro_move (by simp only [evalF, upd, arg0, argS, ofConst, ofCell, Nat.reduceEqDiff, reduceIte, g1, g4] <;> rfl) (by decide) ?_
    refine ro_nilCheck (by simp only [evalF, upd, arg0, argS, ofConst, ofCell, Nat.reduceEqDiff, reduceIte, g1, g4] <;> rfl) (by decide) ?_
    refine ro_fieldAddr (by simp only [evalF, upd, arg0, argS, ofConst, ofCell, Nat.reduceEqDiff, reduceIte, g1, g4] <;> rfl) (by exact (fa50_0 _ _ _)) (by decide) ?_
    refine ro_load (by simp only [evalF, upd, arg0, argS, ofConst, ofCell, Nat.reduceEqDiff, reduceIte, g1, g4] <;> rfl) (by exact (load1 ag27 hl1 rfl)) (by decide) ?_
    refine ro_buildSlice rfl (by simp only [List.map_cons, List.map_nil, evalF, upd, arg0, argS, ofConst, ofCell, Nat.reduceEqDiff, reduceIte]; exact bs27_1 _ 1) (by decide) ?_
    refine ro_append (r := [.int .u8 1]) st27 Try.underlying27 (by simp only [evalF, upd, arg0, argS, ofConst, ofCell, Nat.reduceEqDiff, reduceIte, g1, g4] <;> rfl) (by simp only [evalF, upd, arg0, argS, ofConst, ofCell, Nat.reduceEqDiff, reduceIte, g1, g4] <;> rfl) (hg1.keep (Nat.le_succ _) (fun id hid _ => by simp [setHp, show id ≠ nb0 by omega])) (src_built rfl (by simp [setHp])) (by simp [u8s]; omega) (by decide) ?_
    intro v1 hp1' nb1 hg1' ha1 ho1'
    have hax1 := after_trans (after_new hp0 nb0 vb1 [.pv (.int .u8 1)] (pvs_ok [.int .u8 1])) ha1 (fun id h => .inl h)
    obtain ⟨hst1, hT1⟩ := wr_store (bs := bs ++ [1]) hw0.lt hw0.le hl1 ho1 hax1 (by simpa [u8s] using hg1') (fun id h => (ho1' id h).imp (fun h => h) (fun h => by omega))
    refine ro_nilCheck (by simp only [evalF, upd, arg0, argS, ofConst, ofCell, Nat.reduceEqDiff, reduceIte, g1, g4] <;> rfl) (by decide) ?_
    refine ro_fieldAddr (by simp only [evalF, upd, arg0, argS, ofConst, ofCell, Nat.reduceEqDiff, reduceIte, g1, g4] <;> rfl) (by exact (fa50_0 _ _ _)) (by decide) ?_
    refine ro_store (by simp only [evalF, upd, arg0, argS, ofConst, ofCell, Nat.reduceEqDiff, reduceIte, g1, g4] <;> rfl) (by simp only [evalF, upd, arg0, argS, ofConst, ofCell, Nat.reduceEqDiff, reduceIte, g1, g4] <;> rfl) hst1 ?_
    refine ro_nil ?_
    try simp only
    generalize setHp hp1' idw _ = hp1 at hT1 ⊢
    obtain ⟨_, hw1, _, _, _⟩ := id hT1
    have hS1 := wrs_trans hS0 hT1
    have mb1 := mb_keep mb0 hT1
    refine ex_region ?_
    refine ro_move (by simp only [evalF, upd, arg0, argS, ofConst, ofCell, Nat.reduceEqDiff, reduceIte, g1, g4] <;> rfl) (by decide) ?_
    refine ro_fieldAddr (by simp only [evalF, upd, arg0, argS, ofConst, ofCell, Nat.reduceEqDiff, reduceIte, g1, g4] <;> rfl) (by exact (fa30_3 _ _ _)) (by decide) ?_
    refine ro_load (by simp only [evalF, upd, arg0, argS, ofConst, ofCell, Nat.reduceEqDiff, reduceIte, g1, g4] <;> rfl) (by exact (load1 ag24 mb1.l mc3)) (by decide) ?_
    refine ro_call (f := 22) («as» := [.ptr idw 1 0, L]) rfl (by simp [evalF, upd, arg0, argS, ofConst, ofCell, Nat.reduceEqDiff, reduceIte, g1, g4]) plains_22 rfl (list22 d mb1.rl mb1.ol mb1.sl hw1 (by have := mb1.k; have := mb1.sd; have := mb1.sl; simp; omega)) (by decide) ?_
    rintro v2 hp2 nb2 hT2
    obtain ⟨rfl, hw2, _, _, _⟩ := id hT2
    have hS2 := wrs_trans hS1 hT2
    have mb2 := mb_keep mb1 hT2
    refine ro_nil ?_
    try simp only
    rw [hd]
    simp only [Bool.false_eq_true, if_false, if_true]
    exact ⟨by first | rfl | trivial, by simp [upd, g1], by simp [upd, g4], hS2⟩
  · refine ex_region ?_
    obtain ⟨vb1, hl1, hg1, ho1⟩ := hw0.ex
    refine ro_move (by simp only [evalF, upd, arg0, argS, ofConst, ofCell, Nat.reduceEqDiff, reduceIte, g1, g4] <;> rfl) (by decide) ?_
    refine ro_move (by simp only [evalF, upd, arg0, argS, ofConst, ofCell, Nat.reduceEqDiff, reduceIte, g1, g4] <;> rfl) (by decide) ?_
    refine ro_nilCheck (by simp only [evalF, upd, arg0, argS, ofConst, ofCell, Nat.reduceEqDiff, reduceIte, g1, g4] <;> rfl) (by decide) ?_
    refine ro_fieldAddr (by simp only [evalF, upd, arg0, argS, ofConst, ofCell, Nat.reduceEqDiff, reduceIte, g1, g4] <;> rfl) (by exact (fa50_0 _ _ _)) (by decide) ?_
    refine ro_load (by simp only [evalF, upd, arg0, argS, ofConst, ofCell, Nat.reduceEqDiff, reduceIte, g1, g4] <;> rfl) (by exact (load1 ag27 hl1 rfl)) (by decide) ?_
    refine ro_buildSlice rfl (by simp only [List.map_cons, List.map_nil, evalF, upd, arg0, argS, ofConst, ofCell, Nat.reduceEqDiff, reduceIte]; exact bs27_1 _ 0) (by decide) ?_
    refine ro_append (r := [.int .u8 0]) st27 Try.underlying27 (by simp only [evalF, upd, arg0, argS, ofConst, ofCell, Nat.reduceEqDiff, reduceIte, g1, g4] <;> rfl) (by simp only [evalF, upd, arg0, argS, ofConst, ofCell, Nat.reduceEqDiff, reduceIte, g1, g4] <;> rfl) (hg1.keep (Nat.le_succ _) (fun id hid _ => by simp [setHp, show id ≠ nb0 by omega])) (src_built rfl (by simp [setHp])) (by simp [u8s]; omega) (by decide) ?_
    intro v1 hp1' nb1 hg1' ha1 ho1'
    have hax1 := after_trans (after_new hp0 nb0 vb1 [.pv (.int .u8 0)] (pvs_ok [.int .u8 0])) ha1 (fun id h => .inl h)
    obtain ⟨hst1, hT1⟩ := wr_store (bs := bs ++ [0]) hw0.lt hw0.le hl1 ho1 hax1 (by simpa [u8s] using hg1') (fun id h => (ho1' id h).imp (fun h => h) (fun h => by omega))
    refine ro_nilCheck (by simp only [evalF, upd, arg0, argS, ofConst, ofCell, Nat.reduceEqDiff, reduceIte, g1, g4] <;> rfl) (by decide) ?_
    refine ro_fieldAddr (by simp only [evalF, upd, arg0, argS, ofConst, ofCell, Nat.reduceEqDiff, reduceIte, g1, g4] <;> rfl) (by exact (fa50_0 _ _ _)) (by decide) ?_
    refine ro_store (by simp only [evalF, upd, arg0, argS, ofConst, ofCell, Nat.reduceEqDiff, reduceIte, g1, g4] <;> rfl) (by simp only [evalF, upd, arg0, argS, ofConst, ofCell, Nat.reduceEqDiff, reduceIte, g1, g4] <;> rfl) hst1 ?_
    refine ro_nil ?_
    try simp only
    generalize setHp hp1' idw _ = hp1 at hT1 ⊢
    obtain ⟨_, hw1, _, _, _⟩ := id hT1
    have hS1 := wrs_trans hS0 hT1
    have mb1 := mb_keep mb0 hT1
    refine ex_region ?_
    refine ro_move (by simp only [evalF, upd, arg0, argS, ofConst, ofCell, Nat.reduceEqDiff, reduceIte, g1, g4] <;> rfl) (by decide) ?_
    refine ro_fieldAddr (by simp only [evalF, upd, arg0, argS, ofConst, ofCell, Nat.reduceEqDiff, reduceIte, g1, g4] <;> rfl) (by exact (fa30_3 _ _ _)) (by decide) ?_
    refine ro_load (by simp only [evalF, upd, arg0, argS, ofConst, ofCell, Nat.reduceEqDiff, reduceIte, g1, g4] <;> rfl) (by exact (load1 ag24 mb1.l mc3)) (by decide) ?_
    refine ro_call (f := 22) («as» := [.ptr idw 1 0, L]) rfl (by simp [evalF, upd, arg0, argS, ofConst, ofCell, Nat.reduceEqDiff, reduceIte, g1, g4]) plains_22 rfl (list22 d mb1.rl mb1.ol mb1.sl hw1 (by have := mb1.k; have := mb1.sd; have := mb1.sl; simp; omega)) (by decide) ?_
    rintro v2 hp2 nb2 hT2
    obtain ⟨rfl, hw2, _, _, _⟩ := id hT2
    have hS2 := wrs_trans hS1 hT2
    have mb2 := mb_keep mb1 hT2
    refine ro_nil ?_
    try simp only
    rw [hd]
    simp only [Bool.false_eq_true, if_false, if_true]
    exact ⟨by first | rfl | trivial, by simp [upd, g1], by simp [upd, g4], hS2⟩

theorem sw14_7 (d : Nat) {hp0 : Hp} {nb0 idw q i1 : Nat} {m : M} {L D : AV} {g : Gm} {bs : List Int} (hk : m.kind = 7) (mb0 : Mb hp0 nb0 i1 q m L D) (hw0 : Wr hp0 nb0 idw q bs 0) (hbs : bs.length ≤ 10) (g1 : g 1 = .ptr i1 1 0) (g4 : g 4 = .ptr idw 1 0) :
    EX Try.prog plains (callA Try.prog facts plains 10000 (d + 3)) (orS facts (pureOf (callA Try.prog facts plains 10000 (d + 3)))) 10000 145 (codeAt (bodyOf Try.f14) [true, true, true, false]) g hp0 nb0 fun x g' hp' nb' => x = .normal ∧ g' 1 = .ptr i1 1 0 ∧ g' 4 = .ptr idw 1 0 ∧
      WrS hp0 nb0 idw q ([5].foldl (fieldW m) (bs, 0)).1 ([5].foldl (fieldW m) (bs, 0)).2 (.tuple []) hp' nb' := by
  simp only [List.foldl_cons, List.foldl_nil, fieldW]
  have hS0 : WrS hp0 nb0 idw q bs 0 (.tuple []) hp0 nb0 := ⟨rfl, hw0, Nat.le_refl _, fun _ _ => rfl, fun h => h⟩
  show EX _ _ _ _ _ 145 _ _ _ _ _
  simp only [codeAt, bodyOf, Try.f14, if_true, if_false, Bool.false_eq_true]
  refine ex_seq (ex_region ?_)
  refine ro_fieldAddr (by simp only [evalF, upd, arg0, argS, ofConst, ofCell, Nat.reduceEqDiff, reduceIte, g1, g4] <;> rfl) (by exact (fa30_0 _ _ _)) (by decide) ?_
  refine ro_load (by simp only [evalF, upd, arg0, argS, ofConst, ofCell, Nat.reduceEqDiff, reduceIte, g1, g4] <;> rfl) (by exact (load1 ag3 mb0.l mc0)) (by decide) ?_
  refine ro_nil ?_
  try simp only
  refine ex_block ?_
  refine ex_seq (ex_region ?_)
  refine ro_bin (by simp only [evalF, upd, arg0, argS, ofConst, ofCell, Nat.reduceEqDiff, reduceIte, g1, g4] <;> rfl) (by simp only [evalF, upd, arg0, argS, ofConst, ofCell, Nat.reduceEqDiff, reduceIte, g1, g4] <;> rfl) (by exact (eql_f (by omega))) (by decide) ?_
  refine ro_assign (by simp only [evalF, upd, arg0, argS, ofConst, ofCell, Nat.reduceEqDiff, reduceIte, g1, g4] <;> rfl) (by decide) ?_
  refine ro_nil ?_
  try simp only
  refine ex_cond (t := false) (by simp only [evalF, upd, arg0, argS, ofConst, ofCell, Nat.reduceEqDiff, reduceIte, g1, g4] <;> rfl) (fun h => by simp at h) (fun h => ?_)
  refine ex_seq (ex_region ?_)
  refine ro_bin (by simp only [evalF, upd, arg0, argS, ofConst, ofCell, Nat.reduceEqDiff, reduceIte, g1, g4] <;> rfl) (by simp only [evalF, upd, arg0, argS, ofConst, ofCell, Nat.reduceEqDiff, reduceIte, g1, g4] <;> rfl) (by exact (eql_f (by omega))) (by decide) ?_
  refine ro_assign (by simp only [evalF, upd, arg0, argS, ofConst, ofCell, Nat.reduceEqDiff, reduceIte, g1, g4] <;> rfl) (by decide) ?_
  refine ro_nil ?_
  try simp only
  refine ex_cond (t := false) (by simp only [evalF, upd, arg0, argS, ofConst, ofCell, Nat.reduceEqDiff, reduceIte, g1, g4] <;> rfl) (fun h => by simp at h) (fun h => ?_)
  refine ex_seq (ex_region ?_)
  refine ro_bin (by simp only [evalF, upd, arg0, argS, ofConst, ofCell, Nat.reduceEqDiff, reduceIte, g1, g4] <;> rfl) (by simp only [evalF, upd, arg0, argS, ofConst, ofCell, Nat.reduceEqDiff, reduceIte, g1, g4] <;> rfl) (by exact (eql_f (by omega))) (by decide) ?_
  refine ro_assign (by simp only [evalF, upd, arg0, argS, ofConst, ofCell, Nat.reduceEqDiff, reduceIte, g1, g4] <;> rfl) (by decide) ?_
  refine ro_nil ?_
  try simp only
  refine ex_cond (t := false) (by simp only [evalF, upd, arg0, argS, ofConst, ofCell, Nat.reduceEqDiff, reduceIte, g1, g4] <;> rfl) (fun h => by simp at h) (fun h => ?_)
  refine ex_seq (ex_seq (ex_region ?_))
  refine ro_bin (by simp only [evalF, upd, arg0, argS, ofConst, ofCell, Nat.reduceEqDiff, reduceIte, g1, g4] <;> rfl) (by simp only [evalF, upd, arg0, argS, ofConst, ofCell, Nat.reduceEqDiff, reduceIte, g1, g4] <;> rfl) (by exact (eql_f (by omega))) (by decide) ?_
  refine ro_assign (by simp only [evalF, upd, arg0, argS, ofConst, ofCell, Nat.reduceEqDiff, reduceIte, g1, g4] <;> rfl) (by decide) ?_
  refine ro_nil ?_
  try simp only
  refine ex_cond (t := false) (by simp only [evalF, upd, arg0, argS, ofConst, ofCell, Nat.reduceEqDiff, reduceIte, g1, g4] <;> rfl) (fun h => by simp at h) (fun h => ?_)
  refine ex_seq (ex_region ?_)
  refine ro_bin (by simp only [evalF, upd, arg0, argS, ofConst, ofCell, Nat.reduceEqDiff, reduceIte, g1, g4] <;> rfl) (by simp only [evalF, upd, arg0, argS, ofConst, ofCell, Nat.reduceEqDiff, reduceIte, g1, g4] <;> rfl) (by exact (eql_t (by omega))) (by decide) ?_
  refine ro_assign (by simp only [evalF, upd, arg0, argS, ofConst, ofCell, Nat.reduceEqDiff, reduceIte, g1, g4] <;> rfl) (by decide) ?_
  refine ro_nil ?_
  try simp only
  refine ex_cond (t := true) (by simp only [evalF, upd, arg0, argS, ofConst, ofCell, Nat.reduceEqDiff, reduceIte, g1, g4] <;> rfl) (fun h => ?_) (fun h => by simp at h)
  refine ex_skip ?_
  try simp only
  refine ex_cond (t := true) (by simp only [evalF, upd, arg0, argS, ofConst, ofCell, Nat.reduceEqDiff, reduceIte, g1, g4] <;> rfl) (fun h => ?_) (fun h => by simp at h)
  refine ex_draw (by kernel_rfl) ?_
  obtain ⟨vb1, hl1, hg1, ho1⟩ := hw0.ex
  refine rdw_move rfl (by simp only [evalF, upd, arg0, argS, ofConst, ofCell, Nat.reduceEqDiff, reduceIte, g1, g4] <;> rfl) (by decide) ?_
  refine rdw_move rfl (by simp only [evalF, upd, arg0, argS, ofConst, ofCell, Nat.reduceEqDiff, reduceIte, g1, g4] <;> rfl) (by decide) ?_
  refine rdw_nilCheck rfl (by simp only [evalF, upd, arg0, argS, ofConst, ofCell, Nat.reduceEqDiff, reduceIte, g1, g4] <;> rfl) (by decide) ?_
  refine rdw_fieldAddr rfl (by simp only [evalF, upd, arg0, argS, ofConst, ofCell, Nat.reduceEqDiff, reduceIte, g1, g4] <;> rfl) (by exact (fa50_0 _ _ _)) (by decide) ?_
  refine rdw_load rfl (by simp only [evalF, upd, arg0, argS, ofConst, ofCell, Nat.reduceEqDiff, reduceIte, g1, g4] <;> rfl) (by exact (load1 ag27 hl1 rfl)) (by decide) ?_
  refine rdw_fieldAddr rfl (by simp only [evalF, upd, arg0, argS, ofConst, ofCell, Nat.reduceEqDiff, reduceIte, g1, g4] <;> rfl) (by exact (fa30_5 _ _ _)) (by decide) ?_
  refine rdw_slice rfl (by simp only [evalF, upd, arg0, argS, ofConst, ofCell, Nat.reduceEqDiff, reduceIte, g1, g4] <;> rfl) rfl rfl rfl (slice26 _ _ _) (by decide) ?_
  refine rd_append (r := u8s m.key) st27 Try.underlying27 (by simp only [evalF, upd, arg0, argS, ofConst, ofCell, Nat.reduceEqDiff, reduceIte, g1, g4] <;> rfl) (by simp only [evalF, upd, arg0, argS, ofConst, ofCell, Nat.reduceEqDiff, reduceIte, g1, g4] <;> rfl) hg1 (row_src (key_row mb0.k mb0.l (mb_lt mb0 hw0))) (by have := mb0.k; simp [u8s]; omega) (by decide) ?_
  intro v1 hp1' nb1 c1 hg1' ha1 hc1 ho1'
  obtain ⟨hst1, hT1⟩ := wr_store (bs := bs ++ m.key) hw0.lt hw0.le hl1 ho1 ha1 (by simpa [u8s] using hg1') ho1'
  refine rdw_nilCheck rfl (by simp only [evalF, upd, arg0, argS, ofConst, ofCell, Nat.reduceEqDiff, reduceIte, g1, g4] <;> rfl) (by decide) ?_
  refine rdw_fieldAddr rfl (by simp only [evalF, upd, arg0, argS, ofConst, ofCell, Nat.reduceEqDiff, reduceIte, g1, g4] <;> rfl) (by exact (fa50_0 _ _ _)) (by decide) ?_
  refine rdw_store rfl (by simp only [evalF, upd, arg0, argS, ofConst, ofCell, Nat.reduceEqDiff, reduceIte, g1, g4] <;> rfl) (by simp only [evalF, upd, arg0, argS, ofConst, ofCell, Nat.reduceEqDiff, reduceIte, g1, g4] <;> rfl) hst1 (by rw [ha1.2.1 idw hw0.lt (fun h => (ho1 idw h).2 rfl)]; exact look_live hl1) ?_
  refine rd_nil ⟨dyn_of rfl (fun p hp' => ?_), ?_⟩
  · have hp'' : p ∈ needs (regOf Try.f14 15) := hp'
    rw [show needs (regOf Try.f14 15) = [] from by kernel_rfl] at hp''
    simp at hp''
  try simp only
  generalize setHp hp1' idw _ = hp1 at hT1 ⊢
  obtain ⟨_, hw1, _, _, _⟩ := id hT1
  have hS1 := wrs_trans hS0 hT1
  have mb1 := mb_keep mb0 hT1
  exact ⟨by first | rfl | trivial, by simp [upd, g1], by simp [upd, g4], hS1⟩

theorem sw14_8 (d : Nat) {hp0 : Hp} {nb0 idw q i1 : Nat} {m : M} {L D : AV} {g : Gm} {bs : List Int} (hk : m.kind = 8) (mb0 : Mb hp0 nb0 i1 q m L D) (hw0 : Wr hp0 nb0 idw q bs 0) (hbs : bs.length ≤ 10) (g1 : g 1 = .ptr i1 1 0) (g4 : g 4 = .ptr idw 1 0) :
    EX Try.prog plains (callA Try.prog facts plains 10000 (d + 3)) (orS facts (pureOf (callA Try.prog facts plains 10000 (d + 3)))) 10000 145 (codeAt (bodyOf Try.f14) [true, true, true, false]) g hp0 nb0 fun x g' hp' nb' => x = .normal ∧ g' 1 = .ptr i1 1 0 ∧ g' 4 = .ptr idw 1 0 ∧
      WrS hp0 nb0 idw q ([4, 6].foldl (fieldW m) (bs, 0)).1 ([4, 6].foldl (fieldW m) (bs, 0)).2 (.tuple []) hp' nb' := by
  simp only [List.foldl_cons, List.foldl_nil, fieldW]
  have hS0 : WrS hp0 nb0 idw q bs 0 (.tuple []) hp0 nb0 := ⟨rfl, hw0, Nat.le_refl _, fun _ _ => rfl, fun h => h⟩
  show EX _ _ _ _ _ 145 _ _ _ _ _
  simp only [codeAt, bodyOf, Try.f14, if_true, if_false, Bool.false_eq_true]
  refine ex_seq (ex_region ?_)
  refine ro_fieldAddr (by simp only [evalF, upd, arg0, argS, ofConst, ofCell, Nat.reduceEqDiff, reduceIte, g1, g4] <;> rfl) (by exact (fa30_0 _ _ _)) (by decide) ?_
  refine ro_load (by simp only [evalF, upd, arg0, argS, ofConst, ofCell, Nat.reduceEqDiff, reduceIte, g1, g4] <;> rfl) (by exact (load1 ag3 mb0.l mc0)) (by decide) ?_
  refine ro_nil ?_
  try simp only
  refine ex_block ?_
  refine ex_seq (ex_region ?_)
  refine ro_bin (by simp only [evalF, upd, arg0, argS, ofConst, ofCell, Nat.reduceEqDiff, reduceIte, g1, g4] <;> rfl) (by simp only [evalF, upd, arg0, argS, ofConst, ofCell, Nat.reduceEqDiff, reduceIte, g1, g4] <;> rfl) (by exact (eql_f (by omega))) (by decide) ?_
  refine ro_assign (by simp only [evalF, upd, arg0, argS, ofConst, ofCell, Nat.reduceEqDiff, reduceIte, g1, g4] <;> rfl) (by decide) ?_
  refine ro_nil ?_
  try simp only
  refine ex_cond (t := false) (by simp only [evalF, upd, arg0, argS, ofConst, ofCell, Nat.reduceEqDiff, reduceIte, g1, g4] <;> rfl) (fun h => by simp at h) (fun h => ?_)
  refine ex_seq (ex_region ?_)
  refine ro_bin (by simp only [evalF, upd, arg0, argS, ofConst, ofCell, Nat.reduceEqDiff, reduceIte, g1, g4] <;> rfl) (by simp only [evalF, upd, arg0, argS, ofConst, ofCell, Nat.reduceEqDiff, reduceIte, g1, g4] <;> rfl) (by exact (eql_f (by omega))) (by decide) ?_
  refine ro_assign (by simp only [evalF, upd, arg0, argS, ofConst, ofCell, Nat.reduceEqDiff, reduceIte, g1, g4] <;> rfl) (by decide) ?_
  refine ro_nil ?_
  try simp only
  refine ex_cond (t := false) (by simp only [evalF, upd, arg0, argS, ofConst, ofCell, Nat.reduceEqDiff, reduceIte, g1, g4] <;> rfl) (fun h => by simp at h) (fun h => ?_)
  refine ex_seq (ex_region ?_)
  refine ro_bin (by simp only [evalF, upd, arg0, argS, ofConst, ofCell, Nat.reduceEqDiff, reduceIte, g1, g4] <;> rfl) (by simp only [evalF, upd, arg0, argS, ofConst, ofCell, Nat.reduceEqDiff, reduceIte, g1, g4] <;> rfl) (by exact (eql_f (by omega))) (by decide) ?_
  refine ro_assign (by simp only [evalF, upd, arg0, argS, ofConst, ofCell, Nat.reduceEqDiff, reduceIte, g1, g4] <;> rfl) (by decide) ?_
  refine ro_nil ?_
  try simp only
  refine ex_cond (t := false) (by simp only [evalF, upd, arg0, argS, ofConst, ofCell, Nat.reduceEqDiff, reduceIte, g1, g4] <;> rfl) (fun h => by simp at h) (fun h => ?_)
  refine ex_seq (ex_seq (ex_region ?_))
  refine ro_bin (by simp only [evalF, upd, arg0, argS, ofConst, ofCell, Nat.reduceEqDiff, reduceIte, g1, g4] <;> rfl) (by simp only [evalF, upd, arg0, argS, ofConst, ofCell, Nat.reduceEqDiff, reduceIte, g1, g4] <;> rfl) (by exact (eql_f (by omega))) (by decide) ?_
  refine ro_assign (by simp only [evalF, upd, arg0, argS, ofConst, ofCell, Nat.reduceEqDiff, reduceIte, g1, g4] <;> rfl) (by decide) ?_
  refine ro_nil ?_
  try simp only
  refine ex_cond (t := false) (by simp only [evalF, upd, arg0, argS, ofConst, ofCell, Nat.reduceEqDiff, reduceIte, g1, g4] <;> rfl) (fun h => by simp at h) (fun h => ?_)
  refine ex_seq (ex_region ?_)
  refine ro_bin (by simp only [evalF, upd, arg0, argS, ofConst, ofCell, Nat.reduceEqDiff, reduceIte, g1, g4] <;> rfl) (by simp only [evalF, upd, arg0, argS, ofConst, ofCell, Nat.reduceEqDiff, reduceIte, g1, g4] <;> rfl) (by exact (eql_f (by omega))) (by decide) ?_
  refine ro_assign (by simp only [evalF, upd, arg0, argS, ofConst, ofCell, Nat.reduceEqDiff, reduceIte, g1, g4] <;> rfl) (by decide) ?_
  refine ro_nil ?_
  try simp only
  refine ex_cond (t := false) (by simp only [evalF, upd, arg0, argS, ofConst, ofCell, Nat.reduceEqDiff, reduceIte, g1, g4] <;> rfl) (fun h => by simp at h) (fun h => ?_)
  refine ex_region ?_
  refine ro_bin (by simp only [evalF, upd, arg0, argS, ofConst, ofCell, Nat.reduceEqDiff, reduceIte, g1, g4] <;> rfl) (by simp only [evalF, upd, arg0, argS, ofConst, ofCell, Nat.reduceEqDiff, reduceIte, g1, g4] <;> rfl) (by exact (eql_f (by omega))) (by decide) ?_
  refine ro_assign (by simp only [evalF, upd, arg0, argS, ofConst, ofCell, Nat.reduceEqDiff, reduceIte, g1, g4] <;> rfl) (by decide) ?_
  refine ro_nil ?_
  try simp only
  refine ex_cond (t := false) (by simp only [evalF, upd, arg0, argS, ofConst, ofCell, Nat.reduceEqDiff, reduceIte, g1, g4] <;> rfl) (fun h => by simp at h) (fun h => ?_)
  refine ex_seq (ex_region ?_)
  refine ro_bin (by simp only [evalF, upd, arg0, argS, ofConst, ofCell, Nat.reduceEqDiff, reduceIte, g1, g4] <;> rfl) (by simp only [evalF, upd, arg0, argS, ofConst, ofCell, Nat.reduceEqDiff, reduceIte, g1, g4] <;> rfl) (by exact (eql_f (by omega))) (by decide) ?_
  refine ro_assign (by simp only [evalF, upd, arg0, argS, ofConst, ofCell, Nat.reduceEqDiff, reduceIte, g1, g4] <;> rfl) (by decide) ?_
  refine ro_nil ?_
  try simp only
  refine ex_cond (t := false) (by simp only [evalF, upd, arg0, argS, ofConst, ofCell, Nat.reduceEqDiff, reduceIte, g1, g4] <;> rfl) (fun h => by simp at h) (fun h => ?_)
  refine ex_seq (ex_region ?_)
  refine ro_bin (by simp only [evalF, upd, arg0, argS, ofConst, ofCell, Nat.reduceEqDiff, reduceIte, g1, g4] <;> rfl) (by simp only [evalF, upd, arg0, argS, ofConst, ofCell, Nat.reduceEqDiff, reduceIte, g1, g4] <;> rfl) (by exact (eql_t (by omega))) (by decide) ?_
  refine ro_assign (by simp only [evalF, upd, arg0, argS, ofConst, ofCell, Nat.reduceEqDiff, reduceIte, g1, g4] <;> rfl) (by decide) ?_
  refine ro_nil ?_
  try simp only
  refine ex_cond (t := true) (by simp only [evalF, upd, arg0, argS, ofConst, ofCell, Nat.reduceEqDiff, reduceIte, g1, g4] <;> rfl) (fun h => ?_) (fun h => by simp at h)
  refine ex_seq (ex_region ?_)
  refine ro_move (by simp only [evalF, upd, arg0, argS, ofConst, ofCell, Nat.reduceEqDiff, reduceIte, g1, g4] <;> rfl) (by decide) ?_
  refine ro_fieldAddr (by simp only [evalF, upd, arg0, argS, ofConst, ofCell, Nat.reduceEqDiff, reduceIte, g1, g4] <;> rfl) (by exact (fa30_8 _ _ _)) (by decide) ?_
  refine ro_load (by simp only [evalF, upd, arg0, argS, ofConst, ofCell, Nat.reduceEqDiff, reduceIte, g1, g4] <;> rfl) (by exact (load1 ag28 mb0.l (mc39 mb0.k))) (by decide) ?_
  refine ro_call (f := 23) («as» := [.ptr idw 1 0, .pv (.int .i64 m.err)]) rfl (by simp [evalF, upd, arg0, argS, ofConst, ofCell, Nat.reduceEqDiff, reduceIte, g1, g4]) plains_23 rfl (err23 (d + 1) m.err hw0 (by have := mb0.k; have := mb0.sd; have := mb0.sl; simp; omega)) (by decide) ?_
  rintro v1 hp1 nb1 hT1
  obtain ⟨rfl, hw1, _, _, _⟩ := id hT1
  have hS1 := wrs_trans hS0 hT1
  have mb1 := mb_keep mb0 hT1
  refine ro_nil ?_
  try simp only
  refine ex_region ?_
  refine ro_move (by simp only [evalF, upd, arg0, argS, ofConst, ofCell, Nat.reduceEqDiff, reduceIte, g1, g4] <;> rfl) (by decide) ?_
  refine ro_fieldAddr (by simp only [evalF, upd, arg0, argS, ofConst, ofCell, Nat.reduceEqDiff, reduceIte, g1, g4] <;> rfl) (by exact (fa30_6 _ _ _)) (by decide) ?_
  refine ro_load (by simp only [evalF, upd, arg0, argS, ofConst, ofCell, Nat.reduceEqDiff, reduceIte, g1, g4] <;> rfl) (by exact (load1 ag27 mb1.l (mc37 mb1.k))) (by decide) ?_
  refine ro_call (f := 24) («as» := [.ptr idw 1 0, D]) rfl (by simp [evalF, upd, arg0, argS, ofConst, ofCell, Nat.reduceEqDiff, reduceIte, g1, g4]) plains_24 rfl (data24 (d + 1) mb1.rd mb1.od (by have := mb1.sd; omega) hw1 (by have := mb1.k; have := mb1.sd; have := mb1.sl; simp; omega)) (by decide) ?_
  rintro v2 hp2 nb2 hT2
  obtain ⟨rfl, hw2, _, _, _⟩ := id hT2
  have hS2 := wrs_trans hS1 hT2
  have mb2 := mb_keep mb1 hT2
  refine ro_nil ?_
  try simp only
  exact ⟨by first | rfl | trivial, by simp [upd, g1], by simp [upd, g4], hS2⟩

theorem sw14_9 (d : Nat) {hp0 : Hp} {nb0 idw q i1 : Nat} {m : M} {L D : AV} {g : Gm} {bs : List Int} (hk : m.kind = 9) (mb0 : Mb hp0 nb0 i1 q m L D) (hw0 : Wr hp0 nb0 idw q bs 0) (hbs : bs.length ≤ 10) (g1 : g 1 = .ptr i1 1 0) (g4 : g 4 = .ptr idw 1 0) :
    EX Try.prog plains (callA Try.prog facts plains 10000 (d + 3)) (orS facts (pureOf (callA Try.prog facts plains 10000 (d + 3)))) 10000 145 (codeAt (bodyOf Try.f14) [true, true, true, false]) g hp0 nb0 fun x g' hp' nb' => x = .normal ∧ g' 1 = .ptr i1 1 0 ∧ g' 4 = .ptr idw 1 0 ∧
      WrS hp0 nb0 idw q ([5, 6].foldl (fieldW m) (bs, 0)).1 ([5, 6].foldl (fieldW m) (bs, 0)).2 (.tuple []) hp' nb' := by
  simp only [List.foldl_cons, List.foldl_nil, fieldW]
  have hS0 : WrS hp0 nb0 idw q bs 0 (.tuple []) hp0 nb0 := ⟨rfl, hw0, Nat.le_refl _, fun _ _ => rfl, fun h => h⟩
  show EX _ _ _ _ _ 145 _ _ _ _ _
  simp only [codeAt, bodyOf, Try.f14, if_true, if_false, Bool.false_eq_true]
  refine ex_seq (ex_region ?_)
  refine ro_fieldAddr (by simp only [evalF, upd, arg0, argS, ofConst, ofCell, Nat.reduceEqDiff, reduceIte, g1, g4] <;> rfl) (by exact (fa30_0 _ _ _)) (by decide) ?_
  refine ro_load (by simp only [evalF, upd, arg0, argS, ofConst, ofCell, Nat.reduceEqDiff, reduceIte, g1, g4] <;> rfl) (by exact (load1 ag3 mb0.l mc0)) (by decide) ?_
  refine ro_nil ?_
  try simp only
  refine ex_block ?_
  refine ex_seq (ex_region ?_)
  refine ro_bin (by simp only [evalF, upd, arg0, argS, ofConst, ofCell, Nat.reduceEqDiff, reduceIte, g1, g4] <;> rfl) (by simp only [evalF, upd, arg0, argS, ofConst, ofCell, Nat.reduceEqDiff, reduceIte, g1, g4] <;> rfl) (by exact (eql_f (by omega))) (by decide) ?_
  refine ro_assign (by simp only [evalF, upd, arg0, argS, ofConst, ofCell, Nat.reduceEqDiff, reduceIte, g1, g4] <;> rfl) (by decide) ?_
  refine ro_nil ?_
  try simp only
  refine ex_cond (t := false) (by simp only [evalF, upd, arg0, argS, ofConst, ofCell, Nat.reduceEqDiff, reduceIte, g1, g4] <;> rfl) (fun h => by simp at h) (fun h => ?_)
  refine ex_seq (ex_region ?_)
  refine ro_bin (by simp only [evalF, upd, arg0, argS, ofConst, ofCell, Nat.reduceEqDiff, reduceIte, g1, g4] <;> rfl) (by simp only [evalF, upd, arg0, argS, ofConst, ofCell, Nat.reduceEqDiff, reduceIte, g1, g4] <;> rfl) (by exact (eql_f (by omega))) (by decide) ?_
  refine ro_assign (by simp only [evalF, upd, arg0, argS, ofConst, ofCell, Nat.reduceEqDiff, reduceIte, g1, g4] <;> rfl) (by decide) ?_
  refine ro_nil ?_
  try simp only
  refine ex_cond (t := false) (by simp only [evalF, upd, arg0, argS, ofConst, ofCell, Nat.reduceEqDiff, reduceIte, g1, g4] <;> rfl) (fun h => by simp at h) (fun h => ?_)
  refine ex_seq (ex_region ?_)
  refine ro_bin (by simp only [evalF, upd, arg0, argS, ofConst, ofCell, Nat.reduceEqDiff, reduceIte, g1, g4] <;> rfl) (by simp only [evalF, upd, arg0, argS, ofConst, ofCell, Nat.reduceEqDiff, reduceIte, g1, g4] <;> rfl) (by exact (eql_f (by omega))) (by decide) ?_
  refine ro_assign (by simp only [evalF, upd, arg0, argS, ofConst, ofCell, Nat.reduceEqDiff, reduceIte, g1, g4] <;> rfl) (by decide) ?_
  refine ro_nil ?_
  try simp only
  refine ex_cond (t := false) (by simp only [evalF, upd, arg0, argS, ofConst, ofCell, Nat.reduceEqDiff, reduceIte, g1, g4] <;> rfl) (fun h => by simp at h) (fun h => ?_)
  refine ex_seq (ex_seq (ex_region ?_))
  refine ro_bin (by simp only [evalF, upd, arg0, argS, ofConst, ofCell, Nat.reduceEqDiff, reduceIte, g1, g4] <;> rfl) (by simp only [evalF, upd, arg0, argS, ofConst, ofCell, Nat.reduceEqDiff, reduceIte, g1, g4] <;> rfl) (by exact (eql_f (by omega))) (by decide) ?_
  refine ro_assign (by simp only [evalF, upd, arg0, argS, ofConst, ofCell, Nat.reduceEqDiff, reduceIte, g1, g4] <;> rfl) (by decide) ?_
  refine ro_nil ?_
  try simp only
  refine ex_cond (t := false) (by simp only [evalF, upd, arg0, argS, ofConst, ofCell, Nat.reduceEqDiff, reduceIte, g1, g4] <;> rfl) (fun h => by simp at h) (fun h => ?_)
  refine ex_seq (ex_region ?_)
  refine ro_bin (by simp only [evalF, upd, arg0, argS, ofConst, ofCell, Nat.reduceEqDiff, reduceIte, g1, g4] <;> rfl) (by simp only [evalF, upd, arg0, argS, ofConst, ofCell, Nat.reduceEqDiff, reduceIte, g1, g4] <;> rfl) (by exact (eql_f (by omega))) (by decide) ?_
  refine ro_assign (by simp only [evalF, upd, arg0, argS, ofConst, ofCell, Nat.reduceEqDiff, reduceIte, g1, g4] <;> rfl) (by decide) ?_
  refine ro_nil ?_
  try simp only
  refine ex_cond (t := false) (by simp only [evalF, upd, arg0, argS, ofConst, ofCell, Nat.reduceEqDiff, reduceIte, g1, g4] <;> rfl) (fun h => by simp at h) (fun h => ?_)
  refine ex_region ?_
  refine ro_bin (by simp only [evalF, upd, arg0, argS, ofConst, ofCell, Nat.reduceEqDiff, reduceIte, g1, g4] <;> rfl) (by simp only [evalF, upd, arg0, argS, ofConst, ofCell, Nat.reduceEqDiff, reduceIte, g1, g4] <;> rfl) (by exact (eql_f (by omega))) (by decide) ?_
  refine ro_assign (by simp only [evalF, upd, arg0, argS, ofConst, ofCell, Nat.reduceEqDiff, reduceIte, g1, g4] <;> rfl) (by decide) ?_
  refine ro_nil ?_
  try simp only
  refine ex_cond (t := false) (by simp only [evalF, upd, arg0, argS, ofConst, ofCell, Nat.reduceEqDiff, reduceIte, g1, g4] <;> rfl) (fun h => by simp at h) (fun h => ?_)
  refine ex_seq (ex_region ?_)
  refine ro_bin (by simp only [evalF, upd, arg0, argS, ofConst, ofCell, Nat.reduceEqDiff, reduceIte, g1, g4] <;> rfl) (by simp only [evalF, upd, arg0, argS, ofConst, ofCell, Nat.reduceEqDiff, reduceIte, g1, g4] <;> rfl) (by exact (eql_f (by omega))) (by decide) ?_
  refine ro_assign (by simp only [evalF, upd, arg0, argS, ofConst, ofCell, Nat.reduceEqDiff, reduceIte, g1, g4] <;> rfl) (by decide) ?_
  refine ro_nil ?_
  try simp only
  refine ex_cond (t := false) (by simp only [evalF, upd, arg0, argS, ofConst, ofCell, Nat.reduceEqDiff, reduceIte, g1, g4] <;> rfl) (fun h => by simp at h) (fun h => ?_)
  refine ex_seq (ex_region ?_)
  refine ro_bin (by simp only [evalF, upd, arg0, argS, ofConst, ofCell, Nat.reduceEqDiff, reduceIte, g1, g4] <;> rfl) (by simp only [evalF, upd, arg0, argS, ofConst, ofCell, Nat.reduceEqDiff, reduceIte, g1, g4] <;> rfl) (by exact (eql_f (by omega))) (by decide) ?_
  refine ro_assign (by simp only [evalF, upd, arg0, argS, ofConst, ofCell, Nat.reduceEqDiff, reduceIte, g1, g4] <;> rfl) (by decide) ?_
  refine ro_nil ?_
  try simp only
  refine ex_cond (t := false) (by simp only [evalF, upd, arg0, argS, ofConst, ofCell, Nat.reduceEqDiff, reduceIte, g1, g4] <;> rfl) (fun h => by simp at h) (fun h => ?_)
  refine ex_seq (ex_seq (ex_region ?_))
  refine ro_bin (by simp only [evalF, upd, arg0, argS, ofConst, ofCell, Nat.reduceEqDiff, reduceIte, g1, g4] <;> rfl) (by simp only [evalF, upd, arg0, argS, ofConst, ofCell, Nat.reduceEqDiff, reduceIte, g1, g4] <;> rfl) (by exact (eql_t (by omega))) (by decide) ?_
  refine ro_assign (by simp only [evalF, upd, arg0, argS, ofConst, ofCell, Nat.reduceEqDiff, reduceIte, g1, g4] <;> rfl) (by decide) ?_
  refine ro_nil ?_
  try simp only
  refine ex_cond (t := true) (by simp only [evalF, upd, arg0, argS, ofConst, ofCell, Nat.reduceEqDiff, reduceIte, g1, g4] <;> rfl) (fun h => ?_) (fun h => by simp at h)
  refine ex_skip ?_
  try simp only
  refine ex_cond (t := true) (by simp only [evalF, upd, arg0, argS, ofConst, ofCell, Nat.reduceEqDiff, reduceIte, g1, g4] <;> rfl) (fun h => ?_) (fun h => by simp at h)
  refine ex_seq (ex_draw (by kernel_rfl) ?_)
  obtain ⟨vb1, hl1, hg1, ho1⟩ := hw0.ex
  refine rdw_move rfl (by simp only [evalF, upd, arg0, argS, ofConst, ofCell, Nat.reduceEqDiff, reduceIte, g1, g4] <;> rfl) (by decide) ?_
  refine rdw_move rfl (by simp only [evalF, upd, arg0, argS, ofConst, ofCell, Nat.reduceEqDiff, reduceIte, g1, g4] <;> rfl) (by decide) ?_
  refine rdw_nilCheck rfl (by simp only [evalF, upd, arg0, argS, ofConst, ofCell, Nat.reduceEqDiff, reduceIte, g1, g4] <;> rfl) (by decide) ?_
  refine rdw_fieldAddr rfl (by simp only [evalF, upd, arg0, argS, ofConst, ofCell, Nat.reduceEqDiff, reduceIte, g1, g4] <;> rfl) (by exact (fa50_0 _ _ _)) (by decide) ?_
  refine rdw_load rfl (by simp only [evalF, upd, arg0, argS, ofConst, ofCell, Nat.reduceEqDiff, reduceIte, g1, g4] <;> rfl) (by exact (load1 ag27 hl1 rfl)) (by decide) ?_
  refine rdw_fieldAddr rfl (by simp only [evalF, upd, arg0, argS, ofConst, ofCell, Nat.reduceEqDiff, reduceIte, g1, g4] <;> rfl) (by exact (fa30_5 _ _ _)) (by decide) ?_
  refine rdw_slice rfl (by simp only [evalF, upd, arg0, argS, ofConst, ofCell, Nat.reduceEqDiff, reduceIte, g1, g4] <;> rfl) rfl rfl rfl (slice26 _ _ _) (by decide) ?_
  refine rd_append (r := u8s m.key) st27 Try.underlying27 (by simp only [evalF, upd, arg0, argS, ofConst, ofCell, Nat.reduceEqDiff, reduceIte, g1, g4] <;> rfl) (by simp only [evalF, upd, arg0, argS, ofConst, ofCell, Nat.reduceEqDiff, reduceIte, g1, g4] <;> rfl) hg1 (row_src (key_row mb0.k mb0.l (mb_lt mb0 hw0))) (by have := mb0.k; simp [u8s]; omega) (by decide) ?_
  intro v1 hp1' nb1 c1 hg1' ha1 hc1 ho1'
  obtain ⟨hst1, hT1⟩ := wr_store (bs := bs ++ m.key) hw0.lt hw0.le hl1 ho1 ha1 (by simpa [u8s] using hg1') ho1'
  refine rdw_nilCheck rfl (by simp only [evalF, upd, arg0, argS, ofConst, ofCell, Nat.reduceEqDiff, reduceIte, g1, g4] <;> rfl) (by decide) ?_
  refine rdw_fieldAddr rfl (by simp only [evalF, upd, arg0, argS, ofConst, ofCell, Nat.reduceEqDiff, reduceIte, g1, g4] <;> rfl) (by exact (fa50_0 _ _ _)) (by decide) ?_
  refine rdw_store rfl (by simp only [evalF, upd, arg0, argS, ofConst, ofCell, Nat.reduceEqDiff, reduceIte, g1, g4] <;> rfl) (by simp only [evalF, upd, arg0, argS, ofConst, ofCell, Nat.reduceEqDiff, reduceIte, g1, g4] <;> rfl) hst1 (by rw [ha1.2.1 idw hw0.lt (fun h => (ho1 idw h).2 rfl)]; exact look_live hl1) ?_
  refine rd_nil ⟨dyn_of rfl (fun p hp' => ?_), ?_⟩
  · have hp'' : p ∈ needs (regOf Try.f14 26) := hp'
    rw [show needs (regOf Try.f14 26) = [] from by kernel_rfl] at hp''
    simp at hp''
  try simp only
  generalize setHp hp1' idw _ = hp1 at hT1 ⊢
  obtain ⟨_, hw1, _, _, _⟩ := id hT1
  have hS1 := wrs_trans hS0 hT1
  have mb1 := mb_keep mb0 hT1
  refine ex_region ?_
  refine ro_move (by simp only [evalF, upd, arg0, argS, ofConst, ofCell, Nat.reduceEqDiff, reduceIte, g1, g4] <;> rfl) (by decide) ?_
  refine ro_fieldAddr (by simp only [evalF, upd, arg0, argS, ofConst, ofCell, Nat.reduceEqDiff, reduceIte, g1, g4] <;> rfl) (by exact (fa30_6 _ _ _)) (by decide) ?_
  refine ro_load (by simp only [evalF, upd, arg0, argS, ofConst, ofCell, Nat.reduceEqDiff, reduceIte, g1, g4] <;> rfl) (by exact (load1 ag27 mb1.l (mc37 mb1.k))) (by decide) ?_
  refine ro_call (f := 24) («as» := [.ptr idw 1 0, D]) rfl (by simp [evalF, upd, arg0, argS, ofConst, ofCell, Nat.reduceEqDiff, reduceIte, g1, g4]) plains_24 rfl (data24 (d + 1) mb1.rd mb1.od (by have := mb1.sd; omega) hw1 (by have := mb1.k; have := mb1.sd; have := mb1.sl; simp; omega)) (by decide) ?_
  rintro v2 hp2 nb2 hT2
  obtain ⟨rfl, hw2, _, _, _⟩ := id hT2
  have hS2 := wrs_trans hS1 hT2
  have mb2 := mb_keep mb1 hT2
  refine ro_nil ?_
  try simp only
  exact ⟨by first | rfl | trivial, by simp [upd, g1], by simp [upd, g4], hS2⟩

theorem sw14_10 (d : Nat) {hp0 : Hp} {nb0 idw q i1 : Nat} {m : M} {L D : AV} {g : Gm} {bs : List Int} (hk : m.kind = 10) (mb0 : Mb hp0 nb0 i1 q m L D) (hw0 : Wr hp0 nb0 idw q bs 0) (hbs : bs.length ≤ 10) (g1 : g 1 = .ptr i1 1 0) (g4 : g 4 = .ptr idw 1 0) :
    EX Try.prog plains (callA Try.prog facts plains 10000 (d + 3)) (orS facts (pureOf (callA Try.prog facts plains 10000 (d + 3)))) 10000 145 (codeAt (bodyOf Try.f14) [true, true, true, false]) g hp0 nb0 fun x g' hp' nb' => x = .normal ∧ g' 1 = .ptr i1 1 0 ∧ g' 4 = .ptr idw 1 0 ∧
      WrS hp0 nb0 idw q ([5, 6].foldl (fieldW m) (bs, 0)).1 ([5, 6].foldl (fieldW m) (bs, 0)).2 (.tuple []) hp' nb' := by
  simp only [List.foldl_cons, List.foldl_nil, fieldW]
  have hS0 : WrS hp0 nb0 idw q bs 0 (.tuple []) hp0 nb0 := ⟨rfl, hw0, Nat.le_refl _, fun _ _ => rfl, fun h => h⟩
  show EX _ _ _ _ _ 145 _ _ _ _ _
  simp only [codeAt, bodyOf, Try.f14, if_true, if_false, Bool.false_eq_true]
  refine ex_seq (ex_region ?_)
  refine ro_fieldAddr (by simp only [evalF, upd, arg0, argS, ofConst, ofCell, Nat.reduceEqDiff, reduceIte, g1, g4] <;> rfl) (by exact (fa30_0 _ _ _)) (by decide) ?_
  refine ro_load (by simp only [evalF, upd, arg0, argS, ofConst, ofCell, Nat.reduceEqDiff, reduceIte, g1, g4] <;> rfl) (by exact (load1 ag3 mb0.l mc0)) (by decide) ?_
  refine ro_nil ?_
  try simp only
  refine ex_block ?_
  refine ex_seq (ex_region ?_)
  refine ro_bin (by simp only [evalF, upd, arg0, argS, ofConst, ofCell, Nat.reduceEqDiff, reduceIte, g1, g4] <;> rfl) (by simp only [evalF, upd, arg0, argS, ofConst, ofCell, Nat.reduceEqDiff, reduceIte, g1, g4] <;> rfl) (by exact (eql_f (by omega))) (by decide) ?_
  refine ro_assign (by simp only [evalF, upd, arg0, argS, ofConst, ofCell, Nat.reduceEqDiff, reduceIte, g1, g4] <;> rfl) (by decide) ?_
  refine ro_nil ?_
  try simp only
  refine ex_cond (t := false) (by simp only [evalF, upd, arg0, argS, ofConst, ofCell, Nat.reduceEqDiff, reduceIte, g1, g4] <;> rfl) (fun h => by simp at h) (fun h => ?_)
  refine ex_seq (ex_region ?_)
  refine ro_bin (by simp only [evalF, upd, arg0, argS, ofConst, ofCell, Nat.reduceEqDiff, reduceIte, g1, g4] <;> rfl) (by simp only [evalF, upd, arg0, argS, ofConst, ofCell, Nat.reduceEqDiff, reduceIte, g1, g4] <;> rfl) (by exact (eql_f (by omega))) (by decide) ?_
  refine ro_assign (by simp only [evalF, upd, arg0, argS, ofConst, ofCell, Nat.reduceEqDiff, reduceIte, g1, g4] <;> rfl) (by decide) ?_
  refine ro_nil ?_
  try simp only
  refine ex_cond (t := false) (by simp only [evalF, upd, arg0, argS, ofConst, ofCell, Nat.reduceEqDiff, reduceIte, g1, g4] <;> rfl) (fun h => by simp at h) (fun h => ?_)
  refine ex_seq (ex_region ?_)
  refine ro_bin (by simp only [evalF, upd, arg0, argS, ofConst, ofCell, Nat.reduceEqDiff, reduceIte, g1, g4] <;> rfl) (by simp only [evalF, upd, arg0, argS, ofConst, ofCell, Nat.reduceEqDiff, reduceIte, g1, g4] <;> rfl) (by exact (eql_f (by omega))) (by decide) ?_
  refine ro_assign (by simp only [evalF, upd, arg0, argS, ofConst, ofCell, Nat.reduceEqDiff, reduceIte, g1, g4] <;> rfl) (by decide) ?_
  refine ro_nil ?_
  try simp only
  refine ex_cond (t := false) (by simp only [evalF, upd, arg0, argS, ofConst, ofCell, Nat.reduceEqDiff, reduceIte, g1, g4] <;> rfl) (fun h => by simp at h) (fun h => ?_)
  refine ex_seq (ex_seq (ex_region ?_))
  refine ro_bin (by simp only [evalF, upd, arg0, argS, ofConst, ofCell, Nat.reduceEqDiff, reduceIte, g1, g4] <;> rfl) (by simp only [evalF, upd, arg0, argS, ofConst, ofCell, Nat.reduceEqDiff, reduceIte, g1, g4] <;> rfl) (by exact (eql_f (by omega))) (by decide) ?_
  refine ro_assign (by simp only [evalF, upd, arg0, argS, ofConst, ofCell, Nat.reduceEqDiff, reduceIte, g1, g4] <;> rfl) (by decide) ?_
  refine ro_nil ?_
  try simp only
  refine ex_cond (t := false) (by simp only [evalF, upd, arg0, argS, ofConst, ofCell, Nat.reduceEqDiff, reduceIte, g1, g4] <;> rfl) (fun h => by simp at h) (fun h => ?_)
  refine ex_seq (ex_region ?_)
  refine ro_bin (by simp only [evalF, upd, arg0, argS, ofConst, ofCell, Nat.reduceEqDiff, reduceIte, g1, g4] <;> rfl) (by simp only [evalF, upd, arg0, argS, ofConst, ofCell, Nat.reduceEqDiff, reduceIte, g1, g4] <;> rfl) (by exact (eql_f (by omega))) (by decide) ?_
  refine ro_assign (by simp only [evalF, upd, arg0, argS, ofConst, ofCell, Nat.reduceEqDiff, reduceIte, g1, g4] <;> rfl) (by decide) ?_
  refine ro_nil ?_
  try simp only
  refine ex_cond (t := false) (by simp only [evalF, upd, arg0, argS, ofConst, ofCell, Nat.reduceEqDiff, reduceIte, g1, g4] <;> rfl) (fun h => by simp at h) (fun h => ?_)
  refine ex_region ?_
  refine ro_bin (by simp only [evalF, upd, arg0, argS, ofConst, ofCell, Nat.reduceEqDiff, reduceIte, g1, g4] <;> rfl) (by simp only [evalF, upd, arg0, argS, ofConst, ofCell, Nat.reduceEqDiff, reduceIte, g1, g4] <;> rfl) (by exact (eql_f (by omega))) (by decide) ?_
  refine ro_assign (by simp only [evalF, upd, arg0, argS, ofConst, ofCell, Nat.reduceEqDiff, reduceIte, g1, g4] <;> rfl) (by decide) ?_
  refine ro_nil ?_
  try simp only
  refine ex_cond (t := false) (by simp only [evalF, upd, arg0, argS, ofConst, ofCell, Nat.reduceEqDiff, reduceIte, g1, g4] <;> rfl) (fun h => by simp at h) (fun h => ?_)
  refine ex_seq (ex_region ?_)
  refine ro_bin (by simp only [evalF, upd, arg0, argS, ofConst, ofCell, Nat.reduceEqDiff, reduceIte, g1, g4] <;> rfl) (by simp only [evalF, upd, arg0, argS, ofConst, ofCell, Nat.reduceEqDiff, reduceIte, g1, g4] <;> rfl) (by exact (eql_f (by omega))) (by decide) ?_
  refine ro_assign (by simp only [evalF, upd, arg0, argS, ofConst, ofCell, Nat.reduceEqDiff, reduceIte, g1, g4] <;> rfl) (by decide) ?_
  refine ro_nil ?_
  try simp only
  refine ex_cond (t := false) (by simp only [evalF, upd, arg0, argS, ofConst, ofCell, Nat.reduceEqDiff, reduceIte, g1, g4] <;> rfl) (fun h => by simp at h) (fun h => ?_)
  refine ex_seq (ex_region ?_)
  refine ro_bin (by simp only [evalF, upd, arg0, argS, ofConst, ofCell, Nat.reduceEqDiff, reduceIte, g1, g4] <;> rfl) (by simp only [evalF, upd, arg0, argS, ofConst, ofCell, Nat.reduceEqDiff, reduceIte, g1, g4] <;> rfl) (by exact (eql_f (by omega))) (by decide) ?_
  refine ro_assign (by simp only [evalF, upd, arg0, argS, ofConst, ofCell, Nat.reduceEqDiff, reduceIte, g1, g4] <;> rfl) (by decide) ?_
  refine ro_nil ?_
  try simp only
  refine ex_cond (t := false) (by simp only [evalF, upd, arg0, argS, ofConst, ofCell, Nat.reduceEqDiff, reduceIte, g1, g4] <;> rfl) (fun h => by simp at h) (fun h => ?_)
  refine ex_seq (ex_seq (ex_region ?_))
  refine ro_bin (by simp only [evalF, upd, arg0, argS, ofConst, ofCell, Nat.reduceEqDiff, reduceIte, g1, g4] <;> rfl) (by simp only [evalF, upd, arg0, argS, ofConst, ofCell, Nat.reduceEqDiff, reduceIte, g1, g4] <;> rfl) (by exact (eql_f (by omega))) (by decide) ?_
  refine ro_assign (by simp only [evalF, upd, arg0, argS, ofConst, ofCell, Nat.reduceEqDiff, reduceIte, g1, g4] <;> rfl) (by decide) ?_
  refine ro_nil ?_
  try simp only
  refine ex_cond (t := false) (by simp only [evalF, upd, arg0, argS, ofConst, ofCell, Nat.reduceEqDiff, reduceIte, g1, g4] <;> rfl) (fun h => by simp at h) (fun h => ?_)
  refine ex_region ?_
  refine ro_bin (by simp only [evalF, upd, arg0, argS, ofConst, ofCell, Nat.reduceEqDiff, reduceIte, g1, g4] <;> rfl) (by simp only [evalF, upd, arg0, argS, ofConst, ofCell, Nat.reduceEqDiff, reduceIte, g1, g4] <;> rfl) (by exact (eql_t (by omega))) (by decide) ?_
  refine ro_assign (by simp only [evalF, upd, arg0, argS, ofConst, ofCell, Nat.reduceEqDiff, reduceIte, g1, g4] <;> rfl) (by decide) ?_
  refine ro_nil ?_
  try simp only
  refine ex_cond (t := true) (by simp only [evalF, upd, arg0, argS, ofConst, ofCell, Nat.reduceEqDiff, reduceIte, g1, g4] <;> rfl) (fun h => ?_) (fun h => by simp at h)
  refine ex_seq (ex_draw (by kernel_rfl) ?_)
  obtain ⟨vb1, hl1, hg1, ho1⟩ := hw0.ex
  refine rdw_move rfl (by simp only [evalF, upd, arg0, argS, ofConst, ofCell, Nat.reduceEqDiff, reduceIte, g1, g4] <;> rfl) (by decide) ?_
  refine rdw_move rfl (by simp only [evalF, upd, arg0, argS, ofConst, ofCell, Nat.reduceEqDiff, reduceIte, g1, g4] <;> rfl) (by decide) ?_
  refine rdw_nilCheck rfl (by simp only [evalF, upd, arg0, argS, ofConst, ofCell, Nat.reduceEqDiff, reduceIte, g1, g4] <;> rfl) (by decide) ?_
  refine rdw_fieldAddr rfl (by simp only [evalF, upd, arg0, argS, ofConst, ofCell, Nat.reduceEqDiff, reduceIte, g1, g4] <;> rfl) (by exact (fa50_0 _ _ _)) (by decide) ?_
  refine rdw_load rfl (by simp only [evalF, upd, arg0, argS, ofConst, ofCell, Nat.reduceEqDiff, reduceIte, g1, g4] <;> rfl) (by exact (load1 ag27 hl1 rfl)) (by decide) ?_
  refine rdw_fieldAddr rfl (by simp only [evalF, upd, arg0, argS, ofConst, ofCell, Nat.reduceEqDiff, reduceIte, g1, g4] <;> rfl) (by exact (fa30_5 _ _ _)) (by decide) ?_
  refine rdw_slice rfl (by simp only [evalF, upd, arg0, argS, ofConst, ofCell, Nat.reduceEqDiff, reduceIte, g1, g4] <;> rfl) rfl rfl rfl (slice26 _ _ _) (by decide) ?_
  refine rd_append (r := u8s m.key) st27 Try.underlying27 (by simp only [evalF, upd, arg0, argS, ofConst, ofCell, Nat.reduceEqDiff, reduceIte, g1, g4] <;> rfl) (by simp only [evalF, upd, arg0, argS, ofConst, ofCell, Nat.reduceEqDiff, reduceIte, g1, g4] <;> rfl) hg1 (row_src (key_row mb0.k mb0.l (mb_lt mb0 hw0))) (by have := mb0.k; simp [u8s]; omega) (by decide) ?_
  intro v1 hp1' nb1 c1 hg1' ha1 hc1 ho1'
  obtain ⟨hst1, hT1⟩ := wr_store (bs := bs ++ m.key) hw0.lt hw0.le hl1 ho1 ha1 (by simpa [u8s] using hg1') ho1'
  refine rdw_nilCheck rfl (by simp only [evalF, upd, arg0, argS, ofConst, ofCell, Nat.reduceEqDiff, reduceIte, g1, g4] <;> rfl) (by decide) ?_
  refine rdw_fieldAddr rfl (by simp only [evalF, upd, arg0, argS, ofConst, ofCell, Nat.reduceEqDiff, reduceIte, g1, g4] <;> rfl) (by exact (fa50_0 _ _ _)) (by decide) ?_
  refine rdw_store rfl (by simp only [evalF, upd, arg0, argS, ofConst, ofCell, Nat.reduceEqDiff, reduceIte, g1, g4] <;> rfl) (by simp only [evalF, upd, arg0, argS, ofConst, ofCell, Nat.reduceEqDiff, reduceIte, g1, g4] <;> rfl) hst1 (by rw [ha1.2.1 idw hw0.lt (fun h => (ho1 idw h).2 rfl)]; exact look_live hl1) ?_
  refine rd_nil ⟨dyn_of rfl (fun p hp' => ?_), ?_⟩
  · have hp'' : p ∈ needs (regOf Try.f14 26) := hp'
    rw [show needs (regOf Try.f14 26) = [] from by kernel_rfl] at hp''
    simp at hp''
  try simp only
  generalize setHp hp1' idw _ = hp1 at hT1 ⊢
  obtain ⟨_, hw1, _, _, _⟩ := id hT1
  have hS1 := wrs_trans hS0 hT1
  have mb1 := mb_keep mb0 hT1
  refine ex_region ?_
  refine ro_move (by simp only [evalF, upd, arg0, argS, ofConst, ofCell, Nat.reduceEqDiff, reduceIte, g1, g4] <;> rfl) (by decide) ?_
  refine ro_fieldAddr (by simp only [evalF, upd, arg0, argS, ofConst, ofCell, Nat.reduceEqDiff, reduceIte, g1, g4] <;> rfl) (by exact (fa30_6 _ _ _)) (by decide) ?_
  refine ro_load (by simp only [evalF, upd, arg0, argS, ofConst, ofCell, Nat.reduceEqDiff, reduceIte, g1, g4] <;> rfl) (by exact (load1 ag27 mb1.l (mc37 mb1.k))) (by decide) ?_
  refine ro_call (f := 24) («as» := [.ptr idw 1 0, D]) rfl (by simp [evalF, upd, arg0, argS, ofConst, ofCell, Nat.reduceEqDiff, reduceIte, g1, g4]) plains_24 rfl (data24 (d + 1) mb1.rd mb1.od (by have := mb1.sd; omega) hw1 (by have := mb1.k; have := mb1.sd; have := mb1.sl; simp; omega)) (by decide) ?_
  rintro v2 hp2 nb2 hT2
  obtain ⟨rfl, hw2, _, _, _⟩ := id hT2
  have hS2 := wrs_trans hS1 hT2
  have mb2 := mb_keep mb1 hT2
  refine ro_nil ?_
  try simp only
  exact ⟨by first | rfl | trivial, by simp [upd, g1], by simp [upd, g4], hS2⟩

theorem sw14_11 (d : Nat) {hp0 : Hp} {nb0 idw q i1 : Nat} {m : M} {L D : AV} {g : Gm} {bs : List Int} (hk : m.kind = 11) (mb0 : Mb hp0 nb0 i1 q m L D) (hw0 : Wr hp0 nb0 idw q bs 0) (hbs : bs.length ≤ 10) (g1 : g 1 = .ptr i1 1 0) (g4 : g 4 = .ptr idw 1 0) :
    EX Try.prog plains (callA Try.prog facts plains 10000 (d + 3)) (orS facts (pureOf (callA Try.prog facts plains 10000 (d + 3)))) 10000 145 (codeAt (bodyOf Try.f14) [true, true, true, false]) g hp0 nb0 fun x g' hp' nb' => x = .normal ∧ g' 1 = .ptr i1 1 0 ∧ g' 4 = .ptr idw 1 0 ∧
      WrS hp0 nb0 idw q ([5].foldl (fieldW m) (bs, 0)).1 ([5].foldl (fieldW m) (bs, 0)).2 (.tuple []) hp' nb' := by
  simp only [List.foldl_cons, List.foldl_nil, fieldW]
  have hS0 : WrS hp0 nb0 idw q bs 0 (.tuple []) hp0 nb0 := ⟨rfl, hw0, Nat.le_refl _, fun _ _ => rfl, fun h => h⟩
  show EX _ _ _ _ _ 145 _ _ _ _ _
  simp only [codeAt, bodyOf, Try.f14, if_true, if_false, Bool.false_eq_true]
  refine ex_seq (ex_region ?_)
  refine ro_fieldAddr (by simp only [evalF, upd, arg0, argS, ofConst, ofCell, Nat.reduceEqDiff, reduceIte, g1, g4] <;> rfl) (by exact (fa30_0 _ _ _)) (by decide) ?_
  refine ro_load (by simp only [evalF, upd, arg0, argS, ofConst, ofCell, Nat.reduceEqDiff, reduceIte, g1, g4] <;> rfl) (by exact (load1 ag3 mb0.l mc0)) (by decide) ?_
  refine ro_nil ?_
  try simp only
  refine ex_block ?_
  refine ex_seq (ex_region ?_)
  refine ro_bin (by simp only [evalF, upd, arg0, argS, ofConst, ofCell, Nat.reduceEqDiff, reduceIte, g1, g4] <;> rfl) (by simp only [evalF, upd, arg0, argS, ofConst, ofCell, Nat.reduceEqDiff, reduceIte, g1, g4] <;> rfl) (by exact (eql_f (by omega))) (by decide) ?_
  refine ro_assign (by simp only [evalF, upd, arg0, argS, ofConst, ofCell, Nat.reduceEqDiff, reduceIte, g1, g4] <;> rfl) (by decide) ?_
  refine ro_nil ?_
  try simp only
  refine ex_cond (t := false) (by simp only [evalF, upd, arg0, argS, ofConst, ofCell, Nat.reduceEqDiff, reduceIte, g1, g4] <;> rfl) (fun h => by simp at h) (fun h => ?_)
  refine ex_seq (ex_region ?_)
  refine ro_bin (by simp only [evalF, upd, arg0, argS, ofConst, ofCell, Nat.reduceEqDiff, reduceIte, g1, g4] <;> rfl) (by simp only [evalF, upd, arg0, argS, ofConst, ofCell, Nat.reduceEqDiff, reduceIte, g1, g4] <;> rfl) (by exact (eql_f (by omega))) (by decide) ?_
  refine ro_assign (by simp only [evalF, upd, arg0, argS, ofConst, ofCell, Nat.reduceEqDiff, reduceIte, g1, g4] <;> rfl) (by decide) ?_
  refine ro_nil ?_
  try simp only
  refine ex_cond (t := false) (by simp only [evalF, upd, arg0, argS, ofConst, ofCell, Nat.reduceEqDiff, reduceIte, g1, g4] <;> rfl) (fun h => by simp at h) (fun h => ?_)
  refine ex_seq (ex_region ?_)
  refine ro_bin (by simp only [evalF, upd, arg0, argS, ofConst, ofCell, Nat.reduceEqDiff, reduceIte, g1, g4] <;> rfl) (by simp only [evalF, upd, arg0, argS, ofConst, ofCell, Nat.reduceEqDiff, reduceIte, g1, g4] <;> rfl) (by exact (eql_f (by omega))) (by decide) ?_
  refine ro_assign (by simp only [evalF, upd, arg0, argS, ofConst, ofCell, Nat.reduceEqDiff, reduceIte, g1, g4] <;> rfl) (by decide) ?_
  refine ro_nil ?_
  try simp only
  refine ex_cond (t := false) (by simp only [evalF, upd, arg0, argS, ofConst, ofCell, Nat.reduceEqDiff, reduceIte, g1, g4] <;> rfl) (fun h => by simp at h) (fun h => ?_)
  refine ex_seq (ex_seq (ex_region ?_))
  refine ro_bin (by simp only [evalF, upd, arg0, argS, ofConst, ofCell, Nat.reduceEqDiff, reduceIte, g1, g4] <;> rfl) (by simp only [evalF, upd, arg0, argS, ofConst, ofCell, Nat.reduceEqDiff, reduceIte, g1, g4] <;> rfl) (by exact (eql_f (by omega))) (by decide) ?_
  refine ro_assign (by simp only [evalF, upd, arg0, argS, ofConst, ofCell, Nat.reduceEqDiff, reduceIte, g1, g4] <;> rfl) (by decide) ?_
  refine ro_nil ?_
  try simp only
  refine ex_cond (t := false) (by simp only [evalF, upd, arg0, argS, ofConst, ofCell, Nat.reduceEqDiff, reduceIte, g1, g4] <;> rfl) (fun h => by simp at h) (fun h => ?_)
  refine ex_seq (ex_region ?_)
  refine ro_bin (by simp only [evalF, upd, arg0, argS, ofConst, ofCell, Nat.reduceEqDiff, reduceIte, g1, g4] <;> rfl) (by simp only [evalF, upd, arg0, argS, ofConst, ofCell, Nat.reduceEqDiff, reduceIte, g1, g4] <;> rfl) (by exact (eql_f (by omega))) (by decide) ?_
  refine ro_assign (by simp only [evalF, upd, arg0, argS, ofConst, ofCell, Nat.reduceEqDiff, reduceIte, g1, g4] <;> rfl) (by decide) ?_
  refine ro_nil ?_
  try simp only
  refine ex_cond (t := false) (by simp only [evalF, upd, arg0, argS, ofConst, ofCell, Nat.reduceEqDiff, reduceIte, g1, g4] <;> rfl) (fun h => by simp at h) (fun h => ?_)
  refine ex_region ?_
  refine ro_bin (by simp only [evalF, upd, arg0, argS, ofConst, ofCell, Nat.reduceEqDiff, reduceIte, g1, g4] <;> rfl) (by simp only [evalF, upd, arg0, argS, ofConst, ofCell, Nat.reduceEqDiff, reduceIte, g1, g4] <;> rfl) (by exact (eql_t (by omega))) (by decide) ?_
  refine ro_assign (by simp only [evalF, upd, arg0, argS, ofConst, ofCell, Nat.reduceEqDiff, reduceIte, g1, g4] <;> rfl) (by decide) ?_
  refine ro_nil ?_
  try simp only
  refine ex_cond (t := true) (by simp only [evalF, upd, arg0, argS, ofConst, ofCell, Nat.reduceEqDiff, reduceIte, g1, g4] <;> rfl) (fun h => ?_) (fun h => by simp at h)
  refine ex_draw (by kernel_rfl) ?_
  obtain ⟨vb1, hl1, hg1, ho1⟩ := hw0.ex
  refine rdw_move rfl (by simp only [evalF, upd, arg0, argS, ofConst, ofCell, Nat.reduceEqDiff, reduceIte, g1, g4] <;> rfl) (by decide) ?_
  refine rdw_move rfl (by simp only [evalF, upd, arg0, argS, ofConst, ofCell, Nat.reduceEqDiff, reduceIte, g1, g4] <;> rfl) (by decide) ?_
  refine rdw_nilCheck rfl (by simp only [evalF, upd, arg0, argS, ofConst, ofCell, Nat.reduceEqDiff, reduceIte, g1, g4] <;> rfl) (by decide) ?_
  refine rdw_fieldAddr rfl (by simp only [evalF, upd, arg0, argS, ofConst, ofCell, Nat.reduceEqDiff, reduceIte, g1, g4] <;> rfl) (by exact (fa50_0 _ _ _)) (by decide) ?_
  refine rdw_load rfl (by simp only [evalF, upd, arg0, argS, ofConst, ofCell, Nat.reduceEqDiff, reduceIte, g1, g4] <;> rfl) (by exact (load1 ag27 hl1 rfl)) (by decide) ?_
  refine rdw_fieldAddr rfl (by simp only [evalF, upd, arg0, argS, ofConst, ofCell, Nat.reduceEqDiff, reduceIte, g1, g4] <;> rfl) (by exact (fa30_5 _ _ _)) (by decide) ?_
  refine rdw_slice rfl (by simp only [evalF, upd, arg0, argS, ofConst, ofCell, Nat.reduceEqDiff, reduceIte, g1, g4] <;> rfl) rfl rfl rfl (slice26 _ _ _) (by decide) ?_
  refine rd_append (r := u8s m.key) st27 Try.underlying27 (by simp only [evalF, upd, arg0, argS, ofConst, ofCell, Nat.reduceEqDiff, reduceIte, g1, g4] <;> rfl) (by simp only [evalF, upd, arg0, argS, ofConst, ofCell, Nat.reduceEqDiff, reduceIte, g1, g4] <;> rfl) hg1 (row_src (key_row mb0.k mb0.l (mb_lt mb0 hw0))) (by have := mb0.k; simp [u8s]; omega) (by decide) ?_
  intro v1 hp1' nb1 c1 hg1' ha1 hc1 ho1'
  obtain ⟨hst1, hT1⟩ := wr_store (bs := bs ++ m.key) hw0.lt hw0.le hl1 ho1 ha1 (by simpa [u8s] using hg1') ho1'
  refine rdw_nilCheck rfl (by simp only [evalF, upd, arg0, argS, ofConst, ofCell, Nat.reduceEqDiff, reduceIte, g1, g4] <;> rfl) (by decide) ?_
  refine rdw_fieldAddr rfl (by simp only [evalF, upd, arg0, argS, ofConst, ofCell, Nat.reduceEqDiff, reduceIte, g1, g4] <;> rfl) (by exact (fa50_0 _ _ _)) (by decide) ?_
  refine rdw_store rfl (by simp only [evalF, upd, arg0, argS, ofConst, ofCell, Nat.reduceEqDiff, reduceIte, g1, g4] <;> rfl) (by simp only [evalF, upd, arg0, argS, ofConst, ofCell, Nat.reduceEqDiff, reduceIte, g1, g4] <;> rfl) hst1 (by rw [ha1.2.1 idw hw0.lt (fun h => (ho1 idw h).2 rfl)]; exact look_live hl1) ?_
  refine rd_nil ⟨dyn_of rfl (fun p hp' => ?_), ?_⟩
  · have hp'' : p ∈ needs (regOf Try.f14 15) := hp'
    rw [show needs (regOf Try.f14 15) = [] from by kernel_rfl] at hp''
    simp at hp''
  try simp only
  generalize setHp hp1' idw _ = hp1 at hT1 ⊢
  obtain ⟨_, hw1, _, _, _⟩ := id hT1
  have hS1 := wrs_trans hS0 hT1
  have mb1 := mb_keep mb0 hT1
  exact ⟨by first | rfl | trivial, by simp [upd, g1], by simp [upd, g4], hS1⟩

theorem sw14_12 (d : Nat) {hp0 : Hp} {nb0 idw q i1 : Nat} {m : M} {L D : AV} {g : Gm} {bs : List Int} (hk : m.kind = 12) (mb0 : Mb hp0 nb0 i1 q m L D) (hw0 : Wr hp0 nb0 idw q bs 0) (hbs : bs.length ≤ 10) (g1 : g 1 = .ptr i1 1 0) (g4 : g 4 = .ptr idw 1 0) :
    EX Try.prog plains (callA Try.prog facts plains 10000 (d + 3)) (orS facts (pureOf (callA Try.prog facts plains 10000 (d + 3)))) 10000 145 (codeAt (bodyOf Try.f14) [true, true, true, false]) g hp0 nb0 fun x g' hp' nb' => x = .normal ∧ g' 1 = .ptr i1 1 0 ∧ g' 4 = .ptr idw 1 0 ∧
      WrS hp0 nb0 idw q ([6].foldl (fieldW m) (bs, 0)).1 ([6].foldl (fieldW m) (bs, 0)).2 (.tuple []) hp' nb' := by
  simp only [List.foldl_cons, List.foldl_nil, fieldW]
  have hS0 : WrS hp0 nb0 idw q bs 0 (.tuple []) hp0 nb0 := ⟨rfl, hw0, Nat.le_refl _, fun _ _ => rfl, fun h => h⟩
  show EX _ _ _ _ _ 145 _ _ _ _ _
  simp only [codeAt, bodyOf, Try.f14, if_true, if_false, Bool.false_eq_true]
  refine ex_seq (ex_region ?_)
  refine ro_fieldAddr (by simp only [evalF, upd, arg0, argS, ofConst, ofCell, Nat.reduceEqDiff, reduceIte, g1, g4] <;> rfl) (by exact (fa30_0 _ _ _)) (by decide) ?_
  refine ro_load (by simp only [evalF, upd, arg0, argS, ofConst, ofCell, Nat.reduceEqDiff, reduceIte, g1, g4] <;> rfl) (by exact (load1 ag3 mb0.l mc0)) (by decide) ?_
  refine ro_nil ?_
  try simp only
  refine ex_block ?_
  refine ex_seq (ex_region ?_)
  refine ro_bin (by simp only [evalF, upd, arg0, argS, ofConst, ofCell, Nat.reduceEqDiff, reduceIte, g1, g4] <;> rfl) (by simp only [evalF, upd, arg0, argS, ofConst, ofCell, Nat.reduceEqDiff, reduceIte, g1, g4] <;> rfl) (by exact (eql_f (by omega))) (by decide) ?_
  refine ro_assign (by simp only [evalF, upd, arg0, argS, ofConst, ofCell, Nat.reduceEqDiff, reduceIte, g1, g4] <;> rfl) (by decide) ?_
  refine ro_nil ?_
  try simp only
  refine ex_cond (t := false) (by simp only [evalF, upd, arg0, argS, ofConst, ofCell, Nat.reduceEqDiff, reduceIte, g1, g4] <;> rfl) (fun h => by simp at h) (fun h => ?_)
  refine ex_seq (ex_region ?_)
  refine ro_bin (by simp only [evalF, upd, arg0, argS, ofConst, ofCell, Nat.reduceEqDiff, reduceIte, g1, g4] <;> rfl) (by simp only [evalF, upd, arg0, argS, ofConst, ofCell, Nat.reduceEqDiff, reduceIte, g1, g4] <;> rfl) (by exact (eql_f (by omega))) (by decide) ?_
  refine ro_assign (by simp only [evalF, upd, arg0, argS, ofConst, ofCell, Nat.reduceEqDiff, reduceIte, g1, g4] <;> rfl) (by decide) ?_
  refine ro_nil ?_
  try simp only
  refine ex_cond (t := false) (by simp only [evalF, upd, arg0, argS, ofConst, ofCell, Nat.reduceEqDiff, reduceIte, g1, g4] <;> rfl) (fun h => by simp at h) (fun h => ?_)
  refine ex_seq (ex_region ?_)
  refine ro_bin (by simp only [evalF, upd, arg0, argS, ofConst, ofCell, Nat.reduceEqDiff, reduceIte, g1, g4] <;> rfl) (by simp only [evalF, upd, arg0, argS, ofConst, ofCell, Nat.reduceEqDiff, reduceIte, g1, g4] <;> rfl) (by exact (eql_f (by omega))) (by decide) ?_
  refine ro_assign (by simp only [evalF, upd, arg0, argS, ofConst, ofCell, Nat.reduceEqDiff, reduceIte, g1, g4] <;> rfl) (by decide) ?_
  refine ro_nil ?_
  try simp only
  refine ex_cond (t := false) (by simp only [evalF, upd, arg0, argS, ofConst, ofCell, Nat.reduceEqDiff, reduceIte, g1, g4] <;> rfl) (fun h => by simp at h) (fun h => ?_)
  refine ex_seq (ex_seq (ex_region ?_))
  refine ro_bin (by simp only [evalF, upd, arg0, argS, ofConst, ofCell, Nat.reduceEqDiff, reduceIte, g1, g4] <;> rfl) (by simp only [evalF, upd, arg0, argS, ofConst, ofCell, Nat.reduceEqDiff, reduceIte, g1, g4] <;> rfl) (by exact (eql_f (by omega))) (by decide) ?_
  refine ro_assign (by simp only [evalF, upd, arg0, argS, ofConst, ofCell, Nat.reduceEqDiff, reduceIte, g1, g4] <;> rfl) (by decide) ?_
  refine ro_nil ?_
  try simp only
  refine ex_cond (t := false) (by simp only [evalF, upd, arg0, argS, ofConst, ofCell, Nat.reduceEqDiff, reduceIte, g1, g4] <;> rfl) (fun h => by simp at h) (fun h => ?_)
  refine ex_seq (ex_region ?_)
  refine ro_bin (by simp only [evalF, upd, arg0, argS, ofConst, ofCell, Nat.reduceEqDiff, reduceIte, g1, g4] <;> rfl) (by simp only [evalF, upd, arg0, argS, ofConst, ofCell, Nat.reduceEqDiff, reduceIte, g1, g4] <;> rfl) (by exact (eql_f (by omega))) (by decide) ?_
  refine ro_assign (by simp only [evalF, upd, arg0, argS, ofConst, ofCell, Nat.reduceEqDiff, reduceIte, g1, g4] <;> rfl) (by decide) ?_
  refine ro_nil ?_
  try simp only
  refine ex_cond (t := false) (by simp only [evalF, upd, arg0, argS, ofConst, ofCell, Nat.reduceEqDiff, reduceIte, g1, g4] <;> rfl) (fun h => by simp at h) (fun h => ?_)
  refine ex_region ?_
  refine ro_bin (by simp only [evalF, upd, arg0, argS, ofConst, ofCell, Nat.reduceEqDiff, reduceIte, g1, g4] <;> rfl) (by simp only [evalF, upd, arg0, argS, ofConst, ofCell, Nat.reduceEqDiff, reduceIte, g1, g4] <;> rfl) (by exact (eql_f (by omega))) (by decide) ?_
  refine ro_assign (by simp only [evalF, upd, arg0, argS, ofConst, ofCell, Nat.reduceEqDiff, reduceIte, g1, g4] <;> rfl) (by decide) ?_
  refine ro_nil ?_
  try simp only
  refine ex_cond (t := false) (by simp only [evalF, upd, arg0, argS, ofConst, ofCell, Nat.reduceEqDiff, reduceIte, g1, g4] <;> rfl) (fun h => by simp at h) (fun h => ?_)
  refine ex_seq (ex_region ?_)
  refine ro_bin (by simp only [evalF, upd, arg0, argS, ofConst, ofCell, Nat.reduceEqDiff, reduceIte, g1, g4] <;> rfl) (by simp only [evalF, upd, arg0, argS, ofConst, ofCell, Nat.reduceEqDiff, reduceIte, g1, g4] <;> rfl) (by exact (eql_f (by omega))) (by decide) ?_
  refine ro_assign (by simp only [evalF, upd, arg0, argS, ofConst, ofCell, Nat.reduceEqDiff, reduceIte, g1, g4] <;> rfl) (by decide) ?_
  refine ro_nil ?_
  try simp only
  refine ex_cond (t := false) (by simp only [evalF, upd, arg0, argS, ofConst, ofCell, Nat.reduceEqDiff, reduceIte, g1, g4] <;> rfl) (fun h => by simp at h) (fun h => ?_)
  refine ex_seq (ex_region ?_)
  refine ro_bin (by simp only [evalF, upd, arg0, argS, ofConst, ofCell, Nat.reduceEqDiff, reduceIte, g1, g4] <;> rfl) (by simp only [evalF, upd, arg0, argS, ofConst, ofCell, Nat.reduceEqDiff, reduceIte, g1, g4] <;> rfl) (by exact (eql_f (by omega))) (by decide) ?_
  refine ro_assign (by simp only [evalF, upd, arg0, argS, ofConst, ofCell, Nat.reduceEqDiff, reduceIte, g1, g4] <;> rfl) (by decide) ?_
  refine ro_nil ?_
  try simp only
  refine ex_cond (t := false) (by simp only [evalF, upd, arg0, argS, ofConst, ofCell, Nat.reduceEqDiff, reduceIte, g1, g4] <;> rfl) (fun h => by simp at h) (fun h => ?_)
  refine ex_seq (ex_seq (ex_region ?_))
  refine ro_bin (by simp only [evalF, upd, arg0, argS, ofConst, ofCell, Nat.reduceEqDiff, reduceIte, g1, g4] <;> rfl) (by simp only [evalF, upd, arg0, argS, ofConst, ofCell, Nat.reduceEqDiff, reduceIte, g1, g4] <;> rfl) (by exact (eql_f (by omega))) (by decide) ?_
  refine ro_assign (by simp only [evalF, upd, arg0, argS, ofConst, ofCell, Nat.reduceEqDiff, reduceIte, g1, g4] <;> rfl) (by decide) ?_
  refine ro_nil ?_
  try simp only
  refine ex_cond (t := false) (by simp only [evalF, upd, arg0, argS, ofConst, ofCell, Nat.reduceEqDiff, reduceIte, g1, g4] <;> rfl) (fun h => by simp at h) (fun h => ?_)
  refine ex_region ?_
  refine ro_bin (by simp only [evalF, upd, arg0, argS, ofConst, ofCell, Nat.reduceEqDiff, reduceIte, g1, g4] <;> rfl) (by simp only [evalF, upd, arg0, argS, ofConst, ofCell, Nat.reduceEqDiff, reduceIte, g1, g4] <;> rfl) (by exact (eql_f (by omega))) (by decide) ?_
  refine ro_assign (by simp only [evalF, upd, arg0, argS, ofConst, ofCell, Nat.reduceEqDiff, reduceIte, g1, g4] <;> rfl) (by decide) ?_
  refine ro_nil ?_
  try simp only
  refine ex_cond (t := false) (by simp only [evalF, upd, arg0, argS, ofConst, ofCell, Nat.reduceEqDiff, reduceIte, g1, g4] <;> rfl) (fun h => by simp at h) (fun h => ?_)
  refine ex_seq (ex_region ?_)
  refine ro_bin (by simp only [evalF, upd, arg0, argS, ofConst, ofCell, Nat.reduceEqDiff, reduceIte, g1, g4] <;> rfl) (by simp only [evalF, upd, arg0, argS, ofConst, ofCell, Nat.reduceEqDiff, reduceIte, g1, g4] <;> rfl) (by exact (eql_t (by omega))) (by decide) ?_
  refine ro_assign (by simp only [evalF, upd, arg0, argS, ofConst, ofCell, Nat.reduceEqDiff, reduceIte, g1, g4] <;> rfl) (by decide) ?_
  refine ro_nil ?_
  try simp only
  refine ex_cond (t := true) (by simp only [evalF, upd, arg0, argS, ofConst, ofCell, Nat.reduceEqDiff, reduceIte, g1, g4] <;> rfl) (fun h => ?_) (fun h => by simp at h)
  refine ex_region ?_
  refine ro_move (by simp only [evalF, upd, arg0, argS, ofConst, ofCell, Nat.reduceEqDiff, reduceIte, g1, g4] <;> rfl) (by decide) ?_
  refine ro_fieldAddr (by simp only [evalF, upd, arg0, argS, ofConst, ofCell, Nat.reduceEqDiff, reduceIte, g1, g4] <;> rfl) (by exact (fa30_6 _ _ _)) (by decide) ?_
  refine ro_load (by simp only [evalF, upd, arg0, argS, ofConst, ofCell, Nat.reduceEqDiff, reduceIte, g1, g4] <;> rfl) (by exact (load1 ag27 mb0.l (mc37 mb0.k))) (by decide) ?_
  refine ro_call (f := 24) («as» := [.ptr idw 1 0, D]) rfl (by simp [evalF, upd, arg0, argS, ofConst, ofCell, Nat.reduceEqDiff, reduceIte, g1, g4]) plains_24 rfl (data24 (d + 1) mb0.rd mb0.od (by have := mb0.sd; omega) hw0 (by have := mb0.k; have := mb0.sd; have := mb0.sl; simp; omega)) (by decide) ?_
  rintro v1 hp1 nb1 hT1
  obtain ⟨rfl, hw1, _, _, _⟩ := id hT1
  have hS1 := wrs_trans hS0 hT1
  have mb1 := mb_keep mb0 hT1
  refine ro_nil ?_
  try simp only
  exact ⟨by first | rfl | trivial, by simp [upd, g1], by simp [upd, g4], hS1⟩

theorem mid14_y (d : Nat) {hp0 : Hp} {nb0 idw q i1 : Nat} {m : M} {L D : AV} {g : Gm} {bs : List Int} {e : Int} (hk : m.kind = 9 ∨ m.kind = 12) (mb0 : Mb hp0 nb0 i1 q m L D) (hw0 : Wr hp0 nb0 idw q bs e) (hbs : bs.length ≤ 50000) (g1 : g 1 = .ptr i1 1 0) (g4 : g 4 = .ptr idw 1 0) :
    EX Try.prog plains (callA Try.prog facts plains 10000 (d + 3)) (orS facts (pureOf (callA Try.prog facts plains 10000 (d + 3)))) 10000 145 (codeAt (bodyOf Try.f14) [true, true, true, true, false]) g hp0 nb0 fun x g' hp' nb' => x = .normal ∧ g' 1 = .ptr i1 1 0 ∧ g' 4 = .ptr idw 1 0 ∧
      WrS hp0 nb0 idw q ([1, 7].foldl (fieldW m) (bs, e)).1 ([1, 7].foldl (fieldW m) (bs, e)).2 (.tuple []) hp' nb' := by
  simp only [List.foldl_cons, List.foldl_nil, fieldW]
  have hS0 : WrS hp0 nb0 idw q bs e (.tuple []) hp0 nb0 := ⟨rfl, hw0, Nat.le_refl _, fun _ _ => rfl, fun h => h⟩
  show EX _ _ _ _ _ 145 _ _ _ _ _
  simp only [codeAt, bodyOf, Try.f14, if_true, if_false, Bool.false_eq_true]
  refine ex_seq (ex_region ?_)
  refine ro_fieldAddr (by simp only [evalF, upd, arg0, argS, ofConst, ofCell, Nat.reduceEqDiff, reduceIte, g1, g4] <;> rfl) (by exact (fa30_0 _ _ _)) (by decide) ?_
  refine ro_load (by simp only [evalF, upd, arg0, argS, ofConst, ofCell, Nat.reduceEqDiff, reduceIte, g1, g4] <;> rfl) (by exact (load1 ag3 mb0.l mc0)) (by decide) ?_
  refine ro_bin (by simp only [evalF, upd, arg0, argS, ofConst, ofCell, Nat.reduceEqDiff, reduceIte, g1, g4] <;> rfl) (by simp only [evalF, upd, arg0, argS, ofConst, ofCell, Nat.reduceEqDiff, reduceIte, g1, g4] <;> rfl) (by exact (eql_v)) (by decide) ?_
  refine ro_move (by simp only [evalF, upd, arg0, argS, ofConst, ofCell, Nat.reduceEqDiff, reduceIte, g1, g4] <;> rfl) (by decide) ?_
  refine ro_gsel (b := m.kind == 9) (want := false) (v := .ptr i1 1 0) rfl (by simp only [evalF, upd, arg0, argS, ofConst, ofCell, Nat.reduceEqDiff, reduceIte, g1, g4] <;> rfl) rfl (fun hb => by simp only [primA, evalF, upd, arg0, argS, ofConst, ofCell, Nat.reduceEqDiff, reduceIte, g1, g4, selV_hit hb, fa30_0, Option.map_some] <;> rfl) (by decide) ?_
  refine ro_gsel (b := m.kind == 9) (want := false) (v := .pv (.int .i64 m.kind)) rfl (by simp only [evalF, upd, arg0, argS, ofConst, ofCell, Nat.reduceEqDiff, reduceIte, g1, g4] <;> rfl) rfl (fun hb => by simp only [primA, evalF, upd, arg0, argS, ofConst, ofCell, Nat.reduceEqDiff, reduceIte, g1, g4, selV_hit hb, load1 ag3 mb0.l mc0, Option.map_some] <;> rfl) (by decide) ?_
  refine ro_gsel (b := m.kind == 9) (want := false) (v := .pv (.bool (m.kind == 12))) rfl (by simp only [evalF, upd, arg0, argS, ofConst, ofCell, Nat.reduceEqDiff, reduceIte, g1, g4] <;> rfl) rfl (fun hb => by simp only [primA, evalF, upd, arg0, argS, ofConst, ofCell, Nat.reduceEqDiff, reduceIte, g1, g4, selV_hit hb, eql_v, Option.map_some] <;> rfl) (by decide) ?_
  refine ro_por (b := m.kind == 9) (z := m.kind == 12) (by simp only [evalF, upd, arg0, argS, ofConst, ofCell, Nat.reduceEqDiff, reduceIte, g1, g4] <;> rfl) (by simp only [evalF, upd, arg0, argS, ofConst, ofCell, Nat.reduceEqDiff, reduceIte] <;> rfl) (by decide) ?_
  refine ro_nil ?_
  try simp only
  refine ex_cond (t := m.kind == 9 || m.kind == 12) (by simp only [evalF, upd, arg0, argS, ofConst, ofCell, Nat.reduceEqDiff, reduceIte, g1, g4] <;> rfl) (fun h => ?_) (fun h => absurd h (by rcases hk with h9 | h9 <;> simp [h9]))
  refine ex_seq (ex_region ?_)
  refine ro_move (by simp only [evalF, upd, arg0, argS, ofConst, ofCell, Nat.reduceEqDiff, reduceIte, g1, g4] <;> rfl) (by decide) ?_
  refine ro_fieldAddr (by simp only [evalF, upd, arg0, argS, ofConst, ofCell, Nat.reduceEqDiff, reduceIte, g1, g4] <;> rfl) (by exact (fa30_1 _ _ _)) (by decide) ?_
  refine ro_load (by simp only [evalF, upd, arg0, argS, ofConst, ofCell, Nat.reduceEqDiff, reduceIte, g1, g4] <;> rfl) (by exact (load1 ag3 mb0.l mc1)) (by decide) ?_
  refine ro_call (f := 21) («as» := [.ptr idw 1 0, .pv (.int .i64 m.node), .pv (.int .i64 0)]) rfl (by simp [evalF, upd, arg0, argS, ofConst, ofCell, Nat.reduceEqDiff, reduceIte, g1, g4]) plains_21 rfl (node21 (d + 1) m.node 0 hw0 (by have := mb0.k; have := mb0.sd; have := mb0.sl; simp; omega)) (by decide) ?_
  rintro v1 hp1 nb1 hT1
  obtain ⟨rfl, hw1, _, _, _⟩ := id hT1
  have hS1 := wrs_trans hS0 hT1
  have mb1 := mb_keep mb0 hT1
  refine ro_nil ?_
  try simp only
  refine ex_region ?_
  refine ro_move (by simp only [evalF, upd, arg0, argS, ofConst, ofCell, Nat.reduceEqDiff, reduceIte, g1, g4] <;> rfl) (by decide) ?_
  refine ro_fieldAddr (by simp only [evalF, upd, arg0, argS, ofConst, ofCell, Nat.reduceEqDiff, reduceIte, g1, g4] <;> rfl) (by exact (fa30_7 _ _ _)) (by decide) ?_
  refine ro_load (by simp only [evalF, upd, arg0, argS, ofConst, ofCell, Nat.reduceEqDiff, reduceIte, g1, g4] <;> rfl) (by exact (load1 ag3 mb1.l (mc38 mb1.k))) (by decide) ?_
  refine ro_call (f := 25) («as» := [.ptr idw 1 0, .pv (.int .i64 m.lease)]) rfl (by simp [evalF, upd, arg0, argS, ofConst, ofCell, Nat.reduceEqDiff, reduceIte, g1, g4]) plains_25 rfl (time25 (d + 1) m.lease hw1 (by have := mb1.k; have := mb1.sd; have := mb1.sl; simp; omega)) (by decide) ?_
  rintro v2 hp2 nb2 hT2
  obtain ⟨rfl, hw2, _, _, _⟩ := id hT2
  have hS2 := wrs_trans hS1 hT2
  have mb2 := mb_keep mb1 hT2
  refine ro_nil ?_
  try simp only
  exact ⟨by first | rfl | trivial, by simp [upd, g1], by simp [upd, g4], hS2⟩

theorem mid14_n (d : Nat) {hp0 : Hp} {nb0 idw q i1 : Nat} {m : M} {L D : AV} {g : Gm} {bs : List Int} {e : Int} (hk : ¬ (m.kind = 9 ∨ m.kind = 12)) (mb0 : Mb hp0 nb0 i1 q m L D) (hw0 : Wr hp0 nb0 idw q bs e) (hbs : bs.length ≤ 50000) (g1 : g 1 = .ptr i1 1 0) (g4 : g 4 = .ptr idw 1 0) :
    EX Try.prog plains (callA Try.prog facts plains 10000 (d + 3)) (orS facts (pureOf (callA Try.prog facts plains 10000 (d + 3)))) 10000 145 (codeAt (bodyOf Try.f14) [true, true, true, true, false]) g hp0 nb0 fun x g' hp' nb' => x = .normal ∧ g' 1 = .ptr i1 1 0 ∧ g' 4 = .ptr idw 1 0 ∧
      WrS hp0 nb0 idw q ([].foldl (fieldW m) (bs, e)).1 ([].foldl (fieldW m) (bs, e)).2 (.tuple []) hp' nb' := by
  simp only [List.foldl_cons, List.foldl_nil, fieldW]
  have hS0 : WrS hp0 nb0 idw q bs e (.tuple []) hp0 nb0 := ⟨rfl, hw0, Nat.le_refl _, fun _ _ => rfl, fun h => h⟩
  show EX _ _ _ _ _ 145 _ _ _ _ _
  simp only [codeAt, bodyOf, Try.f14, if_true, if_false, Bool.false_eq_true]
  refine ex_seq (ex_region ?_)
  refine ro_fieldAddr (by simp only [evalF, upd, arg0, argS, ofConst, ofCell, Nat.reduceEqDiff, reduceIte, g1, g4] <;> rfl) (by exact (fa30_0 _ _ _)) (by decide) ?_
  refine ro_load (by simp only [evalF, upd, arg0, argS, ofConst, ofCell, Nat.reduceEqDiff, reduceIte, g1, g4] <;> rfl) (by exact (load1 ag3 mb0.l mc0)) (by decide) ?_
  refine ro_bin (by simp only [evalF, upd, arg0, argS, ofConst, ofCell, Nat.reduceEqDiff, reduceIte, g1, g4] <;> rfl) (by simp only [evalF, upd, arg0, argS, ofConst, ofCell, Nat.reduceEqDiff, reduceIte, g1, g4] <;> rfl) (by exact (eql_v)) (by decide) ?_
  refine ro_move (by simp only [evalF, upd, arg0, argS, ofConst, ofCell, Nat.reduceEqDiff, reduceIte, g1, g4] <;> rfl) (by decide) ?_
  refine ro_gsel (b := m.kind == 9) (want := false) (v := .ptr i1 1 0) rfl (by simp only [evalF, upd, arg0, argS, ofConst, ofCell, Nat.reduceEqDiff, reduceIte, g1, g4] <;> rfl) rfl (fun hb => by simp only [primA, evalF, upd, arg0, argS, ofConst, ofCell, Nat.reduceEqDiff, reduceIte, g1, g4, selV_hit hb, fa30_0, Option.map_some] <;> rfl) (by decide) ?_
  refine ro_gsel (b := m.kind == 9) (want := false) (v := .pv (.int .i64 m.kind)) rfl (by simp only [evalF, upd, arg0, argS, ofConst, ofCell, Nat.reduceEqDiff, reduceIte, g1, g4] <;> rfl) rfl (fun hb => by simp only [primA, evalF, upd, arg0, argS, ofConst, ofCell, Nat.reduceEqDiff, reduceIte, g1, g4, selV_hit hb, load1 ag3 mb0.l mc0, Option.map_some] <;> rfl) (by decide) ?_
  refine ro_gsel (b := m.kind == 9) (want := false) (v := .pv (.bool (m.kind == 12))) rfl (by simp only [evalF, upd, arg0, argS, ofConst, ofCell, Nat.reduceEqDiff, reduceIte, g1, g4] <;> rfl) rfl (fun hb => by simp only [primA, evalF, upd, arg0, argS, ofConst, ofCell, Nat.reduceEqDiff, reduceIte, g1, g4, selV_hit hb, eql_v, Option.map_some] <;> rfl) (by decide) ?_
  refine ro_por (b := m.kind == 9) (z := m.kind == 12) (by simp only [evalF, upd, arg0, argS, ofConst, ofCell, Nat.reduceEqDiff, reduceIte, g1, g4] <;> rfl) (by simp only [evalF, upd, arg0, argS, ofConst, ofCell, Nat.reduceEqDiff, reduceIte] <;> rfl) (by decide) ?_
  refine ro_nil ?_
  try simp only
  refine ex_cond (t := m.kind == 9 || m.kind == 12) (by simp only [evalF, upd, arg0, argS, ofConst, ofCell, Nat.reduceEqDiff, reduceIte, g1, g4] <;> rfl) (fun h => absurd h (by simpa using hk)) (fun h => ?_)
  refine ex_skip ?_
  try simp only
  exact ⟨by first | rfl | trivial, by simp [upd, g1], by simp [upd, g4], hS0⟩

theorem end14 {F : CallF} {G : CallG} {hp : Hp} {nb idw q : Nat} {g : Gm} {bs : List Int} {e : Int} (hw : Wr hp nb idw q bs e) (g4 : g 4 = .ptr idw 1 0) :
    EX Try.prog plains F G 10000 145 (codeAt (bodyOf Try.f14) [true, true, true, true, true]) g hp nb fun x g' hp' nb' => x = .ret ∧ hp' = hp ∧ nb' = nb ∧ ((e = 0 ∧ ∃ v, g' 2 = v ∧ g' 3 = .pv (.int .i64 0) ∧ Grow hp nb v (u8s bs) ∧ ∀ id, ownOf v = some id → q ≤ id) ∨ (e ≠ 0 ∧ g' 2 = .pv .nilSlice ∧ g' 3 = .pv (.int .i64 e))) := by
  obtain ⟨v, hl, hg, ho⟩ := hw.ex
  show EX _ _ _ _ _ 145 _ _ _ _ _
  simp only [codeAt, bodyOf, Try.f14, if_true, if_false, Bool.false_eq_true]
  refine ex_seq (ex_seq (ex_region ?_))
  refine ro_move (by simp only [evalF, upd, arg0, argS, ofConst, ofCell, Nat.reduceEqDiff, reduceIte, g4] <;> rfl) (by decide) ?_
  refine ro_nilCheck (by simp only [evalF, upd, arg0, argS, ofConst, ofCell, Nat.reduceEqDiff, reduceIte, g4] <;> rfl) (by decide) ?_
  refine ro_fieldAddr (by simp only [evalF, upd, arg0, argS, ofConst, ofCell, Nat.reduceEqDiff, reduceIte, g4] <;> rfl) (by exact (fa50_1 _ _ _)) (by decide) ?_
  refine ro_load (by simp only [evalF, upd, arg0, argS, ofConst, ofCell, Nat.reduceEqDiff, reduceIte, g4] <;> rfl) (by exact (load1 ag3 hl rfl)) (by decide) ?_
  refine ro_bin (by simp only [evalF, upd, arg0, argS, ofConst, ofCell, Nat.reduceEqDiff, reduceIte, g4] <;> rfl) (by simp only [evalF, upd, arg0, argS, ofConst, ofCell, Nat.reduceEqDiff, reduceIte, g4] <;> rfl) (by exact (neq_v)) (by decide) ?_
  refine ro_nil ?_
  try simp only
  refine ex_cond (t := (e != 0)) (by simp only [evalF, upd, arg0, argS, ofConst, ofCell, Nat.reduceEqDiff, reduceIte, g4] <;> rfl) (fun h => ?_) (fun h => ?_)
  · refine ex_seq (ex_draw (by kernel_rfl) ?_)
    refine rdw_move rfl (by simp only [evalF, upd, arg0, argS, ofConst, ofCell, Nat.reduceEqDiff, reduceIte, g4] <;> rfl) (by decide) ?_
    refine rdw_nilCheck rfl (by simp only [evalF, upd, arg0, argS, ofConst, ofCell, Nat.reduceEqDiff, reduceIte, g4] <;> rfl) (by decide) ?_
    refine rdw_fieldAddr rfl (by simp only [evalF, upd, arg0, argS, ofConst, ofCell, Nat.reduceEqDiff, reduceIte, g4] <;> rfl) (by exact (fa50_1 _ _ _)) (by decide) ?_
    refine rdw_load rfl (by simp only [evalF, upd, arg0, argS, ofConst, ofCell, Nat.reduceEqDiff, reduceIte, g4] <;> rfl) (by exact (load1 ag3 hl rfl)) (by decide) ?_
    refine rdw_assign rfl (by simp only [evalF, upd, arg0, argS, ofConst, ofCell, Nat.reduceEqDiff, reduceIte, g4] <;> rfl) (by decide) ?_
    refine rdw_assign rfl (by simp only [evalF, upd, arg0, argS, ofConst, ofCell, Nat.reduceEqDiff, reduceIte, g4] <;> rfl) (by decide) ?_
    refine rd_nil ⟨rfl, ?_⟩
    try simp only
    refine ex_ret ?_
    exact ⟨rfl, rfl, rfl, .inr ⟨by simpa using h, by simp [upd, ofConst, ofCell, evalF], by simp [upd]⟩⟩
  · refine ex_skip ?_
    try simp only
    refine ex_seq (ex_region ?_)
    refine ro_move (by simp only [evalF, upd, arg0, argS, ofConst, ofCell, Nat.reduceEqDiff, reduceIte, g4] <;> rfl) (by decide) ?_
    refine ro_nilCheck (by simp only [evalF, upd, arg0, argS, ofConst, ofCell, Nat.reduceEqDiff, reduceIte, g4] <;> rfl) (by decide) ?_
    refine ro_fieldAddr (by simp only [evalF, upd, arg0, argS, ofConst, ofCell, Nat.reduceEqDiff, reduceIte, g4] <;> rfl) (by exact (fa50_0 _ _ _)) (by decide) ?_
    refine ro_load (by simp only [evalF, upd, arg0, argS, ofConst, ofCell, Nat.reduceEqDiff, reduceIte, g4] <;> rfl) (by exact (load1 ag27 hl rfl)) (by decide) ?_
    refine ro_assign (by simp only [evalF, upd, arg0, argS, ofConst, ofCell, Nat.reduceEqDiff, reduceIte, g4] <;> rfl) (by decide) ?_
    refine ro_assign (by simp only [evalF, upd, arg0, argS, ofConst, ofCell, Nat.reduceEqDiff, reduceIte, g4] <;> rfl) (by decide) ?_
    refine ro_nil ?_
    try simp only
    refine ex_ret ?_
    exact ⟨rfl, rfl, rfl, .inl ⟨by simpa using h, v, by simp [upd], by simp [upd, ofConst, ofCell, evalF], hg, fun id h => (ho id h).1⟩⟩

theorem sw14 (d : Nat) {hp0 : Hp} {nb0 idw q i1 : Nat} {m : M} {L D : AV} {bs : List Int} (hk : 1 ≤ m.kind ∧ m.kind ≤ 12) (mb0 : Mb hp0 nb0 i1 q m L D) (hw0 : Wr hp0 nb0 idw q bs 0) (hbs : bs.length ≤ 10) :
    ∃ fs1 fs2, rowOf m.kind = some (fs1 ++ fs2) ∧ (fs2 = if m.kind = 9 ∨ m.kind = 12 then [1, 7] else []) ∧ (fs1.foldl (fieldW m) (bs, 0)).1.length ≤ 50000 ∧
    ∀ g : Gm, g 1 = .ptr i1 1 0 → g 4 = .ptr idw 1 0 → EX Try.prog plains (callA Try.prog facts plains 10000 (d + 3)) (orS facts (pureOf (callA Try.prog facts plains 10000 (d + 3)))) 10000 145 (codeAt (bodyOf Try.f14) [true, true, true, false]) g hp0 nb0 fun x g' hp' nb' => x = .normal ∧ g' 1 = .ptr i1 1 0 ∧ g' 4 = .ptr idw 1 0 ∧
      WrS hp0 nb0 idw q (fs1.foldl (fieldW m) (bs, 0)).1 (fs1.foldl (fieldW m) (bs, 0)).2 (.tuple []) hp' nb' := by
  have s1 := mb0.k
  have s2 := mb0.sl
  have s3 := mb0.sd
  have : m.kind = 1 ∨ m.kind = 2 ∨ m.kind = 3 ∨ m.kind = 4 ∨ m.kind = 5 ∨ m.kind = 6 ∨ m.kind = 7 ∨ m.kind = 8 ∨ m.kind = 9 ∨ m.kind = 10 ∨ m.kind = 11 ∨ m.kind = 12 := by omega
  rcases this with h | h | h | h | h | h | h | h | h | h | h | h
  · exact ⟨[], [], by rw [h]; rfl, by simp [h], by simp [fieldW] <;> omega, fun g g1 g4 => sw14_1 d h mb0 hw0 hbs g1 g4⟩
  · exact ⟨[0, 2], [], by rw [h]; rfl, by simp [h], by simp [fieldW] <;> omega, fun g g1 g4 => sw14_2 d h mb0 hw0 hbs g1 g4⟩
  · exact ⟨[1], [], by rw [h]; rfl, by simp [h], by simp [fieldW] <;> omega, fun g g1 g4 => sw14_3 d h mb0 hw0 hbs g1 g4⟩
  · exact ⟨[4], [], by rw [h]; rfl, by simp [h], by simp [fieldW] <;> omega, fun g g1 g4 => sw14_4 d h mb0 hw0 hbs g1 g4⟩
  · exact ⟨[5], [], by rw [h]; rfl, by simp [h], by simp [fieldW] <;> omega, fun g g1 g4 => sw14_5 d h mb0 hw0 hbs g1 g4⟩
  · exact ⟨[3, 2], [], by rw [h]; rfl, by simp [h], by simp [fieldW] <;> omega, fun g g1 g4 => sw14_6 d h mb0 hw0 hbs g1 g4⟩
  · exact ⟨[5], [], by rw [h]; rfl, by simp [h], by simp [fieldW] <;> omega, fun g g1 g4 => sw14_7 d h mb0 hw0 hbs g1 g4⟩
  · exact ⟨[4, 6], [], by rw [h]; rfl, by simp [h], by simp [fieldW] <;> omega, fun g g1 g4 => sw14_8 d h mb0 hw0 hbs g1 g4⟩
  · exact ⟨[5, 6], [1, 7], by rw [h]; rfl, by simp [h], by simp [fieldW] <;> omega, fun g g1 g4 => sw14_9 d h mb0 hw0 hbs g1 g4⟩
  · exact ⟨[5, 6], [], by rw [h]; rfl, by simp [h], by simp [fieldW] <;> omega, fun g g1 g4 => sw14_10 d h mb0 hw0 hbs g1 g4⟩
  · exact ⟨[5], [], by rw [h]; rfl, by simp [h], by simp [fieldW] <;> omega, fun g g1 g4 => sw14_11 d h mb0 hw0 hbs g1 g4⟩
  · exact ⟨[6], [1, 7], by rw [h]; rfl, by simp [h], by simp [fieldW] <;> omega, fun g g1 g4 => sw14_12 d h mb0 hw0 hbs g1 g4⟩

theorem bld50 {hp : Hp} {nb : Nat} {v : AV} {l : List PV} (hr : Row hp nb v l) : buildA Try.prog 50 [(0, v)] = some (.agg [v, .pv (.int .i64 0)]) := by
  cases hr <;> kernel_rfl

/-- latticeref4.Encode. -/
theorem refenc14 (d : Nat) {hp : Hp} {nb : Nat} {m : M} {L D : AV} (hk : m.key.length = 32) (hL : Row hp nb L (ints m.list)) (hD : Row hp nb D (u8s m.data)) (hsl : m.list.length < 9000) (hsd : m.data.length < 9999) :
    CA (callA Try.prog facts plains 10000 (d + 4)) 14 [.agg (mcells m L D)] hp nb (EncOk m hp nb) := by
  refine ca_body (fn := Try.f14) (c := bodyOf Try.f14) Try.func14 rfl (by show 1 ≤ 145; omega) ?_
  show EX _ _ _ _ _ 145 _ _ _ _ _
  unfold bodyOf Try.f14
  refine ex_seq (ex_region ?_)
  refine ro_box (v := .agg (mcells m L D)) (by simp [evalF, argsF]) (mc_all (row_cell hL).1 (row_cell hD).1) (by decide) ?_
  refine ro_assign (by simp only [evalF, upd, arg0, argS, ofConst, ofCell, Nat.reduceEqDiff, reduceIte] <;> rfl) (by decide) ?_
  refine ro_assign (by simp only [evalF, upd, arg0, argS, ofConst, ofCell, Nat.reduceEqDiff, reduceIte] <;> rfl) (by decide) ?_
  refine ro_nil ?_
  try simp only
  have ha0 : After hp nb (.pv .nilSlice) (setHp hp nb (.cells 1 (mcells m L D))) (nb + 1) := after_new hp nb _ _ (ok_cells (row_ok' hL) (row_ok' hD))
  have hl1 : AI.look (setHp hp nb (.cells 1 (mcells m L D))) nb 1 = some (mcells m L D) := look_same _ _ _ _
  show EX _ _ _ _ _ 145 _ _ (setHp hp nb (.cells 1 (mcells m L D))) _ _
  generalize setHp hp nb (.cells 1 (mcells m L D)) = hp1 at ha0 hl1 ⊢
  have hL1 : Row hp1 (nb + 1) L (ints m.list) := hL.keep (Nat.le_succ _) (fun id hid _ => ha0.2.1 id hid (by simp [ownOf]))
  have hD1 : Row hp1 (nb + 1) D (u8s m.data) := hD.keep (Nat.le_succ _) (fun id hid _ => ha0.2.1 id hid (by simp [ownOf]))
  refine ex_seq (ex_seq (ex_region ?_))
  refine ro_fieldAddr (by simp only [evalF, upd, arg0, argS, ofConst, ofCell, Nat.reduceEqDiff, reduceIte] <;> rfl) (by exact (fa30_0 _ _ _)) (by decide) ?_
  refine ro_load (by simp only [evalF, upd, arg0, argS, ofConst, ofCell, Nat.reduceEqDiff, reduceIte] <;> rfl) (by exact (load1 ag3 hl1 mc0)) (by decide) ?_
  refine ro_bin (by simp only [evalF, upd, arg0, argS, ofConst, ofCell, Nat.reduceEqDiff, reduceIte] <;> rfl) (by simp only [evalF, upd, arg0, argS, ofConst, ofCell, Nat.reduceEqDiff, reduceIte] <;> rfl) (by exact (lss_v)) (by decide) ?_
  refine ro_move (by simp only [evalF, upd, arg0, argS, ofConst, ofCell, Nat.reduceEqDiff, reduceIte] <;> rfl) (by decide) ?_
  refine ro_gsel (b := decide (m.kind < 1)) (want := false) (v := .ptr nb 1 0) rfl (by simp only [evalF, upd, arg0, argS, ofConst, ofCell, Nat.reduceEqDiff, reduceIte] <;> rfl) rfl (fun hb => by simp only [primA, evalF, upd, arg0, argS, ofConst, ofCell, Nat.reduceEqDiff, reduceIte, selV_hit hb, fa30_0, Option.map_some] <;> rfl) (by decide) ?_
  refine ro_gsel (b := decide (m.kind < 1)) (want := false) (v := .pv (.int .i64 m.kind)) rfl (by simp only [evalF, upd, arg0, argS, ofConst, ofCell, Nat.reduceEqDiff, reduceIte] <;> rfl) rfl (fun hb => by simp only [primA, evalF, upd, arg0, argS, ofConst, ofCell, Nat.reduceEqDiff, reduceIte, selV_hit hb, load1 ag3 hl1 mc0, Option.map_some] <;> rfl) (by decide) ?_
  refine ro_gsel (b := decide (m.kind < 1)) (want := false) (v := .pv (.bool (decide (m.kind > 12)))) rfl (by simp only [evalF, upd, arg0, argS, ofConst, ofCell, Nat.reduceEqDiff, reduceIte] <;> rfl) rfl (fun hb => by simp only [primA, evalF, upd, arg0, argS, ofConst, ofCell, Nat.reduceEqDiff, reduceIte, selV_hit hb, gtr_v, Option.map_some] <;> rfl) (by decide) ?_
  refine ro_por (b := decide (m.kind < 1)) (z := decide (m.kind > 12)) (by simp only [evalF, upd, arg0, argS, ofConst, ofCell, Nat.reduceEqDiff, reduceIte] <;> rfl) (by simp only [evalF, upd, arg0, argS, ofConst, ofCell, Nat.reduceEqDiff, reduceIte] <;> rfl) (by decide) ?_
  refine ro_nil ?_
  try simp only
  refine ex_cond (t := decide (m.kind < 1) || decide (m.kind > 12)) (by simp only [evalF, upd, arg0, argS, ofConst, ofCell, Nat.reduceEqDiff, reduceIte] <;> rfl) (fun h => ?_) (fun h => ?_)
  · refine ex_seq (ex_region ?_)
    refine ro_assign (by simp only [evalF, upd, arg0, argS, ofConst, ofCell, Nat.reduceEqDiff, reduceIte] <;> rfl) (by decide) ?_
    refine ro_assign (by simp only [evalF, upd, arg0, argS, ofConst, ofCell, Nat.reduceEqDiff, reduceIte] <;> rfl) (by decide) ?_
    refine ro_nil ?_
    try simp only
    refine ex_ret ?_
    refine ⟨.tuple [.pv .nilSlice, .pv (.int .i64 3)], rfl, ha0, ?_⟩
    have hb : ¬ (1 ≤ m.kind ∧ m.kind ≤ 12) := by
      simp only [Bool.or_eq_true, decide_eq_true_eq] at h
      omega
    have : rowOf m.kind = none := by
      unfold rowOf
      rw [if_neg (by omega), if_neg (by omega), if_neg (by omega), if_neg (by omega), if_neg (by omega), if_neg (by omega), if_neg (by omega), if_neg (by omega), if_neg (by omega), if_neg (by omega), if_neg (by omega), if_neg (by omega)]
    unfold enc
    rw [this]
  refine ex_skip ?_
  try simp only
  have hkk : 1 ≤ m.kind ∧ m.kind ≤ 12 := by
    simp only [Bool.or_eq_false_iff, decide_eq_false_iff_not] at h
    omega
  refine ex_seq (ex_region ?_)
  refine ro_fieldAddr (by simp only [evalF, upd, arg0, argS, ofConst, ofCell, Nat.reduceEqDiff, reduceIte] <;> rfl) (by exact (fa30_0 _ _ _)) (by decide) ?_
  refine ro_load (by simp only [evalF, upd, arg0, argS, ofConst, ofCell, Nat.reduceEqDiff, reduceIte] <;> rfl) (by exact (load1 ag3 hl1 mc0)) (by decide) ?_
  refine ro_conv (by simp only [evalF, upd, arg0, argS, ofConst, ofCell, Nat.reduceEqDiff, reduceIte] <;> rfl) (by exact (conv_u8 _ _)) (by decide) ?_
  refine ro_buildSlice rfl (by simp only [List.map_cons, List.map_nil, evalF, upd, arg0, argS, ofConst, ofCell, Nat.reduceEqDiff, reduceIte]; exact bs27_1 _ _) (by decide) ?_
  refine ro_build (ps := [(0, .slice (nb + 1) 1 0 1 1 1 true)]) (by simp only [List.map_cons, List.map_nil, evalF, upd, arg0, argS, ofConst, ofCell, Nat.reduceEqDiff, reduceIte]) (bld50 (Row.own (hp := setHp hp1 (nb + 1) (.cells 1 [.pv (.int .u8 (u8 m.kind))])) (nb := nb + 1 + 1) (nb + 1) 1 0 1 1 true _ [.int .u8 (u8 m.kind)] rfl (by omega) (by simp [setHp]; rfl) (by simp) (Nat.le_refl _) rfl)) (by decide) ?_
  refine ro_box (v := .agg [.slice (nb + 1) 1 0 1 1 1 true, .pv (.int .i64 0)]) (by simp only [evalF, upd, arg0, argS, ofConst, ofCell, Nat.reduceEqDiff, reduceIte]) rfl (by decide) ?_
  refine ro_assign (by simp only [evalF, upd, arg0, argS, ofConst, ofCell, Nat.reduceEqDiff, reduceIte] <;> rfl) (by decide) ?_
  refine ro_nil ?_
  try simp only
  have hax : After hp1 (nb + 1) (.pv .nilSlice) (setHp (setHp hp1 (nb + 1) (.cells 1 [.pv (.int .u8 (u8 m.kind))])) (nb + 1 + 1) (.cells 1 [.slice (nb + 1) 1 0 1 1 1 true, .pv (.int .i64 0)])) (nb + 1 + 1 + 1) :=
    after_nil (v := .pv .nilSlice) (after_new hp1 (nb + 1) _ _ (pvs_ok [.int .u8 (u8 m.kind)])) (by
      refine ⟨Nat.le_succ _, fun id hid _ => by simp [setHp, show id ≠ nb + 1 + 1 by omega], fun ht => tidy_new ht (fun c hc => ?_)⟩
      · simp only [List.mem_cons, List.not_mem_nil, or_false] at hc
        rcases hc with rfl | rfl
        · exact okC_slice (by omega)
        · exact okC_pv _ _) (fun id h => by simp [ownOf] at h)
  have hlw : AI.look (setHp (setHp hp1 (nb + 1) (.cells 1 [.pv (.int .u8 (u8 m.kind))])) (nb + 1 + 1) (.cells 1 [.slice (nb + 1) 1 0 1 1 1 true, .pv (.int .i64 0)])) (nb + 1 + 1) 1 = some [.slice (nb + 1) 1 0 1 1 1 true, .pv (.int .i64 0)] := look_same _ _ _ _
  have hgw : Grow (setHp (setHp hp1 (nb + 1) (.cells 1 [.pv (.int .u8 (u8 m.kind))])) (nb + 1 + 1) (.cells 1 [.slice (nb + 1) 1 0 1 1 1 true, .pv (.int .i64 0)])) (nb + 1 + 1 + 1) (.slice (nb + 1) 1 0 1 1 1 true) (u8s [u8 m.kind]) := .own _ _ _ _ _ rfl (by omega) (by simp [setHp, u8s])
  show EX _ _ _ _ _ 145 _ _ (setHp (setHp hp1 (nb + 1) (.cells 1 [.pv (.int .u8 (u8 m.kind))])) (nb + 1 + 1) (.cells 1 [.slice (nb + 1) 1 0 1 1 1 true, .pv (.int .i64 0)])) _ _
  generalize setHp (setHp hp1 (nb + 1) (.cells 1 [.pv (.int .u8 (u8 m.kind))])) (nb + 1 + 1) (.cells 1 [.slice (nb + 1) 1 0 1 1 1 true, .pv (.int .i64 0)]) = hp2 at hax hlw hgw ⊢
  have hw : Wr hp2 (nb + 1 + 1 + 1) (nb + 1 + 1) (nb + 1) [u8 m.kind] 0 := ⟨by omega, by omega, _, hlw, hgw, fun id h => by simp only [ownOf, Option.some.injEq] at h; omega⟩
  have k : ∀ id, id < nb + 1 → hp2 id = hp1 id := fun id hid => hax.2.1 id hid (by simp [ownOf])
  have mb : Mb hp2 (nb + 1 + 1 + 1) nb (nb + 1) m L D := ⟨by rw [look_at 1 (k nb (by omega))]; exact hl1, by omega, hk, hL1.keep hax.1 (fun id hid _ => k id hid), hD1.keep hax.1 (fun id hid _ => k id hid), fun id h => row_own hL1 h, fun id h => row_own hD1 h, hsl, hsd⟩
  obtain ⟨fs1, fs2, hrow, hfs2, hsz, hsw⟩ := sw14 (i1 := nb) (idw := nb + 1 + 1) (q := nb + 1) d hkk mb hw (by simp)
  refine ex_seq (ex_weaken (hsw _ (by simp [upd]) (by simp [upd])) ?_)
  rintro x g3 hp3 nb3 ⟨rfl, e1, e4, hS3⟩
  try simp only
  have mb3 := mb_keep mb hS3
  have hmid : EX Try.prog plains (callA Try.prog facts plains 10000 (d + 3)) (orS facts (pureOf (callA Try.prog facts plains 10000 (d + 3)))) 10000 145 (codeAt (bodyOf Try.f14) [true, true, true, true, false]) g3 hp3 nb3 fun x g' hp' nb' => x = .normal ∧ g' 1 = .ptr nb 1 0 ∧ g' 4 = .ptr (nb + 1 + 1) 1 0 ∧
      WrS hp3 nb3 (nb + 1 + 1) (nb + 1) ((fs1 ++ fs2).foldl (fieldW m) ([u8 m.kind], 0)).1 ((fs1 ++ fs2).foldl (fieldW m) ([u8 m.kind], 0)).2 (.tuple []) hp' nb' := by
    rw [List.foldl_append, hfs2]
    by_cases h9 : m.kind = 9 ∨ m.kind = 12
    · rw [if_pos h9]; exact mid14_y d h9 mb3 hS3.2.1 hsz e1 e4
    · rw [if_neg h9]; exact mid14_n d h9 mb3 hS3.2.1 hsz e1 e4
  refine ex_seq (ex_weaken hmid ?_)
  rintro x g4 hp4 nb4 ⟨rfl, e1, e4, hS4⟩
  try simp only
  refine ex_weaken (end14 hS4.2.1 e4) ?_
  rintro x g5 hp5 nb5 ⟨rfl, rfl, rfl, hres⟩
  have hS := wrs_trans hS3 hS4
  have haf : After hp nb (.pv .nilSlice) hp5 nb5 := by
    have a01 := after_nil ha0 hax (fun id h => by simp [ownOf] at h)
    exact ⟨by have := a01.1; have := hS.2.2.1; omega, fun id hid ho => by rw [hS.2.2.2.1 id (by omega)]; exact a01.2.1 id hid ho, fun ht => hS.2.2.2.2 (a01.2.2 ht)⟩
  have henc : enc m = fieldsE m (fs1 ++ fs2) [u8 m.kind] := by unfold enc; rw [hrow]
  have hW := fieldsW_ok m (fs1 ++ fs2) [u8 m.kind]
  rw [← henc] at hW
  show ∃ v, resF Try.prog Try.f14 g5 hp5 = some v ∧ EncOk m hp nb v hp5 nb5
  refine ⟨.tuple [g5 2, g5 3], rfl, haf, ?_⟩
  cases hE : enc m with
  | ok x =>
    rw [hE] at hW
    have hW : (fs1 ++ fs2).foldl (fieldW m) ([u8 m.kind], 0) = (x, 0) := hW
    rw [hW] at hres
    rcases hres with ⟨_, v, e2, e3, hg, ho⟩ | ⟨h, _⟩
    · exact ⟨v, by rw [e2, e3], hg, fun id h => by have := ho id h; omega⟩
    · exact absurd rfl h
  | error x =>
    rw [hE] at hW
    obtain ⟨h1, h2⟩ := hW
    rw [h1] at hres
    rcases hres with ⟨h, _⟩ | ⟨_, e2, e3⟩
    · exact absurd h h2
    · show AV.tuple [g5 2, g5 3] = _
      rw [e2, e3]
end Go.Proofs.Ytlinbbjobjnipaa
