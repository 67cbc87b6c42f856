/- The law of reading holds: whatever the message, the bytes and the numbers are, the call returns true. Joined by pack.py. -/
import Derived.ChangeSlices
import Derived.Test.YtlinbbjobjnipaaV6
set_option linter.unusedVariables false
set_option linter.unusedSimpArgs false
set_option linter.unusedSectionVars false
namespace Go.Proofs.Ytlinbbjobjnipaa
open Go AI
set_option maxHeartbeats 4000000
set_option maxRecDepth 10000
def fieldW (m : M) (s : List Int × Int) (f : Nat) : List Int × Int :=
  match f with
  | 0 => (s.1 ++ [u8 m.pred], wrongE s.2 (nodeBad m.pred (-1)) 1)
  | 1 => (s.1 ++ [u8 m.node], wrongE s.2 (nodeBad m.node 0) 1)
  | 2 => (s.1 ++ (u8 m.list.length :: m.list.map u8), listW (wrongE s.2 (decide ((m.list.length : Int) > 10)) 4) m.list)
  | 3 => (s.1 ++ [if m.done then 1 else 0], s.2)
  | 4 => (s.1 ++ [u8 m.err], wrongE s.2 (decide (m.err < 0) || decide (m.err > 20)) 1)
  | 5 => (s.1 ++ m.key, s.2)
  | 6 => (s.1 ++ (u8 ((m.data.length : Int) / 256) :: u8 m.data.length :: m.data), wrongE s.2 (decide ((m.data.length : Int) > 6000)) 5)
  | _ => (s.1 ++ [u8 (m.lease / 16777216), u8 (m.lease / 65536), u8 (m.lease / 256), u8 m.lease], wrongE s.2 (decide (m.lease < 1) || decide (m.lease > 1000)) 1)
theorem wrong_stuck {e : Int} (is : Bool) (x : Int) (h : e ≠ 0) : wrongE e is x = e := by
  unfold wrongE
  rw [if_neg (by simp [h])]
theorem listW_stuck {e : Int} (h : e ≠ 0) : ∀ l : List Int, listW e l = e
  | [] => rfl
  | a :: l => by
    show listW (wrongE e (nodeBad a 0) 1) l = e
    rw [wrong_stuck _ _ h, listW_stuck h l]
theorem fieldW_stuck (m : M) (s : List Int × Int) (f : Nat) (h : s.2 ≠ 0) : (fieldW m s f).2 = s.2 := by
  unfold fieldW
  split <;> first
    | rfl
    | exact wrong_stuck _ _ h
    | (show listW (wrongE _ _ _) _ = _
       rw [wrong_stuck _ _ h, listW_stuck h])
theorem wrong_0 (is : Bool) (x : Int) : wrongE 0 is x = if is = true then x else 0 := by
  unfold wrongE
  cases is <;> rfl
theorem nodeBad_0 (n : Int) : nodeBad n 0 = !isNode n := by
  unfold nodeBad isNode
  by_cases h1 : n < 0 <;> by_cases h2 : n ≥ 10 <;> simp [h1, h2] <;> omega
theorem listW_0 : ∀ l : List Int, listW 0 l = if l.all isNode = true then 0 else 1
  | [] => rfl
  | a :: l => by
    show listW (wrongE 0 (nodeBad a 0) 1) l = _
    rw [wrong_0, nodeBad_0]
    cases h : isNode a with
    | true =>
      rw [if_neg (by simp), listW_0 l]
      simp [h]
    | false =>
      rw [if_pos (by simp), listW_stuck (by decide)]
      simp [h]
def AgreeW (r : Except Int (List Int)) (b : List Int) (s : List Int × Int) : Prop :=
  match r with
  | .ok x => s = (b ++ x, 0)
  | .error e => s.2 = e ∧ e ≠ 0
theorem agreeW_if {c : Prop} [Decidable c] {r1 r2 : Except Int (List Int)} {b : List Int} {s : List Int × Int} (h1 : c → AgreeW r1 b s) (h2 : ¬ c → AgreeW r2 b s) : AgreeW (if c then r1 else r2) b s := by
  split
  · rename_i h; exact h1 h
  · rename_i h; exact h2 h
theorem agW_bad {b x : List Int} {is : Bool} {e : Int} (h : is = true) (he : e ≠ 0) : AgreeW (.error e) b (x, wrongE 0 is e) := ⟨by show wrongE 0 is e = e; rw [wrong_0, if_pos h], he⟩
theorem agW_ok {b x : List Int} {is : Bool} {e : Int} (h : is = false) : AgreeW (.ok x) b (b ++ x, wrongE 0 is e) := by
  show (b ++ x, wrongE 0 is e) = _
  rw [wrong_0, if_neg (by simp [h])]
/-- A field, as the document writes it. -/
theorem fieldW_ok (m : M) (b : List Int) : ∀ f, AgreeW (fieldE m f) b (fieldW m (b, 0) f)
  | 0 => by
    have hbad : nodeBad m.pred (-1) = decide (m.pred ≠ -1 ∧ isNode m.pred = false) := by
      unfold nodeBad isNode
      rw [Bool.eq_iff_iff]
      simp only [Bool.or_eq_true, decide_eq_true_eq, Bool.and_eq_false_iff, decide_eq_false_iff_not]
      omega
    exact agreeW_if (fun h => agW_bad (by rw [hbad]; exact decide_eq_true h) (by decide)) (fun h => agW_ok (by rw [hbad]; exact decide_eq_false h))
  | 1 => agreeW_if (fun h => agW_bad (by rw [nodeBad_0, h]; rfl) (by decide)) (fun h => agW_ok (by rw [nodeBad_0]; simpa using h))
  | 2 => by
    show AgreeW (if m.list.length > 10 then .error 4 else if m.list.all isNode then .ok _ else .error 1) b (_, listW (wrongE 0 _ 4) m.list)
    refine agreeW_if (fun h => ?_) (fun h => ?_)
    · rw [wrong_0, if_pos (decide_eq_true (show (m.list.length : Int) > 10 by omega))]
      exact ⟨listW_stuck (by decide) _, by decide⟩
    · have e1 : wrongE 0 (decide ((m.list.length : Int) > 10)) 4 = 0 := by rw [wrong_0, decide_eq_false (show ¬ (m.list.length : Int) > 10 by omega)]; rfl
      rw [e1]
      refine agreeW_if (fun h2 => ?_) (fun h2 => ?_)
      · show (_, listW 0 m.list) = _
        rw [listW_0, if_pos h2]
      · refine ⟨?_, by decide⟩
        show listW 0 m.list = 1
        rw [listW_0, if_neg h2]
  | 3 => rfl
  | 4 => agreeW_if (fun h => agW_bad (by simpa using h) (by decide)) (fun h => agW_ok (by simp; omega))
  | 5 => rfl
  | 6 => agreeW_if (fun h => agW_bad (by simp; omega) (by decide)) (fun h => agW_ok (by simp; omega))
  | _ + 7 => agreeW_if (fun h => agW_bad (by simpa using h) (by decide)) (fun h => agW_ok (by simp; omega))
theorem foldW_stuck (m : M) : ∀ (fs : List Nat) (s : List Int × Int), s.2 ≠ 0 → (fs.foldl (fieldW m) s).2 = s.2
  | [], s, h => rfl
  | f :: fs, s, h => by
    rw [List.foldl_cons, foldW_stuck m fs _ (by rw [fieldW_stuck m s f h]; exact h), fieldW_stuck m s f h]
theorem fieldsW_ok (m : M) : ∀ (fs : List Nat) (b : List Int), match fieldsE m fs b with
    | .ok r => fs.foldl (fieldW m) (b, 0) = (r, 0)
    | .error e => (fs.foldl (fieldW m) (b, 0)).2 = e ∧ e ≠ 0
  | [], b => rfl
  | f :: fs, b => by
    have h := fieldW_ok m b f
    rw [fieldsE]
    cases hE : fieldE m f with
    | ok r =>
      rw [hE] at h
      have h : fieldW m (b, 0) f = (b ++ r, 0) := h
      rw [List.foldl_cons, h]
      exact fieldsW_ok m fs (b ++ r)
    | error e =>
      rw [hE] at h
      obtain ⟨h1, h2⟩ := h
      show (List.foldl (fieldW m) _ (f :: fs)).2 = e ∧ e ≠ 0
      rw [List.foldl_cons, foldW_stuck m fs _ (by rw [h1]; exact h2)]
      exact ⟨h1, h2⟩
/-- The message's box. -/
structure Mb (hp : Hp) (nb i1 q : Nat) (m : M) (L D : AV) : Prop where
  l : AI.look hp i1 1 = some (mcells m L D)
  lt : i1 < q
  k : m.key.length = 32
  rl : Row hp nb L (ints m.list)
  rd : Row hp nb D (u8s m.data)
  ol : ∀ id, ownOf L = some id → id < q
  od : ∀ id, ownOf D = some id → id < q
  sl : m.list.length < 9000
  sd : m.data.length < 9999
theorem mb_keep {hp hp' : Hp} {nb nb' i1 q idw : Nat} {m : M} {L D v : AV} {bs : List Int} {e : Int} (h : Mb hp nb i1 q m L D) (hs : WrS hp nb idw q bs e v hp' nb') : Mb hp' nb' i1 q m L D :=
  ⟨by rw [look_at 1 (hs.2.2.2.1 i1 h.lt)]; exact h.l, h.lt, h.k, h.rl.keep hs.2.2.1 (fun id _ ho => hs.2.2.2.1 id (h.ol id ho)), h.rd.keep hs.2.2.1 (fun id _ ho => hs.2.2.2.1 id (h.od id ho)), h.ol, h.od, h.sl, h.sd⟩
theorem plains_22 : plains 22 = false := rfl
theorem plains_23 : plains 23 = false := rfl
theorem plains_24 : plains 24 = false := rfl
theorem plains_25 : plains 25 = false := rfl
theorem key_row {hp : Hp} {nb i1 : Nat} {m : M} {L D : AV} (hk : m.key.length = 32) (hl : AI.look hp i1 1 = some (mcells m L D)) (hi : i1 < nb) : Row hp nb (.slice i1 1 (0 + 5 + 0) 32 32 1 true) (u8s m.key) :=
  .own _ _ _ _ _ _ _ _ (by simp [u8s, hk]) hi (look_blk hl) (by rw [mc_length hk]; omega) (Nat.le_refl _) (mcKey hk)
theorem mb_lt {hp : Hp} {nb i1 q idw : Nat} {m : M} {L D : AV} {bs : List Int} {e : Int} (h : Mb hp nb i1 q m L D) (hw : Wr hp nb idw q bs e) : i1 < nb := by
  have := h.lt; have := hw.le; have := hw.lt; omega
theorem sw14_1 (d : Nat) {hp0 : Hp} {nb0 idw q i1 : Nat} {m : M} {L D : AV} {g : Gm} {bs : List Int} (hk : m.kind = 1) (mb0 : Mb hp0 nb0 i1 q m L D) (hw0 : Wr hp0 nb0 idw q bs 0) (hbs : bs.length ≤ 10) (g1 : g 1 = .ptr i1 1 0) (g4 : g 4 = .ptr idw 1 0) :
    EX Try.prog plains (callA Try.prog facts plains 10000 (d + 3)) (orS facts (pureOf (callA Try.prog facts plains 10000 (d + 3)))) 10000 145 (codeAt (bodyOf Try.f14) [true, true, true, false]) g hp0 nb0 fun x g' hp' nb' => x = .normal ∧ g' 1 = .ptr i1 1 0 ∧ g' 4 = .ptr idw 1 0 ∧
      WrS hp0 nb0 idw q ([].foldl (fieldW m) (bs, 0)).1 ([].foldl (fieldW m) (bs, 0)).2 (.tuple []) hp' nb' := by
  simp only [List.foldl_cons, List.foldl_nil, fieldW]
  have hS0 : WrS hp0 nb0 idw q bs 0 (.tuple []) hp0 nb0 := ⟨rfl, hw0, Nat.le_refl _, fun _ _ => rfl, fun h => h⟩
  show EX _ _ _ _ _ 145 _ _ _ _ _
  simp only [codeAt, bodyOf, Try.f14, if_true, if_false, Bool.false_eq_true]
  refine ex_seq (ex_region ?_)
  refine ro_fieldAddr (by simp only [evalF, upd, arg0, argS, ofConst, ofCell, Nat.reduceEqDiff, reduceIte, g1, g4] <;> rfl) (by exact (fa30_0 _ _ _)) (by decide) ?_
  refine ro_load (by simp only [evalF, upd, arg0, argS, ofConst, ofCell, Nat.reduceEqDiff, reduceIte, g1, g4] <;> rfl) (by exact (load1 ag3 mb0.l mc0)) (by decide) ?_
  refine ro_nil ?_
  try simp only
  refine ex_block ?_
  refine ex_test_f (by simp only [evalF, upd, arg0, argS, ofConst, ofCell, Nat.reduceEqDiff, reduceIte, g1, g4] <;> rfl) (by omega) (by decide) (by decide) ?_
  refine ex_test_f (by simp only [evalF, upd, arg0, argS, ofConst, ofCell, Nat.reduceEqDiff, reduceIte, g1, g4] <;> rfl) (by omega) (by decide) (by decide) ?_
  refine ex_test_f (by simp only [evalF, upd, arg0, argS, ofConst, ofCell, Nat.reduceEqDiff, reduceIte, g1, g4] <;> rfl) (by omega) (by decide) (by decide) ?_
  refine ex_seq (ex_test_f (by simp only [evalF, upd, arg0, argS, ofConst, ofCell, Nat.reduceEqDiff, reduceIte, g1, g4] <;> rfl) (by omega) (by decide) (by decide) ?_)
  refine ex_test_f (by simp only [evalF, upd, arg0, argS, ofConst, ofCell, Nat.reduceEqDiff, reduceIte, g1, g4] <;> rfl) (by omega) (by decide) (by decide) ?_
  refine ex_region ?_
  refine ro_bin (by simp only [evalF, upd, arg0, argS, ofConst, ofCell, Nat.reduceEqDiff, reduceIte, g1, g4] <;> rfl) (by simp only [evalF, upd, arg0, argS, ofConst, ofCell, Nat.reduceEqDiff, reduceIte, g1, g4] <;> rfl) (by exact (eql_f (by omega))) (by decide) ?_
  refine ro_assign (by simp only [evalF, upd, arg0, argS, ofConst, ofCell, Nat.reduceEqDiff, reduceIte, g1, g4] <;> rfl) (by decide) ?_
  refine ro_nil ?_
  try simp only
  refine ex_cond (t := false) (by simp only [evalF, upd, arg0, argS, ofConst, ofCell, Nat.reduceEqDiff, reduceIte, g1, g4] <;> rfl) (fun h => by simp at h) (fun h => ?_)
  refine ex_test_f (by simp only [evalF, upd, arg0, argS, ofConst, ofCell, Nat.reduceEqDiff, reduceIte, g1, g4] <;> rfl) (by omega) (by decide) (by decide) ?_
  refine ex_test_f (by simp only [evalF, upd, arg0, argS, ofConst, ofCell, Nat.reduceEqDiff, reduceIte, g1, g4] <;> rfl) (by omega) (by decide) (by decide) ?_
  refine ex_seq (ex_test_f (by simp only [evalF, upd, arg0, argS, ofConst, ofCell, Nat.reduceEqDiff, reduceIte, g1, g4] <;> rfl) (by omega) (by decide) (by decide) ?_)
  refine ex_region ?_
  refine ro_bin (by simp only [evalF, upd, arg0, argS, ofConst, ofCell, Nat.reduceEqDiff, reduceIte, g1, g4] <;> rfl) (by simp only [evalF, upd, arg0, argS, ofConst, ofCell, Nat.reduceEqDiff, reduceIte, g1, g4] <;> rfl) (by exact (eql_f (by omega))) (by decide) ?_
  refine ro_assign (by simp only [evalF, upd, arg0, argS, ofConst, ofCell, Nat.reduceEqDiff, reduceIte, g1, g4] <;> rfl) (by decide) ?_
  refine ro_nil ?_
  try simp only
  refine ex_cond (t := false) (by simp only [evalF, upd, arg0, argS, ofConst, ofCell, Nat.reduceEqDiff, reduceIte, g1, g4] <;> rfl) (fun h => by simp at h) (fun h => ?_)
  refine ex_test_f (by simp only [evalF, upd, arg0, argS, ofConst, ofCell, Nat.reduceEqDiff, reduceIte, g1, g4] <;> rfl) (by omega) (by decide) (by decide) ?_
  refine ex_skip ?_
  try simp only
  exact ⟨by first | rfl | trivial, by simp [upd, g1], by simp [upd, g4], hS0⟩
theorem sw14_2 (d : Nat) {hp0 : Hp} {nb0 idw q i1 : Nat} {m : M} {L D : AV} {g : Gm} {bs : List Int} (hk : m.kind = 2) (mb0 : Mb hp0 nb0 i1 q m L D) (hw0 : Wr hp0 nb0 idw q bs 0) (hbs : bs.length ≤ 10) (g1 : g 1 = .ptr i1 1 0) (g4 : g 4 = .ptr idw 1 0) :
    EX Try.prog plains (callA Try.prog facts plains 10000 (d + 3)) (orS facts (pureOf (callA Try.prog facts plains 10000 (d + 3)))) 10000 145 (codeAt (bodyOf Try.f14) [true, true, true, false]) g hp0 nb0 fun x g' hp' nb' => x = .normal ∧ g' 1 = .ptr i1 1 0 ∧ g' 4 = .ptr idw 1 0 ∧
      WrS hp0 nb0 idw q ([0, 2].foldl (fieldW m) (bs, 0)).1 ([0, 2].foldl (fieldW m) (bs, 0)).2 (.tuple []) hp' nb' := by
  simp only [List.foldl_cons, List.foldl_nil, fieldW]
  have hS0 : WrS hp0 nb0 idw q bs 0 (.tuple []) hp0 nb0 := ⟨rfl, hw0, Nat.le_refl _, fun _ _ => rfl, fun h => h⟩
  show EX _ _ _ _ _ 145 _ _ _ _ _
  simp only [codeAt, bodyOf, Try.f14, if_true, if_false, Bool.false_eq_true]
  refine ex_seq (ex_region ?_)
  refine ro_fieldAddr (by simp only [evalF, upd, arg0, argS, ofConst, ofCell, Nat.reduceEqDiff, reduceIte, g1, g4] <;> rfl) (by exact (fa30_0 _ _ _)) (by decide) ?_
  refine ro_load (by simp only [evalF, upd, arg0, argS, ofConst, ofCell, Nat.reduceEqDiff, reduceIte, g1, g4] <;> rfl) (by exact (load1 ag3 mb0.l mc0)) (by decide) ?_
  refine ro_nil ?_
  try simp only
  refine ex_block ?_
  refine ex_test_t (by simp only [evalF, upd, arg0, argS, ofConst, ofCell, Nat.reduceEqDiff, reduceIte, g1, g4] <;> rfl) (by omega) (by decide) (by decide) ?_
  refine ex_seq (ex_region ?_)
  refine ro_move (by simp only [evalF, upd, arg0, argS, ofConst, ofCell, Nat.reduceEqDiff, reduceIte, g1, g4] <;> rfl) (by decide) ?_
  refine ro_fieldAddr (by simp only [evalF, upd, arg0, argS, ofConst, ofCell, Nat.reduceEqDiff, reduceIte, g1, g4] <;> rfl) (by exact (fa30_2 _ _ _)) (by decide) ?_
  refine ro_load (by simp only [evalF, upd, arg0, argS, ofConst, ofCell, Nat.reduceEqDiff, reduceIte, g1, g4] <;> rfl) (by exact (load1 ag3 mb0.l mc2)) (by decide) ?_
  refine ro_call (f := 21) («as» := [.ptr idw 1 0, .pv (.int .i64 m.pred), .pv (.int .i64 (-1))]) rfl (by simp [evalF, upd, arg0, argS, ofConst, ofCell, Nat.reduceEqDiff, reduceIte, g1, g4]) plains_21 rfl (node21 (d + 1) m.pred (-1) hw0 (by have := mb0.k; have := mb0.sd; have := mb0.sl; simp; omega)) (by decide) ?_
  rintro v1 hp1 nb1 hT1
  obtain ⟨rfl, hw1, _, _, _⟩ := id hT1
  have hS1 := wrs_trans hS0 hT1
  have mb1 := mb_keep mb0 hT1
  refine ro_nil ?_
  try simp only
  refine ex_region ?_
  refine ro_move (by simp only [evalF, upd, arg0, argS, ofConst, ofCell, Nat.reduceEqDiff, reduceIte, g1, g4] <;> rfl) (by decide) ?_
  refine ro_fieldAddr (by simp only [evalF, upd, arg0, argS, ofConst, ofCell, Nat.reduceEqDiff, reduceIte, g1, g4] <;> rfl) (by exact (fa30_3 _ _ _)) (by decide) ?_
  refine ro_load (by simp only [evalF, upd, arg0, argS, ofConst, ofCell, Nat.reduceEqDiff, reduceIte, g1, g4] <;> rfl) (by exact (load1 ag24 mb1.l mc3)) (by decide) ?_
  refine ro_call (f := 22) («as» := [.ptr idw 1 0, L]) rfl (by simp [evalF, upd, arg0, argS, ofConst, ofCell, Nat.reduceEqDiff, reduceIte, g1, g4]) plains_22 rfl (list22 d mb1.rl mb1.ol mb1.sl hw1 (by have := mb1.k; have := mb1.sd; have := mb1.sl; simp; omega)) (by decide) ?_
  rintro v2 hp2 nb2 hT2
  obtain ⟨rfl, hw2, _, _, _⟩ := id hT2
  have hS2 := wrs_trans hS1 hT2
  have mb2 := mb_keep mb1 hT2
  refine ro_nil ?_
  try simp only
  exact ⟨by first | rfl | trivial, by simp [upd, g1], by simp [upd, g4], hS2⟩
theorem sw14_3 (d : Nat) {hp0 : Hp} {nb0 idw q i1 : Nat} {m : M} {L D : AV} {g : Gm} {bs : List Int} (hk : m.kind = 3) (mb0 : Mb hp0 nb0 i1 q m L D) (hw0 : Wr hp0 nb0 idw q bs 0) (hbs : bs.length ≤ 10) (g1 : g 1 = .ptr i1 1 0) (g4 : g 4 = .ptr idw 1 0) :
    EX Try.prog plains (callA Try.prog facts plains 10000 (d + 3)) (orS facts (pureOf (callA Try.prog facts plains 10000 (d + 3)))) 10000 145 (codeAt (bodyOf Try.f14) [true, true, true, false]) g hp0 nb0 fun x g' hp' nb' => x = .normal ∧ g' 1 = .ptr i1 1 0 ∧ g' 4 = .ptr idw 1 0 ∧
      WrS hp0 nb0 idw q ([1].foldl (fieldW m) (bs, 0)).1 ([1].foldl (fieldW m) (bs, 0)).2 (.tuple []) hp' nb' := by
  simp only [List.foldl_cons, List.foldl_nil, fieldW]
  have hS0 : WrS hp0 nb0 idw q bs 0 (.tuple []) hp0 nb0 := ⟨rfl, hw0, Nat.le_refl _, fun _ _ => rfl, fun h => h⟩
  show EX _ _ _ _ _ 145 _ _ _ _ _
  simp only [codeAt, bodyOf, Try.f14, if_true, if_false, Bool.false_eq_true]
  refine ex_seq (ex_region ?_)
  refine ro_fieldAddr (by simp only [evalF, upd, arg0, argS, ofConst, ofCell, Nat.reduceEqDiff, reduceIte, g1, g4] <;> rfl) (by exact (fa30_0 _ _ _)) (by decide) ?_
  refine ro_load (by simp only [evalF, upd, arg0, argS, ofConst, ofCell, Nat.reduceEqDiff, reduceIte, g1, g4] <;> rfl) (by exact (load1 ag3 mb0.l mc0)) (by decide) ?_
  refine ro_nil ?_
  try simp only
  refine ex_block ?_
  refine ex_test_f (by simp only [evalF, upd, arg0, argS, ofConst, ofCell, Nat.reduceEqDiff, reduceIte, g1, g4] <;> rfl) (by omega) (by decide) (by decide) ?_
  refine ex_test_t (by simp only [evalF, upd, arg0, argS, ofConst, ofCell, Nat.reduceEqDiff, reduceIte, g1, g4] <;> rfl) (by omega) (by decide) (by decide) ?_
  refine ex_region ?_
  refine ro_move (by simp only [evalF, upd, arg0, argS, ofConst, ofCell, Nat.reduceEqDiff, reduceIte, g1, g4] <;> rfl) (by decide) ?_
  refine ro_fieldAddr (by simp only [evalF, upd, arg0, argS, ofConst, ofCell, Nat.reduceEqDiff, reduceIte, g1, g4] <;> rfl) (by exact (fa30_1 _ _ _)) (by decide) ?_
  refine ro_load (by simp only [evalF, upd, arg0, argS, ofConst, ofCell, Nat.reduceEqDiff, reduceIte, g1, g4] <;> rfl) (by exact (load1 ag3 mb0.l mc1)) (by decide) ?_
  refine ro_call (f := 21) («as» := [.ptr idw 1 0, .pv (.int .i64 m.node), .pv (.int .i64 0)]) rfl (by simp [evalF, upd, arg0, argS, ofConst, ofCell, Nat.reduceEqDiff, reduceIte, g1, g4]) plains_21 rfl (node21 (d + 1) m.node 0 hw0 (by have := mb0.k; have := mb0.sd; have := mb0.sl; simp; omega)) (by decide) ?_
  rintro v1 hp1 nb1 hT1
  obtain ⟨rfl, hw1, _, _, _⟩ := id hT1
  have hS1 := wrs_trans hS0 hT1
  have mb1 := mb_keep mb0 hT1
  refine ro_nil ?_
  try simp only
  exact ⟨by first | rfl | trivial, by simp [upd, g1], by simp [upd, g4], hS1⟩
theorem sw14_4 (d : Nat) {hp0 : Hp} {nb0 idw q i1 : Nat} {m : M} {L D : AV} {g : Gm} {bs : List Int} (hk : m.kind = 4) (mb0 : Mb hp0 nb0 i1 q m L D) (hw0 : Wr hp0 nb0 idw q bs 0) (hbs : bs.length ≤ 10) (g1 : g 1 = .ptr i1 1 0) (g4 : g 4 = .ptr idw 1 0) :
    EX Try.prog plains (callA Try.prog facts plains 10000 (d + 3)) (orS facts (pureOf (callA Try.prog facts plains 10000 (d + 3)))) 10000 145 (codeAt (bodyOf Try.f14) [true, true, true, false]) g hp0 nb0 fun x g' hp' nb' => x = .normal ∧ g' 1 = .ptr i1 1 0 ∧ g' 4 = .ptr idw 1 0 ∧
      WrS hp0 nb0 idw q ([4].foldl (fieldW m) (bs, 0)).1 ([4].foldl (fieldW m) (bs, 0)).2 (.tuple []) hp' nb' := by
  simp only [List.foldl_cons, List.foldl_nil, fieldW]
  have hS0 : WrS hp0 nb0 idw q bs 0 (.tuple []) hp0 nb0 := ⟨rfl, hw0, Nat.le_refl _, fun _ _ => rfl, fun h => h⟩
  show EX _ _ _ _ _ 145 _ _ _ _ _
  simp only [codeAt, bodyOf, Try.f14, if_true, if_false, Bool.false_eq_true]
  refine ex_seq (ex_region ?_)
  refine ro_fieldAddr (by simp only [evalF, upd, arg0, argS, ofConst, ofCell, Nat.reduceEqDiff, reduceIte, g1, g4] <;> rfl) (by exact (fa30_0 _ _ _)) (by decide) ?_
  refine ro_load (by simp only [evalF, upd, arg0, argS, ofConst, ofCell, Nat.reduceEqDiff, reduceIte, g1, g4] <;> rfl) (by exact (load1 ag3 mb0.l mc0)) (by decide) ?_
  refine ro_nil ?_
  try simp only
  refine ex_block ?_
  refine ex_test_f (by simp only [evalF, upd, arg0, argS, ofConst, ofCell, Nat.reduceEqDiff, reduceIte, g1, g4] <;> rfl) (by omega) (by decide) (by decide) ?_
  refine ex_test_f (by simp only [evalF, upd, arg0, argS, ofConst, ofCell, Nat.reduceEqDiff, reduceIte, g1, g4] <;> rfl) (by omega) (by decide) (by decide) ?_
  refine ex_test_t (by simp only [evalF, upd, arg0, argS, ofConst, ofCell, Nat.reduceEqDiff, reduceIte, g1, g4] <;> rfl) (by omega) (by decide) (by decide) ?_
  refine ex_region ?_
  refine ro_move (by simp only [evalF, upd, arg0, argS, ofConst, ofCell, Nat.reduceEqDiff, reduceIte, g1, g4] <;> rfl) (by decide) ?_
  refine ro_fieldAddr (by simp only [evalF, upd, arg0, argS, ofConst, ofCell, Nat.reduceEqDiff, reduceIte, g1, g4] <;> rfl) (by exact (fa30_8 _ _ _)) (by decide) ?_
  refine ro_load (by simp only [evalF, upd, arg0, argS, ofConst, ofCell, Nat.reduceEqDiff, reduceIte, g1, g4] <;> rfl) (by exact (load1 ag28 mb0.l (mc39 mb0.k))) (by decide) ?_
  refine ro_call (f := 23) («as» := [.ptr idw 1 0, .pv (.int .i64 m.err)]) rfl (by simp [evalF, upd, arg0, argS, ofConst, ofCell, Nat.reduceEqDiff, reduceIte, g1, g4]) plains_23 rfl (err23 (d + 1) m.err hw0 (by have := mb0.k; have := mb0.sd; have := mb0.sl; simp; omega)) (by decide) ?_
  rintro v1 hp1 nb1 hT1
  obtain ⟨rfl, hw1, _, _, _⟩ := id hT1
  have hS1 := wrs_trans hS0 hT1
  have mb1 := mb_keep mb0 hT1
  refine ro_nil ?_
  try simp only
  exact ⟨by first | rfl | trivial, by simp [upd, g1], by simp [upd, g4], hS1⟩
theorem sw14_5 (d : Nat) {hp0 : Hp} {nb0 idw q i1 : Nat} {m : M} {L D : AV} {g : Gm} {bs : List Int} (hk : m.kind = 5) (mb0 : Mb hp0 nb0 i1 q m L D) (hw0 : Wr hp0 nb0 idw q bs 0) (hbs : bs.length ≤ 10) (g1 : g 1 = .ptr i1 1 0) (g4 : g 4 = .ptr idw 1 0) :
    EX Try.prog plains (callA Try.prog facts plains 10000 (d + 3)) (orS facts (pureOf (callA Try.prog facts plains 10000 (d + 3)))) 10000 145 (codeAt (bodyOf Try.f14) [true, true, true, false]) g hp0 nb0 fun x g' hp' nb' => x = .normal ∧ g' 1 = .ptr i1 1 0 ∧ g' 4 = .ptr idw 1 0 ∧
      WrS hp0 nb0 idw q ([5].foldl (fieldW m) (bs, 0)).1 ([5].foldl (fieldW m) (bs, 0)).2 (.tuple []) hp' nb' := by
  simp only [List.foldl_cons, List.foldl_nil, fieldW]
  have hS0 : WrS hp0 nb0 idw q bs 0 (.tuple []) hp0 nb0 := ⟨rfl, hw0, Nat.le_refl _, fun _ _ => rfl, fun h => h⟩
  show EX _ _ _ _ _ 145 _ _ _ _ _
  simp only [codeAt, bodyOf, Try.f14, if_true, if_false, Bool.false_eq_true]
  refine ex_seq (ex_region ?_)
  refine ro_fieldAddr (by simp only [evalF, upd, arg0, argS, ofConst, ofCell, Nat.reduceEqDiff, reduceIte, g1, g4] <;> rfl) (by exact (fa30_0 _ _ _)) (by decide) ?_
  refine ro_load (by simp only [evalF, upd, arg0, argS, ofConst, ofCell, Nat.reduceEqDiff, reduceIte, g1, g4] <;> rfl) (by exact (load1 ag3 mb0.l mc0)) (by decide) ?_
  refine ro_nil ?_
  try simp only
  refine ex_block ?_
  refine ex_test_f (by simp only [evalF, upd, arg0, argS, ofConst, ofCell, Nat.reduceEqDiff, reduceIte, g1, g4] <;> rfl) (by omega) (by decide) (by decide) ?_
  refine ex_test_f (by simp only [evalF, upd, arg0, argS, ofConst, ofCell, Nat.reduceEqDiff, reduceIte, g1, g4] <;> rfl) (by omega) (by decide) (by decide) ?_
  refine ex_test_f (by simp only [evalF, upd, arg0, argS, ofConst, ofCell, Nat.reduceEqDiff, reduceIte, g1, g4] <;> rfl) (by omega) (by decide) (by decide) ?_
  refine ex_seq (ex_test_t (by simp only [evalF, upd, arg0, argS, ofConst, ofCell, Nat.reduceEqDiff, reduceIte, g1, g4] <;> rfl) (by omega) (by decide) (by decide) ?_)
  refine ex_skip ?_
  try simp only
  refine ex_cond (t := true) (by simp only [evalF, upd, arg0, argS, ofConst, ofCell, Nat.reduceEqDiff, reduceIte, g1, g4] <;> rfl) (fun h => ?_) (fun h => by simp at h)
  refine ex_draw (by kernel_rfl) ?_
  obtain ⟨vb1, hl1, hg1, ho1⟩ := hw0.ex
  refine rdw_move rfl (by simp only [evalF, upd, arg0, argS, ofConst, ofCell, Nat.reduceEqDiff, reduceIte, g1, g4] <;> rfl) (by decide) ?_
  refine rdw_move rfl (by simp only [evalF, upd, arg0, argS, ofConst, ofCell, Nat.reduceEqDiff, reduceIte, g1, g4] <;> rfl) (by decide) ?_
  refine rdw_nilCheck rfl (by simp only [evalF, upd, arg0, argS, ofConst, ofCell, Nat.reduceEqDiff, reduceIte, g1, g4] <;> rfl) (by decide) ?_
  refine rdw_fieldAddr rfl (by simp only [evalF, upd, arg0, argS, ofConst, ofCell, Nat.reduceEqDiff, reduceIte, g1, g4] <;> rfl) (by exact (fa50_0 _ _ _)) (by decide) ?_
  refine rdw_load rfl (by simp only [evalF, upd, arg0, argS, ofConst, ofCell, Nat.reduceEqDiff, reduceIte, g1, g4] <;> rfl) (by exact (load1 ag27 hl1 rfl)) (by decide) ?_
  refine rdw_fieldAddr rfl (by simp only [evalF, upd, arg0, argS, ofConst, ofCell, Nat.reduceEqDiff, reduceIte, g1, g4] <;> rfl) (by exact (fa30_5 _ _ _)) (by decide) ?_
  refine rdw_slice rfl (by simp only [evalF, upd, arg0, argS, ofConst, ofCell, Nat.reduceEqDiff, reduceIte, g1, g4] <;> rfl) rfl rfl rfl (slice26 _ _ _) (by decide) ?_
  refine rd_append (r := u8s m.key) st27 Try.underlying27 (by simp only [evalF, upd, arg0, argS, ofConst, ofCell, Nat.reduceEqDiff, reduceIte, g1, g4] <;> rfl) (by simp only [evalF, upd, arg0, argS, ofConst, ofCell, Nat.reduceEqDiff, reduceIte, g1, g4] <;> rfl) hg1 (row_src (key_row mb0.k mb0.l (mb_lt mb0 hw0))) (by have := mb0.k; simp [u8s]; omega) (by decide) ?_
  intro v1 hp1' nb1 c1 hg1' ha1 hc1 ho1'
  obtain ⟨hst1, hT1⟩ := wr_store (bs := bs ++ m.key) hw0.lt hw0.le hl1 ho1 ha1 (by simpa [u8s] using hg1') ho1'
  refine rdw_nilCheck rfl (by simp only [evalF, upd, arg0, argS, ofConst, ofCell, Nat.reduceEqDiff, reduceIte, g1, g4] <;> rfl) (by decide) ?_
  refine rdw_fieldAddr rfl (by simp only [evalF, upd, arg0, argS, ofConst, ofCell, Nat.reduceEqDiff, reduceIte, g1, g4] <;> rfl) (by exact (fa50_0 _ _ _)) (by decide) ?_
  refine rdw_store rfl (by simp only [evalF, upd, arg0, argS, ofConst, ofCell, Nat.reduceEqDiff, reduceIte, g1, g4] <;> rfl) (by simp only [evalF, upd, arg0, argS, ofConst, ofCell, Nat.reduceEqDiff, reduceIte, g1, g4] <;> rfl) hst1 (by rw [ha1.2.1 idw hw0.lt (fun h => (ho1 idw h).2 rfl)]; exact look_live hl1) ?_
  refine rd_nil ⟨dyn_of rfl (fun p hp' => ?_), ?_⟩
  · have hp'' : p ∈ needs (regOf Try.f14 15) := hp'
    rw [show needs (regOf Try.f14 15) = [] from by kernel_rfl] at hp''
    simp at hp''
  try simp only
  generalize setHp hp1' idw _ = hp1 at hT1 ⊢
  obtain ⟨_, hw1, _, _, _⟩ := id hT1
  have hS1 := wrs_trans hS0 hT1
  have mb1 := mb_keep mb0 hT1
  exact ⟨by first | rfl | trivial, by simp [upd, g1], by simp [upd, g4], hS1⟩
theorem sw14_6 (d : Nat) {hp0 : Hp} {nb0 idw q i1 : Nat} {m : M} {L D : AV} {g : Gm} {bs : List Int} (hk : m.kind = 6) (mb0 : Mb hp0 nb0 i1 q m L D) (hw0 : Wr hp0 nb0 idw q bs 0) (hbs : bs.length ≤ 10) (g1 : g 1 = .ptr i1 1 0) (g4 : g 4 = .ptr idw 1 0) :
    EX Try.prog plains (callA Try.prog facts plains 10000 (d + 3)) (orS facts (pureOf (callA Try.prog facts plains 10000 (d + 3)))) 10000 145 (codeAt (bodyOf Try.f14) [true, true, true, false]) g hp0 nb0 fun x g' hp' nb' => x = .normal ∧ g' 1 = .ptr i1 1 0 ∧ g' 4 = .ptr idw 1 0 ∧
      WrS hp0 nb0 idw q ([3, 2].foldl (fieldW m) (bs, 0)).1 ([3, 2].foldl (fieldW m) (bs, 0)).2 (.tuple []) hp' nb' := by
  simp only [List.foldl_cons, List.foldl_nil, fieldW]
  have hS0 : WrS hp0 nb0 idw q bs 0 (.tuple []) hp0 nb0 := ⟨rfl, hw0, Nat.le_refl _, fun _ _ => rfl, fun h => h⟩
  show EX _ _ _ _ _ 145 _ _ _ _ _
  simp only [codeAt, bodyOf, Try.f14, if_true, if_false, Bool.false_eq_true]
  refine ex_seq (ex_region ?_)
  refine ro_fieldAddr (by simp only [evalF, upd, arg0, argS, ofConst, ofCell, Nat.reduceEqDiff, reduceIte, g1, g4] <;> rfl) (by exact (fa30_0 _ _ _)) (by decide) ?_
  refine ro_load (by simp only [evalF, upd, arg0, argS, ofConst, ofCell, Nat.reduceEqDiff, reduceIte, g1, g4] <;> rfl) (by exact (load1 ag3 mb0.l mc0)) (by decide) ?_
  refine ro_nil ?_
  try simp only
  refine ex_block ?_
  refine ex_test_f (by simp only [evalF, upd, arg0, argS, ofConst, ofCell, Nat.reduceEqDiff, reduceIte, g1, g4] <;> rfl) (by omega) (by decide) (by decide) ?_
  refine ex_test_f (by simp only [evalF, upd, arg0, argS, ofConst, ofCell, Nat.reduceEqDiff, reduceIte, g1, g4] <;> rfl) (by omega) (by decide) (by decide) ?_
  refine ex_test_f (by simp only [evalF, upd, arg0, argS, ofConst, ofCell, Nat.reduceEqDiff, reduceIte, g1, g4] <;> rfl) (by omega) (by decide) (by decide) ?_
  refine ex_seq (ex_test_f (by simp only [evalF, upd, arg0, argS, ofConst, ofCell, Nat.reduceEqDiff, reduceIte, g1, g4] <;> rfl) (by omega) (by decide) (by decide) ?_)
  refine ex_test_f (by simp only [evalF, upd, arg0, argS, ofConst, ofCell, Nat.reduceEqDiff, reduceIte, g1, g4] <;> rfl) (by omega) (by decide) (by decide) ?_
  refine ex_region ?_
  refine ro_bin (by simp only [evalF, upd, arg0, argS, ofConst, ofCell, Nat.reduceEqDiff, reduceIte, g1, g4] <;> rfl) (by simp only [evalF, upd, arg0, argS, ofConst, ofCell, Nat.reduceEqDiff, reduceIte, g1, g4] <;> rfl) (by exact (eql_f (by omega))) (by decide) ?_
  refine ro_assign (by simp only [evalF, upd, arg0, argS, ofConst, ofCell, Nat.reduceEqDiff, reduceIte, g1, g4] <;> rfl) (by decide) ?_
  refine ro_nil ?_
  try simp only
  refine ex_cond (t := false) (by simp only [evalF, upd, arg0, argS, ofConst, ofCell, Nat.reduceEqDiff, reduceIte, g1, g4] <;> rfl) (fun h => by simp at h) (fun h => ?_)
  refine ex_test_t (by simp only [evalF, upd, arg0, argS, ofConst, ofCell, Nat.reduceEqDiff, reduceIte, g1, g4] <;> rfl) (by omega) (by decide) (by decide) ?_
  refine ex_seq (ex_seq (ex_region ?_))
  refine ro_fieldAddr (by simp only [evalF, upd, arg0, argS, ofConst, ofCell, Nat.reduceEqDiff, reduceIte, g1, g4] <;> rfl) (by exact (fa30_4 _ _ _)) (by decide) ?_
  refine ro_load (by simp only [evalF, upd, arg0, argS, ofConst, ofCell, Nat.reduceEqDiff, reduceIte, g1, g4] <;> rfl) (by exact (load1 ag4 mb0.l mc4)) (by decide) ?_
  refine ro_nil ?_
  try simp only
  refine ex_cond (t := m.done) (by simp only [evalF, upd, arg0, argS, ofConst, ofCell, Nat.reduceEqDiff, reduceIte, g1, g4] <;> rfl) (fun hd => ?_) (fun hd => ?_)
  · refine ex_region ?_
    obtain ⟨vb1, hl1, hg1, ho1⟩ := hw0.ex
    refine ro_move (by simp only [evalF, upd, arg0, argS, ofConst, ofCell, Nat.reduceEqDiff, reduceIte, g1, g4] <;> rfl) (by decide) ?_
    refine ro_move (by simp only [evalF, upd, arg0, argS, ofConst, ofCell, Nat.reduceEqDiff, reduceIte, g1, g4] <;> rfl) (by decide) ?_
    refine ro_nilCheck (by simp only [evalF, upd, arg0, argS, ofConst, ofCell, Nat.reduceEqDiff, reduceIte, g1, g4] <;> rfl) (by decide) ?_
    refine ro_fieldAddr (by simp only [evalF, upd, arg0, argS, ofConst, ofCell, Nat.reduceEqDiff, reduceIte, g1, g4] <;> rfl) (by exact (fa50_0 _ _ _)) (by decide) ?_
    refine ro_load (by simp only [evalF, upd, arg0, argS, ofConst, ofCell, Nat.reduceEqDiff, reduceIte, g1, g4] <;> rfl) (by exact (load1 ag27 hl1 rfl)) (by decide) ?_
    refine ro_buildSlice rfl (by simp only [List.map_cons, List.map_nil, evalF, upd, arg0, argS, ofConst, ofCell, Nat.reduceEqDiff, reduceIte]; exact bs27_1 _ 1) (by decide) ?_
    refine ro_append (r := [.int .u8 1]) st27 Try.underlying27 (by simp only [evalF, upd, arg0, argS, ofConst, ofCell, Nat.reduceEqDiff, reduceIte, g1, g4] <;> rfl) (by simp only [evalF, upd, arg0, argS, ofConst, ofCell, Nat.reduceEqDiff, reduceIte, g1, g4] <;> rfl) (hg1.keep (Nat.le_succ _) (fun id hid _ => by simp [setHp, show id ≠ nb0 by omega])) (src_built rfl (by simp [setHp])) (by simp [u8s]; omega) (by decide) ?_
    intro v1 hp1' nb1 hg1' ha1 ho1'
    have hax1 := after_trans (after_new hp0 nb0 vb1 [.pv (.int .u8 1)] (pvs_ok [.int .u8 1])) ha1 (fun id h => .inl h)
    obtain ⟨hst1, hT1⟩ := wr_store (bs := bs ++ [1]) hw0.lt hw0.le hl1 ho1 hax1 (by simpa [u8s] using hg1') (fun id h => (ho1' id h).imp (fun h => h) (fun h => by omega))
    refine ro_nilCheck (by simp only [evalF, upd, arg0, argS, ofConst, ofCell, Nat.reduceEqDiff, reduceIte, g1, g4] <;> rfl) (by decide) ?_
    refine ro_fieldAddr (by simp only [evalF, upd, arg0, argS, ofConst, ofCell, Nat.reduceEqDiff, reduceIte, g1, g4] <;> rfl) (by exact (fa50_0 _ _ _)) (by decide) ?_
    refine ro_store (by simp only [evalF, upd, arg0, argS, ofConst, ofCell, Nat.reduceEqDiff, reduceIte, g1, g4] <;> rfl) (by simp only [evalF, upd, arg0, argS, ofConst, ofCell, Nat.reduceEqDiff, reduceIte, g1, g4] <;> rfl) hst1 ?_
    refine ro_nil ?_
    try simp only
    generalize setHp hp1' idw _ = hp1 at hT1 ⊢
    obtain ⟨_, hw1, _, _, _⟩ := id hT1
    have hS1 := wrs_trans hS0 hT1
    have mb1 := mb_keep mb0 hT1
    refine ex_region ?_
    refine ro_move (by simp only [evalF, upd, arg0, argS, ofConst, ofCell, Nat.reduceEqDiff, reduceIte, g1, g4] <;> rfl) (by decide) ?_
    refine ro_fieldAddr (by simp only [evalF, upd, arg0, argS, ofConst, ofCell, Nat.reduceEqDiff, reduceIte, g1, g4] <;> rfl) (by exact (fa30_3 _ _ _)) (by decide) ?_
    refine ro_load (by simp only [evalF, upd, arg0, argS, ofConst, ofCell, Nat.reduceEqDiff, reduceIte, g1, g4] <;> rfl) (by exact (load1 ag24 mb1.l mc3)) (by decide) ?_
    refine ro_call (f := 22) («as» := [.ptr idw 1 0, L]) rfl (by simp [evalF, upd, arg0, argS, ofConst, ofCell, Nat.reduceEqDiff, reduceIte, g1, g4]) plains_22 rfl (list22 d mb1.rl mb1.ol mb1.sl hw1 (by have := mb1.k; have := mb1.sd; have := mb1.sl; simp; omega)) (by decide) ?_
    rintro v2 hp2 nb2 hT2
    obtain ⟨rfl, hw2, _, _, _⟩ := id hT2
    have hS2 := wrs_trans hS1 hT2
    have mb2 := mb_keep mb1 hT2
    refine ro_nil ?_
    try simp only
    rw [hd]
    simp only [Bool.false_eq_true, if_false, if_true]
    exact ⟨by first | rfl | trivial, by simp [upd, g1], by simp [upd, g4], hS2⟩
  · refine ex_region ?_
    obtain ⟨vb1, hl1, hg1, ho1⟩ := hw0.ex
    refine ro_move (by simp only [evalF, upd, arg0, argS, ofConst, ofCell, Nat.reduceEqDiff, reduceIte, g1, g4] <;> rfl) (by decide) ?_
    refine ro_move (by simp only [evalF, upd, arg0, argS, ofConst, ofCell, Nat.reduceEqDiff, reduceIte, g1, g4] <;> rfl) (by decide) ?_
    refine ro_nilCheck (by simp only [evalF, upd, arg0, argS, ofConst, ofCell, Nat.reduceEqDiff, reduceIte, g1, g4] <;> rfl) (by decide) ?_
    refine ro_fieldAddr (by simp only [evalF, upd, arg0, argS, ofConst, ofCell, Nat.reduceEqDiff, reduceIte, g1, g4] <;> rfl) (by exact (fa50_0 _ _ _)) (by decide) ?_
    refine ro_load (by simp only [evalF, upd, arg0, argS, ofConst, ofCell, Nat.reduceEqDiff, reduceIte, g1, g4] <;> rfl) (by exact (load1 ag27 hl1 rfl)) (by decide) ?_
    refine ro_buildSlice rfl (by simp only [List.map_cons, List.map_nil, evalF, upd, arg0, argS, ofConst, ofCell, Nat.reduceEqDiff, reduceIte]; exact bs27_1 _ 0) (by decide) ?_
    refine ro_append (r := [.int .u8 0]) st27 Try.underlying27 (by simp only [evalF, upd, arg0, argS, ofConst, ofCell, Nat.reduceEqDiff, reduceIte, g1, g4] <;> rfl) (by simp only [evalF, upd, arg0, argS, ofConst, ofCell, Nat.reduceEqDiff, reduceIte, g1, g4] <;> rfl) (hg1.keep (Nat.le_succ _) (fun id hid _ => by simp [setHp, show id ≠ nb0 by omega])) (src_built rfl (by simp [setHp])) (by simp [u8s]; omega) (by decide) ?_
    intro v1 hp1' nb1 hg1' ha1 ho1'
    have hax1 := after_trans (after_new hp0 nb0 vb1 [.pv (.int .u8 0)] (pvs_ok [.int .u8 0])) ha1 (fun id h => .inl h)
    obtain ⟨hst1, hT1⟩ := wr_store (bs := bs ++ [0]) hw0.lt hw0.le hl1 ho1 hax1 (by simpa [u8s] using hg1') (fun id h => (ho1' id h).imp (fun h => h) (fun h => by omega))
    refine ro_nilCheck (by simp only [evalF, upd, arg0, argS, ofConst, ofCell, Nat.reduceEqDiff, reduceIte, g1, g4] <;> rfl) (by decide) ?_
    refine ro_fieldAddr (by simp only [evalF, upd, arg0, argS, ofConst, ofCell, Nat.reduceEqDiff, reduceIte, g1, g4] <;> rfl) (by exact (fa50_0 _ _ _)) (by decide) ?_
    refine ro_store (by simp only [evalF, upd, arg0, argS, ofConst, ofCell, Nat.reduceEqDiff, reduceIte, g1, g4] <;> rfl) (by simp only [evalF, upd, arg0, argS, ofConst, ofCell, Nat.reduceEqDiff, reduceIte, g1, g4] <;> rfl) hst1 ?_
    refine ro_nil ?_
    try simp only
    generalize setHp hp1' idw _ = hp1 at hT1 ⊢
    obtain ⟨_, hw1, _, _, _⟩ := id hT1
    have hS1 := wrs_trans hS0 hT1
    have mb1 := mb_keep mb0 hT1
    refine ex_region ?_
    refine ro_move (by simp only [evalF, upd, arg0, argS, ofConst, ofCell, Nat.reduceEqDiff, reduceIte, g1, g4] <;> rfl) (by decide) ?_
    refine ro_fieldAddr (by simp only [evalF, upd, arg0, argS, ofConst, ofCell, Nat.reduceEqDiff, reduceIte, g1, g4] <;> rfl) (by exact (fa30_3 _ _ _)) (by decide) ?_
    refine ro_load (by simp only [evalF, upd, arg0, argS, ofConst, ofCell, Nat.reduceEqDiff, reduceIte, g1, g4] <;> rfl) (by exact (load1 ag24 mb1.l mc3)) (by decide) ?_
    refine ro_call (f := 22) («as» := [.ptr idw 1 0, L]) rfl (by simp [evalF, upd, arg0, argS, ofConst, ofCell, Nat.reduceEqDiff, reduceIte, g1, g4]) plains_22 rfl (list22 d mb1.rl mb1.ol mb1.sl hw1 (by have := mb1.k; have := mb1.sd; have := mb1.sl; simp; omega)) (by decide) ?_
    rintro v2 hp2 nb2 hT2
    obtain ⟨rfl, hw2, _, _, _⟩ := id hT2
    have hS2 := wrs_trans hS1 hT2
    have mb2 := mb_keep mb1 hT2
    refine ro_nil ?_
    try simp only
    rw [hd]
    simp only [Bool.false_eq_true, if_false, if_true]
    exact ⟨by first | rfl | trivial, by simp [upd, g1], by simp [upd, g4], hS2⟩
theorem sw14_7 (d : Nat) {hp0 : Hp} {nb0 idw q i1 : Nat} {m : M} {L D : AV} {g : Gm} {bs : List Int} (hk : m.kind = 7) (mb0 : Mb hp0 nb0 i1 q m L D) (hw0 : Wr hp0 nb0 idw q bs 0) (hbs : bs.length ≤ 10) (g1 : g 1 = .ptr i1 1 0) (g4 : g 4 = .ptr idw 1 0) :
    EX Try.prog plains (callA Try.prog facts plains 10000 (d + 3)) (orS facts (pureOf (callA Try.prog facts plains 10000 (d + 3)))) 10000 145 (codeAt (bodyOf Try.f14) [true, true, true, false]) g hp0 nb0 fun x g' hp' nb' => x = .normal ∧ g' 1 = .ptr i1 1 0 ∧ g' 4 = .ptr idw 1 0 ∧
      WrS hp0 nb0 idw q ([5].foldl (fieldW m) (bs, 0)).1 ([5].foldl (fieldW m) (bs, 0)).2 (.tuple []) hp' nb' := by
  simp only [List.foldl_cons, List.foldl_nil, fieldW]
  have hS0 : WrS hp0 nb0 idw q bs 0 (.tuple []) hp0 nb0 := ⟨rfl, hw0, Nat.le_refl _, fun _ _ => rfl, fun h => h⟩
  show EX _ _ _ _ _ 145 _ _ _ _ _
  simp only [codeAt, bodyOf, Try.f14, if_true, if_false, Bool.false_eq_true]
  refine ex_seq (ex_region ?_)
  refine ro_fieldAddr (by simp only [evalF, upd, arg0, argS, ofConst, ofCell, Nat.reduceEqDiff, reduceIte, g1, g4] <;> rfl) (by exact (fa30_0 _ _ _)) (by decide) ?_
  refine ro_load (by simp only [evalF, upd, arg0, argS, ofConst, ofCell, Nat.reduceEqDiff, reduceIte, g1, g4] <;> rfl) (by exact (load1 ag3 mb0.l mc0)) (by decide) ?_
  refine ro_nil ?_
  try simp only
  refine ex_block ?_
  refine ex_test_f (by simp only [evalF, upd, arg0, argS, ofConst, ofCell, Nat.reduceEqDiff, reduceIte, g1, g4] <;> rfl) (by omega) (by decide) (by decide) ?_
  refine ex_test_f (by simp only [evalF, upd, arg0, argS, ofConst, ofCell, Nat.reduceEqDiff, reduceIte, g1, g4] <;> rfl) (by omega) (by decide) (by decide) ?_
  refine ex_test_f (by simp only [evalF, upd, arg0, argS, ofConst, ofCell, Nat.reduceEqDiff, reduceIte, g1, g4] <;> rfl) (by omega) (by decide) (by decide) ?_
  refine ex_seq (ex_test_f (by simp only [evalF, upd, arg0, argS, ofConst, ofCell, Nat.reduceEqDiff, reduceIte, g1, g4] <;> rfl) (by omega) (by decide) (by decide) ?_)
  refine ex_test_t (by simp only [evalF, upd, arg0, argS, ofConst, ofCell, Nat.reduceEqDiff, reduceIte, g1, g4] <;> rfl) (by omega) (by decide) (by decide) ?_
  refine ex_skip ?_
  try simp only
  refine ex_cond (t := true) (by simp only [evalF, upd, arg0, argS, ofConst, ofCell, Nat.reduceEqDiff, reduceIte, g1, g4] <;> rfl) (fun h => ?_) (fun h => by simp at h)
  refine ex_draw (by kernel_rfl) ?_
  obtain ⟨vb1, hl1, hg1, ho1⟩ := hw0.ex
  refine rdw_move rfl (by simp only [evalF, upd, arg0, argS, ofConst, ofCell, Nat.reduceEqDiff, reduceIte, g1, g4] <;> rfl) (by decide) ?_
  refine rdw_move rfl (by simp only [evalF, upd, arg0, argS, ofConst, ofCell, Nat.reduceEqDiff, reduceIte, g1, g4] <;> rfl) (by decide) ?_
  refine rdw_nilCheck rfl (by simp only [evalF, upd, arg0, argS, ofConst, ofCell, Nat.reduceEqDiff, reduceIte, g1, g4] <;> rfl) (by decide) ?_
  refine rdw_fieldAddr rfl (by simp only [evalF, upd, arg0, argS, ofConst, ofCell, Nat.reduceEqDiff, reduceIte, g1, g4] <;> rfl) (by exact (fa50_0 _ _ _)) (by decide) ?_
  refine rdw_load rfl (by simp only [evalF, upd, arg0, argS, ofConst, ofCell, Nat.reduceEqDiff, reduceIte, g1, g4] <;> rfl) (by exact (load1 ag27 hl1 rfl)) (by decide) ?_
  refine rdw_fieldAddr rfl (by simp only [evalF, upd, arg0, argS, ofConst, ofCell, Nat.reduceEqDiff, reduceIte, g1, g4] <;> rfl) (by exact (fa30_5 _ _ _)) (by decide) ?_
  refine rdw_slice rfl (by simp only [evalF, upd, arg0, argS, ofConst, ofCell, Nat.reduceEqDiff, reduceIte, g1, g4] <;> rfl) rfl rfl rfl (slice26 _ _ _) (by decide) ?_
  refine rd_append (r := u8s m.key) st27 Try.underlying27 (by simp only [evalF, upd, arg0, argS, ofConst, ofCell, Nat.reduceEqDiff, reduceIte, g1, g4] <;> rfl) (by simp only [evalF, upd, arg0, argS, ofConst, ofCell, Nat.reduceEqDiff, reduceIte, g1, g4] <;> rfl) hg1 (row_src (key_row mb0.k mb0.l (mb_lt mb0 hw0))) (by have := mb0.k; simp [u8s]; omega) (by decide) ?_
  intro v1 hp1' nb1 c1 hg1' ha1 hc1 ho1'
  obtain ⟨hst1, hT1⟩ := wr_store (bs := bs ++ m.key) hw0.lt hw0.le hl1 ho1 ha1 (by simpa [u8s] using hg1') ho1'
  refine rdw_nilCheck rfl (by simp only [evalF, upd, arg0, argS, ofConst, ofCell, Nat.reduceEqDiff, reduceIte, g1, g4] <;> rfl) (by decide) ?_
  refine rdw_fieldAddr rfl (by simp only [evalF, upd, arg0, argS, ofConst, ofCell, Nat.reduceEqDiff, reduceIte, g1, g4] <;> rfl) (by exact (fa50_0 _ _ _)) (by decide) ?_
  refine rdw_store rfl (by simp only [evalF, upd, arg0, argS, ofConst, ofCell, Nat.reduceEqDiff, reduceIte, g1, g4] <;> rfl) (by simp only [evalF, upd, arg0, argS, ofConst, ofCell, Nat.reduceEqDiff, reduceIte, g1, g4] <;> rfl) hst1 (by rw [ha1.2.1 idw hw0.lt (fun h => (ho1 idw h).2 rfl)]; exact look_live hl1) ?_
  refine rd_nil ⟨dyn_of rfl (fun p hp' => ?_), ?_⟩
  · have hp'' : p ∈ needs (regOf Try.f14 15) := hp'
    rw [show needs (regOf Try.f14 15) = [] from by kernel_rfl] at hp''
    simp at hp''
  try simp only
  generalize setHp hp1' idw _ = hp1 at hT1 ⊢
  obtain ⟨_, hw1, _, _, _⟩ := id hT1
  have hS1 := wrs_trans hS0 hT1
  have mb1 := mb_keep mb0 hT1
  exact ⟨by first | rfl | trivial, by simp [upd, g1], by simp [upd, g4], hS1⟩
theorem sw14_8 (d : Nat) {hp0 : Hp} {nb0 idw q i1 : Nat} {m : M} {L D : AV} {g : Gm} {bs : List Int} (hk : m.kind = 8) (mb0 : Mb hp0 nb0 i1 q m L D) (hw0 : Wr hp0 nb0 idw q bs 0) (hbs : bs.length ≤ 10) (g1 : g 1 = .ptr i1 1 0) (g4 : g 4 = .ptr idw 1 0) :
    EX Try.prog plains (callA Try.prog facts plains 10000 (d + 3)) (orS facts (pureOf (callA Try.prog facts plains 10000 (d + 3)))) 10000 145 (codeAt (bodyOf Try.f14) [true, true, true, false]) g hp0 nb0 fun x g' hp' nb' => x = .normal ∧ g' 1 = .ptr i1 1 0 ∧ g' 4 = .ptr idw 1 0 ∧
      WrS hp0 nb0 idw q ([4, 6].foldl (fieldW m) (bs, 0)).1 ([4, 6].foldl (fieldW m) (bs, 0)).2 (.tuple []) hp' nb' := by
  simp only [List.foldl_cons, List.foldl_nil, fieldW]
  have hS0 : WrS hp0 nb0 idw q bs 0 (.tuple []) hp0 nb0 := ⟨rfl, hw0, Nat.le_refl _, fun _ _ => rfl, fun h => h⟩
  show EX _ _ _ _ _ 145 _ _ _ _ _
  simp only [codeAt, bodyOf, Try.f14, if_true, if_false, Bool.false_eq_true]
  refine ex_seq (ex_region ?_)
  refine ro_fieldAddr (by simp only [evalF, upd, arg0, argS, ofConst, ofCell, Nat.reduceEqDiff, reduceIte, g1, g4] <;> rfl) (by exact (fa30_0 _ _ _)) (by decide) ?_
  refine ro_load (by simp only [evalF, upd, arg0, argS, ofConst, ofCell, Nat.reduceEqDiff, reduceIte, g1, g4] <;> rfl) (by exact (load1 ag3 mb0.l mc0)) (by decide) ?_
  refine ro_nil ?_
  try simp only
  refine ex_block ?_
  refine ex_test_f (by simp only [evalF, upd, arg0, argS, ofConst, ofCell, Nat.reduceEqDiff, reduceIte, g1, g4] <;> rfl) (by omega) (by decide) (by decide) ?_
  refine ex_test_f (by simp only [evalF, upd, arg0, argS, ofConst, ofCell, Nat.reduceEqDiff, reduceIte, g1, g4] <;> rfl) (by omega) (by decide) (by decide) ?_
  refine ex_test_f (by simp only [evalF, upd, arg0, argS, ofConst, ofCell, Nat.reduceEqDiff, reduceIte, g1, g4] <;> rfl) (by omega) (by decide) (by decide) ?_
  refine ex_seq (ex_test_f (by simp only [evalF, upd, arg0, argS, ofConst, ofCell, Nat.reduceEqDiff, reduceIte, g1, g4] <;> rfl) (by omega) (by decide) (by decide) ?_)
  refine ex_test_f (by simp only [evalF, upd, arg0, argS, ofConst, ofCell, Nat.reduceEqDiff, reduceIte, g1, g4] <;> rfl) (by omega) (by decide) (by decide) ?_
  refine ex_region ?_
  refine ro_bin (by simp only [evalF, upd, arg0, argS, ofConst, ofCell, Nat.reduceEqDiff, reduceIte, g1, g4] <;> rfl) (by simp only [evalF, upd, arg0, argS, ofConst, ofCell, Nat.reduceEqDiff, reduceIte, g1, g4] <;> rfl) (by exact (eql_f (by omega))) (by decide) ?_
  refine ro_assign (by simp only [evalF, upd, arg0, argS, ofConst, ofCell, Nat.reduceEqDiff, reduceIte, g1, g4] <;> rfl) (by decide) ?_
  refine ro_nil ?_
  try simp only
  refine ex_cond (t := false) (by simp only [evalF, upd, arg0, argS, ofConst, ofCell, Nat.reduceEqDiff, reduceIte, g1, g4] <;> rfl) (fun h => by simp at h) (fun h => ?_)
  refine ex_test_f (by simp only [evalF, upd, arg0, argS, ofConst, ofCell, Nat.reduceEqDiff, reduceIte, g1, g4] <;> rfl) (by omega) (by decide) (by decide) ?_
  refine ex_test_t (by simp only [evalF, upd, arg0, argS, ofConst, ofCell, Nat.reduceEqDiff, reduceIte, g1, g4] <;> rfl) (by omega) (by decide) (by decide) ?_
  refine ex_seq (ex_region ?_)
  refine ro_move (by simp only [evalF, upd, arg0, argS, ofConst, ofCell, Nat.reduceEqDiff, reduceIte, g1, g4] <;> rfl) (by decide) ?_
  refine ro_fieldAddr (by simp only [evalF, upd, arg0, argS, ofConst, ofCell, Nat.reduceEqDiff, reduceIte, g1, g4] <;> rfl) (by exact (fa30_8 _ _ _)) (by decide) ?_
  refine ro_load (by simp only [evalF, upd, arg0, argS, ofConst, ofCell, Nat.reduceEqDiff, reduceIte, g1, g4] <;> rfl) (by exact (load1 ag28 mb0.l (mc39 mb0.k))) (by decide) ?_
  refine ro_call (f := 23) («as» := [.ptr idw 1 0, .pv (.int .i64 m.err)]) rfl (by simp [evalF, upd, arg0, argS, ofConst, ofCell, Nat.reduceEqDiff, reduceIte, g1, g4]) plains_23 rfl (err23 (d + 1) m.err hw0 (by have := mb0.k; have := mb0.sd; have := mb0.sl; simp; omega)) (by decide) ?_
  rintro v1 hp1 nb1 hT1
  obtain ⟨rfl, hw1, _, _, _⟩ := id hT1
  have hS1 := wrs_trans hS0 hT1
  have mb1 := mb_keep mb0 hT1
  refine ro_nil ?_
  try simp only
  refine ex_region ?_
  refine ro_move (by simp only [evalF, upd, arg0, argS, ofConst, ofCell, Nat.reduceEqDiff, reduceIte, g1, g4] <;> rfl) (by decide) ?_
  refine ro_fieldAddr (by simp only [evalF, upd, arg0, argS, ofConst, ofCell, Nat.reduceEqDiff, reduceIte, g1, g4] <;> rfl) (by exact (fa30_6 _ _ _)) (by decide) ?_
  refine ro_load (by simp only [evalF, upd, arg0, argS, ofConst, ofCell, Nat.reduceEqDiff, reduceIte, g1, g4] <;> rfl) (by exact (load1 ag27 mb1.l (mc37 mb1.k))) (by decide) ?_
  refine ro_call (f := 24) («as» := [.ptr idw 1 0, D]) rfl (by simp [evalF, upd, arg0, argS, ofConst, ofCell, Nat.reduceEqDiff, reduceIte, g1, g4]) plains_24 rfl (data24 (d + 1) mb1.rd mb1.od (by have := mb1.sd; omega) hw1 (by have := mb1.k; have := mb1.sd; have := mb1.sl; simp; omega)) (by decide) ?_
  rintro v2 hp2 nb2 hT2
  obtain ⟨rfl, hw2, _, _, _⟩ := id hT2
  have hS2 := wrs_trans hS1 hT2
  have mb2 := mb_keep mb1 hT2
  refine ro_nil ?_
  try simp only
  exact ⟨by first | rfl | trivial, by simp [upd, g1], by simp [upd, g4], hS2⟩
theorem sw14_9 (d : Nat) {hp0 : Hp} {nb0 idw q i1 : Nat} {m : M} {L D : AV} {g : Gm} {bs : List Int} (hk : m.kind = 9) (mb0 : Mb hp0 nb0 i1 q m L D) (hw0 : Wr hp0 nb0 idw q bs 0) (hbs : bs.length ≤ 10) (g1 : g 1 = .ptr i1 1 0) (g4 : g 4 = .ptr idw 1 0) :
    EX Try.prog plains (callA Try.prog facts plains 10000 (d + 3)) (orS facts (pureOf (callA Try.prog facts plains 10000 (d + 3)))) 10000 145 (codeAt (bodyOf Try.f14) [true, true, true, false]) g hp0 nb0 fun x g' hp' nb' => x = .normal ∧ g' 1 = .ptr i1 1 0 ∧ g' 4 = .ptr idw 1 0 ∧
      WrS hp0 nb0 idw q ([5, 6].foldl (fieldW m) (bs, 0)).1 ([5, 6].foldl (fieldW m) (bs, 0)).2 (.tuple []) hp' nb' := by
  simp only [List.foldl_cons, List.foldl_nil, fieldW]
  have hS0 : WrS hp0 nb0 idw q bs 0 (.tuple []) hp0 nb0 := ⟨rfl, hw0, Nat.le_refl _, fun _ _ => rfl, fun h => h⟩
  show EX _ _ _ _ _ 145 _ _ _ _ _
  simp only [codeAt, bodyOf, Try.f14, if_true, if_false, Bool.false_eq_true]
  refine ex_seq (ex_region ?_)
  refine ro_fieldAddr (by simp only [evalF, upd, arg0, argS, ofConst, ofCell, Nat.reduceEqDiff, reduceIte, g1, g4] <;> rfl) (by exact (fa30_0 _ _ _)) (by decide) ?_
  refine ro_load (by simp only [evalF, upd, arg0, argS, ofConst, ofCell, Nat.reduceEqDiff, reduceIte, g1, g4] <;> rfl) (by exact (load1 ag3 mb0.l mc0)) (by decide) ?_
  refine ro_nil ?_
  try simp only
  refine ex_block ?_
  refine ex_test_f (by simp only [evalF, upd, arg0, argS, ofConst, ofCell, Nat.reduceEqDiff, reduceIte, g1, g4] <;> rfl) (by omega) (by decide) (by decide) ?_
  refine ex_test_f (by simp only [evalF, upd, arg0, argS, ofConst, ofCell, Nat.reduceEqDiff, reduceIte, g1, g4] <;> rfl) (by omega) (by decide) (by decide) ?_
  refine ex_test_f (by simp only [evalF, upd, arg0, argS, ofConst, ofCell, Nat.reduceEqDiff, reduceIte, g1, g4] <;> rfl) (by omega) (by decide) (by decide) ?_
  refine ex_seq (ex_test_f (by simp only [evalF, upd, arg0, argS, ofConst, ofCell, Nat.reduceEqDiff, reduceIte, g1, g4] <;> rfl) (by omega) (by decide) (by decide) ?_)
  refine ex_test_f (by simp only [evalF, upd, arg0, argS, ofConst, ofCell, Nat.reduceEqDiff, reduceIte, g1, g4] <;> rfl) (by omega) (by decide) (by decide) ?_
  refine ex_region ?_
  refine ro_bin (by simp only [evalF, upd, arg0, argS, ofConst, ofCell, Nat.reduceEqDiff, reduceIte, g1, g4] <;> rfl) (by simp only [evalF, upd, arg0, argS, ofConst, ofCell, Nat.reduceEqDiff, reduceIte, g1, g4] <;> rfl) (by exact (eql_f (by omega))) (by decide) ?_
  refine ro_assign (by simp only [evalF, upd, arg0, argS, ofConst, ofCell, Nat.reduceEqDiff, reduceIte, g1, g4] <;> rfl) (by decide) ?_
  refine ro_nil ?_
  try simp only
  refine ex_cond (t := false) (by simp only [evalF, upd, arg0, argS, ofConst, ofCell, Nat.reduceEqDiff, reduceIte, g1, g4] <;> rfl) (fun h => by simp at h) (fun h => ?_)
  refine ex_test_f (by simp only [evalF, upd, arg0, argS, ofConst, ofCell, Nat.reduceEqDiff, reduceIte, g1, g4] <;> rfl) (by omega) (by decide) (by decide) ?_
  refine ex_test_f (by simp only [evalF, upd, arg0, argS, ofConst, ofCell, Nat.reduceEqDiff, reduceIte, g1, g4] <;> rfl) (by omega) (by decide) (by decide) ?_
  refine ex_seq (ex_test_t (by simp only [evalF, upd, arg0, argS, ofConst, ofCell, Nat.reduceEqDiff, reduceIte, g1, g4] <;> rfl) (by omega) (by decide) (by decide) ?_)
  refine ex_skip ?_
  try simp only
  refine ex_cond (t := true) (by simp only [evalF, upd, arg0, argS, ofConst, ofCell, Nat.reduceEqDiff, reduceIte, g1, g4] <;> rfl) (fun h => ?_) (fun h => by simp at h)
  refine ex_seq (ex_draw (by kernel_rfl) ?_)
  obtain ⟨vb1, hl1, hg1, ho1⟩ := hw0.ex
  refine rdw_move rfl (by simp only [evalF, upd, arg0, argS, ofConst, ofCell, Nat.reduceEqDiff, reduceIte, g1, g4] <;> rfl) (by decide) ?_
  refine rdw_move rfl (by simp only [evalF, upd, arg0, argS, ofConst, ofCell, Nat.reduceEqDiff, reduceIte, g1, g4] <;> rfl) (by decide) ?_
  refine rdw_nilCheck rfl (by simp only [evalF, upd, arg0, argS, ofConst, ofCell, Nat.reduceEqDiff, reduceIte, g1, g4] <;> rfl) (by decide) ?_
  refine rdw_fieldAddr rfl (by simp only [evalF, upd, arg0, argS, ofConst, ofCell, Nat.reduceEqDiff, reduceIte, g1, g4] <;> rfl) (by exact (fa50_0 _ _ _)) (by decide) ?_
  refine rdw_load rfl (by simp only [evalF, upd, arg0, argS, ofConst, ofCell, Nat.reduceEqDiff, reduceIte, g1, g4] <;> rfl) (by exact (load1 ag27 hl1 rfl)) (by decide) ?_
  refine rdw_fieldAddr rfl (by simp only [evalF, upd, arg0, argS, ofConst, ofCell, Nat.reduceEqDiff, reduceIte, g1, g4] <;> rfl) (by exact (fa30_5 _ _ _)) (by decide) ?_
  refine rdw_slice rfl (by simp only [evalF, upd, arg0, argS, ofConst, ofCell, Nat.reduceEqDiff, reduceIte, g1, g4] <;> rfl) rfl rfl rfl (slice26 _ _ _) (by decide) ?_
  refine rd_append (r := u8s m.key) st27 Try.underlying27 (by simp only [evalF, upd, arg0, argS, ofConst, ofCell, Nat.reduceEqDiff, reduceIte, g1, g4] <;> rfl) (by simp only [evalF, upd, arg0, argS, ofConst, ofCell, Nat.reduceEqDiff, reduceIte, g1, g4] <;> rfl) hg1 (row_src (key_row mb0.k mb0.l (mb_lt mb0 hw0))) (by have := mb0.k; simp [u8s]; omega) (by decide) ?_
  intro v1 hp1' nb1 c1 hg1' ha1 hc1 ho1'
  obtain ⟨hst1, hT1⟩ := wr_store (bs := bs ++ m.key) hw0.lt hw0.le hl1 ho1 ha1 (by simpa [u8s] using hg1') ho1'
  refine rdw_nilCheck rfl (by simp only [evalF, upd, arg0, argS, ofConst, ofCell, Nat.reduceEqDiff, reduceIte, g1, g4] <;> rfl) (by decide) ?_
  refine rdw_fieldAddr rfl (by simp only [evalF, upd, arg0, argS, ofConst, ofCell, Nat.reduceEqDiff, reduceIte, g1, g4] <;> rfl) (by exact (fa50_0 _ _ _)) (by decide) ?_
  refine rdw_store rfl (by simp only [evalF, upd, arg0, argS, ofConst, ofCell, Nat.reduceEqDiff, reduceIte, g1, g4] <;> rfl) (by simp only [evalF, upd, arg0, argS, ofConst, ofCell, Nat.reduceEqDiff, reduceIte, g1, g4] <;> rfl) hst1 (by rw [ha1.2.1 idw hw0.lt (fun h => (ho1 idw h).2 rfl)]; exact look_live hl1) ?_
  refine rd_nil ⟨dyn_of rfl (fun p hp' => ?_), ?_⟩
  · have hp'' : p ∈ needs (regOf Try.f14 26) := hp'
    rw [show needs (regOf Try.f14 26) = [] from by kernel_rfl] at hp''
    simp at hp''
  try simp only
  generalize setHp hp1' idw _ = hp1 at hT1 ⊢
  obtain ⟨_, hw1, _, _, _⟩ := id hT1
  have hS1 := wrs_trans hS0 hT1
  have mb1 := mb_keep mb0 hT1
  refine ex_region ?_
  refine ro_move (by simp only [evalF, upd, arg0, argS, ofConst, ofCell, Nat.reduceEqDiff, reduceIte, g1, g4] <;> rfl) (by decide) ?_
  refine ro_fieldAddr (by simp only [evalF, upd, arg0, argS, ofConst, ofCell, Nat.reduceEqDiff, reduceIte, g1, g4] <;> rfl) (by exact (fa30_6 _ _ _)) (by decide) ?_
  refine ro_load (by simp only [evalF, upd, arg0, argS, ofConst, ofCell, Nat.reduceEqDiff, reduceIte, g1, g4] <;> rfl) (by exact (load1 ag27 mb1.l (mc37 mb1.k))) (by decide) ?_
  refine ro_call (f := 24) («as» := [.ptr idw 1 0, D]) rfl (by simp [evalF, upd, arg0, argS, ofConst, ofCell, Nat.reduceEqDiff, reduceIte, g1, g4]) plains_24 rfl (data24 (d + 1) mb1.rd mb1.od (by have := mb1.sd; omega) hw1 (by have := mb1.k; have := mb1.sd; have := mb1.sl; simp; omega)) (by decide) ?_
  rintro v2 hp2 nb2 hT2
  obtain ⟨rfl, hw2, _, _, _⟩ := id hT2
  have hS2 := wrs_trans hS1 hT2
  have mb2 := mb_keep mb1 hT2
  refine ro_nil ?_
  try simp only
  exact ⟨by first | rfl | trivial, by simp [upd, g1], by simp [upd, g4], hS2⟩
theorem sw14_10 (d : Nat) {hp0 : Hp} {nb0 idw q i1 : Nat} {m : M} {L D : AV} {g : Gm} {bs : List Int} (hk : m.kind = 10) (mb0 : Mb hp0 nb0 i1 q m L D) (hw0 : Wr hp0 nb0 idw q bs 0) (hbs : bs.length ≤ 10) (g1 : g 1 = .ptr i1 1 0) (g4 : g 4 = .ptr idw 1 0) :
    EX Try.prog plains (callA Try.prog facts plains 10000 (d + 3)) (orS facts (pureOf (callA Try.prog facts plains 10000 (d + 3)))) 10000 145 (codeAt (bodyOf Try.f14) [true, true, true, false]) g hp0 nb0 fun x g' hp' nb' => x = .normal ∧ g' 1 = .ptr i1 1 0 ∧ g' 4 = .ptr idw 1 0 ∧
      WrS hp0 nb0 idw q ([5, 6].foldl (fieldW m) (bs, 0)).1 ([5, 6].foldl (fieldW m) (bs, 0)).2 (.tuple []) hp' nb' := by
  simp only [List.foldl_cons, List.foldl_nil, fieldW]
  have hS0 : WrS hp0 nb0 idw q bs 0 (.tuple []) hp0 nb0 := ⟨rfl, hw0, Nat.le_refl _, fun _ _ => rfl, fun h => h⟩
  show EX _ _ _ _ _ 145 _ _ _ _ _
  simp only [codeAt, bodyOf, Try.f14, if_true, if_false, Bool.false_eq_true]
  refine ex_seq (ex_region ?_)
  refine ro_fieldAddr (by simp only [evalF, upd, arg0, argS, ofConst, ofCell, Nat.reduceEqDiff, reduceIte, g1, g4] <;> rfl) (by exact (fa30_0 _ _ _)) (by decide) ?_
  refine ro_load (by simp only [evalF, upd, arg0, argS, ofConst, ofCell, Nat.reduceEqDiff, reduceIte, g1, g4] <;> rfl) (by exact (load1 ag3 mb0.l mc0)) (by decide) ?_
  refine ro_nil ?_
  try simp only
  refine ex_block ?_
  refine ex_test_f (by simp only [evalF, upd, arg0, argS, ofConst, ofCell, Nat.reduceEqDiff, reduceIte, g1, g4] <;> rfl) (by omega) (by decide) (by decide) ?_
  refine ex_test_f (by simp only [evalF, upd, arg0, argS, ofConst, ofCell, Nat.reduceEqDiff, reduceIte, g1, g4] <;> rfl) (by omega) (by decide) (by decide) ?_
  refine ex_test_f (by simp only [evalF, upd, arg0, argS, ofConst, ofCell, Nat.reduceEqDiff, reduceIte, g1, g4] <;> rfl) (by omega) (by decide) (by decide) ?_
  refine ex_seq (ex_test_f (by simp only [evalF, upd, arg0, argS, ofConst, ofCell, Nat.reduceEqDiff, reduceIte, g1, g4] <;> rfl) (by omega) (by decide) (by decide) ?_)
  refine ex_test_f (by simp only [evalF, upd, arg0, argS, ofConst, ofCell, Nat.reduceEqDiff, reduceIte, g1, g4] <;> rfl) (by omega) (by decide) (by decide) ?_
  refine ex_region ?_
  refine ro_bin (by simp only [evalF, upd, arg0, argS, ofConst, ofCell, Nat.reduceEqDiff, reduceIte, g1, g4] <;> rfl) (by simp only [evalF, upd, arg0, argS, ofConst, ofCell, Nat.reduceEqDiff, reduceIte, g1, g4] <;> rfl) (by exact (eql_f (by omega))) (by decide) ?_
  refine ro_assign (by simp only [evalF, upd, arg0, argS, ofConst, ofCell, Nat.reduceEqDiff, reduceIte, g1, g4] <;> rfl) (by decide) ?_
  refine ro_nil ?_
  try simp only
  refine ex_cond (t := false) (by simp only [evalF, upd, arg0, argS, ofConst, ofCell, Nat.reduceEqDiff, reduceIte, g1, g4] <;> rfl) (fun h => by simp at h) (fun h => ?_)
  refine ex_test_f (by simp only [evalF, upd, arg0, argS, ofConst, ofCell, Nat.reduceEqDiff, reduceIte, g1, g4] <;> rfl) (by omega) (by decide) (by decide) ?_
  refine ex_test_f (by simp only [evalF, upd, arg0, argS, ofConst, ofCell, Nat.reduceEqDiff, reduceIte, g1, g4] <;> rfl) (by omega) (by decide) (by decide) ?_
  refine ex_seq (ex_test_f (by simp only [evalF, upd, arg0, argS, ofConst, ofCell, Nat.reduceEqDiff, reduceIte, g1, g4] <;> rfl) (by omega) (by decide) (by decide) ?_)
  refine ex_region ?_
  refine ro_bin (by simp only [evalF, upd, arg0, argS, ofConst, ofCell, Nat.reduceEqDiff, reduceIte, g1, g4] <;> rfl) (by simp only [evalF, upd, arg0, argS, ofConst, ofCell, Nat.reduceEqDiff, reduceIte, g1, g4] <;> rfl) (by exact (eql_t (by omega))) (by decide) ?_
  refine ro_assign (by simp only [evalF, upd, arg0, argS, ofConst, ofCell, Nat.reduceEqDiff, reduceIte, g1, g4] <;> rfl) (by decide) ?_
  refine ro_nil ?_
  try simp only
  refine ex_cond (t := true) (by simp only [evalF, upd, arg0, argS, ofConst, ofCell, Nat.reduceEqDiff, reduceIte, g1, g4] <;> rfl) (fun h => ?_) (fun h => by simp at h)
  refine ex_seq (ex_draw (by kernel_rfl) ?_)
  obtain ⟨vb1, hl1, hg1, ho1⟩ := hw0.ex
  refine rdw_move rfl (by simp only [evalF, upd, arg0, argS, ofConst, ofCell, Nat.reduceEqDiff, reduceIte, g1, g4] <;> rfl) (by decide) ?_
  refine rdw_move rfl (by simp only [evalF, upd, arg0, argS, ofConst, ofCell, Nat.reduceEqDiff, reduceIte, g1, g4] <;> rfl) (by decide) ?_
  refine rdw_nilCheck rfl (by simp only [evalF, upd, arg0, argS, ofConst, ofCell, Nat.reduceEqDiff, reduceIte, g1, g4] <;> rfl) (by decide) ?_
  refine rdw_fieldAddr rfl (by simp only [evalF, upd, arg0, argS, ofConst, ofCell, Nat.reduceEqDiff, reduceIte, g1, g4] <;> rfl) (by exact (fa50_0 _ _ _)) (by decide) ?_
  refine rdw_load rfl (by simp only [evalF, upd, arg0, argS, ofConst, ofCell, Nat.reduceEqDiff, reduceIte, g1, g4] <;> rfl) (by exact (load1 ag27 hl1 rfl)) (by decide) ?_
  refine rdw_fieldAddr rfl (by simp only [evalF, upd, arg0, argS, ofConst, ofCell, Nat.reduceEqDiff, reduceIte, g1, g4] <;> rfl) (by exact (fa30_5 _ _ _)) (by decide) ?_
  refine rdw_slice rfl (by simp only [evalF, upd, arg0, argS, ofConst, ofCell, Nat.reduceEqDiff, reduceIte, g1, g4] <;> rfl) rfl rfl rfl (slice26 _ _ _) (by decide) ?_
  refine rd_append (r := u8s m.key) st27 Try.underlying27 (by simp only [evalF, upd, arg0, argS, ofConst, ofCell, Nat.reduceEqDiff, reduceIte, g1, g4] <;> rfl) (by simp only [evalF, upd, arg0, argS, ofConst, ofCell, Nat.reduceEqDiff, reduceIte, g1, g4] <;> rfl) hg1 (row_src (key_row mb0.k mb0.l (mb_lt mb0 hw0))) (by have := mb0.k; simp [u8s]; omega) (by decide) ?_
  intro v1 hp1' nb1 c1 hg1' ha1 hc1 ho1'
  obtain ⟨hst1, hT1⟩ := wr_store (bs := bs ++ m.key) hw0.lt hw0.le hl1 ho1 ha1 (by simpa [u8s] using hg1') ho1'
  refine rdw_nilCheck rfl (by simp only [evalF, upd, arg0, argS, ofConst, ofCell, Nat.reduceEqDiff, reduceIte, g1, g4] <;> rfl) (by decide) ?_
  refine rdw_fieldAddr rfl (by simp only [evalF, upd, arg0, argS, ofConst, ofCell, Nat.reduceEqDiff, reduceIte, g1, g4] <;> rfl) (by exact (fa50_0 _ _ _)) (by decide) ?_
  refine rdw_store rfl (by simp only [evalF, upd, arg0, argS, ofConst, ofCell, Nat.reduceEqDiff, reduceIte, g1, g4] <;> rfl) (by simp only [evalF, upd, arg0, argS, ofConst, ofCell, Nat.reduceEqDiff, reduceIte, g1, g4] <;> rfl) hst1 (by rw [ha1.2.1 idw hw0.lt (fun h => (ho1 idw h).2 rfl)]; exact look_live hl1) ?_
  refine rd_nil ⟨dyn_of rfl (fun p hp' => ?_), ?_⟩
  · have hp'' : p ∈ needs (regOf Try.f14 26) := hp'
    rw [show needs (regOf Try.f14 26) = [] from by kernel_rfl] at hp''
    simp at hp''
  try simp only
  generalize setHp hp1' idw _ = hp1 at hT1 ⊢
  obtain ⟨_, hw1, _, _, _⟩ := id hT1
  have hS1 := wrs_trans hS0 hT1
  have mb1 := mb_keep mb0 hT1
  refine ex_region ?_
  refine ro_move (by simp only [evalF, upd, arg0, argS, ofConst, ofCell, Nat.reduceEqDiff, reduceIte, g1, g4] <;> rfl) (by decide) ?_
  refine ro_fieldAddr (by simp only [evalF, upd, arg0, argS, ofConst, ofCell, Nat.reduceEqDiff, reduceIte, g1, g4] <;> rfl) (by exact (fa30_6 _ _ _)) (by decide) ?_
  refine ro_load (by simp only [evalF, upd, arg0, argS, ofConst, ofCell, Nat.reduceEqDiff, reduceIte, g1, g4] <;> rfl) (by exact (load1 ag27 mb1.l (mc37 mb1.k))) (by decide) ?_
  refine ro_call (f := 24) («as» := [.ptr idw 1 0, D]) rfl (by simp [evalF, upd, arg0, argS, ofConst, ofCell, Nat.reduceEqDiff, reduceIte, g1, g4]) plains_24 rfl (data24 (d + 1) mb1.rd mb1.od (by have := mb1.sd; omega) hw1 (by have := mb1.k; have := mb1.sd; have := mb1.sl; simp; omega)) (by decide) ?_
  rintro v2 hp2 nb2 hT2
  obtain ⟨rfl, hw2, _, _, _⟩ := id hT2
  have hS2 := wrs_trans hS1 hT2
  have mb2 := mb_keep mb1 hT2
  refine ro_nil ?_
  try simp only
  exact ⟨by first | rfl | trivial, by simp [upd, g1], by simp [upd, g4], hS2⟩
theorem sw14_11 (d : Nat) {hp0 : Hp} {nb0 idw q i1 : Nat} {m : M} {L D : AV} {g : Gm} {bs : List Int} (hk : m.kind = 11) (mb0 : Mb hp0 nb0 i1 q m L D) (hw0 : Wr hp0 nb0 idw q bs 0) (hbs : bs.length ≤ 10) (g1 : g 1 = .ptr i1 1 0) (g4 : g 4 = .ptr idw 1 0) :
    EX Try.prog plains (callA Try.prog facts plains 10000 (d + 3)) (orS facts (pureOf (callA Try.prog facts plains 10000 (d + 3)))) 10000 145 (codeAt (bodyOf Try.f14) [true, true, true, false]) g hp0 nb0 fun x g' hp' nb' => x = .normal ∧ g' 1 = .ptr i1 1 0 ∧ g' 4 = .ptr idw 1 0 ∧
      WrS hp0 nb0 idw q ([5].foldl (fieldW m) (bs, 0)).1 ([5].foldl (fieldW m) (bs, 0)).2 (.tuple []) hp' nb' := by
  simp only [List.foldl_cons, List.foldl_nil, fieldW]
  have hS0 : WrS hp0 nb0 idw q bs 0 (.tuple []) hp0 nb0 := ⟨rfl, hw0, Nat.le_refl _, fun _ _ => rfl, fun h => h⟩
  show EX _ _ _ _ _ 145 _ _ _ _ _
  simp only [codeAt, bodyOf, Try.f14, if_true, if_false, Bool.false_eq_true]
  refine ex_seq (ex_region ?_)
  refine ro_fieldAddr (by simp only [evalF, upd, arg0, argS, ofConst, ofCell, Nat.reduceEqDiff, reduceIte, g1, g4] <;> rfl) (by exact (fa30_0 _ _ _)) (by decide) ?_
  refine ro_load (by simp only [evalF, upd, arg0, argS, ofConst, ofCell, Nat.reduceEqDiff, reduceIte, g1, g4] <;> rfl) (by exact (load1 ag3 mb0.l mc0)) (by decide) ?_
  refine ro_nil ?_
  try simp only
  refine ex_block ?_
  refine ex_test_f (by simp only [evalF, upd, arg0, argS, ofConst, ofCell, Nat.reduceEqDiff, reduceIte, g1, g4] <;> rfl) (by omega) (by decide) (by decide) ?_
  refine ex_test_f (by simp only [evalF, upd, arg0, argS, ofConst, ofCell, Nat.reduceEqDiff, reduceIte, g1, g4] <;> rfl) (by omega) (by decide) (by decide) ?_
  refine ex_test_f (by simp only [evalF, upd, arg0, argS, ofConst, ofCell, Nat.reduceEqDiff, reduceIte, g1, g4] <;> rfl) (by omega) (by decide) (by decide) ?_
  refine ex_seq (ex_test_f (by simp only [evalF, upd, arg0, argS, ofConst, ofCell, Nat.reduceEqDiff, reduceIte, g1, g4] <;> rfl) (by omega) (by decide) (by decide) ?_)
  refine ex_test_f (by simp only [evalF, upd, arg0, argS, ofConst, ofCell, Nat.reduceEqDiff, reduceIte, g1, g4] <;> rfl) (by omega) (by decide) (by decide) ?_
  refine ex_region ?_
  refine ro_bin (by simp only [evalF, upd, arg0, argS, ofConst, ofCell, Nat.reduceEqDiff, reduceIte, g1, g4] <;> rfl) (by simp only [evalF, upd, arg0, argS, ofConst, ofCell, Nat.reduceEqDiff, reduceIte, g1, g4] <;> rfl) (by exact (eql_t (by omega))) (by decide) ?_
  refine ro_assign (by simp only [evalF, upd, arg0, argS, ofConst, ofCell, Nat.reduceEqDiff, reduceIte, g1, g4] <;> rfl) (by decide) ?_
  refine ro_nil ?_
  try simp only
  refine ex_cond (t := true) (by simp only [evalF, upd, arg0, argS, ofConst, ofCell, Nat.reduceEqDiff, reduceIte, g1, g4] <;> rfl) (fun h => ?_) (fun h => by simp at h)
  refine ex_draw (by kernel_rfl) ?_
  obtain ⟨vb1, hl1, hg1, ho1⟩ := hw0.ex
  refine rdw_move rfl (by simp only [evalF, upd, arg0, argS, ofConst, ofCell, Nat.reduceEqDiff, reduceIte, g1, g4] <;> rfl) (by decide) ?_
  refine rdw_move rfl (by simp only [evalF, upd, arg0, argS, ofConst, ofCell, Nat.reduceEqDiff, reduceIte, g1, g4] <;> rfl) (by decide) ?_
  refine rdw_nilCheck rfl (by simp only [evalF, upd, arg0, argS, ofConst, ofCell, Nat.reduceEqDiff, reduceIte, g1, g4] <;> rfl) (by decide) ?_
  refine rdw_fieldAddr rfl (by simp only [evalF, upd, arg0, argS, ofConst, ofCell, Nat.reduceEqDiff, reduceIte, g1, g4] <;> rfl) (by exact (fa50_0 _ _ _)) (by decide) ?_
  refine rdw_load rfl (by simp only [evalF, upd, arg0, argS, ofConst, ofCell, Nat.reduceEqDiff, reduceIte, g1, g4] <;> rfl) (by exact (load1 ag27 hl1 rfl)) (by decide) ?_
  refine rdw_fieldAddr rfl (by simp only [evalF, upd, arg0, argS, ofConst, ofCell, Nat.reduceEqDiff, reduceIte, g1, g4] <;> rfl) (by exact (fa30_5 _ _ _)) (by decide) ?_
  refine rdw_slice rfl (by simp only [evalF, upd, arg0, argS, ofConst, ofCell, Nat.reduceEqDiff, reduceIte, g1, g4] <;> rfl) rfl rfl rfl (slice26 _ _ _) (by decide) ?_
  refine rd_append (r := u8s m.key) st27 Try.underlying27 (by simp only [evalF, upd, arg0, argS, ofConst, ofCell, Nat.reduceEqDiff, reduceIte, g1, g4] <;> rfl) (by simp only [evalF, upd, arg0, argS, ofConst, ofCell, Nat.reduceEqDiff, reduceIte, g1, g4] <;> rfl) hg1 (row_src (key_row mb0.k mb0.l (mb_lt mb0 hw0))) (by have := mb0.k; simp [u8s]; omega) (by decide) ?_
  intro v1 hp1' nb1 c1 hg1' ha1 hc1 ho1'
  obtain ⟨hst1, hT1⟩ := wr_store (bs := bs ++ m.key) hw0.lt hw0.le hl1 ho1 ha1 (by simpa [u8s] using hg1') ho1'
  refine rdw_nilCheck rfl (by simp only [evalF, upd, arg0, argS, ofConst, ofCell, Nat.reduceEqDiff, reduceIte, g1, g4] <;> rfl) (by decide) ?_
  refine rdw_fieldAddr rfl (by simp only [evalF, upd, arg0, argS, ofConst, ofCell, Nat.reduceEqDiff, reduceIte, g1, g4] <;> rfl) (by exact (fa50_0 _ _ _)) (by decide) ?_
  refine rdw_store rfl (by simp only [evalF, upd, arg0, argS, ofConst, ofCell, Nat.reduceEqDiff, reduceIte, g1, g4] <;> rfl) (by simp only [evalF, upd, arg0, argS, ofConst, ofCell, Nat.reduceEqDiff, reduceIte, g1, g4] <;> rfl) hst1 (by rw [ha1.2.1 idw hw0.lt (fun h => (ho1 idw h).2 rfl)]; exact look_live hl1) ?_
  refine rd_nil ⟨dyn_of rfl (fun p hp' => ?_), ?_⟩
  · have hp'' : p ∈ needs (regOf Try.f14 15) := hp'
    rw [show needs (regOf Try.f14 15) = [] from by kernel_rfl] at hp''
    simp at hp''
  try simp only
  generalize setHp hp1' idw _ = hp1 at hT1 ⊢
  obtain ⟨_, hw1, _, _, _⟩ := id hT1
  have hS1 := wrs_trans hS0 hT1
  have mb1 := mb_keep mb0 hT1
  exact ⟨by first | rfl | trivial, by simp [upd, g1], by simp [upd, g4], hS1⟩
theorem sw14_12 (d : Nat) {hp0 : Hp} {nb0 idw q i1 : Nat} {m : M} {L D : AV} {g : Gm} {bs : List Int} (hk : m.kind = 12) (mb0 : Mb hp0 nb0 i1 q m L D) (hw0 : Wr hp0 nb0 idw q bs 0) (hbs : bs.length ≤ 10) (g1 : g 1 = .ptr i1 1 0) (g4 : g 4 = .ptr idw 1 0) :
    EX Try.prog plains (callA Try.prog facts plains 10000 (d + 3)) (orS facts (pureOf (callA Try.prog facts plains 10000 (d + 3)))) 10000 145 (codeAt (bodyOf Try.f14) [true, true, true, false]) g hp0 nb0 fun x g' hp' nb' => x = .normal ∧ g' 1 = .ptr i1 1 0 ∧ g' 4 = .ptr idw 1 0 ∧
      WrS hp0 nb0 idw q ([6].foldl (fieldW m) (bs, 0)).1 ([6].foldl (fieldW m) (bs, 0)).2 (.tuple []) hp' nb' := by
  simp only [List.foldl_cons, List.foldl_nil, fieldW]
  have hS0 : WrS hp0 nb0 idw q bs 0 (.tuple []) hp0 nb0 := ⟨rfl, hw0, Nat.le_refl _, fun _ _ => rfl, fun h => h⟩
  show EX _ _ _ _ _ 145 _ _ _ _ _
  simp only [codeAt, bodyOf, Try.f14, if_true, if_false, Bool.false_eq_true]
  refine ex_seq (ex_region ?_)
  refine ro_fieldAddr (by simp only [evalF, upd, arg0, argS, ofConst, ofCell, Nat.reduceEqDiff, reduceIte, g1, g4] <;> rfl) (by exact (fa30_0 _ _ _)) (by decide) ?_
  refine ro_load (by simp only [evalF, upd, arg0, argS, ofConst, ofCell, Nat.reduceEqDiff, reduceIte, g1, g4] <;> rfl) (by exact (load1 ag3 mb0.l mc0)) (by decide) ?_
  refine ro_nil ?_
  try simp only
  refine ex_block ?_
  refine ex_test_f (by simp only [evalF, upd, arg0, argS, ofConst, ofCell, Nat.reduceEqDiff, reduceIte, g1, g4] <;> rfl) (by omega) (by decide) (by decide) ?_
  refine ex_test_f (by simp only [evalF, upd, arg0, argS, ofConst, ofCell, Nat.reduceEqDiff, reduceIte, g1, g4] <;> rfl) (by omega) (by decide) (by decide) ?_
  refine ex_test_f (by simp only [evalF, upd, arg0, argS, ofConst, ofCell, Nat.reduceEqDiff, reduceIte, g1, g4] <;> rfl) (by omega) (by decide) (by decide) ?_
  refine ex_seq (ex_test_f (by simp only [evalF, upd, arg0, argS, ofConst, ofCell, Nat.reduceEqDiff, reduceIte, g1, g4] <;> rfl) (by omega) (by decide) (by decide) ?_)
  refine ex_test_f (by simp only [evalF, upd, arg0, argS, ofConst, ofCell, Nat.reduceEqDiff, reduceIte, g1, g4] <;> rfl) (by omega) (by decide) (by decide) ?_
  refine ex_region ?_
  refine ro_bin (by simp only [evalF, upd, arg0, argS, ofConst, ofCell, Nat.reduceEqDiff, reduceIte, g1, g4] <;> rfl) (by simp only [evalF, upd, arg0, argS, ofConst, ofCell, Nat.reduceEqDiff, reduceIte, g1, g4] <;> rfl) (by exact (eql_f (by omega))) (by decide) ?_
  refine ro_assign (by simp only [evalF, upd, arg0, argS, ofConst, ofCell, Nat.reduceEqDiff, reduceIte, g1, g4] <;> rfl) (by decide) ?_
  refine ro_nil ?_
  try simp only
  refine ex_cond (t := false) (by simp only [evalF, upd, arg0, argS, ofConst, ofCell, Nat.reduceEqDiff, reduceIte, g1, g4] <;> rfl) (fun h => by simp at h) (fun h => ?_)
  refine ex_test_f (by simp only [evalF, upd, arg0, argS, ofConst, ofCell, Nat.reduceEqDiff, reduceIte, g1, g4] <;> rfl) (by omega) (by decide) (by decide) ?_
  refine ex_test_f (by simp only [evalF, upd, arg0, argS, ofConst, ofCell, Nat.reduceEqDiff, reduceIte, g1, g4] <;> rfl) (by omega) (by decide) (by decide) ?_
  refine ex_seq (ex_test_f (by simp only [evalF, upd, arg0, argS, ofConst, ofCell, Nat.reduceEqDiff, reduceIte, g1, g4] <;> rfl) (by omega) (by decide) (by decide) ?_)
  refine ex_region ?_
  refine ro_bin (by simp only [evalF, upd, arg0, argS, ofConst, ofCell, Nat.reduceEqDiff, reduceIte, g1, g4] <;> rfl) (by simp only [evalF, upd, arg0, argS, ofConst, ofCell, Nat.reduceEqDiff, reduceIte, g1, g4] <;> rfl) (by exact (eql_f (by omega))) (by decide) ?_
  refine ro_assign (by simp only [evalF, upd, arg0, argS, ofConst, ofCell, Nat.reduceEqDiff, reduceIte, g1, g4] <;> rfl) (by decide) ?_
  refine ro_nil ?_
  try simp only
  refine ex_cond (t := false) (by simp only [evalF, upd, arg0, argS, ofConst, ofCell, Nat.reduceEqDiff, reduceIte, g1, g4] <;> rfl) (fun h => by simp at h) (fun h => ?_)
  refine ex_test_t (by simp only [evalF, upd, arg0, argS, ofConst, ofCell, Nat.reduceEqDiff, reduceIte, g1, g4] <;> rfl) (by omega) (by decide) (by decide) ?_
  refine ex_region ?_
  refine ro_move (by simp only [evalF, upd, arg0, argS, ofConst, ofCell, Nat.reduceEqDiff, reduceIte, g1, g4] <;> rfl) (by decide) ?_
  refine ro_fieldAddr (by simp only [evalF, upd, arg0, argS, ofConst, ofCell, Nat.reduceEqDiff, reduceIte, g1, g4] <;> rfl) (by exact (fa30_6 _ _ _)) (by decide) ?_
  refine ro_load (by simp only [evalF, upd, arg0, argS, ofConst, ofCell, Nat.reduceEqDiff, reduceIte, g1, g4] <;> rfl) (by exact (load1 ag27 mb0.l (mc37 mb0.k))) (by decide) ?_
  refine ro_call (f := 24) («as» := [.ptr idw 1 0, D]) rfl (by simp [evalF, upd, arg0, argS, ofConst, ofCell, Nat.reduceEqDiff, reduceIte, g1, g4]) plains_24 rfl (data24 (d + 1) mb0.rd mb0.od (by have := mb0.sd; omega) hw0 (by have := mb0.k; have := mb0.sd; have := mb0.sl; simp; omega)) (by decide) ?_
  rintro v1 hp1 nb1 hT1
  obtain ⟨rfl, hw1, _, _, _⟩ := id hT1
  have hS1 := wrs_trans hS0 hT1
  have mb1 := mb_keep mb0 hT1
  refine ro_nil ?_
  try simp only
  exact ⟨by first | rfl | trivial, by simp [upd, g1], by simp [upd, g4], hS1⟩
theorem mid14_y (d : Nat) {hp0 : Hp} {nb0 idw q i1 : Nat} {m : M} {L D : AV} {g : Gm} {bs : List Int} {e : Int} (hk : m.kind = 9 ∨ m.kind = 12) (mb0 : Mb hp0 nb0 i1 q m L D) (hw0 : Wr hp0 nb0 idw q bs e) (hbs : bs.length ≤ 50000) (g1 : g 1 = .ptr i1 1 0) (g4 : g 4 = .ptr idw 1 0) :
    EX Try.prog plains (callA Try.prog facts plains 10000 (d + 3)) (orS facts (pureOf (callA Try.prog facts plains 10000 (d + 3)))) 10000 145 (codeAt (bodyOf Try.f14) [true, true, true, true, false]) g hp0 nb0 fun x g' hp' nb' => x = .normal ∧ g' 1 = .ptr i1 1 0 ∧ g' 4 = .ptr idw 1 0 ∧
      WrS hp0 nb0 idw q ([1, 7].foldl (fieldW m) (bs, e)).1 ([1, 7].foldl (fieldW m) (bs, e)).2 (.tuple []) hp' nb' := by
  simp only [List.foldl_cons, List.foldl_nil, fieldW]
  have hS0 : WrS hp0 nb0 idw q bs e (.tuple []) hp0 nb0 := ⟨rfl, hw0, Nat.le_refl _, fun _ _ => rfl, fun h => h⟩
  show EX _ _ _ _ _ 145 _ _ _ _ _
  simp only [codeAt, bodyOf, Try.f14, if_true, if_false, Bool.false_eq_true]
  refine ex_seq (ex_region ?_)
  refine ro_fieldAddr (by simp only [evalF, upd, arg0, argS, ofConst, ofCell, Nat.reduceEqDiff, reduceIte, g1, g4] <;> rfl) (by exact (fa30_0 _ _ _)) (by decide) ?_
  refine ro_load (by simp only [evalF, upd, arg0, argS, ofConst, ofCell, Nat.reduceEqDiff, reduceIte, g1, g4] <;> rfl) (by exact (load1 ag3 mb0.l mc0)) (by decide) ?_
  refine ro_bin (by simp only [evalF, upd, arg0, argS, ofConst, ofCell, Nat.reduceEqDiff, reduceIte, g1, g4] <;> rfl) (by simp only [evalF, upd, arg0, argS, ofConst, ofCell, Nat.reduceEqDiff, reduceIte, g1, g4] <;> rfl) (by exact (eql_v)) (by decide) ?_
  refine ro_move (by simp only [evalF, upd, arg0, argS, ofConst, ofCell, Nat.reduceEqDiff, reduceIte, g1, g4] <;> rfl) (by decide) ?_
  refine ro_gsel (b := m.kind == 9) (want := false) (v := .ptr i1 1 0) rfl (by simp only [evalF, upd, arg0, argS, ofConst, ofCell, Nat.reduceEqDiff, reduceIte, g1, g4] <;> rfl) rfl (fun hb => by simp only [primA, evalF, upd, arg0, argS, ofConst, ofCell, Nat.reduceEqDiff, reduceIte, g1, g4, selV_hit hb, fa30_0, Option.map_some] <;> rfl) (by decide) ?_
  refine ro_gsel (b := m.kind == 9) (want := false) (v := .pv (.int .i64 m.kind)) rfl (by simp only [evalF, upd, arg0, argS, ofConst, ofCell, Nat.reduceEqDiff, reduceIte, g1, g4] <;> rfl) rfl (fun hb => by simp only [primA, evalF, upd, arg0, argS, ofConst, ofCell, Nat.reduceEqDiff, reduceIte, g1, g4, selV_hit hb, load1 ag3 mb0.l mc0, Option.map_some] <;> rfl) (by decide) ?_
  refine ro_gsel (b := m.kind == 9) (want := false) (v := .pv (.bool (m.kind == 12))) rfl (by simp only [evalF, upd, arg0, argS, ofConst, ofCell, Nat.reduceEqDiff, reduceIte, g1, g4] <;> rfl) rfl (fun hb => by simp only [primA, evalF, upd, arg0, argS, ofConst, ofCell, Nat.reduceEqDiff, reduceIte, g1, g4, selV_hit hb, eql_v, Option.map_some] <;> rfl) (by decide) ?_
  refine ro_por (b := m.kind == 9) (z := m.kind == 12) (by simp only [evalF, upd, arg0, argS, ofConst, ofCell, Nat.reduceEqDiff, reduceIte, g1, g4] <;> rfl) (by simp only [evalF, upd, arg0, argS, ofConst, ofCell, Nat.reduceEqDiff, reduceIte] <;> rfl) (by decide) ?_
  refine ro_nil ?_
  try simp only
  refine ex_cond (t := m.kind == 9 || m.kind == 12) (by simp only [evalF, upd, arg0, argS, ofConst, ofCell, Nat.reduceEqDiff, reduceIte, g1, g4] <;> rfl) (fun h => ?_) (fun h => absurd h (by rcases hk with h9 | h9 <;> simp [h9]))
  refine ex_seq (ex_region ?_)
  refine ro_move (by simp only [evalF, upd, arg0, argS, ofConst, ofCell, Nat.reduceEqDiff, reduceIte, g1, g4] <;> rfl) (by decide) ?_
  refine ro_fieldAddr (by simp only [evalF, upd, arg0, argS, ofConst, ofCell, Nat.reduceEqDiff, reduceIte, g1, g4] <;> rfl) (by exact (fa30_1 _ _ _)) (by decide) ?_
  refine ro_load (by simp only [evalF, upd, arg0, argS, ofConst, ofCell, Nat.reduceEqDiff, reduceIte, g1, g4] <;> rfl) (by exact (load1 ag3 mb0.l mc1)) (by decide) ?_
  refine ro_call (f := 21) («as» := [.ptr idw 1 0, .pv (.int .i64 m.node), .pv (.int .i64 0)]) rfl (by simp [evalF, upd, arg0, argS, ofConst, ofCell, Nat.reduceEqDiff, reduceIte, g1, g4]) plains_21 rfl (node21 (d + 1) m.node 0 hw0 (by have := mb0.k; have := mb0.sd; have := mb0.sl; simp; omega)) (by decide) ?_
  rintro v1 hp1 nb1 hT1
  obtain ⟨rfl, hw1, _, _, _⟩ := id hT1
  have hS1 := wrs_trans hS0 hT1
  have mb1 := mb_keep mb0 hT1
  refine ro_nil ?_
  try simp only
  refine ex_region ?_
  refine ro_move (by simp only [evalF, upd, arg0, argS, ofConst, ofCell, Nat.reduceEqDiff, reduceIte, g1, g4] <;> rfl) (by decide) ?_
  refine ro_fieldAddr (by simp only [evalF, upd, arg0, argS, ofConst, ofCell, Nat.reduceEqDiff, reduceIte, g1, g4] <;> rfl) (by exact (fa30_7 _ _ _)) (by decide) ?_
  refine ro_load (by simp only [evalF, upd, arg0, argS, ofConst, ofCell, Nat.reduceEqDiff, reduceIte, g1, g4] <;> rfl) (by exact (load1 ag3 mb1.l (mc38 mb1.k))) (by decide) ?_
  refine ro_call (f := 25) («as» := [.ptr idw 1 0, .pv (.int .i64 m.lease)]) rfl (by simp [evalF, upd, arg0, argS, ofConst, ofCell, Nat.reduceEqDiff, reduceIte, g1, g4]) plains_25 rfl (time25 (d + 1) m.lease hw1 (by have := mb1.k; have := mb1.sd; have := mb1.sl; simp; omega)) (by decide) ?_
  rintro v2 hp2 nb2 hT2
  obtain ⟨rfl, hw2, _, _, _⟩ := id hT2
  have hS2 := wrs_trans hS1 hT2
  have mb2 := mb_keep mb1 hT2
  refine ro_nil ?_
  try simp only
  exact ⟨by first | rfl | trivial, by simp [upd, g1], by simp [upd, g4], hS2⟩
theorem mid14_n (d : Nat) {hp0 : Hp} {nb0 idw q i1 : Nat} {m : M} {L D : AV} {g : Gm} {bs : List Int} {e : Int} (hk : ¬ (m.kind = 9 ∨ m.kind = 12)) (mb0 : Mb hp0 nb0 i1 q m L D) (hw0 : Wr hp0 nb0 idw q bs e) (hbs : bs.length ≤ 50000) (g1 : g 1 = .ptr i1 1 0) (g4 : g 4 = .ptr idw 1 0) :
    EX Try.prog plains (callA Try.prog facts plains 10000 (d + 3)) (orS facts (pureOf (callA Try.prog facts plains 10000 (d + 3)))) 10000 145 (codeAt (bodyOf Try.f14) [true, true, true, true, false]) g hp0 nb0 fun x g' hp' nb' => x = .normal ∧ g' 1 = .ptr i1 1 0 ∧ g' 4 = .ptr idw 1 0 ∧
      WrS hp0 nb0 idw q ([].foldl (fieldW m) (bs, e)).1 ([].foldl (fieldW m) (bs, e)).2 (.tuple []) hp' nb' := by
  simp only [List.foldl_cons, List.foldl_nil, fieldW]
  have hS0 : WrS hp0 nb0 idw q bs e (.tuple []) hp0 nb0 := ⟨rfl, hw0, Nat.le_refl _, fun _ _ => rfl, fun h => h⟩
  show EX _ _ _ _ _ 145 _ _ _ _ _
  simp only [codeAt, bodyOf, Try.f14, if_true, if_false, Bool.false_eq_true]
  refine ex_seq (ex_region ?_)
  refine ro_fieldAddr (by simp only [evalF, upd, arg0, argS, ofConst, ofCell, Nat.reduceEqDiff, reduceIte, g1, g4] <;> rfl) (by exact (fa30_0 _ _ _)) (by decide) ?_
  refine ro_load (by simp only [evalF, upd, arg0, argS, ofConst, ofCell, Nat.reduceEqDiff, reduceIte, g1, g4] <;> rfl) (by exact (load1 ag3 mb0.l mc0)) (by decide) ?_
  refine ro_bin (by simp only [evalF, upd, arg0, argS, ofConst, ofCell, Nat.reduceEqDiff, reduceIte, g1, g4] <;> rfl) (by simp only [evalF, upd, arg0, argS, ofConst, ofCell, Nat.reduceEqDiff, reduceIte, g1, g4] <;> rfl) (by exact (eql_v)) (by decide) ?_
  refine ro_move (by simp only [evalF, upd, arg0, argS, ofConst, ofCell, Nat.reduceEqDiff, reduceIte, g1, g4] <;> rfl) (by decide) ?_
  refine ro_gsel (b := m.kind == 9) (want := false) (v := .ptr i1 1 0) rfl (by simp only [evalF, upd, arg0, argS, ofConst, ofCell, Nat.reduceEqDiff, reduceIte, g1, g4] <;> rfl) rfl (fun hb => by simp only [primA, evalF, upd, arg0, argS, ofConst, ofCell, Nat.reduceEqDiff, reduceIte, g1, g4, selV_hit hb, fa30_0, Option.map_some] <;> rfl) (by decide) ?_
  refine ro_gsel (b := m.kind == 9) (want := false) (v := .pv (.int .i64 m.kind)) rfl (by simp only [evalF, upd, arg0, argS, ofConst, ofCell, Nat.reduceEqDiff, reduceIte, g1, g4] <;> rfl) rfl (fun hb => by simp only [primA, evalF, upd, arg0, argS, ofConst, ofCell, Nat.reduceEqDiff, reduceIte, g1, g4, selV_hit hb, load1 ag3 mb0.l mc0, Option.map_some] <;> rfl) (by decide) ?_
  refine ro_gsel (b := m.kind == 9) (want := false) (v := .pv (.bool (m.kind == 12))) rfl (by simp only [evalF, upd, arg0, argS, ofConst, ofCell, Nat.reduceEqDiff, reduceIte, g1, g4] <;> rfl) rfl (fun hb => by simp only [primA, evalF, upd, arg0, argS, ofConst, ofCell, Nat.reduceEqDiff, reduceIte, g1, g4, selV_hit hb, eql_v, Option.map_some] <;> rfl) (by decide) ?_
  refine ro_por (b := m.kind == 9) (z := m.kind == 12) (by simp only [evalF, upd, arg0, argS, ofConst, ofCell, Nat.reduceEqDiff, reduceIte, g1, g4] <;> rfl) (by simp only [evalF, upd, arg0, argS, ofConst, ofCell, Nat.reduceEqDiff, reduceIte] <;> rfl) (by decide) ?_
  refine ro_nil ?_
  try simp only
  refine ex_cond (t := m.kind == 9 || m.kind == 12) (by simp only [evalF, upd, arg0, argS, ofConst, ofCell, Nat.reduceEqDiff, reduceIte, g1, g4] <;> rfl) (fun h => absurd h (by simpa using hk)) (fun h => ?_)
  refine ex_skip ?_
  try simp only
  exact ⟨by first | rfl | trivial, by simp [upd, g1], by simp [upd, g4], hS0⟩
theorem end14 {F : CallF} {G : CallG} {hp : Hp} {nb idw q : Nat} {g : Gm} {bs : List Int} {e : Int} (hw : Wr hp nb idw q bs e) (g4 : g 4 = .ptr idw 1 0) :
    EX Try.prog plains F G 10000 145 (codeAt (bodyOf Try.f14) [true, true, true, true, true]) g hp nb fun x g' hp' nb' => x = .ret ∧ hp' = hp ∧ nb' = nb ∧ ((e = 0 ∧ ∃ v, g' 2 = v ∧ g' 3 = .pv (.int .i64 0) ∧ Grow hp nb v (u8s bs) ∧ ∀ id, ownOf v = some id → q ≤ id) ∨ (e ≠ 0 ∧ g' 2 = .pv .nilSlice ∧ g' 3 = .pv (.int .i64 e))) := by
  obtain ⟨v, hl, hg, ho⟩ := hw.ex
  show EX _ _ _ _ _ 145 _ _ _ _ _
  simp only [codeAt, bodyOf, Try.f14, if_true, if_false, Bool.false_eq_true]
  refine ex_seq (ex_seq (ex_region ?_))
  refine ro_move (by simp only [evalF, upd, arg0, argS, ofConst, ofCell, Nat.reduceEqDiff, reduceIte, g4] <;> rfl) (by decide) ?_
  refine ro_nilCheck (by simp only [evalF, upd, arg0, argS, ofConst, ofCell, Nat.reduceEqDiff, reduceIte, g4] <;> rfl) (by decide) ?_
  refine ro_fieldAddr (by simp only [evalF, upd, arg0, argS, ofConst, ofCell, Nat.reduceEqDiff, reduceIte, g4] <;> rfl) (by exact (fa50_1 _ _ _)) (by decide) ?_
  refine ro_load (by simp only [evalF, upd, arg0, argS, ofConst, ofCell, Nat.reduceEqDiff, reduceIte, g4] <;> rfl) (by exact (load1 ag3 hl rfl)) (by decide) ?_
  refine ro_bin (by simp only [evalF, upd, arg0, argS, ofConst, ofCell, Nat.reduceEqDiff, reduceIte, g4] <;> rfl) (by simp only [evalF, upd, arg0, argS, ofConst, ofCell, Nat.reduceEqDiff, reduceIte, g4] <;> rfl) (by exact (neq_v)) (by decide) ?_
  refine ro_nil ?_
  try simp only
  refine ex_cond (t := (e != 0)) (by simp only [evalF, upd, arg0, argS, ofConst, ofCell, Nat.reduceEqDiff, reduceIte, g4] <;> rfl) (fun h => ?_) (fun h => ?_)
  · refine ex_seq (ex_draw (by kernel_rfl) ?_)
    refine rdw_move rfl (by simp only [evalF, upd, arg0, argS, ofConst, ofCell, Nat.reduceEqDiff, reduceIte, g4] <;> rfl) (by decide) ?_
    refine rdw_nilCheck rfl (by simp only [evalF, upd, arg0, argS, ofConst, ofCell, Nat.reduceEqDiff, reduceIte, g4] <;> rfl) (by decide) ?_
    refine rdw_fieldAddr rfl (by simp only [evalF, upd, arg0, argS, ofConst, ofCell, Nat.reduceEqDiff, reduceIte, g4] <;> rfl) (by exact (fa50_1 _ _ _)) (by decide) ?_
    refine rdw_load rfl (by simp only [evalF, upd, arg0, argS, ofConst, ofCell, Nat.reduceEqDiff, reduceIte, g4] <;> rfl) (by exact (load1 ag3 hl rfl)) (by decide) ?_
    refine rdw_assign rfl (by simp only [evalF, upd, arg0, argS, ofConst, ofCell, Nat.reduceEqDiff, reduceIte, g4] <;> rfl) (by decide) ?_
    refine rdw_assign rfl (by simp only [evalF, upd, arg0, argS, ofConst, ofCell, Nat.reduceEqDiff, reduceIte, g4] <;> rfl) (by decide) ?_
    refine rd_nil ⟨rfl, ?_⟩
    try simp only
    refine ex_ret ?_
    exact ⟨rfl, rfl, rfl, .inr ⟨by simpa using h, by simp [upd, ofConst, ofCell, evalF], by simp [upd]⟩⟩
  · refine ex_skip ?_
    try simp only
    refine ex_seq (ex_region ?_)
    refine ro_move (by simp only [evalF, upd, arg0, argS, ofConst, ofCell, Nat.reduceEqDiff, reduceIte, g4] <;> rfl) (by decide) ?_
    refine ro_nilCheck (by simp only [evalF, upd, arg0, argS, ofConst, ofCell, Nat.reduceEqDiff, reduceIte, g4] <;> rfl) (by decide) ?_
    refine ro_fieldAddr (by simp only [evalF, upd, arg0, argS, ofConst, ofCell, Nat.reduceEqDiff, reduceIte, g4] <;> rfl) (by exact (fa50_0 _ _ _)) (by decide) ?_
    refine ro_load (by simp only [evalF, upd, arg0, argS, ofConst, ofCell, Nat.reduceEqDiff, reduceIte, g4] <;> rfl) (by exact (load1 ag27 hl rfl)) (by decide) ?_
    refine ro_assign (by simp only [evalF, upd, arg0, argS, ofConst, ofCell, Nat.reduceEqDiff, reduceIte, g4] <;> rfl) (by decide) ?_
    refine ro_assign (by simp only [evalF, upd, arg0, argS, ofConst, ofCell, Nat.reduceEqDiff, reduceIte, g4] <;> rfl) (by decide) ?_
    refine ro_nil ?_
    try simp only
    refine ex_ret ?_
    exact ⟨rfl, rfl, rfl, .inl ⟨by simpa using h, v, by simp [upd], by simp [upd, ofConst, ofCell, evalF], hg, fun id h => (ho id h).1⟩⟩
theorem sw14 (d : Nat) {hp0 : Hp} {nb0 idw q i1 : Nat} {m : M} {L D : AV} {bs : List Int} (hk : 1 ≤ m.kind ∧ m.kind ≤ 12) (mb0 : Mb hp0 nb0 i1 q m L D) (hw0 : Wr hp0 nb0 idw q bs 0) (hbs : bs.length ≤ 10) :
    ∃ fs1 fs2, rowOf m.kind = some (fs1 ++ fs2) ∧ (fs2 = if m.kind = 9 ∨ m.kind = 12 then [1, 7] else []) ∧ (fs1.foldl (fieldW m) (bs, 0)).1.length ≤ 50000 ∧
    ∀ g : Gm, g 1 = .ptr i1 1 0 → g 4 = .ptr idw 1 0 → EX Try.prog plains (callA Try.prog facts plains 10000 (d + 3)) (orS facts (pureOf (callA Try.prog facts plains 10000 (d + 3)))) 10000 145 (codeAt (bodyOf Try.f14) [true, true, true, false]) g hp0 nb0 fun x g' hp' nb' => x = .normal ∧ g' 1 = .ptr i1 1 0 ∧ g' 4 = .ptr idw 1 0 ∧
      WrS hp0 nb0 idw q (fs1.foldl (fieldW m) (bs, 0)).1 (fs1.foldl (fieldW m) (bs, 0)).2 (.tuple []) hp' nb' := by
  have s1 := mb0.k
  have s2 := mb0.sl
  have s3 := mb0.sd
  have : m.kind = 1 ∨ m.kind = 2 ∨ m.kind = 3 ∨ m.kind = 4 ∨ m.kind = 5 ∨ m.kind = 6 ∨ m.kind = 7 ∨ m.kind = 8 ∨ m.kind = 9 ∨ m.kind = 10 ∨ m.kind = 11 ∨ m.kind = 12 := by omega
  rcases this with h | h | h | h | h | h | h | h | h | h | h | h
  · exact ⟨[], [], by rw [h]; rfl, by simp [h], by simp [fieldW] <;> omega, fun g g1 g4 => sw14_1 d h mb0 hw0 hbs g1 g4⟩
  · exact ⟨[0, 2], [], by rw [h]; rfl, by simp [h], by simp [fieldW] <;> omega, fun g g1 g4 => sw14_2 d h mb0 hw0 hbs g1 g4⟩
  · exact ⟨[1], [], by rw [h]; rfl, by simp [h], by simp [fieldW] <;> omega, fun g g1 g4 => sw14_3 d h mb0 hw0 hbs g1 g4⟩
  · exact ⟨[4], [], by rw [h]; rfl, by simp [h], by simp [fieldW] <;> omega, fun g g1 g4 => sw14_4 d h mb0 hw0 hbs g1 g4⟩
  · exact ⟨[5], [], by rw [h]; rfl, by simp [h], by simp [fieldW] <;> omega, fun g g1 g4 => sw14_5 d h mb0 hw0 hbs g1 g4⟩
  · exact ⟨[3, 2], [], by rw [h]; rfl, by simp [h], by simp [fieldW] <;> omega, fun g g1 g4 => sw14_6 d h mb0 hw0 hbs g1 g4⟩
  · exact ⟨[5], [], by rw [h]; rfl, by simp [h], by simp [fieldW] <;> omega, fun g g1 g4 => sw14_7 d h mb0 hw0 hbs g1 g4⟩
  · exact ⟨[4, 6], [], by rw [h]; rfl, by simp [h], by simp [fieldW] <;> omega, fun g g1 g4 => sw14_8 d h mb0 hw0 hbs g1 g4⟩
  · exact ⟨[5, 6], [1, 7], by rw [h]; rfl, by simp [h], by simp [fieldW] <;> omega, fun g g1 g4 => sw14_9 d h mb0 hw0 hbs g1 g4⟩
  · exact ⟨[5, 6], [], by rw [h]; rfl, by simp [h], by simp [fieldW] <;> omega, fun g g1 g4 => sw14_10 d h mb0 hw0 hbs g1 g4⟩
  · exact ⟨[5], [], by rw [h]; rfl, by simp [h], by simp [fieldW] <;> omega, fun g g1 g4 => sw14_11 d h mb0 hw0 hbs g1 g4⟩
  · exact ⟨[6], [1, 7], by rw [h]; rfl, by simp [h], by simp [fieldW] <;> omega, fun g g1 g4 => sw14_12 d h mb0 hw0 hbs g1 g4⟩
theorem bld50 {hp : Hp} {nb : Nat} {v : AV} {l : List PV} (hr : Row hp nb v l) : buildA Try.prog 50 [(0, v)] = some (.agg [v, .pv (.int .i64 0)]) := by
  cases hr <;> kernel_rfl
/-- latticeref4.Encode. -/
theorem refenc14 (d : Nat) {hp : Hp} {nb : Nat} {m : M} {L D : AV} (hk : m.key.length = 32) (hL : Row hp nb L (ints m.list)) (hD : Row hp nb D (u8s m.data)) (hsl : m.list.length < 9000) (hsd : m.data.length < 9999) :
    CA (callA Try.prog facts plains 10000 (d + 4)) 14 [.agg (mcells m L D)] hp nb (EncOk m hp nb) := by
  refine ca_body (fn := Try.f14) (c := bodyOf Try.f14) Try.func14 rfl (by show 1 ≤ 145; omega) ?_
  show EX _ _ _ _ _ 145 _ _ _ _ _
  unfold bodyOf Try.f14
  refine ex_seq (ex_region ?_)
  refine ro_box (v := .agg (mcells m L D)) (by simp [evalF, argsF]) (mc_all (row_cell hL).1 (row_cell hD).1) (by decide) ?_
  refine ro_assign (by simp only [evalF, upd, arg0, argS, ofConst, ofCell, Nat.reduceEqDiff, reduceIte] <;> rfl) (by decide) ?_
  refine ro_assign (by simp only [evalF, upd, arg0, argS, ofConst, ofCell, Nat.reduceEqDiff, reduceIte] <;> rfl) (by decide) ?_
  refine ro_nil ?_
  try simp only
  have ha0 : After hp nb (.pv .nilSlice) (setHp hp nb (.cells 1 (mcells m L D))) (nb + 1) := after_new hp nb _ _ (ok_cells (row_ok' hL) (row_ok' hD))
  have hl1 : AI.look (setHp hp nb (.cells 1 (mcells m L D))) nb 1 = some (mcells m L D) := look_same _ _ _ _
  show EX _ _ _ _ _ 145 _ _ (setHp hp nb (.cells 1 (mcells m L D))) _ _
  generalize setHp hp nb (.cells 1 (mcells m L D)) = hp1 at ha0 hl1 ⊢
  have hL1 : Row hp1 (nb + 1) L (ints m.list) := hL.keep (Nat.le_succ _) (fun id hid _ => ha0.2.1 id hid (by simp [ownOf]))
  have hD1 : Row hp1 (nb + 1) D (u8s m.data) := hD.keep (Nat.le_succ _) (fun id hid _ => ha0.2.1 id hid (by simp [ownOf]))
  refine ex_seq (ex_seq (ex_region ?_))
  refine ro_fieldAddr (by simp only [evalF, upd, arg0, argS, ofConst, ofCell, Nat.reduceEqDiff, reduceIte] <;> rfl) (by exact (fa30_0 _ _ _)) (by decide) ?_
  refine ro_load (by simp only [evalF, upd, arg0, argS, ofConst, ofCell, Nat.reduceEqDiff, reduceIte] <;> rfl) (by exact (load1 ag3 hl1 mc0)) (by decide) ?_
  refine ro_bin (by simp only [evalF, upd, arg0, argS, ofConst, ofCell, Nat.reduceEqDiff, reduceIte] <;> rfl) (by simp only [evalF, upd, arg0, argS, ofConst, ofCell, Nat.reduceEqDiff, reduceIte] <;> rfl) (by exact (lss_v)) (by decide) ?_
  refine ro_move (by simp only [evalF, upd, arg0, argS, ofConst, ofCell, Nat.reduceEqDiff, reduceIte] <;> rfl) (by decide) ?_
  refine ro_gsel (b := decide (m.kind < 1)) (want := false) (v := .ptr nb 1 0) rfl (by simp only [evalF, upd, arg0, argS, ofConst, ofCell, Nat.reduceEqDiff, reduceIte] <;> rfl) rfl (fun hb => by simp only [primA, evalF, upd, arg0, argS, ofConst, ofCell, Nat.reduceEqDiff, reduceIte, selV_hit hb, fa30_0, Option.map_some] <;> rfl) (by decide) ?_
  refine ro_gsel (b := decide (m.kind < 1)) (want := false) (v := .pv (.int .i64 m.kind)) rfl (by simp only [evalF, upd, arg0, argS, ofConst, ofCell, Nat.reduceEqDiff, reduceIte] <;> rfl) rfl (fun hb => by simp only [primA, evalF, upd, arg0, argS, ofConst, ofCell, Nat.reduceEqDiff, reduceIte, selV_hit hb, load1 ag3 hl1 mc0, Option.map_some] <;> rfl) (by decide) ?_
  refine ro_gsel (b := decide (m.kind < 1)) (want := false) (v := .pv (.bool (decide (m.kind > 12)))) rfl (by simp only [evalF, upd, arg0, argS, ofConst, ofCell, Nat.reduceEqDiff, reduceIte] <;> rfl) rfl (fun hb => by simp only [primA, evalF, upd, arg0, argS, ofConst, ofCell, Nat.reduceEqDiff, reduceIte, selV_hit hb, gtr_v, Option.map_some] <;> rfl) (by decide) ?_
  refine ro_por (b := decide (m.kind < 1)) (z := decide (m.kind > 12)) (by simp only [evalF, upd, arg0, argS, ofConst, ofCell, Nat.reduceEqDiff, reduceIte] <;> rfl) (by simp only [evalF, upd, arg0, argS, ofConst, ofCell, Nat.reduceEqDiff, reduceIte] <;> rfl) (by decide) ?_
  refine ro_nil ?_
  try simp only
  refine ex_cond (t := decide (m.kind < 1) || decide (m.kind > 12)) (by simp only [evalF, upd, arg0, argS, ofConst, ofCell, Nat.reduceEqDiff, reduceIte] <;> rfl) (fun h => ?_) (fun h => ?_)
  · refine ex_seq (ex_region ?_)
    refine ro_assign (by simp only [evalF, upd, arg0, argS, ofConst, ofCell, Nat.reduceEqDiff, reduceIte] <;> rfl) (by decide) ?_
    refine ro_assign (by simp only [evalF, upd, arg0, argS, ofConst, ofCell, Nat.reduceEqDiff, reduceIte] <;> rfl) (by decide) ?_
    refine ro_nil ?_
    try simp only
    refine ex_ret ?_
    refine ⟨.tuple [.pv .nilSlice, .pv (.int .i64 3)], rfl, ha0, ?_⟩
    have hb : ¬ (1 ≤ m.kind ∧ m.kind ≤ 12) := by
      simp only [Bool.or_eq_true, decide_eq_true_eq] at h
      omega
    have : rowOf m.kind = none := by
      unfold rowOf
      rw [if_neg (by omega), if_neg (by omega), if_neg (by omega), if_neg (by omega), if_neg (by omega), if_neg (by omega), if_neg (by omega), if_neg (by omega), if_neg (by omega), if_neg (by omega), if_neg (by omega), if_neg (by omega)]
    unfold enc
    rw [this]
  refine ex_skip ?_
  try simp only
  have hkk : 1 ≤ m.kind ∧ m.kind ≤ 12 := by
    simp only [Bool.or_eq_false_iff, decide_eq_false_iff_not] at h
    omega
  refine ex_seq (ex_region ?_)
  refine ro_fieldAddr (by simp only [evalF, upd, arg0, argS, ofConst, ofCell, Nat.reduceEqDiff, reduceIte] <;> rfl) (by exact (fa30_0 _ _ _)) (by decide) ?_
  refine ro_load (by simp only [evalF, upd, arg0, argS, ofConst, ofCell, Nat.reduceEqDiff, reduceIte] <;> rfl) (by exact (load1 ag3 hl1 mc0)) (by decide) ?_
  refine ro_conv (by simp only [evalF, upd, arg0, argS, ofConst, ofCell, Nat.reduceEqDiff, reduceIte] <;> rfl) (by exact (conv_u8 _ _)) (by decide) ?_
  refine ro_buildSlice rfl (by simp only [List.map_cons, List.map_nil, evalF, upd, arg0, argS, ofConst, ofCell, Nat.reduceEqDiff, reduceIte]; exact bs27_1 _ _) (by decide) ?_
  refine ro_build (ps := [(0, .slice (nb + 1) 1 0 1 1 1 true)]) (by simp only [List.map_cons, List.map_nil, evalF, upd, arg0, argS, ofConst, ofCell, Nat.reduceEqDiff, reduceIte]) (bld50 (Row.own (hp := setHp hp1 (nb + 1) (.cells 1 [.pv (.int .u8 (u8 m.kind))])) (nb := nb + 1 + 1) (nb + 1) 1 0 1 1 true _ [.int .u8 (u8 m.kind)] rfl (by omega) (by simp [setHp]; rfl) (by simp) (Nat.le_refl _) rfl)) (by decide) ?_
  refine ro_box (v := .agg [.slice (nb + 1) 1 0 1 1 1 true, .pv (.int .i64 0)]) (by simp only [evalF, upd, arg0, argS, ofConst, ofCell, Nat.reduceEqDiff, reduceIte]) rfl (by decide) ?_
  refine ro_assign (by simp only [evalF, upd, arg0, argS, ofConst, ofCell, Nat.reduceEqDiff, reduceIte] <;> rfl) (by decide) ?_
  refine ro_nil ?_
  try simp only
  have hax : After hp1 (nb + 1) (.pv .nilSlice) (setHp (setHp hp1 (nb + 1) (.cells 1 [.pv (.int .u8 (u8 m.kind))])) (nb + 1 + 1) (.cells 1 [.slice (nb + 1) 1 0 1 1 1 true, .pv (.int .i64 0)])) (nb + 1 + 1 + 1) :=
    after_nil (v := .pv .nilSlice) (after_new hp1 (nb + 1) _ _ (pvs_ok [.int .u8 (u8 m.kind)])) (by
      refine ⟨Nat.le_succ _, fun id hid _ => by simp [setHp, show id ≠ nb + 1 + 1 by omega], fun ht => tidy_new ht (fun c hc => ?_)⟩
      · simp only [List.mem_cons, List.not_mem_nil, or_false] at hc
        rcases hc with rfl | rfl
        · exact okC_slice (by omega)
        · exact okC_pv _ _) (fun id h => by simp [ownOf] at h)
  have hlw : AI.look (setHp (setHp hp1 (nb + 1) (.cells 1 [.pv (.int .u8 (u8 m.kind))])) (nb + 1 + 1) (.cells 1 [.slice (nb + 1) 1 0 1 1 1 true, .pv (.int .i64 0)])) (nb + 1 + 1) 1 = some [.slice (nb + 1) 1 0 1 1 1 true, .pv (.int .i64 0)] := look_same _ _ _ _
  have hgw : Grow (setHp (setHp hp1 (nb + 1) (.cells 1 [.pv (.int .u8 (u8 m.kind))])) (nb + 1 + 1) (.cells 1 [.slice (nb + 1) 1 0 1 1 1 true, .pv (.int .i64 0)])) (nb + 1 + 1 + 1) (.slice (nb + 1) 1 0 1 1 1 true) (u8s [u8 m.kind]) := .own _ _ _ _ _ rfl (by omega) (by simp [setHp, u8s])
  show EX _ _ _ _ _ 145 _ _ (setHp (setHp hp1 (nb + 1) (.cells 1 [.pv (.int .u8 (u8 m.kind))])) (nb + 1 + 1) (.cells 1 [.slice (nb + 1) 1 0 1 1 1 true, .pv (.int .i64 0)])) _ _
  generalize setHp (setHp hp1 (nb + 1) (.cells 1 [.pv (.int .u8 (u8 m.kind))])) (nb + 1 + 1) (.cells 1 [.slice (nb + 1) 1 0 1 1 1 true, .pv (.int .i64 0)]) = hp2 at hax hlw hgw ⊢
  have hw : Wr hp2 (nb + 1 + 1 + 1) (nb + 1 + 1) (nb + 1) [u8 m.kind] 0 := ⟨by omega, by omega, _, hlw, hgw, fun id h => by simp only [ownOf, Option.some.injEq] at h; omega⟩
  have k : ∀ id, id < nb + 1 → hp2 id = hp1 id := fun id hid => hax.2.1 id hid (by simp [ownOf])
  have mb : Mb hp2 (nb + 1 + 1 + 1) nb (nb + 1) m L D := ⟨by rw [look_at 1 (k nb (by omega))]; exact hl1, by omega, hk, hL1.keep hax.1 (fun id hid _ => k id hid), hD1.keep hax.1 (fun id hid _ => k id hid), fun id h => row_own hL1 h, fun id h => row_own hD1 h, hsl, hsd⟩
  obtain ⟨fs1, fs2, hrow, hfs2, hsz, hsw⟩ := sw14 (i1 := nb) (idw := nb + 1 + 1) (q := nb + 1) d hkk mb hw (by simp)
  refine ex_seq (ex_weaken (hsw _ (by simp [upd]) (by simp [upd])) ?_)
  rintro x g3 hp3 nb3 ⟨rfl, e1, e4, hS3⟩
  try simp only
  have mb3 := mb_keep mb hS3
  have hmid : EX Try.prog plains (callA Try.prog facts plains 10000 (d + 3)) (orS facts (pureOf (callA Try.prog facts plains 10000 (d + 3)))) 10000 145 (codeAt (bodyOf Try.f14) [true, true, true, true, false]) g3 hp3 nb3 fun x g' hp' nb' => x = .normal ∧ g' 1 = .ptr nb 1 0 ∧ g' 4 = .ptr (nb + 1 + 1) 1 0 ∧
      WrS hp3 nb3 (nb + 1 + 1) (nb + 1) ((fs1 ++ fs2).foldl (fieldW m) ([u8 m.kind], 0)).1 ((fs1 ++ fs2).foldl (fieldW m) ([u8 m.kind], 0)).2 (.tuple []) hp' nb' := by
    rw [List.foldl_append, hfs2]
    by_cases h9 : m.kind = 9 ∨ m.kind = 12
    · rw [if_pos h9]; exact mid14_y d h9 mb3 hS3.2.1 hsz e1 e4
    · rw [if_neg h9]; exact mid14_n d h9 mb3 hS3.2.1 hsz e1 e4
  refine ex_seq (ex_weaken hmid ?_)
  rintro x g4 hp4 nb4 ⟨rfl, e1, e4, hS4⟩
  try simp only
  refine ex_weaken (end14 hS4.2.1 e4) ?_
  rintro x g5 hp5 nb5 ⟨rfl, rfl, rfl, hres⟩
  have hS := wrs_trans hS3 hS4
  have haf : After hp nb (.pv .nilSlice) hp5 nb5 := by
    have a01 := after_nil ha0 hax (fun id h => by simp [ownOf] at h)
    exact ⟨by have := a01.1; have := hS.2.2.1; omega, fun id hid ho => by rw [hS.2.2.2.1 id (by omega)]; exact a01.2.1 id hid ho, fun ht => hS.2.2.2.2 (a01.2.2 ht)⟩
  have henc : enc m = fieldsE m (fs1 ++ fs2) [u8 m.kind] := by unfold enc; rw [hrow]
  have hW := fieldsW_ok m (fs1 ++ fs2) [u8 m.kind]
  rw [← henc] at hW
  show ∃ v, resF Try.prog Try.f14 g5 hp5 = some v ∧ EncOk m hp nb v hp5 nb5
  refine ⟨.tuple [g5 2, g5 3], rfl, haf, ?_⟩
  cases hE : enc m with
  | ok x =>
    rw [hE] at hW
    have hW : (fs1 ++ fs2).foldl (fieldW m) ([u8 m.kind], 0) = (x, 0) := hW
    rw [hW] at hres
    rcases hres with ⟨_, v, e2, e3, hg, ho⟩ | ⟨h, _⟩
    · exact ⟨v, by rw [e2, e3], hg, fun id h => by have := ho id h; omega⟩
    · exact absurd rfl h
  | error x =>
    rw [hE] at hW
    obtain ⟨h1, h2⟩ := hW
    rw [h1] at hres
    rcases hres with ⟨h, _⟩ | ⟨_, e2, e3⟩
    · exact absurd h h2
    · show AV.tuple [g5 2, g5 3] = _
      rw [e2, e3]
end Go.Proofs.Ytlinbbjobjnipaa

set_option linter.unusedVariables false
set_option linter.unusedSimpArgs false
set_option linter.unusedSectionVars false
namespace Go.Proofs.Ytlinbbjobjnipaa
open Go AI
set_option maxHeartbeats 4000000
set_option maxRecDepth 10000
theorem few_data {m : M} (h : fewM m = true) : m.data.length < 8000 ∧ m.list.length < 50 := by
  by_cases hd : (m.data.length : Int) < 8000
  · rw [few_t hd] at h
    have := of_decide_eq_true h
    omega
  · rw [few_f hd] at h
    simp at h
theorem fit_good {m : M} (hf : Fit m) : Fit (goodM m) := by
  have in64 : ∀ z : Int, -9223372036854775808 ≤ z ∧ z ≤ 9223372036854775807 → (Lit.int .i64 z).wf = true := by
    intro z hz
    simpa [Lit.wf, IntKind.min, IntKind.max, IntKind.signed, IntKind.bits] using hz
  have k0 := Int.emod_nonneg m.kind (show (12 : Int) ≠ 0 by omega)
  have k1 := Int.emod_lt_of_pos m.kind (show (0 : Int) < 12 by omega)
  have n0 := Int.emod_nonneg m.node (show (10 : Int) ≠ 0 by omega)
  have n1 := Int.emod_lt_of_pos m.node (show (0 : Int) < 10 by omega)
  have p0 := Int.emod_nonneg m.pred (show (11 : Int) ≠ 0 by omega)
  have p1 := Int.emod_lt_of_pos m.pred (show (0 : Int) < 11 by omega)
  have l0 := Int.emod_nonneg m.lease (show (1000 : Int) ≠ 0 by omega)
  have l1 := Int.emod_lt_of_pos m.lease (show (0 : Int) < 1000 by omega)
  have e0 := Int.emod_nonneg m.err (show (21 : Int) ≠ 0 by omega)
  have e1 := Int.emod_lt_of_pos m.err (show (0 : Int) < 21 by omega)
  refine ⟨hf.key, in64 _ ?_, in64 _ ?_, in64 _ ?_, in64 _ ?_, in64 _ ?_, fun x hx => in64 _ ?_⟩
  · show -9223372036854775808 ≤ 1 + m.kind % 12 ∧ 1 + m.kind % 12 ≤ 9223372036854775807
    omega
  · show -9223372036854775808 ≤ m.node % 10 ∧ m.node % 10 ≤ 9223372036854775807
    omega
  · show -9223372036854775808 ≤ m.pred % 11 - 1 ∧ m.pred % 11 - 1 ≤ 9223372036854775807
    omega
  · show -9223372036854775808 ≤ 1 + m.lease % 1000 ∧ 1 + m.lease % 1000 ≤ 9223372036854775807
    omega
  · show -9223372036854775808 ≤ m.err % 21 ∧ m.err % 21 ≤ 9223372036854775807
    omega
  · obtain ⟨y, _, rfl⟩ := List.mem_map.1 hx
    have := Int.emod_nonneg y (show (10 : Int) ≠ 0 by omega)
    have := Int.emod_lt_of_pos y (show (0 : Int) < 10 by omega)
    omega
end Go.Proofs.Ytlinbbjobjnipaa

set_option linter.unusedVariables false
set_option linter.unusedSimpArgs false
set_option linter.unusedSectionVars false
namespace Go.Proofs.Ytlinbbjobjnipaa
open Go AI Go.ChangeShapes Go.WideShapes
section
variable [Val] {H : Type} {enc : TypeId × Value → H} {w : World} {base : Nat}
theorem cell_spot {a : Addr} {v : Value} (h : w.cell? a = some v) : a = ⟨a.block, a.off, none⟩ := by
  obtain ⟨b, o, s⟩ := a
  unfold World.cell? at h
  split at h
  · split at h
    · simp at h
    · rename_i hs
      cases s with
      | none => rfl
      | some z => simp at hs
  · simp at h
theorem add_flat (b off i : Nat) : (⟨b, off, none⟩ : Addr).add i = ⟨b, off + i, none⟩ := by
  unfold Addr.add
  split
  · rename_i h; subst h; rfl
  · rfl
/-- A row of numbers. -/
theorem read_row {t e : TypeId} {k : IntKind} {fuel : Nat} {v : Value} {x : DataW H × List MemPlace} (ht : Try.prog.underlying t = some (.slice e)) (he : Try.prog.underlying e = some (.int k)) (hc : Try.prog.cellsOf e = 1)
    (h : DataW.trod enc Try.prog w base (fun _ => true) true fuel t [v] = some x) :
    ∃ (p : PV) (zs : List Int), (∀ hp nb, Row hp nb (.pv p) (zs.map fun z => .int k z)) ∧ (∀ z ∈ zs, (Lit.int k z).wf = true) ∧ ∀ O : Nat → Prop, (∀ b, ¬ O b) → RepP O w p v := by
  rcases open_ints ht he hc h with ⟨h1, _⟩ | ⟨a, len, cap, zs, h1, h2, h3, h4, h5, _, h7, h8⟩
  · simp at h1; subst h1
    exact ⟨.nilSlice, [], fun hp nb => .nil, by simp, fun O hO => .nilSlice⟩
  · simp at h1; subst h1
    simp only [if_true] at h5
    cases cap with
    | zero =>
      obtain rfl : len = 0 := by omega
      exact ⟨.zcap, [], fun hp nb => .zcap, by simp, fun O hO => .zcap a⟩
    | succ cap =>
      have h0 := h7 0 (by omega)
      have ha : a.add 0 = a := rfl
      rw [ha] at h0
      have hs := cell_spot h0
      generalize a.block = b at hs
      generalize a.off = off at hs
      subst hs
      have hl : (zs.take len).length = len := by simp; omega
      refine ⟨.ros 1 len ((zs.take len).map fun z => .int k z), zs.take len, fun hp nb => .ros _ _ (by simp; omega), fun z hz => h8 z (List.mem_of_mem_take hz), fun O hO => ?_⟩
      refine .ros _ _ _ b off _ (fun i => .int k (zs.getD i 0)) (by simp; omega) (by omega) (fun _ => hO b) (fun i hi => ?_) (fun i hi => ?_)
      · simp at hi
        rw [← add_flat]
        exact h7 i (by omega)
      · simp at hi
        have : zs.getD i 0 = zs[i]'(by omega) := by
          rw [List.getD_eq_getElem?_getD, List.getElem?_eq_getElem (by omega)]
          rfl
        simp only [List.getElem_map, List.getElem_take, this]
        exact .int _ _
theorem cells5 : Try.prog.cellsOf 5 = 1 := by kernel_rfl
theorem cells3 : Try.prog.cellsOf 3 = 1 := by kernel_rfl
theorem cells4 : Try.prog.cellsOf 4 = 1 := by kernel_rfl
theorem cells24 : Try.prog.cellsOf 24 = 1 := by kernel_rfl
theorem cells26 : Try.prog.cellsOf 26 = 32 := by kernel_rfl
theorem cells27 : Try.prog.cellsOf 27 = 1 := by kernel_rfl
theorem cells28 : Try.prog.cellsOf 28 = 1 := by kernel_rfl
theorem cells30 : Try.prog.cellsOf 30 = 40 := by kernel_rfl
/-- An id: 32 bytes. -/
theorem read_key {fuel : Nat} {cs : List Value} {x : DataW H × List MemPlace} (h : DataW.trod enc Try.prog w base (fun _ => true) true fuel 26 cs = some x) : ∃ key : List Int, key.length = 32 ∧ (cs = key.map fun z => .int .u8 z) ∧ ∀ z ∈ key, (Lit.int .u8 z).wf = true := by
  obtain ⟨xs, n, rfl, _, hcl, hxl, hxs⟩ := DataW.trod_array Try.underlying26 h
  rw [cells26] at hcl
  have each : ∀ i, ∃ z : Int, i < 32 → cs[i]? = some (.int .u8 z) ∧ (Lit.int .u8 z).wf = true := by
    intro i
    by_cases hi : i < 32
    · have := hxs i hi
      rw [cells5, Nat.mul_one, List.getElem?_eq_getElem (by omega)] at this
      obtain ⟨z, e, _, hz⟩ := DataW.trod_int Try.underlying5 this
      refine ⟨z, fun _ => ⟨?_, hz⟩⟩
      have h1 : ((cs.drop i).take 1)[0]? = some (.int .u8 z) := by rw [e]; rfl
      rw [List.getElem?_take, if_pos (by omega), List.getElem?_drop] at h1
      simpa using h1
    · exact ⟨0, fun h => absurd h hi⟩
  obtain ⟨f, hf⟩ := Classical.axiomOfChoice each
  refine ⟨(List.range 32).map f, by simp, ?_, fun z hz => ?_⟩
  rotate_left
  · obtain ⟨i, hi, rfl⟩ := List.mem_map.1 hz
    exact (hf i (List.mem_range.1 hi)).2
  apply List.ext_getElem?
  intro i
  by_cases hi : i < 32
  · rw [(hf i hi).1, List.getElem?_map, List.getElem?_map, List.getElem?_range hi]
    rfl
  · rw [List.getElem?_eq_none (by omega), List.getElem?_eq_none (by simp; omega)]
theorem cut5 {α : Type} {l : List α} (h : l.length = 40) : ∃ a b c d e r x y z, l = a :: b :: c :: d :: e :: (r ++ [x, y, z]) ∧ r.length = 32 := by
  rcases l with _ | ⟨a, _ | ⟨b, _ | ⟨c, _ | ⟨d, _ | ⟨e, l⟩⟩⟩⟩⟩ <;> simp at h
  have h3 : (l.drop 32).length = 3 := by simp; omega
  obtain ⟨x, y, z, hz⟩ : ∃ x y z, l.drop 32 = [x, y, z] := by
    generalize l.drop 32 = q at h3
    rcases q with _ | ⟨x, _ | ⟨y, _ | ⟨z, _ | ⟨u, q⟩⟩⟩⟩ <;> simp at h3
    exact ⟨x, y, z, rfl⟩
  exact ⟨a, b, c, d, e, l.take 32, x, y, z, by rw [← hz, List.take_append_drop], by simp; omega⟩
theorem wf_byte {z : Int} (h : (Lit.int .u8 z).wf = true) : 0 ≤ z ∧ z ≤ 255 := by
  have hx : IntKind.u8.min ≤ z ∧ z ≤ IntKind.u8.max := by simpa [Lit.wf] using h
  simpa [IntKind.min, IntKind.max, IntKind.signed, IntKind.bits] using hx
set_option maxRecDepth 100000 in
/-- How a message is read. -/
theorem read_msg8 {v : Value} {d : DataW H} {ps : List MemPlace} (hval : Value.okWide Try.prog w .any base 30 v) (h : DataW.Trod enc Try.prog w 0 (fun _ => true) true 30 v d ps) :
    ∃ (m : M) (p q : PV), Fit m ∧ (∀ z ∈ m.key, 0 ≤ z ∧ z ≤ 255) ∧ (∀ z ∈ m.data, 0 ≤ z ∧ z ≤ 255) ∧ (∀ hp nb, Row hp nb (.pv p) (ints m.list)) ∧ (∀ hp nb, Row hp nb (.pv q) (u8s m.data)) ∧
      RepA (fun _ => False) (AI.hf []) (fun _ => (0, 0)) w (.agg (mcells m (.pv p) (.pv q))) v := by
  obtain ⟨arr, rfl, hsz⟩ := okWide_struct Try.underlying30 hval
  obtain ⟨fuel, hf⟩ := h
  obtain ⟨xs, n, rfl, _, hcl, hxl, hxs⟩ := DataW.trod_struct Try.underlying30 hf
  rw [cells30] at hsz
  obtain ⟨l⟩ := arr
  obtain ⟨c0, c1, c2, c3, c4, r, c37, c38, c39, rfl, hr⟩ := cut5 (show l.length = 40 from hsz)
  have hx9 : xs.length = 9 := by simpa using hxl
  have f0 : DataW.trod enc Try.prog w 0 (fun _ => true) true n 3 (((c0 :: c1 :: c2 :: c3 :: c4 :: (r ++ [c37, c38, c39])).drop 0).take (Try.prog.cellsOf 3)) = xs[0]? := hxs 0 _ rfl
  have f1 : DataW.trod enc Try.prog w 0 (fun _ => true) true n 3 (((c0 :: c1 :: c2 :: c3 :: c4 :: (r ++ [c37, c38, c39])).drop 1).take (Try.prog.cellsOf 3)) = xs[1]? := hxs 1 _ rfl
  have f2 : DataW.trod enc Try.prog w 0 (fun _ => true) true n 3 (((c0 :: c1 :: c2 :: c3 :: c4 :: (r ++ [c37, c38, c39])).drop 2).take (Try.prog.cellsOf 3)) = xs[2]? := hxs 2 _ rfl
  have f3 : DataW.trod enc Try.prog w 0 (fun _ => true) true n 24 (((c0 :: c1 :: c2 :: c3 :: c4 :: (r ++ [c37, c38, c39])).drop 3).take (Try.prog.cellsOf 24)) = xs[3]? := hxs 3 _ rfl
  have f4 : DataW.trod enc Try.prog w 0 (fun _ => true) true n 4 (((c0 :: c1 :: c2 :: c3 :: c4 :: (r ++ [c37, c38, c39])).drop 4).take (Try.prog.cellsOf 4)) = xs[4]? := hxs 4 _ rfl
  have f5 : DataW.trod enc Try.prog w 0 (fun _ => true) true n 26 (((c0 :: c1 :: c2 :: c3 :: c4 :: (r ++ [c37, c38, c39])).drop 5).take (Try.prog.cellsOf 26)) = xs[5]? := hxs 5 _ rfl
  have f6 : DataW.trod enc Try.prog w 0 (fun _ => true) true n 27 (((c0 :: c1 :: c2 :: c3 :: c4 :: (r ++ [c37, c38, c39])).drop 37).take (Try.prog.cellsOf 27)) = xs[6]? := hxs 6 _ rfl
  have f7 : DataW.trod enc Try.prog w 0 (fun _ => true) true n 3 (((c0 :: c1 :: c2 :: c3 :: c4 :: (r ++ [c37, c38, c39])).drop 38).take (Try.prog.cellsOf 3)) = xs[7]? := hxs 7 _ rfl
  have f8 : DataW.trod enc Try.prog w 0 (fun _ => true) true n 28 (((c0 :: c1 :: c2 :: c3 :: c4 :: (r ++ [c37, c38, c39])).drop 39).take (Try.prog.cellsOf 28)) = xs[8]? := hxs 8 _ rfl
  have d37 : ((c0 :: c1 :: c2 :: c3 :: c4 :: (r ++ [c37, c38, c39])).drop 37) = [c37, c38, c39] := by
    rw [show (37 : Nat) = 5 + 32 by rfl, ← List.drop_drop]
    simp only [List.drop_succ_cons, List.drop_zero]
    rw [List.drop_append_of_le_length (by omega), List.drop_of_length_le (by omega)]
    rfl
  have d38 : ((c0 :: c1 :: c2 :: c3 :: c4 :: (r ++ [c37, c38, c39])).drop 38) = [c38, c39] := by
    rw [show (38 : Nat) = 37 + 1 by rfl, ← List.drop_drop, d37]; rfl
  have d39 : ((c0 :: c1 :: c2 :: c3 :: c4 :: (r ++ [c37, c38, c39])).drop 39) = [c39] := by
    rw [show (39 : Nat) = 37 + 2 by rfl, ← List.drop_drop, d37]; rfl
  rw [cells3, List.getElem?_eq_getElem (by omega)] at f0 f1 f2
  rw [d38, cells3, List.getElem?_eq_getElem (by omega)] at f7
  rw [cells24, List.getElem?_eq_getElem (by omega)] at f3
  rw [cells4, List.getElem?_eq_getElem (by omega)] at f4
  rw [cells26, List.getElem?_eq_getElem (by omega)] at f5
  rw [d37, cells27, List.getElem?_eq_getElem (by omega)] at f6
  rw [d39, cells28, List.getElem?_eq_getElem (by omega)] at f8
  simp only [List.drop_succ_cons, List.drop_zero, List.take_succ_cons, List.take_zero] at f0 f1 f2 f3 f4 f5 f6 f7 f8
  obtain ⟨z0, e0, _, w0⟩ := DataW.trod_int Try.underlying3 f0
  obtain ⟨z1, e1, _, w1⟩ := DataW.trod_int Try.underlying3 f1
  obtain ⟨z2, e2, _, w2⟩ := DataW.trod_int Try.underlying3 f2
  obtain ⟨z7, e7, _, w7⟩ := DataW.trod_int Try.underlying3 f7
  obtain ⟨z8, e8, _, w8⟩ := DataW.trod_int Try.underlying28 f8
  obtain ⟨p, zl, rp, wl, pp⟩ := read_row Try.underlying24 Try.underlying3 cells3 f3
  obtain ⟨q, zd, rq, wd, pq⟩ := read_row Try.underlying27 Try.underlying5 cells5 f6
  obtain ⟨bo, e4, _⟩ := DataW.trod_bool Try.underlying4 f4
  rw [List.take_append_of_le_length (by omega), List.take_of_length_le (by omega)] at f5
  obtain ⟨key, hk, ek, wk⟩ := read_key f5
  simp only [List.cons.injEq, and_true] at e0 e1 e2 e4 e7 e8
  subst e0; subst e1; subst e2; subst e4; subst e7; subst e8; subst ek
  have hO : ∀ b, ¬ Avoid (fun _ => False) (AI.hf []) (fun _ => (0, 0)) b := fun b h => h.elim own_nil (fun h => h)
  refine ⟨{ kind := z0, node := z1, pred := z2, list := zl, done := bo, key := key, data := zd, lease := z7, err := z8 }, p, q, ⟨hk, w0, w1, w2, w7, w8, wl⟩, fun z hz => wf_byte (wk z hz), fun z hz => wf_byte (wd z hz), rp, rq, ?_⟩
  refine RepL.agg ?_
  show RepL _ _ _ _ ([.pv (.int .i64 z0), .pv (.int .i64 z1), .pv (.int .i64 z2), .pv p, .pv (.bool bo)] ++ ((u8s key).map .pv ++ [.pv q, .pv (.int .i64 z7), .pv (.int .i64 z8)])) ([.int .i64 z0, .int .i64 z1, .int .i64 z2, c3, .bool bo] ++ (key.map (fun z => .int .u8 z) ++ [c37, .int .i64 z7, .int .i64 z8]))
  refine RepL.append (.cons (.pv _ _ (.int _ _)) (.cons (.pv _ _ (.int _ _)) (.cons (.pv _ _ (.int _ _)) (.cons (.pv _ _ (pp _ hO)) (.cons (.pv _ _ (.bool _)) .nil))))) (RepL.append ?_ (.cons (.pv _ _ (pq _ hO)) (.cons (.pv _ _ (.int _ _)) (.cons (.pv _ _ (.int _ _)) .nil))))
  refine ⟨by simp [u8s], fun i x hx => ?_⟩
  simp only [u8s, List.map_map, List.getElem?_map, Option.map_eq_some_iff] at hx
  obtain ⟨z, hz, rfl⟩ := hx
  exact ⟨.int .u8 z, by rw [List.getElem?_map, hz]; rfl, .pv _ _ (.int _ _)⟩
end
end Go.Proofs.Ytlinbbjobjnipaa

set_option linter.unusedVariables false
set_option linter.unusedSimpArgs false
set_option linter.unusedSectionVars false
namespace Go.Proofs.Ytlinbbjobjnipaa
open Go AI Go.ChangeShapes Go.WideShapes Go.ChangeAt Go.RowKit
def plains0 (f : Nat) : Bool := [9,10,12,13,14,15,16,17,18,19,35,36,38,39,45,47,48,49].contains f
set_option maxRecDepth 100000 in
theorem known_run : isT (callT Try.prog noS plains0 100 20 9 [] []) = true := by kernel_rfl
abbrev stand : Val where
  V i := .bool true
  one i := rfl
theorem facts_cong : CongG facts := fun hp1 hp2 f args h => rfl
theorem facts_ok : @PureOk stand Try.prog facts := by
  letI : Val := stand
  intro hp f args r h
  unfold facts at h
  split at h
  · simp only [Option.some.injEq] at h; subst h
    obtain ⟨h', hr⟩ := isT_some known_run
    refine pure_sound (call_sound ext noS_sound noS_cong names orders plains0 100 20) hp 9 [] _ ?_
    unfold pureOf
    rw [if_pos (show (([] : List AV).all plainV) = true from rfl), callT_less _ _ _ _ _ _ _ _ _ hr]
    rfl
  · rename_i a m
    split at h
    · rename_i hc
      simp only [Option.some.injEq] at h; subst h
      intro X φ w vs R hvs
      obtain ⟨v, vs', hv, h1, h2⟩ := hvs.head
      obtain ⟨u, vs'', hu, h3, h4⟩ := h2.head
      have h5 := h4.of_nil
      subst h5; subst hu
      have : vs = #[.int .i64 a, .int .i64 m] := by
        have e1 : v = .int .i64 a := by cases h1 with | pv _ _ h => cases h; rfl
        have e2 : u = .int .i64 m := by cases h3 with | pv _ _ h => cases h; rfl
        subst e1; subst e2
        cases vs; simpa using hv
      subst this
      refine .inl ⟨bodied 10 (by kernel_rfl), (within_calls a m hc.1 hc.2 w).mono ?_⟩
      rintro e w' ⟨rfl, rfl⟩
      exact ⟨_, rfl, .pv _ _ (.int _ _), R, Evo.refl _ _ _⟩
    · simp at h
  · simp at h
/-- A law whose run by rules gives true. -/
theorem law_of {f lim d : Nat} {args : List AV} (hb : ((Try.prog.funcs[f]?).bind (·.body)).isSome = true) (hc : CA (callA Try.prog facts plains lim d) f args (AI.hf []) 0 fun v hp' nb' => v = .pv (.bool true)) {vs : Array Value} {w : World}
    (hvs : @RepL stand (fun _ => False) (AI.hf []) (fun _ => (0, 0)) w args vs.toList) : Calls Try.prog f vs w fun e w' => e = .returned (.bool true) ∧ Below w.heap.size w w' := by
  letI : Val := stand
  obtain ⟨v, h', hr, rfl⟩ := hc [] rfl rfl
  refine (call_plain ext facts_ok facts_cong names orders hb hr hvs).mono ?_
  rintro e w' ⟨y, rfl, φ', hy, hR, hE⟩
  rw [repA_bool hy]
  exact ⟨rfl, evo_below hE⟩
end Go.Proofs.Ytlinbbjobjnipaa

set_option linter.unusedVariables false
set_option linter.unusedSimpArgs false
set_option linter.unusedSectionVars false
namespace Go.Proofs.Ytlinbbjobjnipaa
open Go AI
set_option maxHeartbeats 4000000
set_option maxRecDepth 10000
theorem sameF_refl (m : M) (f : Nat) : sameF m m f = true := by
  unfold sameF
  split <;> simp
theorem sameM_refl (m : M) : sameM m m = true := by
  unfold sameM
  simp [sameF_refl]
section
variable {n : Nat} {ops rest : List Oper} {g : Gm} {hp : Hp} {nb : Nat} {Q : Gm → Hp → Nat → Prop}
/-- A call of the document's Encode. -/
theorem ro_refenc (d0 : Nat) {d : Nat} {x : Operand} {ats : Array TypeId} {ty : TypeId} {pos : String} {aft : Array Edge} {m : M} {L D : AV} (hk : m.key.length = 32) (hL : Row hp nb L (ints m.list)) (hD : Row hp nb D (u8s m.data)) (hsl : m.list.length < 9000) (hsd : m.data.length < 9999)
    (hx : evalF g x = .agg (mcells m L D)) (hd : d < n)
    (h2 : ∀ v hp' nb', EncOk m hp nb v hp' nb' → RO Try.prog plains (callA Try.prog facts plains 10000 (d0 + 4)) (orS facts (pureOf (callA Try.prog facts plains 10000 (d0 + 4)))) n ops rest (upd g d v) hp' nb' Q) :
    RO Try.prog plains (callA Try.prog facts plains 10000 (d0 + 4)) (orS facts (pureOf (callA Try.prog facts plains 10000 (d0 + 4)))) n ops ({ dst := some d, op := .call { callee := .value (.func 14), args := #[x], argTypes := ats }, type := ty, pos := pos, after := aft, guard := none } :: rest) g hp nb Q := by
  have hxs : (#[x] : Array Operand).toList.map (evalF g) = [.agg (mcells m L D)] := by simp [hx]
  cases hpl : ([.agg (mcells m L D)] : List AV).all plainV with
  | false => exact ro_call rfl hxs rfl hpl (refenc14 d0 hk hL hD hsl hsd) hd h2
  | true =>
    have hpl' := hpl
    rw [plain_msg hL hD, Bool.and_eq_true] at hpl'
    have hLo := (row_plain hL).1 hpl'.1
    have hDo := (row_plain hD).1 hpl'.2
    refine ro_add hxs rfl hpl (refenc14 d0 hk (row_any hL hLo) (row_any hD hDo) hsl hsd) hd ?_
    rintro v0 h' ⟨ha, hres⟩
    obtain ⟨bs, e1, e2, e3, e4, e5, e6⟩ := add_all (ha.2.2 tidy_nil) hp nb
    have haf : After hp nb (.pv .nilSlice) (addHp hp nb bs) (nb + bs.length) := ⟨by omega, fun id hid _ => e3 id hid, e4⟩
    cases hE : enc m with
    | ok r =>
      rw [hE] at hres
      obtain ⟨b', rfl, hgb, _⟩ := hres
      obtain ⟨b2, f1, f2, f3⟩ := e6 _ _ hgb
      refine ⟨.tuple [b2, .pv (.int .i64 0)], bs, ?_, e1, h2 _ _ _ ⟨haf, ?_⟩⟩
      · have : shV nb h'.length b' = some b2 := by
          cases b' with
          | agg cs => simp [shA] at f1
          | _ => exact f1
        simp only [shR, List.mapM_cons, List.mapM_nil, this, shV_pv]
        rfl
      · rw [hE]; exact ⟨b2, rfl, f2, f3⟩
    | error e =>
      rw [hE] at hres
      subst hres
      refine ⟨.tuple [.pv .nilSlice, .pv (.int .i64 e)], bs, by simp [shR, List.mapM_cons, shV, shA], e1, h2 _ _ _ ⟨haf, ?_⟩⟩
      rw [hE]
end
theorem neq_same {x : List Nat} : binOpA Try.prog .neq 9 (.pv (.str x)) (.pv (.str x)) = some (.pv (.bool false)) := by rw [neq_str]; simp
theorem neq4_same {b : Bool} : binOpA Try.prog .neq 4 (.pv (.bool b)) (.pv (.bool b)) = some (.pv (.bool false)) := by rw [neq4_v]; simp
/-- What holds of the law's memory at the head of its loop. -/
structure WI (hp : Hp) (nb : Nat) (m o : M) (L D Lo Do : AV) : Prop where
  lm : AI.look hp 0 1 = some (mcells m L D)
  lo : AI.look hp 1 1 = some (mcells o Lo Do)
  rl : Row hp nb L (ints m.list)
  rd : Row hp nb D (u8s m.data)
  pd : ownOf D = none
  pl : ∀ id, ownOf L = some id → 2 ≤ id
  ft : Fit m
  sl : m.list.length < 50
  sd : m.data.length < 8000
  kb : ∀ z ∈ m.key, 0 ≤ z ∧ z ≤ 255
  mb : ∀ z ∈ m.data, 0 ≤ z ∧ z ≤ 255
  td : Tidy hp nb
  n2 : 2 ≤ nb
theorem WI.keep {hp hp' : Hp} {nb nb' : Nat} {m o : M} {L D Lo Do : AV} (h : WI hp nb m o L D Lo Do) (ha : After hp nb (.pv .nilSlice) hp' nb') : WI hp' nb' m o L D Lo Do :=
  have k : ∀ id, id < nb → hp' id = hp id := fun id hid => ha.2.1 id hid (by simp [ownOf])
  ⟨by rw [look_at 1 (k 0 (by have := h.n2; omega))]; exact h.lm, by rw [look_at 1 (k 1 (by have := h.n2; omega))]; exact h.lo, h.rl.keep ha.1 (fun id hid _ => k id hid), h.rd.keep ha.1 (fun id hid _ => k id hid), h.pd, h.pl, h.ft, h.sl, h.sd, h.kb, h.mb, ha.2.2 h.td, by have := ha.1; have := h.n2; omega⟩
end Go.Proofs.Ytlinbbjobjnipaa

set_option linter.unusedVariables false
set_option linter.unusedSimpArgs false
set_option linter.unusedSectionVars false
namespace Go.Proofs.Ytlinbbjobjnipaa
open Go AI
set_option maxHeartbeats 4000000
set_option maxRecDepth 10000
theorem rows_keep {hp hp' : Hp} {nb nb' : Nat} {v : AV} {l : List PV} (r : Row hp nb v l) (ha : After hp nb (.pv .nilSlice) hp' nb') : Row hp' nb' v l :=
  r.keep ha.1 (fun id hid _ => ha.2.1 id hid (by simp [ownOf]))
theorem looks_keep {hp hp' : Hp} {nb nb' id ver : Nat} {cs : List AV} (h : AI.look hp id ver = some cs) (hid : id < nb) (ha : After hp nb (.pv .nilSlice) hp' nb') : AI.look hp' id ver = some cs := by
  rw [look_at ver (ha.2.1 id hid (by simp [ownOf]))]; exact h
theorem readsNeeds : needs (regOf Try.f5 9) = [(7, 13)] := by kernel_rfl
theorem readsStat : statOk (regOf Try.f5 9) = true := by kernel_rfl
section
variable {n : Nat} {ops rest : List Oper} {g : Gm} {hp : Hp} {nb : Nat} {Q : Gm → Hp → Nat → Prop}
/-- A call of the document's Parse. -/
theorem ro_refparse (d0 : Nat) {d : Nat} {x : Operand} {ats : Array TypeId} {ty : TypeId} {pos : String} {aft : Array Edge} {v : AV} {b : List Int} (hb : ∀ x ∈ b, 0 ≤ x ∧ x ≤ 255) (hr : Row hp nb v (u8s b)) (hsz : b.length < 100000)
    (hx : evalF g x = v) (hd : d < n)
    (h2 : ∀ v' hp' nb', ParseOk b hp nb v' hp' nb' → RO Try.prog plains (callA Try.prog facts plains 10000 (d0 + 4)) (orS facts (pureOf (callA Try.prog facts plains 10000 (d0 + 4)))) n ops rest (upd g d v') hp' nb' Q) :
    RO Try.prog plains (callA Try.prog facts plains 10000 (d0 + 4)) (orS facts (pureOf (callA Try.prog facts plains 10000 (d0 + 4)))) n ops ({ dst := some d, op := .call { callee := .value (.func 16), args := #[x], argTypes := ats }, type := ty, pos := pos, after := aft, guard := none } :: rest) g hp nb Q := by
  have hxs : (#[x] : Array Operand).toList.map (evalF g) = [v] := by simp [hx]
  cases ho : ownOf v with
  | some id =>
    have hpl : ([v] : List AV).all plainV = false := by rw [row_pl hr, ho]; rfl
    exact ro_call rfl hxs rfl hpl (refparse16 d0 hb hr hsz) hd h2
  | none =>
    have hpl : ([v] : List AV).all plainV = true := by rw [row_pl hr, ho]; rfl
    refine ro_add hxs rfl hpl (refparse16 d0 hb (row_any hr ho) hsz) hd ?_
    rintro v0 h' ⟨ha, hres⟩
    obtain ⟨bs, e1, e2, e3, e4, e5, e6⟩ := add_all (ha.2.2 tidy_nil) hp nb
    have haf : After hp nb (.pv .nilSlice) (addHp hp nb bs) (nb + bs.length) := ⟨by omega, fun id hid _ => e3 id hid, e4⟩
    have hsh : ∀ {m : M} {L D L2 D2 : AV} (e : Int), shA nb h'.length L = some L2 → shA nb h'.length D = some D2 → shR nb h'.length (.tuple [.agg (mcells m L D), .pv (.int .i64 e)]) = some (.tuple [.agg (mcells m L2 D2), .pv (.int .i64 e)]) := by
      intro m L D L2 D2 e f1 g1
      have : shV nb h'.length (.agg (mcells m L D)) = some (.agg (mcells m L2 D2)) := by
        show Option.map AV.agg _ = _
        rw [sh_msg f1 g1]
        rfl
      simp only [shR, List.mapM_cons, List.mapM_nil, this, shV_pv]
      rfl
    cases hE : dec b with
    | ok m =>
      rw [hE] at hres
      obtain ⟨hk, L, D, rfl, hL, hD, _, _⟩ := hres
      obtain ⟨L2, f1, f2, f3, _⟩ := e5 _ _ hL
      obtain ⟨D2, g1, g2, g3, _⟩ := e5 _ _ hD
      refine ⟨_, bs, hsh 0 f1 g1, e1, h2 _ _ _ ⟨haf, ?_⟩⟩
      rw [hE]
      exact ⟨hk, L2, D2, rfl, f2, g2, f3, g3⟩
    | error e =>
      rw [hE] at hres
      subst hres
      refine ⟨_, bs, hsh e (shA_pv _ _ _) (shA_pv _ _ _), e1, h2 _ _ _ ⟨haf, ?_⟩⟩
      rw [hE]
      rfl
end
def decN (b : List Int) : Int := match dec b with | .ok _ => 0 | .error e => e
def decM (b : List Int) : M := match dec b with | .ok m => m | .error _ => zeroM
theorem zeroM_small : Sm zeroM := zero_small (k := 0) (by omega)
theorem decM_small {b : List Int} (hb : ∀ x ∈ b, 0 ≤ x ∧ x ≤ 255) : Sm (decM b) := by
  unfold decM
  cases hE : dec b with
  | ok m => exact dec_small hb hE
  | error e => exact zeroM_small
theorem dec_split {b : List Int} {hp hp' : Hp} {nb nb' : Nat} {v : AV} (h : ParseOk b hp nb v hp' nb') : ∃ L D, v = .tuple [.agg (mcells (decM b) L D), .pv (.int .i64 (decN b))] ∧ Row hp' nb' L (ints (decM b).list) ∧ Row hp' nb' D (u8s (decM b).data) := by
  obtain ⟨_, h⟩ := h
  unfold decN decM
  cases hE : dec b with
  | ok m =>
    rw [hE] at h
    obtain ⟨_, L, D, e, r1, r2, _, _⟩ := h
    exact ⟨L, D, e, r1, r2⟩
  | error e =>
    rw [hE] at h
    exact ⟨.pv .nilSlice, .pv .nilSlice, h, .nil, .nil⟩
theorem decN_0 {b : List Int} (hb : ∀ x ∈ b, 0 ≤ x ∧ x ≤ 255) (h : decN b = 0) : enc (decM b) = .ok b := by
  unfold decN at h
  unfold decM
  cases hE : dec b with
  | ok m => exact enc_dec hb hE
  | error e =>
    rw [hE] at h
    exfalso
    have h : e = 0 := h
    subst h
    have hn : ∀ {b : List Int} {e : Int}, (∀ x ∈ b, 0 ≤ x ∧ x ≤ 255) → dec b = .error e → e ≠ 0 := by
      intro b e hb he
      rcases first_byte b with ⟨h1, h2⟩ | ⟨_, k, r, fs, rfl, _, hrow⟩
      · rw [h2] at he
        simp only [Except.error.injEq] at he
        rw [← he]; exact h1
      · have := dec_ref (k := k) (r := r) (fun x hx => hb x (List.mem_cons_of_mem _ hx)) hrow
        rw [he] at this
        exact this.2
    exact hn hb hE rfl
set_option maxHeartbeats 8000000 in
theorem reads_run {m : M} {L D Rw Ar Br : AV} {raw ar br : List Int} {cut : Int} (hf : Fit m) (hL : Row (AI.hf []) 0 L (ints m.list)) (hD : Row (AI.hf []) 0 D (u8s m.data)) (hk8 : ∀ z ∈ m.key, 0 ≤ z ∧ z ≤ 255) (hd8 : ∀ z ∈ m.data, 0 ≤ z ∧ z ≤ 255) (hL1 : ownOf L = none) (hD1 : ownOf D = none)
    (hRw : ∀ hp nb, Row hp nb Rw (u8s raw)) (hraw : ∀ z ∈ raw, 0 ≤ z ∧ z ≤ 255) (hAr : ∀ hp nb, Row hp nb Ar (ints ar)) (har : ∀ z ∈ ar, (Lit.int .i64 z).wf = true) (hBr : ∀ hp nb, Row hp nb Br (u8s br)) (hbr : ∀ z ∈ br, 0 ≤ z ∧ z ≤ 255) (hcut : (Lit.int .i64 cut).wf = true) :
    CA (callA Try.prog facts plains 10000 20) 5 [.agg (mcells m L D), Rw, Ar, Br, .pv (.int .i64 cut)] (AI.hf []) 0 fun v hp' nb' => v = .pv (.bool true) := by
  have hk := hf.key
  have lraw : (u8s raw).length = raw.length := by simp [u8s]
  have lar : (ints ar).length = ar.length := by simp [ints]
  have lbr : (u8s br).length = br.length := by simp [u8s]
  have hcr := wf_range hcut
  refine ca_body (d := 19) (fn := Try.f5) (c := bodyOf Try.f5) Try.func5 rfl (by show 5 ≤ 202; omega) ?_
  show EX _ _ _ _ _ 202 _ _ _ _ _
  unfold bodyOf Try.f5
  refine ex_seq (ex_region ?_)
  refine ro_box (v := .agg (mcells m L D)) (by simp [evalF, argsF]) (mc_all (row_cell hL).1 (row_cell hD).1) (by decide) ?_
  refine ro_assign (by simp only [evalF, upd, arg0, argS, ofConst, ofCell, Nat.reduceEqDiff, reduceIte] <;> rfl) (by decide) ?_
  refine ro_nil ?_
  try simp only
  have ht1 : Tidy (setHp (AI.hf []) 0 (.cells 1 (mcells m L D))) 1 := tidy_new tidy_nil (ok_cells (row_okC hL hL1) (row_okC hD hD1))
  have hl1 : AI.look (setHp (AI.hf []) 0 (.cells 1 (mcells m L D))) 0 1 = some (mcells m L D) := look_same _ _ _ _
  show EX _ _ _ _ _ 202 _ _ (setHp (AI.hf []) 0 (.cells 1 (mcells m L D))) _ _
  generalize setHp (AI.hf []) 0 (.cells 1 (mcells m L D)) = hp1 at ht1 hl1 ⊢
  refine ex_seq (ex_seq (ex_region ?_))
  refine ro_pure (f := 9) («as» := []) rfl rfl rfl (show orS facts _ _ 9 [] = some (.pv (.bool true)) from rfl) (by decide) ?_
  refine ro_un (by simp only [evalF, upd, arg0, argS, ofConst, ofCell, Nat.reduceEqDiff, reduceIte] <;> rfl) (by exact (show unOpA .not (.pv (.bool true)) = some (.pv (.bool false)) from rfl)) (by decide) ?_
  refine ro_nil ?_
  try simp only
  refine ex_cond (t := false) (by simp only [evalF, upd, arg0, argS, ofConst, ofCell, Nat.reduceEqDiff, reduceIte] <;> rfl) (fun h => by simp at h) (fun _ => ex_skip ?_)
  try simp only
  refine ex_seq (ex_seq (ex_region ?_))
  refine ro_load (by simp only [evalF, upd, arg0, argS, ofConst, ofCell, Nat.reduceEqDiff, reduceIte] <;> rfl) (by exact (load_whole hk hl1)) (by decide) ?_
  refine ro_pure (f := 12) («as» := [.agg (mcells m L D)]) rfl (by simp [evalF, upd]) rfl (show orS facts _ _ 12 _ = _ from by unfold orS facts; exact few_calls facts plains 10000 18 hk hL hD hL1 hD1 _) (by decide) ?_
  refine ro_un (by simp only [evalF, upd, arg0, argS, ofConst, ofCell, Nat.reduceEqDiff, reduceIte] <;> rfl) (by exact (show unOpA .not (.pv (.bool (fewM m))) = some (.pv (.bool (!fewM m))) from rfl)) (by decide) ?_
  refine ro_move (by simp only [evalF, upd, arg0, argS, ofConst, ofCell, Nat.reduceEqDiff, reduceIte] <;> rfl) (by decide) ?_
  refine ro_gsel (b := !fewM m) (want := false) (v := Rw) rfl (by simp only [evalF, upd, arg0, argS, ofConst, ofCell, Nat.reduceEqDiff, reduceIte] <;> rfl) rfl (fun hb => by simp only [primA, evalF, upd, arg0, argS, Nat.reduceEqDiff, reduceIte, selV_hit hb] <;> rfl) (by decide) ?_
  refine ro_gsel (b := !fewM m) (want := false) (v := .pv (.int .i64 (u8s raw).length)) rfl (by simp only [evalF, upd, arg0, argS, ofConst, ofCell, Nat.reduceEqDiff, reduceIte] <;> rfl) rfl (fun hb => by
    simp only [primA, List.map_cons, List.map_nil, evalF, upd, Nat.reduceEqDiff, reduceIte, selV_hit hb]
    exact row_len st27 (hRw hp1 1)) (by decide) ?_
  refine ro_gsel (b := !fewM m) (want := false) (v := .pv (.bool (decide (((u8s raw).length : Int) > 500)))) rfl (by simp only [evalF, upd, arg0, argS, ofConst, ofCell, Nat.reduceEqDiff, reduceIte] <;> rfl) rfl (fun hb => by simp only [primA, evalF, upd, ofConst, ofCell, Nat.reduceEqDiff, reduceIte, selV_hit hb, gtr_v, Option.map_some] <;> rfl) (by decide) ?_
  refine ro_por (b := !fewM m) (z := decide (((u8s raw).length : Int) > 500)) (by simp only [evalF, upd, arg0, argS, ofConst, ofCell, Nat.reduceEqDiff, reduceIte] <;> rfl) (by simp only [evalF, upd, Nat.reduceEqDiff, reduceIte] <;> rfl) (by decide) ?_
  refine ro_nil ?_
  try simp only
  refine ex_cond (t := !fewM m || decide (((u8s raw).length : Int) > 500)) (by simp only [evalF, upd, arg0, argS, ofConst, ofCell, Nat.reduceEqDiff, reduceIte] <;> rfl) (fun hfw => ?_) (fun hfw => ?_)
  · refine ex_seq (ex_region ?_)
    refine ro_assign (by simp only [evalF, upd, arg0, argS, ofConst, ofCell, Nat.reduceEqDiff, reduceIte] <;> rfl) (by decide) ?_
    refine ro_nil ?_
    try simp only
    refine ex_ret ?_
    exact ⟨_, rfl, by simp [upd, ofConst, ofCell, evalF]⟩
  refine ex_skip ?_
  try simp only
  simp only [Bool.or_eq_false_iff, Bool.not_eq_false', decide_eq_false_iff_not] at hfw
  obtain ⟨hsd, hsl⟩ := few_data hfw.1
  have hrl : raw.length ≤ 500 := by have := hfw.2; omega
  have hgf := fit_good hf
  have hgk := hgf.key
  -- the bytes
  refine ex_seq (ex_region ?_)
  refine ro_load (by simp only [evalF, upd, arg0, argS, ofConst, ofCell, Nat.reduceEqDiff, reduceIte] <;> rfl) (by exact (load_whole hk hl1)) (by decide) ?_
  refine ro_good 18 hf (row_any hL hL1) (row_any hD hD1) hL1 hD1 (by omega) (by omega) (by omega) (by simp only [evalF, upd, arg0, argS, ofConst, ofCell, Nat.reduceEqDiff, reduceIte] <;> rfl) (by decide) ?_
  intro L' D' hp2 nb2 hL2 hD2 hDo2 hLo2 ha2
  refine ro_refenc 15 hgk hL2 hD2 (by simp [goodM]; omega) (by simp [goodM]; omega) (by simp only [evalF, upd, arg0, argS, ofConst, ofCell, Nat.reduceEqDiff, reduceIte] <;> rfl) (by decide) ?_
  rintro v hp3 nb3 ⟨ha3, hres⟩
  obtain ⟨r0, hE, hlen⟩ := enc_good m hk
  rw [hE] at hres
  obtain ⟨b0, rfl, hg0, ho0⟩ := hres
  have hx0 : ∀ z ∈ (goodM m).kind :: r0, 0 ≤ z ∧ z ≤ 255 := enc_bytes (m := goodM m) hk8 (fun z hz => hd8 z (List.mem_of_mem_take hz)) hE
  have hl7 : ((goodM m).kind :: r0).length ≤ 7000 := by
    have h1 : lenOf (goodM m) ≤ 6100 := by
      have a1 : (goodM m).list.length ≤ 10 := by simp [goodM]; omega
      have a2 : (goodM m).data.length ≤ 6000 := by simp [goodM]; omega
      unfold lenOf
      repeat' split
      all_goals omega
    simp only [List.length_cons]; omega
  have hl0 : 1 ≤ ((goodM m).kind :: r0).length := by simp
  generalize (goodM m).kind :: r0 = x0 at hg0 hx0 hl7 hl0
  have ht3 : Tidy hp3 nb3 := ha3.2.2 (ha2.2.2 ht1)
  clear hE hlen ha2 ha3 hL2 hD2 hDo2 hLo2 hl1 ht1 ho0
  refine ro_move (by simp only [evalF, upd, arg0, argS, ofConst, ofCell, Nat.reduceEqDiff, reduceIte] <;> rfl) (by decide) ?_
  refine ro_extract (by simp only [evalF, upd, arg0, argS, ofConst, ofCell, Nat.reduceEqDiff, reduceIte] <;> rfl) (by exact (rfl)) (by decide) ?_
  refine ro_extract (by simp only [evalF, upd, arg0, argS, ofConst, ofCell, Nat.reduceEqDiff, reduceIte] <;> rfl) (by exact (rfl)) (by decide) ?_
  refine ro_assign (by simp only [evalF, upd, arg0, argS, ofConst, ofCell, Nat.reduceEqDiff, reduceIte] <;> rfl) (by decide) ?_
  refine ro_assign (by simp only [evalF, upd, arg0, argS, ofConst, ofCell, Nat.reduceEqDiff, reduceIte] <;> rfl) (by decide) ?_
  refine ro_nil ?_
  try simp only
  -- some are turned
  refine ex_seq (ex_weaken (K := fun xx g' hp' nb' => xx = .normal ∧ g' 1 = Rw ∧ g' 4 = .pv (.int .i64 cut) ∧ ∃ b1 x1, g' 11 = b1 ∧ Grow hp' nb' b1 (u8s x1) ∧ (∀ z ∈ x1, 0 ≤ z ∧ z ≤ 255) ∧ x1.length = x0.length ∧ Tidy hp' nb') ?_ ?_)
  · refine ex_seq (ex_region ?_)
    refine ro_assign (by simp only [evalF, upd, arg0, argS, ofConst, ofCell, Nat.reduceEqDiff, reduceIte] <;> rfl) (by decide) ?_
    refine ro_nil ?_
    try simp only
    refine ex_block (ex_loop (I := fun k g hpx nbx => ∃ (i : Nat) (b1 : AV) (x1 : List Int), k = 3 - i ∧ i ≤ 3 ∧ g 1 = Rw ∧ g 2 = Ar ∧ g 3 = Br ∧ g 4 = .pv (.int .i64 cut) ∧ g 11 = b1 ∧ g 13 = .pv (.int .i64 i) ∧ Grow hpx nbx b1 (u8s x1) ∧ (∀ z ∈ x1, 0 ≤ z ∧ z ≤ 255) ∧ x1.length = x0.length ∧ Tidy hpx nbx)
      (m := 3) ⟨0, b0, x0, rfl, by omega, by simp [upd, argsF], by simp [upd, argsF], by simp [upd, argsF], by simp [upd, argsF], by simp [upd], by simp [upd, ofConst, ofCell, evalF], hg0, hx0, rfl, ht3⟩ (by omega) ?_)
    rintro k g hpx nbx ⟨i, b1, x1, hkk, hi, g1, g2, g3, g4, g11, g13, hg1, hx1, hxl, htx⟩
    refine ex_seq (ex_seq (ex_region ?_))
    refine ro_move (by simp only [evalF, upd, arg0, argS, ofConst, ofCell, Nat.reduceEqDiff, reduceIte, g1, g2, g3, g4, g11, g13] <;> rfl) (by decide) ?_
    refine ro_move (by simp only [evalF, upd, arg0, argS, ofConst, ofCell, Nat.reduceEqDiff, reduceIte, g1, g2, g3, g4, g11, g13] <;> rfl) (by decide) ?_
    refine ro_builtin rfl (by simp only [List.map_cons, List.map_nil, evalF, upd, arg0, argS, ofConst, ofCell, Nat.reduceEqDiff, reduceIte, g1, g2, g3, g4, g11, g13] <;> rfl) (by exact (row_len st24 (hAr hpx nbx))) (by decide) ?_
    refine ro_bin (by simp only [evalF, upd, arg0, argS, ofConst, ofCell, Nat.reduceEqDiff, reduceIte, g1, g2, g3, g4, g11, g13] <;> rfl) (by simp only [evalF, upd, arg0, argS, ofConst, ofCell, Nat.reduceEqDiff, reduceIte, g1, g2, g3, g4, g11, g13] <;> rfl) (by exact (lss_v)) (by decide) ?_
    rw [lar]
    refine ro_move (by simp only [evalF, upd, arg0, argS, ofConst, ofCell, Nat.reduceEqDiff, reduceIte, g1, g2, g3, g4, g11, g13] <;> rfl) (by decide) ?_
    refine ro_gsel (b := decide ((i : Int) < ar.length)) (want := true) (v := .pv (.int .i64 i)) rfl (by simp only [evalF, upd, arg0, argS, ofConst, ofCell, Nat.reduceEqDiff, reduceIte, g1, g2, g3, g4, g11, g13] <;> rfl) rfl (fun hb => by simp only [primA, evalF, upd, Nat.reduceEqDiff, reduceIte, selV_hit hb, g13] <;> rfl) (by decide) ?_
    refine ro_gsel (b := decide ((i : Int) < ar.length)) (want := true) (v := Br) rfl (by simp only [evalF, upd, arg0, argS, ofConst, ofCell, Nat.reduceEqDiff, reduceIte, g1, g2, g3, g4, g11, g13] <;> rfl) rfl (fun hb => by simp only [primA, evalF, upd, Nat.reduceEqDiff, reduceIte, selV_hit hb, g3] <;> rfl) (by decide) ?_
    refine ro_gsel (b := decide ((i : Int) < ar.length)) (want := true) (v := .pv (.int .i64 (u8s br).length)) rfl (by simp only [evalF, upd, arg0, argS, ofConst, ofCell, Nat.reduceEqDiff, reduceIte, g1, g2, g3, g4, g11, g13] <;> rfl) rfl (fun hb => by
      simp only [primA, List.map_cons, List.map_nil, evalF, upd, Nat.reduceEqDiff, reduceIte, selV_hit hb]
      exact row_len st27 (hBr hpx nbx)) (by decide) ?_
    refine ro_gsel (b := decide ((i : Int) < ar.length)) (want := true) (v := .pv (.bool (decide ((i : Int) < (u8s br).length)))) rfl (by simp only [evalF, upd, arg0, argS, ofConst, ofCell, Nat.reduceEqDiff, reduceIte, g1, g2, g3, g4, g11, g13] <;> rfl) rfl (fun hb => by simp only [primA, evalF, upd, Nat.reduceEqDiff, reduceIte, selV_hit hb, lss_v, Option.map_some] <;> rfl) (by decide) ?_
    refine ro_pand (b := decide ((i : Int) < ar.length)) (z := decide ((i : Int) < (u8s br).length)) (by simp only [evalF, upd, arg0, argS, ofConst, ofCell, Nat.reduceEqDiff, reduceIte, g1, g2, g3, g4, g11, g13] <;> rfl) (by simp only [evalF, upd, Nat.reduceEqDiff, reduceIte] <;> rfl) (by decide) ?_
    rw [lbr]
    refine ro_move (by simp only [evalF, upd, arg0, argS, ofConst, ofCell, Nat.reduceEqDiff, reduceIte, g1, g2, g3, g4, g11, g13] <;> rfl) (by decide) ?_
    refine ro_gsel (b := decide ((i : Int) < ar.length) && decide ((i : Int) < br.length)) (want := true) (v := .pv (.int .i64 i)) rfl (by simp only [evalF, upd, arg0, argS, ofConst, ofCell, Nat.reduceEqDiff, reduceIte, g1, g2, g3, g4, g11, g13] <;> rfl) rfl (fun hb => by simp only [primA, evalF, upd, Nat.reduceEqDiff, reduceIte, selV_hit hb, g13] <;> rfl) (by decide) ?_
    refine ro_gsel (b := decide ((i : Int) < ar.length) && decide ((i : Int) < br.length)) (want := true) (v := .pv (.bool (decide ((i : Int) < 3)))) rfl (by simp only [evalF, upd, arg0, argS, ofConst, ofCell, Nat.reduceEqDiff, reduceIte, g1, g2, g3, g4, g11, g13] <;> rfl) rfl (fun hb => by simp only [primA, evalF, upd, ofConst, ofCell, Nat.reduceEqDiff, reduceIte, selV_hit hb, lss_v, Option.map_some] <;> rfl) (by decide) ?_
    refine ro_pand (b := decide ((i : Int) < ar.length) && decide ((i : Int) < br.length)) (z := decide ((i : Int) < 3)) (by simp only [evalF, upd, arg0, argS, ofConst, ofCell, Nat.reduceEqDiff, reduceIte, g1, g2, g3, g4, g11, g13] <;> rfl) (by simp only [evalF, upd, Nat.reduceEqDiff, reduceIte] <;> rfl) (by decide) ?_
    refine ro_nil ?_
    try simp only
    refine ex_cond (t := (decide ((i : Int) < ar.length) && decide ((i : Int) < br.length)) && decide ((i : Int) < 3)) (by simp only [evalF, upd, arg0, argS, ofConst, ofCell, Nat.reduceEqDiff, reduceIte, g1, g2, g3, g4, g11, g13] <;> rfl) (fun hc => ?_) (fun hc => ?_)
    rotate_left
    · refine ex_exit ?_
      simp only [if_true]
      exact ⟨trivial, by simp [upd, g1], by simp [upd, g4], b1, x1, by simp [upd, g11], hg1, hx1, hxl, htx⟩
    refine ex_skip ?_
    try simp only
    simp only [Bool.and_eq_true, decide_eq_true_eq] at hc
    have hia : i < ar.length := by omega
    have hib : i < br.length := by omega
    have ga : (ints ar)[i]? = some (.int .i64 ar[i]) := by unfold ints; rw [List.getElem?_map, List.getElem?_eq_getElem hia]; rfl
    have gb : (u8s br)[i]? = some (.int .u8 br[i]) := by unfold u8s; rw [List.getElem?_map, List.getElem?_eq_getElem hib]; rfl
    obtain ⟨pa, qa, ra⟩ := row_at st24 (hAr hpx nbx) ga
    obtain ⟨pb, qb, rb⟩ := row_at st27 (hBr hpx nbx) gb
    have lx1 : (u8s x1).length = x1.length := by simp [u8s]
    obtain ⟨w, hw⟩ := Int.eq_ofNat_of_zero_le (Int.emod_nonneg ar[i] (show (x1.length : Int) ≠ 0 by omega))
    have hwl : w < x1.length := by
      have := Int.emod_lt_of_pos ar[i] (show (0 : Int) < x1.length by omega)
      omega
    obtain ⟨id, ver, hid, hown, hia', hlk, hset⟩ := grow_at hg1 hwl
    have hxw : ((u8s x1).map AV.pv)[w]? = some (.pv (.int .u8 x1[w])) := by simp [u8s, hwl]
    refine ex_seq (ex_block ?_)
    refine ex_draw readsStat ?_
    refine rdw_move rfl (by simp only [evalF, upd, arg0, argS, ofConst, ofCell, Nat.reduceEqDiff, reduceIte, g1, g2, g3, g4, g11, g13] <;> rfl) (by decide) ?_
    refine rdw_move rfl (by simp only [evalF, upd, arg0, argS, ofConst, ofCell, Nat.reduceEqDiff, reduceIte, g1, g2, g3, g4, g11, g13] <;> rfl) (by decide) ?_
    refine rdw_move rfl (by simp only [evalF, upd, arg0, argS, ofConst, ofCell, Nat.reduceEqDiff, reduceIte, g1, g2, g3, g4, g11, g13] <;> rfl) (by decide) ?_
    refine rdw_indexAddr rfl (by simp only [evalF, upd, arg0, argS, ofConst, ofCell, Nat.reduceEqDiff, reduceIte, g1, g2, g3, g4, g11, g13] <;> rfl) (by simp only [evalF, upd, arg0, argS, ofConst, ofCell, Nat.reduceEqDiff, reduceIte, g1, g2, g3, g4, g11, g13] <;> rfl) (by exact (qa)) (by decide) ?_
    refine rdw_load rfl (by simp only [evalF, upd, arg0, argS, ofConst, ofCell, Nat.reduceEqDiff, reduceIte, g1, g2, g3, g4, g11, g13] <;> rfl) (by exact (ra)) (by decide) ?_
    refine rdw_move rfl (by simp only [evalF, upd, arg0, argS, ofConst, ofCell, Nat.reduceEqDiff, reduceIte, g1, g2, g3, g4, g11, g13] <;> rfl) (by decide) ?_
    refine rdw_builtin rfl (by simp only [List.map_cons, List.map_nil, evalF, upd, Nat.reduceEqDiff, reduceIte] <;> rfl) (by exact (row_len st27 hg1.row)) (by decide) ?_
    rw [lx1]
    refine rdw_pure (f := 10) (xs := [.pv (.int .i64 ar[i]), .pv (.int .i64 x1.length)]) rfl (by simp [evalF, upd]) rfl (facts_within (har _ (List.getElem_mem hia)) (by omega)) (by decide) ?_
    rw [hw]
    refine rdw_indexAddr rfl (by simp only [evalF, upd, arg0, argS, ofConst, ofCell, Nat.reduceEqDiff, reduceIte, g1, g2, g3, g4, g11, g13] <;> rfl) (by simp only [evalF, upd, arg0, argS, ofConst, ofCell, Nat.reduceEqDiff, reduceIte, g1, g2, g3, g4, g11, g13] <;> rfl) (by exact (hia')) (by decide) ?_
    refine rdw_load rfl (by simp only [evalF, upd, arg0, argS, ofConst, ofCell, Nat.reduceEqDiff, reduceIte, g1, g2, g3, g4, g11, g13] <;> rfl) (by exact (load1 ag5 hlk hxw)) (by decide) ?_
    refine rdw_move rfl (by simp only [evalF, upd, arg0, argS, ofConst, ofCell, Nat.reduceEqDiff, reduceIte, g1, g2, g3, g4, g11, g13] <;> rfl) (by decide) ?_
    refine rdw_move rfl (by simp only [evalF, upd, arg0, argS, ofConst, ofCell, Nat.reduceEqDiff, reduceIte, g1, g2, g3, g4, g11, g13] <;> rfl) (by decide) ?_
    refine rdw_indexAddr rfl (by simp only [evalF, upd, arg0, argS, ofConst, ofCell, Nat.reduceEqDiff, reduceIte, g1, g2, g3, g4, g11, g13] <;> rfl) (by simp only [evalF, upd, arg0, argS, ofConst, ofCell, Nat.reduceEqDiff, reduceIte, g1, g2, g3, g4, g11, g13] <;> rfl) (by exact (qb)) (by decide) ?_
    refine rdw_load rfl (by simp only [evalF, upd, arg0, argS, ofConst, ofCell, Nat.reduceEqDiff, reduceIte, g1, g2, g3, g4, g11, g13] <;> rfl) (by exact (rb)) (by decide) ?_
    refine rdw_bin rfl (by simp only [evalF, upd, arg0, argS, ofConst, ofCell, Nat.reduceEqDiff, reduceIte, g1, g2, g3, g4, g11, g13] <;> rfl) (by simp only [evalF, upd, arg0, argS, ofConst, ofCell, Nat.reduceEqDiff, reduceIte, g1, g2, g3, g4, g11, g13] <;> rfl) (by exact (add_u8)) (by decide) ?_
    refine rdw_indexAddr rfl (by simp only [evalF, upd, arg0, argS, ofConst, ofCell, Nat.reduceEqDiff, reduceIte, g1, g2, g3, g4, g11, g13] <;> rfl) (by simp only [evalF, upd, arg0, argS, ofConst, ofCell, Nat.reduceEqDiff, reduceIte, g1, g2, g3, g4, g11, g13] <;> rfl) (by exact (hia')) (by decide) ?_
    refine rdw_store rfl (by simp only [evalF, upd, arg0, argS, ofConst, ofCell, Nat.reduceEqDiff, reduceIte, g1, g2, g3, g4, g11, g13] <;> rfl) (by simp only [evalF, upd, arg0, argS, ofConst, ofCell, Nat.reduceEqDiff, reduceIte, g1, g2, g3, g4, g11, g13] <;> rfl) (hset _).1 (look_live hlk) ?_
    refine rd_nil ⟨dyn_of rfl (fun p hp' => ?_), ?_⟩
    · have hp'' : p ∈ needs (regOf Try.f5 9) := hp'
      rw [readsNeeds] at hp''
      simp only [List.mem_cons, List.not_mem_nil, or_false] at hp''
      subst hp''
      intro x y hx hy
      cases hx; cases hy
      exact heapPart_no rfl rfl
    try simp only
    refine ex_region ?_
    refine ro_move (by simp only [evalF, upd, arg0, argS, ofConst, ofCell, Nat.reduceEqDiff, reduceIte, g1, g2, g3, g4, g11, g13] <;> rfl) (by decide) ?_
    refine ro_bin (by simp only [evalF, upd, arg0, argS, ofConst, ofCell, Nat.reduceEqDiff, reduceIte, g1, g2, g3, g4, g11, g13] <;> rfl) (by simp only [evalF, upd, arg0, argS, ofConst, ofCell, Nat.reduceEqDiff, reduceIte, g1, g2, g3, g4, g11, g13] <;> rfl) (by exact (add_v (by omega))) (by decide) ?_
    refine ro_assign (by simp only [evalF, upd, arg0, argS, ofConst, ofCell, Nat.reduceEqDiff, reduceIte, g1, g2, g3, g4, g11, g13] <;> rfl) (by decide) ?_
    refine ro_nil ?_
    refine ⟨3 - (i + 1), by omega, i + 1, b1, x1.set w (u8 (x1[w] + br[i])), rfl, by omega, by simp [upd, g1], by simp [upd, g2], by simp [upd, g3], by simp [upd, g4], by simp [upd, g11], by simp [upd], (hset _).2, fun z hz => ?_, by simp [hxl], tidy_put htx (pvs_ok _)⟩
    rcases List.mem_or_eq_of_mem_set hz with hz | rfl
    · exact hx1 z hz
    · exact u8_byte _
  rintro xx g5 hp5 nb5 ⟨rfl, g1, g4, b1, x1, g11, hg1, hx1, hxl, ht5⟩
  try simp only
  have lx1 : (u8s x1).length = x1.length := by simp [u8s]
  -- it is cut
  refine ex_seq (ex_weaken (K := fun xx g' hp' nb' => xx = .normal ∧ g' 1 = Rw ∧ ∃ b2 x2, g' 11 = b2 ∧ Row hp' nb' b2 (u8s x2) ∧ (∀ z ∈ x2, 0 ≤ z ∧ z ≤ 255) ∧ x2.length ≤ 7000 ∧ hp' = hp5 ∧ nb' = nb5) ?_ ?_)
  · refine ex_seq (ex_region ?_)
    refine ro_move (by simp only [evalF, upd, arg0, argS, ofConst, ofCell, Nat.reduceEqDiff, reduceIte, g1, g4, g11] <;> rfl) (by decide) ?_
    refine ro_bin (by simp only [evalF, upd, arg0, argS, ofConst, ofCell, Nat.reduceEqDiff, reduceIte, g1, g4, g11] <;> rfl) (by simp only [evalF, upd, arg0, argS, ofConst, ofCell, Nat.reduceEqDiff, reduceIte, g1, g4, g11] <;> rfl) (by exact (rem_v (by decide))) (by decide) ?_
    refine ro_bin (by simp only [evalF, upd, arg0, argS, ofConst, ofCell, Nat.reduceEqDiff, reduceIte, g1, g4, g11] <;> rfl) (by simp only [evalF, upd, arg0, argS, ofConst, ofCell, Nat.reduceEqDiff, reduceIte, g1, g4, g11] <;> rfl) (by exact (eql_v)) (by decide) ?_
    refine ro_nil ?_
    try simp only
    refine ex_cond (t := (cut.tmod 2 == 1)) (by simp only [evalF, upd, arg0, argS, ofConst, ofCell, Nat.reduceEqDiff, reduceIte, g1, g4, g11] <;> rfl) (fun hc => ?_) (fun hc => ?_)
    · obtain ⟨w, hw⟩ := Int.eq_ofNat_of_zero_le (Int.emod_nonneg (cut.tdiv 2) (show ((x1.length : Int) + 1) ≠ 0 by omega))
      have hwl : w ≤ x1.length := by
        have := Int.emod_lt_of_pos (cut.tdiv 2) (show (0 : Int) < (x1.length : Int) + 1 by omega)
        omega
      obtain ⟨b2, s1, s2, s3⟩ := row_slice st27 hg1.row (lo := 0) (hi := w) (lv := none) (hv := some (.pv (.int .i64 w))) (.inr ⟨rfl, rfl⟩) (.inl rfl) (Nat.zero_le _) (by omega)
      have es : ((u8s x1).drop 0).take (w - 0) = u8s (x1.take w) := by simp [u8s, List.map_take]
      rw [es] at s2
      refine ex_region ?_
      refine ro_move (by simp only [evalF, upd, arg0, argS, ofConst, ofCell, Nat.reduceEqDiff, reduceIte, g1, g4, g11] <;> rfl) (by decide) ?_
      refine ro_move (by simp only [evalF, upd, arg0, argS, ofConst, ofCell, Nat.reduceEqDiff, reduceIte, g1, g4, g11] <;> rfl) (by decide) ?_
      refine ro_bin (by simp only [evalF, upd, arg0, argS, ofConst, ofCell, Nat.reduceEqDiff, reduceIte, g1, g4, g11] <;> rfl) (by simp only [evalF, upd, arg0, argS, ofConst, ofCell, Nat.reduceEqDiff, reduceIte, g1, g4, g11] <;> rfl) (by exact (quo2_v hcr)) (by decide) ?_
      refine ro_move (by simp only [evalF, upd, arg0, argS, ofConst, ofCell, Nat.reduceEqDiff, reduceIte, g1, g4, g11] <;> rfl) (by decide) ?_
      refine ro_builtin rfl (by simp only [List.map_cons, List.map_nil, evalF, upd, arg0, argS, ofConst, ofCell, Nat.reduceEqDiff, reduceIte, g1, g4, g11] <;> rfl) (by exact (row_len st27 hg1.row)) (by decide) ?_
      refine ro_bin (by simp only [evalF, upd, arg0, argS, ofConst, ofCell, Nat.reduceEqDiff, reduceIte, g1, g4, g11] <;> rfl) (by simp only [evalF, upd, arg0, argS, ofConst, ofCell, Nat.reduceEqDiff, reduceIte, g1, g4, g11] <;> rfl) (by exact (add_v (by omega))) (by decide) ?_
      rw [lx1]
      refine ro_pure (f := 10) («as» := [.pv (.int .i64 (cut.tdiv 2)), .pv (.int .i64 ((x1.length : Int) + 1))]) rfl (by simp [evalF, upd]) rfl (facts_within (wf_in (half_in hcr)) (by omega)) (by decide) ?_
      rw [hw]
      refine ro_slice (by simp only [evalF, upd, arg0, argS, ofConst, ofCell, Nat.reduceEqDiff, reduceIte, g1, g4, g11] <;> rfl) rfl (by simp only [Option.map_some, evalF, upd, Nat.reduceEqDiff, reduceIte] <;> rfl) rfl s1 (by decide) ?_
      refine ro_assign (by simp only [evalF, upd, arg0, argS, ofConst, ofCell, Nat.reduceEqDiff, reduceIte, g1, g4, g11] <;> rfl) (by decide) ?_
      refine ro_nil ?_
      exact ⟨by first | rfl | trivial, by simp [upd, g1], b2, x1.take w, by simp [upd], s2, fun z hz => hx1 z (List.mem_of_mem_take hz), by simp; omega, rfl, rfl⟩
    · refine ex_skip ?_
      exact ⟨by first | rfl | trivial, by simp [upd, g1], b1, x1, by simp [upd, g11], hg1.row, hx1, by omega, rfl, rfl⟩
  rintro xx g6 hp6 nb6 ⟨rfl, g1', b2, x2, g11', hr2, hx2, hl2, e1, e2⟩
  rw [e1, e2]
  rw [e1, e2] at hr2
  clear e1 e2 hp6 nb6
  try simp only
  -- three rows
  refine ex_seq (ex_region ?_)
  refine ro_move (by simp only [evalF, upd, arg0, argS, ofConst, ofCell, Nat.reduceEqDiff, reduceIte, g1', g11'] <;> rfl) (by decide) ?_
  refine ro_buildSlice rfl (bs27_0 _) (by decide) ?_
  refine ro_move (by simp only [evalF, upd, arg0, argS, ofConst, ofCell, Nat.reduceEqDiff, reduceIte, g1', g11'] <;> rfl) (by decide) ?_
  have ha6 := after_new hp5 nb5 (.pv .nilSlice) [] (by simp)
  have hr6 := rows_keep hr2 ha6
  refine ro_append (r := u8s x2) (l := []) st27 Try.underlying27 (by simp only [evalF, upd, arg0, argS, ofConst, ofCell, Nat.reduceEqDiff, reduceIte, g1', g11'] <;> rfl) (by simp only [evalF, upd, arg0, argS, ofConst, ofCell, Nat.reduceEqDiff, reduceIte, g1', g11'] <;> rfl) (.own nb5 1 0 true [] rfl (by omega) (by simp [setHp])) (row_src hr6) (by simp [u8s]; omega) (by decide) ?_
  intro v7 hp7 nb7 hg7 ha7 ho7
  refine ro_move (by simp only [evalF, upd, arg0, argS, ofConst, ofCell, Nat.reduceEqDiff, reduceIte, g1', g11'] <;> rfl) (by decide) ?_
  refine ro_append (r := u8s raw) st27 Try.underlying27 (by simp only [evalF, upd, arg0, argS, ofConst, ofCell, Nat.reduceEqDiff, reduceIte, g1', g11'] <;> rfl) (by simp only [evalF, upd, arg0, argS, ofConst, ofCell, Nat.reduceEqDiff, reduceIte, g1', g11'] <;> rfl) hg7 (row_src (hRw hp7 nb7)) (by simp [u8s]; omega) (by decide) ?_
  intro v8 hp8 nb8 hg8 ha8 ho8
  refine ro_move (by simp only [evalF, upd, arg0, argS, ofConst, ofCell, Nat.reduceEqDiff, reduceIte, g1', g11'] <;> rfl) (by decide) ?_
  have hax7 : After hp5 nb5 (.pv .nilSlice) hp7 nb7 := after_nil ha6 ha7 (fun id h => by simp only [ownOf, Option.some.injEq] at h; omega)
  have hax8 : After hp5 nb5 (.pv .nilSlice) hp8 nb8 := after_nil hax7 ha8 (fun id h => by
    rcases ho7 id h with h | h
    · simp only [ownOf, Option.some.injEq] at h; omega
    · omega)
  have hr8 := rows_keep hr2 hax8
  have hg8' : Row hp8 nb8 v8 (u8s (x2 ++ raw)) := by
    have e : u8s (x2 ++ raw) = [] ++ u8s x2 ++ u8s raw := by simp [u8s]
    rw [e]; exact hg8.row
  refine ro_buildSlice rfl (by simp only [List.map_cons, List.map_nil, evalF, upd, Nat.reduceEqDiff, reduceIte, g1', g11']; exact bs38 ⟨(row_cell hr8).2, (row_cell hr8).1⟩ ⟨(row_cell hg8').2, (row_cell hg8').1⟩ ⟨(row_cell (hRw hp8 nb8)).2, (row_cell (hRw hp8 nb8)).1⟩) (by decide) ?_
  refine ro_assign (by simp only [evalF, upd, arg0, argS, ofConst, ofCell, Nat.reduceEqDiff, reduceIte, g1', g11'] <;> rfl) (by decide) ?_
  refine ro_nil ?_
  try simp only
  have ha9 : After hp8 nb8 (.pv .nilSlice) (setHp hp8 nb8 (.cells 1 [b2, v8, Rw])) (nb8 + 1) := after_new hp8 nb8 _ _ (by
    intro c hc
    simp only [List.mem_cons, List.not_mem_nil, or_false] at hc
    rcases hc with rfl | rfl | rfl
    · exact row_ok' hr8
    · exact row_ok' hg8'
    · exact row_ok' (hRw hp8 nb8))
  have hl9 : AI.look (setHp hp8 nb8 (.cells 1 [b2, v8, Rw])) nb8 1 = some [b2, v8, Rw] := look_same _ _ _ _
  have ht9 := ha9.2.2 (hax8.2.2 ht5)
  have hq9 := rows_keep hr8 ha9
  have hs9 := rows_keep hg8' ha9
  generalize setHp hp8 nb8 (.cells 1 [b2, v8, Rw]) = hp9 at ha9 hl9 ht9 hq9 hs9 ⊢
  have hrows : ∀ k : Nat, k < 3 → ∃ v x, ([b2, v8, Rw] : List AV)[k]? = some v ∧ Row hp9 (nb8 + 1) v (u8s x) ∧ (∀ z ∈ x, 0 ≤ z ∧ z ≤ 255) ∧ x.length ≤ 7500 := by
    intro k hk
    have : k = 0 ∨ k = 1 ∨ k = 2 := by omega
    rcases this with rfl | rfl | rfl
    · exact ⟨b2, x2, rfl, hq9, hx2, by omega⟩
    · exact ⟨v8, x2 ++ raw, rfl, hs9, fun z hz => (List.mem_append.1 hz).elim (hx2 z) (hraw z), by simp; omega⟩
    · exact ⟨Rw, raw, rfl, hRw _ _, hraw, by omega⟩
  refine ex_seq ?_
  refine ex_seq (ex_region ?_)
  refine ro_assign (by simp only [evalF, upd, arg0, argS, ofConst, ofCell, Nat.reduceEqDiff, reduceIte, g1', g11'] <;> rfl) (by decide) ?_
  refine ro_nil ?_
  try simp only
  refine ex_block (ex_loop (I := fun k g hpx nbx => ∃ i : Nat, k = 3 - i ∧ i ≤ 3 ∧ g 14 = .slice nb8 1 0 3 3 1 true ∧ g 15 = .pv (.int .i64 i) ∧ After hp9 (nb8 + 1) (.pv .nilSlice) hpx nbx)
    (m := 3) ⟨0, rfl, by omega, by simp [upd], by simp [upd, ofConst, ofCell, evalF], after_refl _ _ _⟩ (by omega) ?_)
  clear g1 g4 g11 g1' g11' hr8 hg8' hg8 hg7 hr6 hq9 hs9 hax7 hax8 ha9 ha8 ha7 ha6
  rintro k g hpx nbx ⟨i, hkk, hi, g14, g15, hax⟩
  refine ex_seq (ex_seq (ex_region ?_))
  refine ro_move (by simp only [evalF, upd, arg0, argS, ofConst, ofCell, Nat.reduceEqDiff, reduceIte, g14, g15] <;> rfl) (by decide) ?_
  refine ro_bin (by simp only [evalF, upd, arg0, argS, ofConst, ofCell, Nat.reduceEqDiff, reduceIte, g14, g15] <;> rfl) (by simp only [evalF, upd, arg0, argS, ofConst, ofCell, Nat.reduceEqDiff, reduceIte, g14, g15] <;> rfl) (by exact (lss_v)) (by decide) ?_
  refine ro_nil ?_
  try simp only
  refine ex_cond (t := decide ((i : Int) < 3)) (by simp only [evalF, upd, arg0, argS, ofConst, ofCell, Nat.reduceEqDiff, reduceIte, g14, g15] <;> rfl) (fun ht => ?_) (fun ht => ?_)
  rotate_left
  · refine ex_exit ?_
    simp only [if_true]
    refine ex_seq (ex_region ?_)
    refine ro_assign (by simp only [evalF, upd, arg0, argS, ofConst, ofCell, Nat.reduceEqDiff, reduceIte, g14, g15] <;> rfl) (by decide) ?_
    refine ro_nil ?_
    try simp only
    refine ex_ret ?_
    exact ⟨_, rfl, by simp [upd, ofConst, ofCell, evalF]⟩
  refine ex_skip ?_
  try simp only
  have hil : i < 3 := by
    have := of_decide_eq_true ht
    omega
  obtain ⟨v, x, hvi, hrv9, hxb, hxl'⟩ := hrows i hil
  have hrv := rows_keep hrv9 hax
  have hlx := looks_keep hl9 (Nat.lt_succ_self _) hax
  have htx := hax.2.2 ht9
  have hsm := decM_small hxb
  have hfx := sm_fit hsm
  have hkx := hsm.key
  refine ex_seq (ex_block ?_)
  -- Parse
  refine ex_seq (ex_region ?_)
  refine ro_buildSlice rfl (bs27_0 _) (by decide) ?_
  have ha10 := after_new hpx nbx (.pv .nilSlice) [] (by simp)
  have hlx10 := looks_keep hlx (by have := hax.1; omega) ha10
  have hrv10 := rows_keep hrv ha10
  refine ro_move (by simp only [evalF, upd, arg0, argS, ofConst, ofCell, Nat.reduceEqDiff, reduceIte, g14, g15] <;> rfl) (by decide) ?_
  refine ro_move (by simp only [evalF, upd, arg0, argS, ofConst, ofCell, Nat.reduceEqDiff, reduceIte, g14, g15] <;> rfl) (by decide) ?_
  refine ro_indexAddr (by simp only [evalF, upd, arg0, argS, ofConst, ofCell, Nat.reduceEqDiff, reduceIte, g14, g15] <;> rfl) (by simp only [evalF, upd, arg0, argS, ofConst, ofCell, Nat.reduceEqDiff, reduceIte, g14, g15] <;> rfl) (by exact (ia38 hil)) (by decide) ?_
  refine ro_load (by simp only [evalF, upd, arg0, argS, ofConst, ofCell, Nat.reduceEqDiff, reduceIte, g14, g15] <;> rfl) (by exact (load1 ag27 hlx10 hvi)) (by decide) ?_
  refine ro_append (r := u8s x) (l := []) st27 Try.underlying27 (by simp only [evalF, upd, arg0, argS, ofConst, ofCell, Nat.reduceEqDiff, reduceIte, g14, g15] <;> rfl) (by simp only [evalF, upd, arg0, argS, ofConst, ofCell, Nat.reduceEqDiff, reduceIte, g14, g15] <;> rfl) (.own nbx 1 0 true [] rfl (by omega) (by simp [setHp])) (row_src hrv10) (by simp [u8s]; omega) (by decide) ?_
  intro v11 hp11 nb11 hg11 ha11 ho11
  have hax11 : After hpx nbx (.pv .nilSlice) hp11 nb11 := after_nil ha10 ha11 (fun id h => by simp only [ownOf, Option.some.injEq] at h; omega)
  refine ro_parse 13 hxb (by simpa using hg11.row) (by simp only [evalF, upd, arg0, argS, ofConst, ofCell, Nat.reduceEqDiff, reduceIte, g14, g15] <;> rfl) (by decide) ?_
  rintro v12 hp12 nb12 hP12
  have ha12 := hP12.1
  obtain ⟨L1, D1, rfl, rL1, rD1⟩ := dec_split hP12
  refine ro_move (by simp only [evalF, upd, arg0, argS, ofConst, ofCell, Nat.reduceEqDiff, reduceIte, g14, g15] <;> rfl) (by decide) ?_
  refine ro_extract (by simp only [evalF, upd, arg0, argS, ofConst, ofCell, Nat.reduceEqDiff, reduceIte, g14, g15] <;> rfl) (by exact (rfl)) (by decide) ?_
  refine ro_extract (by simp only [evalF, upd, arg0, argS, ofConst, ofCell, Nat.reduceEqDiff, reduceIte, g14, g15] <;> rfl) (by exact (rfl)) (by decide) ?_
  refine ro_alloc zero30 (by kernel_rfl) (by decide) ?_
  refine ro_store (by simp only [evalF, upd, arg0, argS, ofConst, ofCell, Nat.reduceEqDiff, reduceIte, g14, g15] <;> rfl) (by simp only [evalF, upd, arg0, argS, ofConst, ofCell, Nat.reduceEqDiff, reduceIte, g14, g15] <;> rfl) (storeZ (look_same _ _ _ _) (mc_all (row_cell rL1).1 (row_cell rD1).1) (mc_length hkx) z_len) ?_
  refine ro_assign (by simp only [evalF, upd, arg0, argS, ofConst, ofCell, Nat.reduceEqDiff, reduceIte, g14, g15] <;> rfl) (by decide) ?_
  refine ro_nil ?_
  try simp only
  have ha13 : After hp12 nb12 (.pv .nilSlice) (setHp (setHp hp12 nb12 (.cells 1 zcells)) nb12 (.cells 1 (mcells (decM x) L1 D1))) (nb12 + 1) :=
    after_put (after_new hp12 nb12 _ _ (z_ok _)) (Nat.le_refl _) (ok_cells (okC_mono (Nat.le_succ _) (row_ok' rL1)) (okC_mono (Nat.le_succ _) (row_ok' rD1)))
  have hl13 : AI.look (setHp (setHp hp12 nb12 (.cells 1 zcells)) nb12 (.cells 1 (mcells (decM x) L1 D1))) nb12 1 = some (mcells (decM x) L1 D1) := look_same _ _ _ _
  have rL13 := rows_keep rL1 ha13
  have rD13 := rows_keep rD1 ha13
  have hax13 := after_nil (after_nil hax11 ha12 (fun id h => by simp [ownOf] at h)) ha13 (fun id h => by simp [ownOf] at h)
  show EX _ _ _ _ _ 202 _ _ (setHp (setHp hp12 nb12 (.cells 1 zcells)) nb12 (.cells 1 (mcells (decM x) L1 D1))) _ _
  generalize setHp (setHp hp12 nb12 (.cells 1 zcells)) nb12 (.cells 1 (mcells (decM x) L1 D1)) = hp13 at ha13 hl13 rL13 rD13 hax13 ⊢
  have hn12 : nbx ≤ nb12 := by have := hax11.1; have := ha12.1; omega
  have hlx13 := looks_keep hlx (by have := hax.1; omega) hax13
  have hrv13 := rows_keep hrv hax13
  -- the document's
  refine ex_seq (ex_region ?_)
  refine ro_move (by simp only [evalF, upd, arg0, argS, ofConst, ofCell, Nat.reduceEqDiff, reduceIte, g14, g15] <;> rfl) (by decide) ?_
  refine ro_move (by simp only [evalF, upd, arg0, argS, ofConst, ofCell, Nat.reduceEqDiff, reduceIte, g14, g15] <;> rfl) (by decide) ?_
  refine ro_indexAddr (by simp only [evalF, upd, arg0, argS, ofConst, ofCell, Nat.reduceEqDiff, reduceIte, g14, g15] <;> rfl) (by simp only [evalF, upd, arg0, argS, ofConst, ofCell, Nat.reduceEqDiff, reduceIte, g14, g15] <;> rfl) (by exact (ia38 hil)) (by decide) ?_
  refine ro_load (by simp only [evalF, upd, arg0, argS, ofConst, ofCell, Nat.reduceEqDiff, reduceIte, g14, g15] <;> rfl) (by exact (load1 ag27 hlx13 hvi)) (by decide) ?_
  refine ro_refparse 15 hxb hrv13 (by omega) (by simp only [evalF, upd, arg0, argS, ofConst, ofCell, Nat.reduceEqDiff, reduceIte, g14, g15] <;> rfl) (by decide) ?_
  rintro v14 hp14 nb14 hP14
  have ha14 := hP14.1
  obtain ⟨L2, D2, rfl, rL2, rD2⟩ := dec_split hP14
  refine ro_move (by simp only [evalF, upd, arg0, argS, ofConst, ofCell, Nat.reduceEqDiff, reduceIte, g14, g15] <;> rfl) (by decide) ?_
  refine ro_extract (by simp only [evalF, upd, arg0, argS, ofConst, ofCell, Nat.reduceEqDiff, reduceIte, g14, g15] <;> rfl) (by exact (rfl)) (by decide) ?_
  refine ro_extract (by simp only [evalF, upd, arg0, argS, ofConst, ofCell, Nat.reduceEqDiff, reduceIte, g14, g15] <;> rfl) (by exact (rfl)) (by decide) ?_
  refine ro_alloc zero30 (by kernel_rfl) (by decide) ?_
  refine ro_store (by simp only [evalF, upd, arg0, argS, ofConst, ofCell, Nat.reduceEqDiff, reduceIte, g14, g15] <;> rfl) (by simp only [evalF, upd, arg0, argS, ofConst, ofCell, Nat.reduceEqDiff, reduceIte, g14, g15] <;> rfl) (storeZ (look_same _ _ _ _) (mc_all (row_cell rL2).1 (row_cell rD2).1) (mc_length hkx) z_len) ?_
  refine ro_assign (by simp only [evalF, upd, arg0, argS, ofConst, ofCell, Nat.reduceEqDiff, reduceIte, g14, g15] <;> rfl) (by decide) ?_
  refine ro_nil ?_
  try simp only
  have ha15 : After hp14 nb14 (.pv .nilSlice) (setHp (setHp hp14 nb14 (.cells 1 zcells)) nb14 (.cells 1 (mcells (decM x) L2 D2))) (nb14 + 1) :=
    after_put (after_new hp14 nb14 _ _ (z_ok _)) (Nat.le_refl _) (ok_cells (okC_mono (Nat.le_succ _) (row_ok' rL2)) (okC_mono (Nat.le_succ _) (row_ok' rD2)))
  have hl15 : AI.look (setHp (setHp hp14 nb14 (.cells 1 zcells)) nb14 (.cells 1 (mcells (decM x) L2 D2))) nb14 1 = some (mcells (decM x) L2 D2) := look_same _ _ _ _
  have rL15 := rows_keep rL2 ha15
  have rD15 := rows_keep rD2 ha15
  have hax1315 := after_nil ha14 ha15 (fun id h => by simp [ownOf] at h)
  show EX _ _ _ _ _ 202 _ _ (setHp (setHp hp14 nb14 (.cells 1 zcells)) nb14 (.cells 1 (mcells (decM x) L2 D2))) _ _
  generalize setHp (setHp hp14 nb14 (.cells 1 zcells)) nb14 (.cells 1 (mcells (decM x) L2 D2)) = hp15 at ha15 hl15 rL15 rD15 hax1315 ⊢
  have hla15 := looks_keep hl13 (Nat.lt_succ_self _) hax1315
  have rLa15 := rows_keep rL13 hax1315
  have rDa15 := rows_keep rD13 hax1315
  have hax15 := after_nil hax13 hax1315 (fun id h => by simp [ownOf] at h)
  have ht15 := hax15.2.2 htx
  have hn14 : nb12 + 1 ≤ nb14 := ha14.1
  have two15 : Two hp15 (nb14 + 1) (decM x) (decM x) L1 D1 L2 D2 := ⟨hkx, hkx, rLa15, rDa15, rL15, rD15, by have := hsm.ll; omega, by have := hsm.dl; omega, hsm.db, hsm.db⟩
  clear hlx10 hrv10 hg11 ha11 hax11 ha12 hP12 hP14 ha14 hl13 rL13 rD13 hlx13 hrv13 rL1 rD1 rL2 rD2 ha13 ha15 hax13 hax1315 ha10
  -- held against one another
  refine ex_seq (ex_seq (ex_region ?_))
  refine ro_move (by simp only [evalF, upd, arg0, argS, ofConst, ofCell, Nat.reduceEqDiff, reduceIte, g14, g15] <;> rfl) (by decide) ?_
  refine ro_move (by simp only [evalF, upd, arg0, argS, ofConst, ofCell, Nat.reduceEqDiff, reduceIte, g14, g15] <;> rfl) (by decide) ?_
  refine ro_bin (by simp only [evalF, upd, arg0, argS, ofConst, ofCell, Nat.reduceEqDiff, reduceIte, g14, g15] <;> rfl) (by simp only [evalF, upd, arg0, argS, ofConst, ofCell, Nat.reduceEqDiff, reduceIte, g14, g15] <;> rfl) (by exact (neq_f rfl)) (by decide) ?_
  refine ro_move (by simp only [evalF, upd, arg0, argS, ofConst, ofCell, Nat.reduceEqDiff, reduceIte, g14, g15] <;> rfl) (by decide) ?_
  refine ro_guard rfl (by simp only [evalF, upd, arg0, argS, ofConst, ofCell, Nat.reduceEqDiff, reduceIte, g14, g15] <;> rfl) rfl ?_
  refine ro_fieldAddr (by simp only [evalF, upd, arg0, argS, ofConst, ofCell, Nat.reduceEqDiff, reduceIte, g14, g15] <;> rfl) (by exact (fa30_0 _ _ _)) (by decide) ?_
  refine ro_guard rfl (by simp only [evalF, upd, arg0, argS, ofConst, ofCell, Nat.reduceEqDiff, reduceIte, g14, g15] <;> rfl) rfl ?_
  refine ro_load (by simp only [evalF, upd, arg0, argS, ofConst, ofCell, Nat.reduceEqDiff, reduceIte, g14, g15] <;> rfl) (by exact (load1 ag3 hla15 mc0)) (by decide) ?_
  refine ro_guard rfl (by simp only [evalF, upd, arg0, argS, ofConst, ofCell, Nat.reduceEqDiff, reduceIte, g14, g15] <;> rfl) rfl ?_
  refine ro_fieldAddr (by simp only [evalF, upd, arg0, argS, ofConst, ofCell, Nat.reduceEqDiff, reduceIte, g14, g15] <;> rfl) (by exact (fa30_0 _ _ _)) (by decide) ?_
  refine ro_guard rfl (by simp only [evalF, upd, arg0, argS, ofConst, ofCell, Nat.reduceEqDiff, reduceIte, g14, g15] <;> rfl) rfl ?_
  refine ro_load (by simp only [evalF, upd, arg0, argS, ofConst, ofCell, Nat.reduceEqDiff, reduceIte, g14, g15] <;> rfl) (by exact (load1 ag3 hl15 mc0)) (by decide) ?_
  refine ro_guard rfl (by simp only [evalF, upd, arg0, argS, ofConst, ofCell, Nat.reduceEqDiff, reduceIte, g14, g15] <;> rfl) rfl ?_
  refine ro_bin (by simp only [evalF, upd, arg0, argS, ofConst, ofCell, Nat.reduceEqDiff, reduceIte, g14, g15] <;> rfl) (by simp only [evalF, upd, arg0, argS, ofConst, ofCell, Nat.reduceEqDiff, reduceIte, g14, g15] <;> rfl) (by exact (neq_f rfl)) (by decide) ?_
  refine ro_pick (by simp only [evalF, upd, arg0, argS, ofConst, ofCell, Nat.reduceEqDiff, reduceIte, g14, g15] <;> rfl) (by simp only [evalF, upd, arg0, argS, ofConst, ofCell, Nat.reduceEqDiff, reduceIte, g14, g15] <;> rfl) (by simp only [evalF, upd, arg0, argS, ofConst, ofCell, Nat.reduceEqDiff, reduceIte, g14, g15] <;> rfl) (by decide) ?_
  refine ro_move (by simp only [evalF, upd, arg0, argS, ofConst, ofCell, Nat.reduceEqDiff, reduceIte, g14, g15] <;> rfl) (by decide) ?_
  refine ro_guard rfl (by simp only [evalF, upd, arg0, argS, ofConst, ofCell, Nat.reduceEqDiff, reduceIte, g14, g15] <;> rfl) rfl ?_
  refine ro_load (by simp only [evalF, upd, arg0, argS, ofConst, ofCell, Nat.reduceEqDiff, reduceIte, g14, g15] <;> rfl) (by exact (load_whole hkx hla15)) (by decide) ?_
  refine ro_guard rfl (by simp only [evalF, upd, arg0, argS, ofConst, ofCell, Nat.reduceEqDiff, reduceIte, g14, g15] <;> rfl) rfl ?_
  refine ro_load (by simp only [evalF, upd, arg0, argS, ofConst, ofCell, Nat.reduceEqDiff, reduceIte, g14, g15] <;> rfl) (by exact (load_whole hkx hl15)) (by decide) ?_
  refine ro_guard rfl (by simp only [evalF, upd, arg0, argS, ofConst, ofCell, Nat.reduceEqDiff, reduceIte, g14, g15] <;> rfl) rfl ?_
  refine ro_bool (f := 17) (xs := [.agg (mcells (decM x) L1 D1), .agg (mcells (decM x) L2 D2)]) (r := sameM (decM x) (decM x)) (by simp [calleeA, evalF, upd]) rfl (both17 17 ht15 two15).1 (both17 17 ht15 two15).2 (by decide) ?_
  intro hp16 nb16 ha16
  rw [sameM_refl]
  have hla := looks_keep hla15 (by omega) ha16
  have hlb := looks_keep hl15 (Nat.lt_succ_self _) ha16
  have t16 := two15.keep ha16
  refine ro_guard rfl (by simp only [evalF, upd, arg0, argS, ofConst, ofCell, Nat.reduceEqDiff, reduceIte, g14, g15] <;> rfl) rfl ?_
  refine ro_un (by simp only [evalF, upd, arg0, argS, ofConst, ofCell, Nat.reduceEqDiff, reduceIte, g14, g15] <;> rfl) (by exact (show unOpA .not (.pv (.bool true)) = some (.pv (.bool false)) from rfl)) (by decide) ?_
  refine ro_pick (by simp only [evalF, upd, arg0, argS, ofConst, ofCell, Nat.reduceEqDiff, reduceIte, g14, g15] <;> rfl) (by simp only [evalF, upd, arg0, argS, ofConst, ofCell, Nat.reduceEqDiff, reduceIte, g14, g15] <;> rfl) (by simp only [evalF, upd, arg0, argS, ofConst, ofCell, Nat.reduceEqDiff, reduceIte, g14, g15] <;> rfl) (by decide) ?_
  refine ro_move (by simp only [evalF, upd, arg0, argS, ofConst, ofCell, Nat.reduceEqDiff, reduceIte, g14, g15] <;> rfl) (by decide) ?_
  refine ro_guard rfl (by simp only [evalF, upd, arg0, argS, ofConst, ofCell, Nat.reduceEqDiff, reduceIte, g14, g15] <;> rfl) rfl ?_
  refine ro_fieldAddr (by simp only [evalF, upd, arg0, argS, ofConst, ofCell, Nat.reduceEqDiff, reduceIte, g14, g15] <;> rfl) (by exact (fa30_1 _ _ _)) (by decide) ?_
  refine ro_guard rfl (by simp only [evalF, upd, arg0, argS, ofConst, ofCell, Nat.reduceEqDiff, reduceIte, g14, g15] <;> rfl) rfl ?_
  refine ro_load (by simp only [evalF, upd, arg0, argS, ofConst, ofCell, Nat.reduceEqDiff, reduceIte, g14, g15] <;> rfl) (by exact (load1 ag3 hla mc1)) (by decide) ?_
  refine ro_guard rfl (by simp only [evalF, upd, arg0, argS, ofConst, ofCell, Nat.reduceEqDiff, reduceIte, g14, g15] <;> rfl) rfl ?_
  refine ro_fieldAddr (by simp only [evalF, upd, arg0, argS, ofConst, ofCell, Nat.reduceEqDiff, reduceIte, g14, g15] <;> rfl) (by exact (fa30_1 _ _ _)) (by decide) ?_
  refine ro_guard rfl (by simp only [evalF, upd, arg0, argS, ofConst, ofCell, Nat.reduceEqDiff, reduceIte, g14, g15] <;> rfl) rfl ?_
  refine ro_load (by simp only [evalF, upd, arg0, argS, ofConst, ofCell, Nat.reduceEqDiff, reduceIte, g14, g15] <;> rfl) (by exact (load1 ag3 hlb mc1)) (by decide) ?_
  refine ro_guard rfl (by simp only [evalF, upd, arg0, argS, ofConst, ofCell, Nat.reduceEqDiff, reduceIte, g14, g15] <;> rfl) rfl ?_
  refine ro_bin (by simp only [evalF, upd, arg0, argS, ofConst, ofCell, Nat.reduceEqDiff, reduceIte, g14, g15] <;> rfl) (by simp only [evalF, upd, arg0, argS, ofConst, ofCell, Nat.reduceEqDiff, reduceIte, g14, g15] <;> rfl) (by exact (neq_f rfl)) (by decide) ?_
  refine ro_pick (by simp only [evalF, upd, arg0, argS, ofConst, ofCell, Nat.reduceEqDiff, reduceIte, g14, g15] <;> rfl) (by simp only [evalF, upd, arg0, argS, ofConst, ofCell, Nat.reduceEqDiff, reduceIte, g14, g15] <;> rfl) (by simp only [evalF, upd, arg0, argS, ofConst, ofCell, Nat.reduceEqDiff, reduceIte, g14, g15] <;> rfl) (by decide) ?_
  refine ro_move (by simp only [evalF, upd, arg0, argS, ofConst, ofCell, Nat.reduceEqDiff, reduceIte, g14, g15] <;> rfl) (by decide) ?_
  refine ro_guard rfl (by simp only [evalF, upd, arg0, argS, ofConst, ofCell, Nat.reduceEqDiff, reduceIte, g14, g15] <;> rfl) rfl ?_
  refine ro_fieldAddr (by simp only [evalF, upd, arg0, argS, ofConst, ofCell, Nat.reduceEqDiff, reduceIte, g14, g15] <;> rfl) (by exact (fa30_2 _ _ _)) (by decide) ?_
  refine ro_guard rfl (by simp only [evalF, upd, arg0, argS, ofConst, ofCell, Nat.reduceEqDiff, reduceIte, g14, g15] <;> rfl) rfl ?_
  refine ro_load (by simp only [evalF, upd, arg0, argS, ofConst, ofCell, Nat.reduceEqDiff, reduceIte, g14, g15] <;> rfl) (by exact (load1 ag3 hla mc2)) (by decide) ?_
  refine ro_guard rfl (by simp only [evalF, upd, arg0, argS, ofConst, ofCell, Nat.reduceEqDiff, reduceIte, g14, g15] <;> rfl) rfl ?_
  refine ro_fieldAddr (by simp only [evalF, upd, arg0, argS, ofConst, ofCell, Nat.reduceEqDiff, reduceIte, g14, g15] <;> rfl) (by exact (fa30_2 _ _ _)) (by decide) ?_
  refine ro_guard rfl (by simp only [evalF, upd, arg0, argS, ofConst, ofCell, Nat.reduceEqDiff, reduceIte, g14, g15] <;> rfl) rfl ?_
  refine ro_load (by simp only [evalF, upd, arg0, argS, ofConst, ofCell, Nat.reduceEqDiff, reduceIte, g14, g15] <;> rfl) (by exact (load1 ag3 hlb mc2)) (by decide) ?_
  refine ro_guard rfl (by simp only [evalF, upd, arg0, argS, ofConst, ofCell, Nat.reduceEqDiff, reduceIte, g14, g15] <;> rfl) rfl ?_
  refine ro_bin (by simp only [evalF, upd, arg0, argS, ofConst, ofCell, Nat.reduceEqDiff, reduceIte, g14, g15] <;> rfl) (by simp only [evalF, upd, arg0, argS, ofConst, ofCell, Nat.reduceEqDiff, reduceIte, g14, g15] <;> rfl) (by exact (neq_f rfl)) (by decide) ?_
  refine ro_pick (by simp only [evalF, upd, arg0, argS, ofConst, ofCell, Nat.reduceEqDiff, reduceIte, g14, g15] <;> rfl) (by simp only [evalF, upd, arg0, argS, ofConst, ofCell, Nat.reduceEqDiff, reduceIte, g14, g15] <;> rfl) (by simp only [evalF, upd, arg0, argS, ofConst, ofCell, Nat.reduceEqDiff, reduceIte, g14, g15] <;> rfl) (by decide) ?_
  refine ro_move (by simp only [evalF, upd, arg0, argS, ofConst, ofCell, Nat.reduceEqDiff, reduceIte, g14, g15] <;> rfl) (by decide) ?_
  refine ro_guard rfl (by simp only [evalF, upd, arg0, argS, ofConst, ofCell, Nat.reduceEqDiff, reduceIte, g14, g15] <;> rfl) rfl ?_
  refine ro_fieldAddr (by simp only [evalF, upd, arg0, argS, ofConst, ofCell, Nat.reduceEqDiff, reduceIte, g14, g15] <;> rfl) (by exact (fa30_4 _ _ _)) (by decide) ?_
  refine ro_guard rfl (by simp only [evalF, upd, arg0, argS, ofConst, ofCell, Nat.reduceEqDiff, reduceIte, g14, g15] <;> rfl) rfl ?_
  refine ro_load (by simp only [evalF, upd, arg0, argS, ofConst, ofCell, Nat.reduceEqDiff, reduceIte, g14, g15] <;> rfl) (by exact (load1 ag4 hla mc4)) (by decide) ?_
  refine ro_guard rfl (by simp only [evalF, upd, arg0, argS, ofConst, ofCell, Nat.reduceEqDiff, reduceIte, g14, g15] <;> rfl) rfl ?_
  refine ro_fieldAddr (by simp only [evalF, upd, arg0, argS, ofConst, ofCell, Nat.reduceEqDiff, reduceIte, g14, g15] <;> rfl) (by exact (fa30_4 _ _ _)) (by decide) ?_
  refine ro_guard rfl (by simp only [evalF, upd, arg0, argS, ofConst, ofCell, Nat.reduceEqDiff, reduceIte, g14, g15] <;> rfl) rfl ?_
  refine ro_load (by simp only [evalF, upd, arg0, argS, ofConst, ofCell, Nat.reduceEqDiff, reduceIte, g14, g15] <;> rfl) (by exact (load1 ag4 hlb mc4)) (by decide) ?_
  refine ro_guard rfl (by simp only [evalF, upd, arg0, argS, ofConst, ofCell, Nat.reduceEqDiff, reduceIte, g14, g15] <;> rfl) rfl ?_
  refine ro_bin (by simp only [evalF, upd, arg0, argS, ofConst, ofCell, Nat.reduceEqDiff, reduceIte, g14, g15] <;> rfl) (by simp only [evalF, upd, arg0, argS, ofConst, ofCell, Nat.reduceEqDiff, reduceIte, g14, g15] <;> rfl) (by exact (neq4_same)) (by decide) ?_
  refine ro_pick (by simp only [evalF, upd, arg0, argS, ofConst, ofCell, Nat.reduceEqDiff, reduceIte, g14, g15] <;> rfl) (by simp only [evalF, upd, arg0, argS, ofConst, ofCell, Nat.reduceEqDiff, reduceIte, g14, g15] <;> rfl) (by simp only [evalF, upd, arg0, argS, ofConst, ofCell, Nat.reduceEqDiff, reduceIte, g14, g15] <;> rfl) (by decide) ?_
  refine ro_move (by simp only [evalF, upd, arg0, argS, ofConst, ofCell, Nat.reduceEqDiff, reduceIte, g14, g15] <;> rfl) (by decide) ?_
  refine ro_guard rfl (by simp only [evalF, upd, arg0, argS, ofConst, ofCell, Nat.reduceEqDiff, reduceIte, g14, g15] <;> rfl) rfl ?_
  refine ro_fieldAddr (by simp only [evalF, upd, arg0, argS, ofConst, ofCell, Nat.reduceEqDiff, reduceIte, g14, g15] <;> rfl) (by exact (fa30_5 _ _ _)) (by decide) ?_
  refine ro_guard rfl (by simp only [evalF, upd, arg0, argS, ofConst, ofCell, Nat.reduceEqDiff, reduceIte, g14, g15] <;> rfl) rfl ?_
  refine ro_load (by simp only [evalF, upd, arg0, argS, ofConst, ofCell, Nat.reduceEqDiff, reduceIte, g14, g15] <;> rfl) (by exact (load_key hkx hla)) (by decide) ?_
  refine ro_guard rfl (by simp only [evalF, upd, arg0, argS, ofConst, ofCell, Nat.reduceEqDiff, reduceIte, g14, g15] <;> rfl) rfl ?_
  refine ro_fieldAddr (by simp only [evalF, upd, arg0, argS, ofConst, ofCell, Nat.reduceEqDiff, reduceIte, g14, g15] <;> rfl) (by exact (fa30_5 _ _ _)) (by decide) ?_
  refine ro_guard rfl (by simp only [evalF, upd, arg0, argS, ofConst, ofCell, Nat.reduceEqDiff, reduceIte, g14, g15] <;> rfl) rfl ?_
  refine ro_load (by simp only [evalF, upd, arg0, argS, ofConst, ofCell, Nat.reduceEqDiff, reduceIte, g14, g15] <;> rfl) (by exact (load_key hkx hlb)) (by decide) ?_
  refine ro_guard rfl (by simp only [evalF, upd, arg0, argS, ofConst, ofCell, Nat.reduceEqDiff, reduceIte, g14, g15] <;> rfl) rfl ?_
  refine ro_bin (by simp only [evalF, upd, arg0, argS, ofConst, ofCell, Nat.reduceEqDiff, reduceIte, g14, g15] <;> rfl) (by simp only [evalF, upd, arg0, argS, ofConst, ofCell, Nat.reduceEqDiff, reduceIte, g14, g15] <;> rfl) (by exact (by rw [neq_keys hkx hkx, beq_self_eq_true])) (by decide) ?_
  refine ro_pick (by simp only [evalF, upd, arg0, argS, ofConst, ofCell, Nat.reduceEqDiff, reduceIte, g14, g15] <;> rfl) (by simp only [evalF, upd, arg0, argS, ofConst, ofCell, Nat.reduceEqDiff, reduceIte, g14, g15] <;> rfl) (by simp only [evalF, upd, arg0, argS, ofConst, ofCell, Nat.reduceEqDiff, reduceIte, g14, g15] <;> rfl) (by decide) ?_
  refine ro_move (by simp only [evalF, upd, arg0, argS, ofConst, ofCell, Nat.reduceEqDiff, reduceIte, g14, g15] <;> rfl) (by decide) ?_
  refine ro_guard rfl (by simp only [evalF, upd, arg0, argS, ofConst, ofCell, Nat.reduceEqDiff, reduceIte, g14, g15] <;> rfl) rfl ?_
  refine ro_fieldAddr (by simp only [evalF, upd, arg0, argS, ofConst, ofCell, Nat.reduceEqDiff, reduceIte, g14, g15] <;> rfl) (by exact (fa30_7 _ _ _)) (by decide) ?_
  refine ro_guard rfl (by simp only [evalF, upd, arg0, argS, ofConst, ofCell, Nat.reduceEqDiff, reduceIte, g14, g15] <;> rfl) rfl ?_
  refine ro_load (by simp only [evalF, upd, arg0, argS, ofConst, ofCell, Nat.reduceEqDiff, reduceIte, g14, g15] <;> rfl) (by exact (load1 ag3 hla (mc38 hkx))) (by decide) ?_
  refine ro_guard rfl (by simp only [evalF, upd, arg0, argS, ofConst, ofCell, Nat.reduceEqDiff, reduceIte, g14, g15] <;> rfl) rfl ?_
  refine ro_fieldAddr (by simp only [evalF, upd, arg0, argS, ofConst, ofCell, Nat.reduceEqDiff, reduceIte, g14, g15] <;> rfl) (by exact (fa30_7 _ _ _)) (by decide) ?_
  refine ro_guard rfl (by simp only [evalF, upd, arg0, argS, ofConst, ofCell, Nat.reduceEqDiff, reduceIte, g14, g15] <;> rfl) rfl ?_
  refine ro_load (by simp only [evalF, upd, arg0, argS, ofConst, ofCell, Nat.reduceEqDiff, reduceIte, g14, g15] <;> rfl) (by exact (load1 ag3 hlb (mc38 hkx))) (by decide) ?_
  refine ro_guard rfl (by simp only [evalF, upd, arg0, argS, ofConst, ofCell, Nat.reduceEqDiff, reduceIte, g14, g15] <;> rfl) rfl ?_
  refine ro_bin (by simp only [evalF, upd, arg0, argS, ofConst, ofCell, Nat.reduceEqDiff, reduceIte, g14, g15] <;> rfl) (by simp only [evalF, upd, arg0, argS, ofConst, ofCell, Nat.reduceEqDiff, reduceIte, g14, g15] <;> rfl) (by exact (neq_f rfl)) (by decide) ?_
  refine ro_pick (by simp only [evalF, upd, arg0, argS, ofConst, ofCell, Nat.reduceEqDiff, reduceIte, g14, g15] <;> rfl) (by simp only [evalF, upd, arg0, argS, ofConst, ofCell, Nat.reduceEqDiff, reduceIte, g14, g15] <;> rfl) (by simp only [evalF, upd, arg0, argS, ofConst, ofCell, Nat.reduceEqDiff, reduceIte, g14, g15] <;> rfl) (by decide) ?_
  refine ro_move (by simp only [evalF, upd, arg0, argS, ofConst, ofCell, Nat.reduceEqDiff, reduceIte, g14, g15] <;> rfl) (by decide) ?_
  refine ro_guard rfl (by simp only [evalF, upd, arg0, argS, ofConst, ofCell, Nat.reduceEqDiff, reduceIte, g14, g15] <;> rfl) rfl ?_
  refine ro_fieldAddr (by simp only [evalF, upd, arg0, argS, ofConst, ofCell, Nat.reduceEqDiff, reduceIte, g14, g15] <;> rfl) (by exact (fa30_8 _ _ _)) (by decide) ?_
  refine ro_guard rfl (by simp only [evalF, upd, arg0, argS, ofConst, ofCell, Nat.reduceEqDiff, reduceIte, g14, g15] <;> rfl) rfl ?_
  refine ro_load (by simp only [evalF, upd, arg0, argS, ofConst, ofCell, Nat.reduceEqDiff, reduceIte, g14, g15] <;> rfl) (by exact (load1 ag28 hla (mc39 hkx))) (by decide) ?_
  refine ro_guard rfl (by simp only [evalF, upd, arg0, argS, ofConst, ofCell, Nat.reduceEqDiff, reduceIte, g14, g15] <;> rfl) rfl ?_
  refine ro_fieldAddr (by simp only [evalF, upd, arg0, argS, ofConst, ofCell, Nat.reduceEqDiff, reduceIte, g14, g15] <;> rfl) (by exact (fa30_8 _ _ _)) (by decide) ?_
  refine ro_guard rfl (by simp only [evalF, upd, arg0, argS, ofConst, ofCell, Nat.reduceEqDiff, reduceIte, g14, g15] <;> rfl) rfl ?_
  refine ro_load (by simp only [evalF, upd, arg0, argS, ofConst, ofCell, Nat.reduceEqDiff, reduceIte, g14, g15] <;> rfl) (by exact (load1 ag28 hlb (mc39 hkx))) (by decide) ?_
  refine ro_guard rfl (by simp only [evalF, upd, arg0, argS, ofConst, ofCell, Nat.reduceEqDiff, reduceIte, g14, g15] <;> rfl) rfl ?_
  refine ro_bin (by simp only [evalF, upd, arg0, argS, ofConst, ofCell, Nat.reduceEqDiff, reduceIte, g14, g15] <;> rfl) (by simp only [evalF, upd, arg0, argS, ofConst, ofCell, Nat.reduceEqDiff, reduceIte, g14, g15] <;> rfl) (by exact (neq_f rfl)) (by decide) ?_
  refine ro_pick (by simp only [evalF, upd, arg0, argS, ofConst, ofCell, Nat.reduceEqDiff, reduceIte, g14, g15] <;> rfl) (by simp only [evalF, upd, arg0, argS, ofConst, ofCell, Nat.reduceEqDiff, reduceIte, g14, g15] <;> rfl) (by simp only [evalF, upd, arg0, argS, ofConst, ofCell, Nat.reduceEqDiff, reduceIte, g14, g15] <;> rfl) (by decide) ?_
  refine ro_move (by simp only [evalF, upd, arg0, argS, ofConst, ofCell, Nat.reduceEqDiff, reduceIte, g14, g15] <;> rfl) (by decide) ?_
  refine ro_guard rfl (by simp only [evalF, upd, arg0, argS, ofConst, ofCell, Nat.reduceEqDiff, reduceIte, g14, g15] <;> rfl) rfl ?_
  refine ro_fieldAddr (by simp only [evalF, upd, arg0, argS, ofConst, ofCell, Nat.reduceEqDiff, reduceIte, g14, g15] <;> rfl) (by exact (fa30_3 _ _ _)) (by decide) ?_
  refine ro_guard rfl (by simp only [evalF, upd, arg0, argS, ofConst, ofCell, Nat.reduceEqDiff, reduceIte, g14, g15] <;> rfl) rfl ?_
  refine ro_load (by simp only [evalF, upd, arg0, argS, ofConst, ofCell, Nat.reduceEqDiff, reduceIte, g14, g15] <;> rfl) (by exact (load1 ag24 hla mc3)) (by decide) ?_
  refine ro_guard rfl (by simp only [evalF, upd, arg0, argS, ofConst, ofCell, Nat.reduceEqDiff, reduceIte, g14, g15] <;> rfl) rfl ?_
  refine ro_builtin rfl (by simp only [List.map_cons, List.map_nil, evalF, upd, arg0, argS, ofConst, ofCell, Nat.reduceEqDiff, reduceIte, g14, g15] <;> rfl) (by exact (row_len st24 t16.l1)) (by decide) ?_
  refine ro_guard rfl (by simp only [evalF, upd, arg0, argS, ofConst, ofCell, Nat.reduceEqDiff, reduceIte, g14, g15] <;> rfl) rfl ?_
  refine ro_fieldAddr (by simp only [evalF, upd, arg0, argS, ofConst, ofCell, Nat.reduceEqDiff, reduceIte, g14, g15] <;> rfl) (by exact (fa30_3 _ _ _)) (by decide) ?_
  refine ro_guard rfl (by simp only [evalF, upd, arg0, argS, ofConst, ofCell, Nat.reduceEqDiff, reduceIte, g14, g15] <;> rfl) rfl ?_
  refine ro_load (by simp only [evalF, upd, arg0, argS, ofConst, ofCell, Nat.reduceEqDiff, reduceIte, g14, g15] <;> rfl) (by exact (load1 ag24 hlb mc3)) (by decide) ?_
  refine ro_guard rfl (by simp only [evalF, upd, arg0, argS, ofConst, ofCell, Nat.reduceEqDiff, reduceIte, g14, g15] <;> rfl) rfl ?_
  refine ro_builtin rfl (by simp only [List.map_cons, List.map_nil, evalF, upd, arg0, argS, ofConst, ofCell, Nat.reduceEqDiff, reduceIte, g14, g15] <;> rfl) (by exact (row_len st24 t16.l2)) (by decide) ?_
  refine ro_guard rfl (by simp only [evalF, upd, arg0, argS, ofConst, ofCell, Nat.reduceEqDiff, reduceIte, g14, g15] <;> rfl) rfl ?_
  refine ro_bin (by simp only [evalF, upd, arg0, argS, ofConst, ofCell, Nat.reduceEqDiff, reduceIte, g14, g15] <;> rfl) (by simp only [evalF, upd, arg0, argS, ofConst, ofCell, Nat.reduceEqDiff, reduceIte, g14, g15] <;> rfl) (by exact (neq_f rfl)) (by decide) ?_
  refine ro_pick (by simp only [evalF, upd, arg0, argS, ofConst, ofCell, Nat.reduceEqDiff, reduceIte, g14, g15] <;> rfl) (by simp only [evalF, upd, arg0, argS, ofConst, ofCell, Nat.reduceEqDiff, reduceIte, g14, g15] <;> rfl) (by simp only [evalF, upd, arg0, argS, ofConst, ofCell, Nat.reduceEqDiff, reduceIte, g14, g15] <;> rfl) (by decide) ?_
  refine ro_move (by simp only [evalF, upd, arg0, argS, ofConst, ofCell, Nat.reduceEqDiff, reduceIte, g14, g15] <;> rfl) (by decide) ?_
  refine ro_guard rfl (by simp only [evalF, upd, arg0, argS, ofConst, ofCell, Nat.reduceEqDiff, reduceIte, g14, g15] <;> rfl) rfl ?_
  refine ro_fieldAddr (by simp only [evalF, upd, arg0, argS, ofConst, ofCell, Nat.reduceEqDiff, reduceIte, g14, g15] <;> rfl) (by exact (fa30_6 _ _ _)) (by decide) ?_
  refine ro_guard rfl (by simp only [evalF, upd, arg0, argS, ofConst, ofCell, Nat.reduceEqDiff, reduceIte, g14, g15] <;> rfl) rfl ?_
  refine ro_load (by simp only [evalF, upd, arg0, argS, ofConst, ofCell, Nat.reduceEqDiff, reduceIte, g14, g15] <;> rfl) (by exact (load1 ag27 hla (mc37 hkx))) (by decide) ?_
  refine ro_guard rfl (by simp only [evalF, upd, arg0, argS, ofConst, ofCell, Nat.reduceEqDiff, reduceIte, g14, g15] <;> rfl) rfl ?_
  refine ro_conv (by simp only [evalF, upd, arg0, argS, ofConst, ofCell, Nat.reduceEqDiff, reduceIte, g14, g15] <;> rfl) (by exact (conv_str t16.d1 hsm.db (fun _ _ => rfl))) (by decide) ?_
  refine ro_guard rfl (by simp only [evalF, upd, arg0, argS, ofConst, ofCell, Nat.reduceEqDiff, reduceIte, g14, g15] <;> rfl) rfl ?_
  refine ro_fieldAddr (by simp only [evalF, upd, arg0, argS, ofConst, ofCell, Nat.reduceEqDiff, reduceIte, g14, g15] <;> rfl) (by exact (fa30_6 _ _ _)) (by decide) ?_
  refine ro_guard rfl (by simp only [evalF, upd, arg0, argS, ofConst, ofCell, Nat.reduceEqDiff, reduceIte, g14, g15] <;> rfl) rfl ?_
  refine ro_load (by simp only [evalF, upd, arg0, argS, ofConst, ofCell, Nat.reduceEqDiff, reduceIte, g14, g15] <;> rfl) (by exact (load1 ag27 hlb (mc37 hkx))) (by decide) ?_
  refine ro_guard rfl (by simp only [evalF, upd, arg0, argS, ofConst, ofCell, Nat.reduceEqDiff, reduceIte, g14, g15] <;> rfl) rfl ?_
  refine ro_conv (by simp only [evalF, upd, arg0, argS, ofConst, ofCell, Nat.reduceEqDiff, reduceIte, g14, g15] <;> rfl) (by exact (conv_str t16.d2 hsm.db (fun _ _ => rfl))) (by decide) ?_
  refine ro_guard rfl (by simp only [evalF, upd, arg0, argS, ofConst, ofCell, Nat.reduceEqDiff, reduceIte, g14, g15] <;> rfl) rfl ?_
  refine ro_bin (by simp only [evalF, upd, arg0, argS, ofConst, ofCell, Nat.reduceEqDiff, reduceIte, g14, g15] <;> rfl) (by simp only [evalF, upd, arg0, argS, ofConst, ofCell, Nat.reduceEqDiff, reduceIte, g14, g15] <;> rfl) (by exact (neq_same)) (by decide) ?_
  refine ro_pick (by simp only [evalF, upd, arg0, argS, ofConst, ofCell, Nat.reduceEqDiff, reduceIte, g14, g15] <;> rfl) (by simp only [evalF, upd, arg0, argS, ofConst, ofCell, Nat.reduceEqDiff, reduceIte, g14, g15] <;> rfl) (by simp only [evalF, upd, arg0, argS, ofConst, ofCell, Nat.reduceEqDiff, reduceIte, g14, g15] <;> rfl) (by decide) ?_
  refine ro_nil ?_
  try simp only
  refine ex_cond (t := false) (by simp only [evalF, upd, arg0, argS, ofConst, ofCell, Nat.reduceEqDiff, reduceIte, g14, g15] <;> rfl) (fun h => by simp at h) (fun _ => ex_skip ?_)
  try simp only
  have hax16 := after_nil hax (after_nil hax15 ha16 (fun id h => by simp [ownOf] at h)) (fun id h => by simp [ownOf] at h)
  have hlx16 := looks_keep hl9 (Nat.lt_succ_self _) hax16
  have hrv16 := rows_keep hrv9 hax16
  -- what can be read is written
  refine ex_weaken (K := fun xx g' hp' nb' => xx = .normal ∧ g' 14 = .slice nb8 1 0 3 3 1 true ∧ g' 15 = .pv (.int .i64 i) ∧ After hp9 (nb8 + 1) (.pv .nilSlice) hp' nb') ?_ ?_
  · refine ex_seq (ex_region ?_)
    refine ro_move (by simp only [evalF, upd, arg0, argS, ofConst, ofCell, Nat.reduceEqDiff, reduceIte, g14, g15] <;> rfl) (by decide) ?_
    refine ro_bin (by simp only [evalF, upd, arg0, argS, ofConst, ofCell, Nat.reduceEqDiff, reduceIte, g14, g15] <;> rfl) (by simp only [evalF, upd, arg0, argS, ofConst, ofCell, Nat.reduceEqDiff, reduceIte, g14, g15] <;> rfl) (by exact (eql_v)) (by decide) ?_
    refine ro_nil ?_
    try simp only
    refine ex_cond (t := (decN x == 0)) (by simp only [evalF, upd, arg0, argS, ofConst, ofCell, Nat.reduceEqDiff, reduceIte, g14, g15] <;> rfl) (fun hc => ?_) (fun hc => ?_)
    rotate_left
    · refine ex_skip ?_
      exact ⟨by first | rfl | trivial, by simp [upd, g14], by simp [upd, g15], hax16⟩
    have henc := decN_0 hxb (by simpa using hc)
    refine ex_seq (ex_region ?_)
    refine ro_load (by simp only [evalF, upd, arg0, argS, ofConst, ofCell, Nat.reduceEqDiff, reduceIte, g14, g15] <;> rfl) (by exact (load_whole hkx hla)) (by decide) ?_
    refine ro_encode 15 hfx t16.l1 t16.d1 (by omega) (by simp only [evalF, upd, arg0, argS, ofConst, ofCell, Nat.reduceEqDiff, reduceIte, g14, g15] <;> rfl) (by decide) ?_
    rintro v17 hp17 nb17 ⟨ha17, hres⟩
    rw [henc] at hres
    obtain ⟨b3, rfl, hg17, _⟩ := hres
    refine ro_move (by simp only [evalF, upd, arg0, argS, ofConst, ofCell, Nat.reduceEqDiff, reduceIte, g14, g15] <;> rfl) (by decide) ?_
    refine ro_extract (by simp only [evalF, upd, arg0, argS, ofConst, ofCell, Nat.reduceEqDiff, reduceIte, g14, g15] <;> rfl) (by exact (rfl)) (by decide) ?_
    refine ro_extract (by simp only [evalF, upd, arg0, argS, ofConst, ofCell, Nat.reduceEqDiff, reduceIte, g14, g15] <;> rfl) (by exact (rfl)) (by decide) ?_
    refine ro_assign (by simp only [evalF, upd, arg0, argS, ofConst, ofCell, Nat.reduceEqDiff, reduceIte, g14, g15] <;> rfl) (by decide) ?_
    refine ro_assign (by simp only [evalF, upd, arg0, argS, ofConst, ofCell, Nat.reduceEqDiff, reduceIte, g14, g15] <;> rfl) (by decide) ?_
    refine ro_nil ?_
    try simp only
    have hax17 := after_nil hax16 ha17 (fun id h => by simp [ownOf] at h)
    have hlx17 := looks_keep hl9 (Nat.lt_succ_self _) hax17
    have hrv17 := rows_keep hrv9 hax17
    refine ex_seq (ex_draw (by kernel_rfl) ?_)
    refine rdw_move rfl (by simp only [evalF, upd, arg0, argS, ofConst, ofCell, Nat.reduceEqDiff, reduceIte, g14, g15] <;> rfl) (by decide) ?_
    refine rdw_conv rfl (by simp only [evalF, upd, arg0, argS, ofConst, ofCell, Nat.reduceEqDiff, reduceIte, g14, g15] <;> rfl) (by exact (conv_str hg17.row hxb (fun _ _ => rfl))) (by decide) ?_
    refine rdw_move rfl (by simp only [evalF, upd, arg0, argS, ofConst, ofCell, Nat.reduceEqDiff, reduceIte, g14, g15] <;> rfl) (by decide) ?_
    refine rdw_move rfl (by simp only [evalF, upd, arg0, argS, ofConst, ofCell, Nat.reduceEqDiff, reduceIte, g14, g15] <;> rfl) (by decide) ?_
    refine rdw_indexAddr rfl (by simp only [evalF, upd, arg0, argS, ofConst, ofCell, Nat.reduceEqDiff, reduceIte, g14, g15] <;> rfl) (by simp only [evalF, upd, arg0, argS, ofConst, ofCell, Nat.reduceEqDiff, reduceIte, g14, g15] <;> rfl) (by exact (ia38 hil)) (by decide) ?_
    refine rdw_load rfl (by simp only [evalF, upd, arg0, argS, ofConst, ofCell, Nat.reduceEqDiff, reduceIte, g14, g15] <;> rfl) (by exact (load1 ag27 hlx17 hvi)) (by decide) ?_
    refine rdw_conv rfl (by simp only [evalF, upd, arg0, argS, ofConst, ofCell, Nat.reduceEqDiff, reduceIte, g14, g15] <;> rfl) (by exact (conv_str hrv17 hxb (fun _ _ => rfl))) (by decide) ?_
    refine rdw_bin rfl (by simp only [evalF, upd, arg0, argS, ofConst, ofCell, Nat.reduceEqDiff, reduceIte, g14, g15] <;> rfl) (by simp only [evalF, upd, arg0, argS, ofConst, ofCell, Nat.reduceEqDiff, reduceIte, g14, g15] <;> rfl) (by exact (neq_same)) (by decide) ?_
    refine rd_nil ⟨rfl, ?_⟩
    try simp only
    refine ex_cond (t := false) (by simp only [evalF, upd, arg0, argS, ofConst, ofCell, Nat.reduceEqDiff, reduceIte, g14, g15] <;> rfl) (fun h => by simp at h) (fun _ => ex_skip ?_)
    exact ⟨by first | rfl | trivial, by simp [upd, g14], by simp [upd, g15], hax17⟩
  rintro xx g7 hp18 nb18 ⟨rfl, g14', g15', hax18⟩
  try simp only
  refine ex_region ?_
  refine ro_move (by simp only [evalF, upd, arg0, argS, ofConst, ofCell, Nat.reduceEqDiff, reduceIte, g14', g15'] <;> rfl) (by decide) ?_
  refine ro_bin (by simp only [evalF, upd, arg0, argS, ofConst, ofCell, Nat.reduceEqDiff, reduceIte, g14', g15'] <;> rfl) (by simp only [evalF, upd, arg0, argS, ofConst, ofCell, Nat.reduceEqDiff, reduceIte, g14', g15'] <;> rfl) (by exact (add_v (by omega))) (by decide) ?_
  refine ro_assign (by simp only [evalF, upd, arg0, argS, ofConst, ofCell, Nat.reduceEqDiff, reduceIte, g14', g15'] <;> rfl) (by decide) ?_
  refine ro_nil ?_
  exact ⟨3 - (i + 1), by omega, i + 1, rfl, by omega, by simp [upd, g14'], by simp [upd], hax18⟩
end Go.Proofs.Ytlinbbjobjnipaa

set_option linter.unusedVariables false
namespace Go.Proofs.Ytlinbbjobjnipaa.wireReads
open Go AI Go.ChangeShapes Go.WideShapes Go.ChangeAt Go.RowKit
set_option maxRecDepth 100000 in
theorem lifted (os : Os) (started : os.Started) (H : Type) (enc : TypeId × Value → H) :
    ReturnsInHanded {} Try.checked os 5 .any (Rows.wireReadsSpec.pre6 enc Try.prog Try.f5 Rows.wireReadsRow.domain false) (Rows.wireReadsSpec.post enc Try.prog Try.f5 false true false false) := by
  refine returnsInHanded_of_change (C := Try.checked) own started (by kernel_rfl) Try.func5
    (ChangeSpec.witness6 (enc := enc) (C := Try.checked) false ⟨#[], #[.agg (#[.int .i64 0, .int .i64 0, .int .i64 0, .slice none 0 0, .bool false] ++ Array.replicate 32 (.int .u8 0) ++ #[.slice none 0 0, .int .i64 0, .int .i64 0]), .slice none 0 0, .slice none 0 0, .slice none 0 0, .int .i64 0], []⟩ 8 (by kernel_rfl) (by kernel_rfl) (by kernel_rfl) (by kernel_rfl)) ?_
  intro W base args ds gs before hval0 hW hcnd _
  have hval : ∀ (j : Nat) t v, Try.f5.params[j]? = some t → args[j]? = some v → Value.okWide Try.prog W .any base t v := hval0
  have hW' := hW
  obtain ⟨p, q, hA0, hV, rfl, hfz, hnd⟩ := hW
  have hA : DataW.TrodAll enc Try.prog W 0 (fun _ => true) true Try.f5.params.toList args.toList ds p := hA0
  rw [Try.params5] at hA hval
  obtain ⟨v0, vs0, d0, ds0, p0, q0, hargs, rfl, rfl, h0, r0⟩ := trodAll_cons hA
  obtain ⟨v1, vs1, d1, ds1, p1', q1', hargs1, rfl, rfl, h1, r1⟩ := trodAll_cons r0
  obtain ⟨v2, vs2, d2, ds2, p2', q2', hargs2, rfl, rfl, h2, r2⟩ := trodAll_cons r1
  obtain ⟨v3, vs3, d3, ds3, p3', q3', hargs3, rfl, rfl, h3, r3⟩ := trodAll_cons r2
  obtain ⟨v4, vs4, d4, ds4, p4', q4', hargs4, rfl, rfl, h4, r4⟩ := trodAll_cons r3
  obtain ⟨rfl, rfl, rfl⟩ := trodAll_nil r4
  obtain rfl : args = #[v0, v1, v2, v3, v4] := by cases args; simp_all
  obtain ⟨rfl, rfl⟩ := trodVars_none hV
  obtain ⟨m, p1, p2, hf, hk8, hd8, hL, hD, hrep⟩ := @read_msg8 stand H enc W base v0 d0 p0 (hval 0 30 v0 rfl rfl) h0
  obtain ⟨a1, l1, c1, rfl⟩ := okWide_slice Try.underlying27 (hval 1 27 v1 rfl rfl)
  obtain ⟨u1, k1⟩ := h1
  obtain ⟨x1, raw, hraw, wraw, rraw⟩ := @read_row stand H enc W 0 27 5 .u8 u1 (.slice a1 l1 c1) _ Try.underlying27 Try.underlying5 (@cells5 stand) k1
  obtain ⟨a2, l2, c2, rfl⟩ := okWide_slice Try.underlying24 (hval 2 24 v2 rfl rfl)
  obtain ⟨u2, k2⟩ := h2
  obtain ⟨x2, ar, har, war, rar⟩ := @read_row stand H enc W 0 24 3 .i64 u2 (.slice a2 l2 c2) _ Try.underlying24 Try.underlying3 (@cells3 stand) k2
  obtain ⟨a3, l3, c3, rfl⟩ := okWide_slice Try.underlying27 (hval 3 27 v3 rfl rfl)
  obtain ⟨u3, k3⟩ := h3
  obtain ⟨x3, br, hbr, wbr, rbr⟩ := @read_row stand H enc W 0 27 5 .u8 u3 (.slice a3 l3 c3) _ Try.underlying27 Try.underlying5 (@cells5 stand) k3
  obtain ⟨cut, rfl, _, _, wcut⟩ := open_int Try.underlying3 (hval 4 3 v4 rfl rfl) h4
  clear hA0 hval0
  letI : Val := stand
  have hO : ∀ b, ¬ Avoid (fun _ => False) (AI.hf []) (fun _ => (0, 0)) b := fun b h => h.elim own_nil (fun h => h)
  refine (law_of (by kernel_rfl) (reads_run hf (hL _ _) (hD _ _) hk8 hd8 rfl rfl hraw (fun z hz => wf_byte (wraw z hz)) har war hbr (fun z hz => wf_byte (wbr z hz)) wcut)
    (.cons hrep (.cons (.pv _ _ (rraw _ hO)) (.cons (.pv _ _ (rar _ hO)) (.cons (.pv _ _ (rbr _ hO)) (.cons (.pv _ _ (.int _ _)) .nil)))))).mono fun e W' ⟨he, hg⟩ => ?_
  subst he
  exact ⟨_, rfl, law_post laid rowed full (by rw [Try.params5]; decide +kernel) rfl rfl hW' rfl Try.underlying4 hg⟩
theorem over : Rows.wireReadsRow.holds Try.pinned (OpenSpec.ofChange Rows.wireReadsSpec) :=
  OpenClaim.holds_of_wide 5 Try.f5 rfl rfl rfl rfl rfl rfl rfl ⟨rfl, rfl, rfl, rfl, rfl⟩ rfl rfl rfl rfl rfl (by kernel_rfl) Try.func5 (by kernel_rfl)
    (of_decide_eq_true (by kernel_rfl)) (by unfold Func.isWrapper; first | (rw [if_pos (by decide +kernel)]; kernel_rfl) | (rw [if_neg (by decide +kernel)]; exact ⟨rfl, rfl⟩))
    (fun os started H enc _ => lifted os started H enc)
theorem proved : Rows.WireReadsSaid :=
  over
#print axioms proved
end Go.Proofs.Ytlinbbjobjnipaa.wireReads
