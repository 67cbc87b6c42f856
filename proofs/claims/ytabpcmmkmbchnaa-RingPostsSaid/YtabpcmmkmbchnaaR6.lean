/- The law of posts, by the plain interpreter: whatever the fate is, the call gives true. -/
import Derived.Test.YtabpcmmkmbchnaaR5
set_option linter.unusedVariables false
set_option linter.unusedSimpArgs false
set_option linter.unusedSectionVars false
namespace Go.Proofs.Ytabpcmmkmbchnaa.ringPosts
open Go AI

set_option maxHeartbeats 4000000
set_option maxRecDepth 10000

def plains (f : Nat) : Bool := [5, 6, 28].contains f

/-- What is known ahead: the chapter's example holds, the number within. -/
def facts : CallG := fun _ f aa =>
  match f, aa with
  | 5, [] => some (.pv (.bool true))
  | 6, [.pv (.int .i64 a), .pv (.int .i64 m)] => if (Lit.int .i64 a).wf = true ∧ 0 < m ∧ m ≤ 100000 then some (.pv (.int .i64 (a % m))) else none
  | _, _ => none

theorem ros_lies {p : PV} {cs : List (Int × PV)} (h : LiesP p cs) (hp : Hp) : Lies hp (.pv p) cs := by
  cases h with
  | nil => exact ⟨by kernel_rfl, fun i p h => by simp at h⟩
  | zcap => exact ⟨by kernel_rfl, fun i p h => by simp at h⟩
  | ros0 => exact ⟨by kernel_rfl, fun i p h => by simp at h⟩
  | ros n cs hn =>
    refine ⟨?_, fun i p hi => ?_⟩
    · unfold lenA; rw [Try.underlying45]; simp only [hn]
    · have hil : i < cs.length := (List.getElem?_eq_some_iff.1 hi).1
      obtain ⟨g1, g2⟩ := flat_get cs i p hi
      rw [Nat.mul_comm] at g1 g2
      refine ⟨.pv (.rop (flat cs) (i * 2)), ?_, ?_, ⟨.pv (.rop (flat cs) (i * 2)), ?_, ?_⟩, ⟨.pv (.rop (flat cs) (i * 2 + 1)), ?_, ?_⟩⟩
      · unfold indexAddrA
        simp only [asIntA, Option.bind_some, Try.underlying45, sz50]
        rw [if_pos (by omega)]
        simp
      · unfold loadA
        simp only [ag50, sz50, Option.bind_some, readAt]
        rw [if_pos (by simp [flat_length]; omega), take_two g1 g2]
        rfl
      · have : fieldAddrA Try.prog 50 (.pv (.rop (flat cs) (i * 2))) 0 = some (.pv (.rop (flat cs) (i * 2 + 0))) := by kernel_rfl
        exact this
      · unfold loadA
        simp only [ag3, g1]
        rfl
      · have : fieldAddrA Try.prog 50 (.pv (.rop (flat cs) (i * 2))) 1 = some (.pv (.rop (flat cs) (i * 2 + 1))) := by kernel_rfl
        exact this
      · unfold loadA
        simp only [ag48, g2]
        rfl

theorem len48 {hp : Hp} {nb : Nat} {q : PV} {n : Nat} (h : BytesP q n) : builtinA Try.prog hp nb .len #[48] [.pv q] = some (.val (.pv (.int .i64 n))) := by
  unfold builtinA
  show Option.map _ (lenA Try.prog 48 (.pv q)) = _
  rw [bytes_len h]
  rfl

theorem conv_bytes {q : PV} {n : Nat} (h : BytesP q n) : ∃ s, (∀ hp nb, convertA Try.prog hp nb 48 9 (.pv (nrm q)) = some (.val (.pv (.str s)))) ∧ ∀ hp nb, convertA Try.prog hp nb 48 9 (.pv q) = some (.val (.pv (.str s))) := by
  cases h with
  | nil => exact ⟨[], fun hp nb => by kernel_rfl, fun hp nb => by kernel_rfl⟩
  | zcap => exact ⟨[], fun hp nb => by kernel_rfl, fun hp nb => by kernel_rfl⟩
  | ros0 => exact ⟨[], fun hp nb => by kernel_rfl, fun hp nb => by kernel_rfl⟩
  | ros n bs hb =>
    have key : ∀ l : List Int, ((l.map fun z => PV.int .u8 z).map AV.pv).mapM byteOfA = some (l.map fun z => z.toNat % 256) := by
      intro l
      induction l with
      | nil => rfl
      | cons a l ih => rw [List.map_cons, List.map_cons, List.mapM_cons, ih]; rfl
    have one : ∀ hp nb, convertA Try.prog hp nb 48 9 (.pv (.ros 1 (n + 1) (bs.map fun z => .int .u8 z))) = some (.val (.pv (.str (bs.map fun z => z.toNat % 256)))) := by
      intro hp nb
      unfold convertA srcA
      simp only [if_true]
      have e : ∀ sx : Option (Nat × List AV), convertB Try.prog nb 48 9 (.pv (.ros 1 (n + 1) (bs.map fun z => .int .u8 z))) sx = sx.bind fun (_, cs) => (cs.mapM byteOfA).map fun s => .val (.pv (.str s)) := by
        intro sx; kernel_rfl
      rw [e]
      simp only [Option.bind_some, key, Option.map_some]
    exact ⟨_, one, one⟩

theorem said_map (cs : List (Int × PV)) (k : Int) : said (cs.map nr) k = ((said cs k).1, nrm (said cs k).2) := by
  have h : (cs.map nr).find? (fun p => p.1 == k) = (cs.find? fun p => p.1 == k).map nr := by
    induction cs with
    | nil => rfl
    | cons q r ih =>
      rw [List.map_cons, List.find?_cons, List.find?_cons]
      have e : (nr q).1 = q.1 := rfl
      rw [e]
      cases q.1 == k
      · exact ih
      · rfl
  unfold said
  rw [h]
  cases cs.find? fun p => p.1 == k <;> rfl

theorem neq4 (b : Bool) : binOpA Try.prog .neq 4 (.pv (.bool b)) (.pv (.bool b)) = some (.pv (.bool false)) := by cases b <;> kernel_rfl

theorem neq9 (s : List Nat) : binOpA Try.prog .neq 9 (.pv (.str s)) (.pv (.str s)) = some (.pv (.bool false)) := by
  simp [binOpA, strOpA]

theorem neq3 (k : Int) : binOpA Try.prog .neq 3 (.pv (.int .i64 k)) (.pv (.int .i64 k)) = some (.pv (.bool false)) := by
  simp [binOpA, intOpA]

theorem build55 (x : Int) (p : PV) : buildA Try.prog 55 [(0, .agg [.pv (.int .u64 x), .pv p])] = some (.agg [.pv (.int .u64 x), .pv p, .pv (.int .i64 0)]) := by kernel_rfl

theorem statL10 : statOk (match bodyOf Try.f4 with
  | .seq _ (.seq _ (.seq _ (.seq _ (.seq (.region _ a _) _)))) => a.toList
  | _ => []) = true := by kernel_rfl

theorem said_bytes {cs : List (Int × PV)} (hb : ∀ q ∈ cs, ∃ n, BytesP q.2 n) (k : Int) : ∃ n, BytesP (said cs k).2 n := by
  unfold said
  split
  · rename_i p hp
    exact hb p (List.mem_of_find?_eq_some hp)
  · exact ⟨0, .nil⟩

theorem copied_move {cs : List (Int × PV)} {l0 l : AV} {h' bs : List Blk} {hp : Hp} {nb m : Nat} (hc : Copied cs l0 (hf h') 0 m) (hm : m ≤ h'.length)
    (h2 : ∀ id ver cs, id < h'.length → hf h' id = .cells ver cs → ∃ cs', cs.mapM (shA nb h'.length) = some cs' ∧ addHp hp nb bs (id + nb) = .cells ver cs') (hs : shA nb h'.length l0 = some l) : Copied cs l (addHp hp nb bs) 0 (m + nb) := by
  rcases hc with ⟨rfl, rfl | ⟨id, hid, rfl⟩⟩ | ⟨id, n, hlo, hid, hn, rfl, hc⟩
  · simp only [shA, Option.some.injEq] at hs; subst hs
    exact .inl ⟨rfl, .inl rfl⟩
  · simp only [shA, show id < h'.length by omega, if_true, Option.some.injEq] at hs; subst hs
    exact .inl ⟨rfl, .inr ⟨id + nb, by omega, rfl⟩⟩
  · simp only [shA, show id < h'.length by omega, if_true, Option.some.injEq] at hs; subst hs
    obtain ⟨cs', e1, e2⟩ := h2 id 1 _ (by omega) hc
    rw [sh_pvs] at e1
    cases e1
    exact .inr ⟨id + nb, n, by omega, by omega, hn, rfl, e2⟩

theorem law_runs (x n : Int) (hn : (Lit.int .i64 n).wf = true) {p : PV} {cs : List (Int × PV)} (hp0 : LiesP p cs) (hb : ∀ q ∈ cs, ∃ m : Nat, BytesP q.2 m) :
    CA (callA Try.prog facts plains 1000 20) 4 [.agg [.pv (.int .u64 x), .pv p], .pv (.int .i64 n)] (hf []) 0 fun v hp' nb' => v = .pv (.bool true) := by
  have hS : ∀ hp aa, facts hp 28 aa = none := fun hp aa => rfl
  refine ca_body (fn := Try.f4) (c := bodyOf Try.f4) Try.func4 rfl (by show 2 ≤ 81; omega) ?_
  show EX _ _ _ _ _ 81 _ _ _ _ _
  have hst10 := statL10
  unfold bodyOf Try.f4 at hst10 ⊢
  simp only at hst10
  refine ex_seq (ex_region ?_)
  refine ro_box (v := .agg [.pv (.int .u64 x), .pv p]) (by simp [evalF, argsF]) rfl (by decide) ?_
  refine ro_assign (by simp only [evalF, upd, argsF, ofConst, ofCell, Nat.reduceEqDiff, reduceIte, List.getD_cons_zero, List.getD_cons_succ, List.getD_nil] <;> rfl) (by decide) ?_
  refine ro_nil ?_
  simp only
  generalize hh1 : setHp (hf []) 0 _ = hp1
  have hl1 : AI.look hp1 0 1 = some [.pv (.int .u64 x), .pv p] := by rw [← hh1]; exact look_same _ _ _ _
  have ht1 : Tidy hp1 1 := by
    rw [← hh1]
    exact tidy_new tidy_nil (by intro c hc; simp [AV.cells] at hc; rcases hc with rfl | rfl <;> exact okC_pv _ _)
  clear hh1
  refine ex_seq (ex_seq (ex_region ?_))
  refine ro_pure (f := 5) («as» := []) rfl rfl rfl (show orS facts _ _ 5 [] = some (.pv (.bool true)) from rfl) (by decide) ?_
  refine ro_un (by simp only [evalF, upd, argsF, ofConst, ofCell, Nat.reduceEqDiff, reduceIte, List.getD_cons_zero, List.getD_cons_succ, List.getD_nil] <;> rfl) (by exact (show unOpA .not (.pv (.bool true)) = some (.pv (.bool false)) from rfl)) (by decide) ?_
  refine ro_nil ?_
  simp only
  refine ex_cond (t := false) (by simp only [evalF, upd, argsF, ofConst, ofCell, Nat.reduceEqDiff, reduceIte, List.getD_cons_zero, List.getD_cons_succ, List.getD_nil] <;> rfl) (fun h => by simp at h) (fun _ => ex_skip ?_)
  simp only
  refine ex_seq (ex_seq (ex_region ?_))
  refine ro_fieldAddr (by simp only [evalF, upd, argsF, ofConst, ofCell, Nat.reduceEqDiff, reduceIte, List.getD_cons_zero, List.getD_cons_succ, List.getD_nil] <;> rfl) (by exact (fa47_1 _ _ _)) (by decide) ?_
  refine ro_load (by simp only [evalF, upd, argsF, ofConst, ofCell, Nat.reduceEqDiff, reduceIte, List.getD_cons_zero, List.getD_cons_succ, List.getD_nil] <;> rfl) (by exact (load1 ag45 hl1 rfl)) (by decide) ?_
  refine ro_builtin rfl (by simp only [List.map_cons, List.map_nil, evalF, upd, argsF, ofConst, ofCell, Nat.reduceEqDiff, reduceIte, List.getD_cons_zero, List.getD_cons_succ, List.getD_nil] <;> rfl) (by exact (len45 (ros_lies hp0 hp1).len)) (by decide) ?_
  refine ro_bin (by simp only [evalF, upd, argsF, ofConst, ofCell, Nat.reduceEqDiff, reduceIte, List.getD_cons_zero, List.getD_cons_succ, List.getD_nil] <;> rfl) (by simp only [evalF, upd, argsF, ofConst, ofCell, Nat.reduceEqDiff, reduceIte, List.getD_cons_zero, List.getD_cons_succ, List.getD_nil] <;> rfl) (by exact (rfl)) (by decide) ?_
  refine ro_nil ?_
  simp only
  refine ex_cond (t := decide ((cs.length : Int) > 10)) (by simp only [evalF, upd, argsF, ofConst, ofCell, Nat.reduceEqDiff, reduceIte, List.getD_cons_zero, List.getD_cons_succ, List.getD_nil] <;> rfl) (fun ht => ?_) (fun ht => ?_)
  · refine ex_seq (ex_region ?_)
    refine ro_assign (by simp only [evalF, upd, argsF, ofConst, ofCell, Nat.reduceEqDiff, reduceIte, List.getD_cons_zero, List.getD_cons_succ, List.getD_nil] <;> rfl) (by decide) ?_
    refine ro_nil ?_
    simp only
    refine ex_ret ?_
    exact ⟨_, rfl, by simp [upd]⟩
  refine ex_skip ?_
  simp only
  have hL10 : cs.length ≤ 10 := by
    have := of_decide_eq_false ht
    omega
  -- the lies' lengths
  refine ex_seq (ex_weaken (K := fun xa g' hp' nb' => (xa = .ret ∧ g' 4 = .pv (.bool true)) ∨ (xa = .normal ∧ g' 1 = .pv (.int .i64 n) ∧ g' 2 = .ptr 0 1 0 ∧ hp' = hp1 ∧ nb' = 1 ∧ ∀ q ∈ cs, ∃ m : Nat, m < 100000 ∧ BytesP q.2 m)) ?_ ?_)
  · refine ex_seq (ex_region ?_)
    refine ro_assign (by simp only [evalF, upd, argsF, ofConst, ofCell, Nat.reduceEqDiff, reduceIte, List.getD_cons_zero, List.getD_cons_succ, List.getD_nil] <;> rfl) (by decide) ?_
    refine ro_nil ?_
    simp only
    refine ex_block (ex_loop (I := fun m g hpx nbx => ∃ i : Nat, m = cs.length - i ∧ i ≤ cs.length ∧ (∀ (j : Nat) (q : Int × PV), j < i → cs[j]? = some q → ∃ m : Nat, m < 100000 ∧ BytesP q.2 m) ∧ g 1 = .pv (.int .i64 n) ∧ g 2 = .ptr 0 1 0 ∧
      g 5 = .pv (.int .i64 i) ∧ hpx = hp1 ∧ nbx = 1)
      (m := cs.length) ⟨0, rfl, Nat.zero_le _, fun j q hj => by omega, by simp [upd, argsF], by simp [upd], by simp [upd], rfl, rfl⟩ (by omega) ?_)
    rintro m g hpx nbx ⟨i, hm, hi, hall, h1, h2, h5, hx1, hx2⟩
    subst hx1; subst hx2
    refine ex_seq (ex_seq (ex_region ?_))
    refine ro_move (by simp only [evalF, upd, argsF, ofConst, ofCell, Nat.reduceEqDiff, reduceIte, List.getD_cons_zero, List.getD_cons_succ, List.getD_nil, h1, h2, h5] <;> rfl) (by decide) ?_
    refine ro_fieldAddr (by simp only [evalF, upd, argsF, ofConst, ofCell, Nat.reduceEqDiff, reduceIte, List.getD_cons_zero, List.getD_cons_succ, List.getD_nil, h1, h2, h5] <;> rfl) (by exact (fa47_1 _ _ _)) (by decide) ?_
    refine ro_load (by simp only [evalF, upd, argsF, ofConst, ofCell, Nat.reduceEqDiff, reduceIte, List.getD_cons_zero, List.getD_cons_succ, List.getD_nil, h1, h2, h5] <;> rfl) (by exact (load1 ag45 hl1 rfl)) (by decide) ?_
    refine ro_builtin rfl (by simp only [List.map_cons, List.map_nil, evalF, upd, argsF, ofConst, ofCell, Nat.reduceEqDiff, reduceIte, List.getD_cons_zero, List.getD_cons_succ, List.getD_nil, h1, h2, h5] <;> rfl) (by exact (len45 (ros_lies hp0 (hf [])).len)) (by decide) ?_
    refine ro_bin (by simp only [evalF, upd, argsF, ofConst, ofCell, Nat.reduceEqDiff, reduceIte, List.getD_cons_zero, List.getD_cons_succ, List.getD_nil, h1, h2, h5] <;> rfl) (by simp only [evalF, upd, argsF, ofConst, ofCell, Nat.reduceEqDiff, reduceIte, List.getD_cons_zero, List.getD_cons_succ, List.getD_nil, h1, h2, h5] <;> rfl) (by exact (rfl)) (by decide) ?_
    refine ro_nil ?_
    simp only
    refine ex_cond (t := decide ((i : Int) < cs.length)) (by simp only [evalF, upd, argsF, ofConst, ofCell, Nat.reduceEqDiff, reduceIte, List.getD_cons_zero, List.getD_cons_succ, List.getD_nil, h1, h2, h5] <;> rfl) (fun ht => ?_) (fun ht => ?_)
    rotate_left
    · refine ex_exit ?_
      simp only [if_true]
      refine .inr ⟨by first | rfl | trivial, by simp [upd, h1], by simp [upd, h2], by first | rfl | trivial, by first | rfl | trivial, fun q hq => ?_⟩
      obtain ⟨j, hj⟩ := List.mem_iff_getElem?.1 hq
      have := (List.getElem?_eq_some_iff.1 hj).1
      have := of_decide_eq_false ht
      exact hall j q (by omega) hj
    refine ex_skip ?_
    simp only
    have hil : i < cs.length := by
      have := of_decide_eq_true ht
      omega
    obtain ⟨a, ha, hla, ⟨a0, hf0, hl0⟩, ⟨a1, hf1, hla1⟩⟩ := (ros_lies hp0 hpx).at_ i cs[i] (List.getElem?_eq_getElem hil)
    obtain ⟨bl, hbl⟩ := hb cs[i] (List.getElem_mem hil)
    refine ex_seq (ex_block (ex_seq (ex_region ?_)))
    refine ro_fieldAddr (by simp only [evalF, upd, argsF, ofConst, ofCell, Nat.reduceEqDiff, reduceIte, List.getD_cons_zero, List.getD_cons_succ, List.getD_nil, h1, h2, h5] <;> rfl) (by exact (fa47_1 _ _ _)) (by decide) ?_
    refine ro_load (by simp only [evalF, upd, argsF, ofConst, ofCell, Nat.reduceEqDiff, reduceIte, List.getD_cons_zero, List.getD_cons_succ, List.getD_nil, h1, h2, h5] <;> rfl) (by exact (load1 ag45 hl1 rfl)) (by decide) ?_
    refine ro_move (by simp only [evalF, upd, argsF, ofConst, ofCell, Nat.reduceEqDiff, reduceIte, List.getD_cons_zero, List.getD_cons_succ, List.getD_nil, h1, h2, h5] <;> rfl) (by decide) ?_
    refine ro_indexAddr (by simp only [evalF, upd, argsF, ofConst, ofCell, Nat.reduceEqDiff, reduceIte, List.getD_cons_zero, List.getD_cons_succ, List.getD_nil, h1, h2, h5] <;> rfl) (by simp only [evalF, upd, argsF, ofConst, ofCell, Nat.reduceEqDiff, reduceIte, List.getD_cons_zero, List.getD_cons_succ, List.getD_nil, h1, h2, h5] <;> rfl) (by exact (ha)) (by decide) ?_
    refine ro_fieldAddr (by simp only [evalF, upd, argsF, ofConst, ofCell, Nat.reduceEqDiff, reduceIte, List.getD_cons_zero, List.getD_cons_succ, List.getD_nil, h1, h2, h5] <;> rfl) (by exact (hf1)) (by decide) ?_
    refine ro_load (by simp only [evalF, upd, argsF, ofConst, ofCell, Nat.reduceEqDiff, reduceIte, List.getD_cons_zero, List.getD_cons_succ, List.getD_nil, h1, h2, h5] <;> rfl) (by exact (hla1)) (by decide) ?_
    refine ro_builtin rfl (by simp only [List.map_cons, List.map_nil, evalF, upd, argsF, ofConst, ofCell, Nat.reduceEqDiff, reduceIte, List.getD_cons_zero, List.getD_cons_succ, List.getD_nil, h1, h2, h5] <;> rfl) (by exact (len48 hbl)) (by decide) ?_
    refine ro_bin (by simp only [evalF, upd, argsF, ofConst, ofCell, Nat.reduceEqDiff, reduceIte, List.getD_cons_zero, List.getD_cons_succ, List.getD_nil, h1, h2, h5] <;> rfl) (by simp only [evalF, upd, argsF, ofConst, ofCell, Nat.reduceEqDiff, reduceIte, List.getD_cons_zero, List.getD_cons_succ, List.getD_nil, h1, h2, h5] <;> rfl) (by exact (rfl)) (by decide) ?_
    refine ro_nil ?_
    simp only
    refine ex_cond (t := decide ((bl : Int) > 100)) (by simp only [evalF, upd, argsF, ofConst, ofCell, Nat.reduceEqDiff, reduceIte, List.getD_cons_zero, List.getD_cons_succ, List.getD_nil, h1, h2, h5] <;> rfl) (fun hbt => ?_) (fun hbt => ?_)
    · refine ex_seq (ex_region ?_)
      refine ro_assign (by simp only [evalF, upd, argsF, ofConst, ofCell, Nat.reduceEqDiff, reduceIte, List.getD_cons_zero, List.getD_cons_succ, List.getD_nil, h1, h2, h5] <;> rfl) (by decide) ?_
      refine ro_nil ?_
      simp only
      refine ex_ret ?_
      exact .inl ⟨by first | rfl | trivial, by simp [upd]⟩
    · refine ex_skip ?_
      simp only
      refine ex_region ?_
      refine ro_move (by simp only [evalF, upd, argsF, ofConst, ofCell, Nat.reduceEqDiff, reduceIte, List.getD_cons_zero, List.getD_cons_succ, List.getD_nil, h1, h2, h5] <;> rfl) (by decide) ?_
      refine ro_bin (by simp only [evalF, upd, argsF, ofConst, ofCell, Nat.reduceEqDiff, reduceIte, List.getD_cons_zero, List.getD_cons_succ, List.getD_nil, h1, h2, h5] <;> rfl) (by simp only [evalF, upd, argsF, ofConst, ofCell, Nat.reduceEqDiff, reduceIte, List.getD_cons_zero, List.getD_cons_succ, List.getD_nil, h1, h2, h5] <;> rfl) (by exact (show _ = some (AV.pv (.int .i64 ((i : Int) + 1))) from by show some (AV.pv (.int .i64 (IntKind.i64.wrap ((i : Int) + 1)))) = _; rw [IntWalk.i64_in _ (by omega)])) (by decide) ?_
      refine ro_assign (by simp only [evalF, upd, argsF, ofConst, ofCell, Nat.reduceEqDiff, reduceIte, List.getD_cons_zero, List.getD_cons_succ, List.getD_nil, h1, h2, h5] <;> rfl) (by decide) ?_
      refine ro_nil ?_
      refine ⟨cs.length - (i + 1), by omega, i + 1, rfl, by omega, ?_, by simp [upd, h1], by simp [upd, h2], by simp [upd], rfl, rfl⟩
      intro j q hj hq
      rcases Nat.lt_or_ge j i with h | h
      · exact hall j q h hq
      · have : j = i := by omega
        subst this
        rw [List.getElem?_eq_getElem hil] at hq
        cases hq
        have := of_decide_eq_false hbt
        exact ⟨bl, by omega, hbl⟩
  rintro xa g1 hpx nbx (⟨rfl, h4⟩ | ⟨rfl, h1, h2, hx1, hx2, hbb⟩)
  · exact ⟨_, rfl, h4⟩
  subst hx1; subst hx2
  simp only
  -- both posts
  refine ex_seq (ex_weaken (K := fun xa g' hp' nb' => xa = .normal ∧ g' 1 = .pv (.int .i64 n) ∧ ∃ idp idq l, g' 6 = .ptr idp 1 0 ∧ g' 7 = .ptr idq 1 0 ∧ idp < idq ∧ idq < nb' ∧
    AI.look hp' idp 1 = some [.pv (.int .u64 x), l, .pv (.int .i64 0)] ∧ AI.look hp' idq 1 = some [.pv (.int .u64 x), .pv p, .pv (.int .i64 0)] ∧ Copied (cs.map nr) l hp' 0 idp) ?_ ?_)
  · refine ex_draw hst10 ?_
    have hld : loadA Try.prog hpx 47 (.ptr 0 1 0) = some (.agg [.pv (.int .u64 x), .pv p]) := loadN (show isAggA Try.prog 47 = some true by kernel_rfl) (show szA Try.prog 47 = some 2 by kernel_rfl) hl1 (by show 0 + 2 ≤ 2; omega)
    refine rd_val (v := .agg [.pv (.int .u64 x), .pv p]) rfl (by simp only [primA, evalF, upd, h2, hld, Option.map_some]) (by decide) ?_
    refine rd_add («as» := [.agg [.pv (.int .u64 x), .pv p]]) (by simp [evalF, upd]) rfl rfl (post_calls facts plains 1000 17 x hp0 hbb (by omega) (by omega) rfl rfl hS) (by decide) ?_
    rintro v0 h' ⟨idp, l0, rfl, hidp, hpb, hcp, htd⟩
    obtain ⟨bs, q1, q2, q3, q4⟩ := tidy_add htd hpx 1
    obtain ⟨cs', q5, q6⟩ := q4 idp 1 _ hidp hpb
    refine ⟨.ptr (idp + 1) 1 0, bs, by simp [shR, shV, shA, hidp], q1, ?_⟩
    have hld2 : loadA Try.prog (addHp hpx 1 bs) 47 (.ptr 0 1 0) = some (.agg [.pv (.int .u64 x), .pv p]) := loadN (show isAggA Try.prog 47 = some true by kernel_rfl) (show szA Try.prog 47 = some 2 by kernel_rfl) (by rw [look_at 1 (q3 0 (by omega))]; exact hl1) (by show 0 + 2 ≤ 2; omega)
    refine rd_val (v := .agg [.pv (.int .u64 x), .pv p]) rfl (by simp only [primA, evalF, upd, Nat.reduceEqDiff, reduceIte, h2, hld2, Option.map_some]) (by decide) ?_
    refine rd_val (v := .agg [.pv (.int .u64 x), .pv p, .pv (.int .i64 0)]) rfl (by simp only [primA, evalF, upd, Nat.reduceEqDiff, reduceIte, List.map_cons, List.map_nil, build55, Option.map_some]) (by decide) ?_
    refine rd_new (v := .ptr (1 + bs.length) 1 0) (b := .cells 1 [.pv (.int .u64 x), .pv p, .pv (.int .i64 0)]) rfl (by simp [primA, evalF, upd, AV.cells, AV.isCell, newCells]) (by decide) ?_
    refine rd_val (v := .ptr (idp + 1) 1 0) rfl (by simp [primA, evalF, upd]) (by decide) ?_
    refine rd_val (v := .ptr (1 + bs.length) 1 0) rfl (by simp [primA, evalF, upd]) (by decide) ?_
    refine rd_nil ⟨?_, by first | rfl | trivial, by simp [upd, h1], ?_⟩
    · unfold dynOk
      rw [Bool.or_eq_true]
      right
      refine heapsOk_all ?_
      simp [List.pairwise_cons, heapPart, footF, Chg.isAll, Chg.ids, disjointL, looksIn, Op.operands, Call.operands, evalF, upd, idOf, h2, heapful]
      exact ⟨fun y h1 h2 => by omega, fun y h1 h2 => by omega⟩
    · simp only [List.mapM_cons, List.mapM_nil, Option.bind_eq_bind, Option.bind_eq_some_iff, Option.pure_def, Option.some.injEq] at q5
      obtain ⟨c1, e1, c2, ⟨l, e2, c3, ⟨c4, e3, c5, e4, e5⟩, e6⟩, e7⟩ := q5
      subst e4; subst e5; subst e6; subst e7
      cases e1; cases e3
      have hbl : bs.length = h'.length := (tidy_add htd hpx 1).elim fun bs' hh => by
        have : bs' = bs := Option.some.inj (hh.1.symm.trans q1)
        rw [← this]; exact hh.2.1
      have hne : idp + 1 ≠ 1 + bs.length := by omega
      refine ⟨idp + 1, 1 + bs.length, l, by simp [upd], by simp [upd], by omega, by omega, ?_, ?_, ?_⟩
      · rw [look_ne _ _ _ hne]
        simp [AI.look, q6]
      · exact look_same _ _ _ _
      · refine copied_keep (copied_move hcp (by omega) q4 e2) (by omega) (fun id _ hid => ?_)
        simp [setHp, show id ≠ 1 + bs.length by omega]
  rintro xa g2 hpx nbx ⟨rfl, h1, idp, idq, l, h6, h7, hpq, hqn, hlp, hlq, hcl⟩
  simp only
  refine ex_seq ?_
  refine ex_seq (ex_region ?_)
  refine ro_assign (by simp only [evalF, upd, argsF, ofConst, ofCell, Nat.reduceEqDiff, reduceIte, List.getD_cons_zero, List.getD_cons_succ, List.getD_nil, h1, h6, h7] <;> rfl) (by decide) ?_
  refine ro_nil ?_
  simp only
  have hmod := Int.emod_nonneg n (show (80 : Int) ≠ 0 by omega)
  have hmod2 := Int.emod_lt_of_pos n (show (0 : Int) < 80 by omega)
  refine ex_block (ex_loop (I := fun m g hpx nbx => ∃ k : Int, 0 ≤ k ∧ k ≤ n % 80 ∧ m = (n % 80 - k).toNat ∧ g 1 = .pv (.int .i64 n) ∧ g 6 = .ptr idp 1 0 ∧ g 7 = .ptr idq 1 0 ∧ g 8 = .pv (.int .i64 k) ∧ idq < nbx ∧
    AI.look hpx idp 1 = some [.pv (.int .u64 x), l, .pv (.int .i64 k)] ∧ AI.look hpx idq 1 = some [.pv (.int .u64 x), .pv p, .pv (.int .i64 k)] ∧ Copied (cs.map nr) l hpx 0 idp)
    (m := (n % 80 - 0).toNat) ⟨0, by omega, by omega, rfl, by simp [upd, h1], by simp [upd, h6], by simp [upd, h7], by simp [upd], hqn, hlp, hlq, hcl⟩ (by omega) ?_)
  rintro m g hpx nbx ⟨k, hk0, hk1, hm, h1, h6, h7, h8, hqn, hlp, hlq, hcl⟩
  refine ex_seq ?_
  refine ex_seq (ex_region ?_)
  refine ro_move (by simp only [evalF, upd, argsF, ofConst, ofCell, Nat.reduceEqDiff, reduceIte, List.getD_cons_zero, List.getD_cons_succ, List.getD_nil, h1, h6, h7, h8] <;> rfl) (by decide) ?_
  refine ro_move (by simp only [evalF, upd, argsF, ofConst, ofCell, Nat.reduceEqDiff, reduceIte, List.getD_cons_zero, List.getD_cons_succ, List.getD_nil, h1, h6, h7, h8] <;> rfl) (by decide) ?_
  refine ro_pure (f := 6) («as» := [.pv (.int .i64 n), .pv (.int .i64 80)]) rfl (by simp [evalF, upd, h1, ofConst, ofCell]) rfl (show orS facts _ _ 6 _ = some (.pv (.int .i64 (n % 80))) from by
    unfold orS facts
    simp [hn]) (by decide) ?_
  refine ro_bin (by simp only [evalF, upd, argsF, ofConst, ofCell, Nat.reduceEqDiff, reduceIte, List.getD_cons_zero, List.getD_cons_succ, List.getD_nil, h1, h6, h7, h8] <;> rfl) (by simp only [evalF, upd, argsF, ofConst, ofCell, Nat.reduceEqDiff, reduceIte, List.getD_cons_zero, List.getD_cons_succ, List.getD_nil, h1, h6, h7, h8] <;> rfl) (by exact (rfl)) (by decide) ?_
  refine ro_nil ?_
  simp only
  refine ex_cond (t := decide (k < n % 80)) (by simp only [evalF, upd, argsF, ofConst, ofCell, Nat.reduceEqDiff, reduceIte, List.getD_cons_zero, List.getD_cons_succ, List.getD_nil, h1, h6, h7, h8] <;> rfl) (fun ht => ?_) (fun ht => ?_)
  rotate_left
  · refine ex_exit ?_
    simp only [if_true]
    refine ex_seq (ex_region ?_)
    refine ro_assign (by simp only [evalF, upd, argsF, ofConst, ofCell, Nat.reduceEqDiff, reduceIte, List.getD_cons_zero, List.getD_cons_succ, List.getD_nil, h1, h6, h7, h8] <;> rfl) (by decide) ?_
    refine ro_nil ?_
    simp only
    refine ex_ret ?_
    exact ⟨_, rfl, by simp [upd]⟩
  refine ex_skip ?_
  simp only
  have hkn : k < n % 80 := of_decide_eq_true ht
  obtain ⟨bq, hbq⟩ := said_bytes (fun q hq => (hbb q hq).imp fun _ h => h.2) k
  obtain ⟨str, hstr1, hstr⟩ := conv_bytes hbq
  refine ex_seq (ex_block ?_)
  refine ex_seq (ex_region ?_)
  refine ro_move (by simp only [evalF, upd, argsF, ofConst, ofCell, Nat.reduceEqDiff, reduceIte, List.getD_cons_zero, List.getD_cons_succ, List.getD_nil, h1, h6, h7, h8] <;> rfl) (by decide) ?_
  refine ro_call (f := 15) («as» := [.ptr idp 1 0]) rfl (by simp [evalF, upd, h6]) rfl rfl (next_calls facts plains 1000 18 hpx nbx idp k x l (cs.map nr) (by omega) (by simp; omega) (by simp; omega) hlp (by omega)
    (fun hp' hk' => copied_lies (copied_keep hcl (Nat.le_refl _) (fun id _ hid => hk' id (by omega) (by omega)))) rfl (fun hp q hq => by
      obtain ⟨q0, hq0, rfl⟩ := List.mem_map.1 hq
      obtain ⟨m, hm1, hm2⟩ := hbb q0 hq0
      unfold orS
      rw [hS]
      have hc := clone_bytes facts plains 1000 17 (bytes_nrm hm2) hm1 hp
      rw [nrm_nrm hm2] at hc
      exact hc)) (by decide) ?_
  rintro v hpy nby ⟨rfl, hlp2, hky, hny⟩
  rw [said_map]
  refine ro_move (by simp only [evalF, upd, argsF, ofConst, ofCell, Nat.reduceEqDiff, reduceIte, List.getD_cons_zero, List.getD_cons_succ, List.getD_nil, h1, h6, h7, h8] <;> rfl) (by decide) ?_
  refine ro_extract (by simp only [evalF, upd, argsF, ofConst, ofCell, Nat.reduceEqDiff, reduceIte, List.getD_cons_zero, List.getD_cons_succ, List.getD_nil, h1, h6, h7, h8] <;> rfl) (by exact (rfl)) (by decide) ?_
  refine ro_extract (by simp only [evalF, upd, argsF, ofConst, ofCell, Nat.reduceEqDiff, reduceIte, List.getD_cons_zero, List.getD_cons_succ, List.getD_nil, h1, h6, h7, h8] <;> rfl) (by exact (rfl)) (by decide) ?_
  refine ro_extract (by simp only [evalF, upd, argsF, ofConst, ofCell, Nat.reduceEqDiff, reduceIte, List.getD_cons_zero, List.getD_cons_succ, List.getD_nil, h1, h6, h7, h8] <;> rfl) (by exact (rfl)) (by decide) ?_
  refine ro_assign (by simp only [evalF, upd, argsF, ofConst, ofCell, Nat.reduceEqDiff, reduceIte, List.getD_cons_zero, List.getD_cons_succ, List.getD_nil, h1, h6, h7, h8] <;> rfl) (by decide) ?_
  refine ro_assign (by simp only [evalF, upd, argsF, ofConst, ofCell, Nat.reduceEqDiff, reduceIte, List.getD_cons_zero, List.getD_cons_succ, List.getD_nil, h1, h6, h7, h8] <;> rfl) (by decide) ?_
  refine ro_assign (by simp only [evalF, upd, argsF, ofConst, ofCell, Nat.reduceEqDiff, reduceIte, List.getD_cons_zero, List.getD_cons_succ, List.getD_nil, h1, h6, h7, h8] <;> rfl) (by decide) ?_
  refine ro_nil ?_
  simp only
  have hlq2 : AI.look hpy idq 1 = some [.pv (.int .u64 x), .pv p, .pv (.int .i64 k)] := by rw [look_at 1 (hky idq (by omega) (by omega))]; exact hlq
  have hcl2 : Copied (cs.map nr) l hpy 0 idp := copied_keep hcl (Nat.le_refl _) (fun id _ hid => hky id (by omega) (by omega))
  refine ex_seq (ex_region ?_)
  refine ro_move (by simp only [evalF, upd, argsF, ofConst, ofCell, Nat.reduceEqDiff, reduceIte, List.getD_cons_zero, List.getD_cons_succ, List.getD_nil, h1, h6, h7, h8] <;> rfl) (by decide) ?_
  refine ro_call (f := 16) («as» := [.ptr idq 1 0]) rfl (by simp [evalF, upd, h7]) rfl rfl (refNext_calls facts plains 1000 18 hpy nby idq k x (.pv p) cs (by omega) (by omega) (by omega) hlq2 (by omega) (fun hp' _ => ros_lies hp0 hp')) (by decide) ?_
  rintro v hpz nbz ⟨rfl, hlq3, hkz, hnz⟩
  have hlp3 : AI.look hpz idp 1 = some [.pv (.int .u64 x), l, .pv (.int .i64 (k + 1))] := by rw [look_at 1 (hkz idp (by omega) (by omega))]; exact hlp2
  have hcl3 : Copied (cs.map nr) l hpz 0 idp := copied_keep hcl2 (Nat.le_refl _) (fun id _ hid => hkz id (by omega) (by omega))
  refine ro_move (by simp only [evalF, upd, argsF, ofConst, ofCell, Nat.reduceEqDiff, reduceIte, List.getD_cons_zero, List.getD_cons_succ, List.getD_nil, h1, h6, h7, h8] <;> rfl) (by decide) ?_
  refine ro_extract (by simp only [evalF, upd, argsF, ofConst, ofCell, Nat.reduceEqDiff, reduceIte, List.getD_cons_zero, List.getD_cons_succ, List.getD_nil, h1, h6, h7, h8] <;> rfl) (by exact (rfl)) (by decide) ?_
  refine ro_extract (by simp only [evalF, upd, argsF, ofConst, ofCell, Nat.reduceEqDiff, reduceIte, List.getD_cons_zero, List.getD_cons_succ, List.getD_nil, h1, h6, h7, h8] <;> rfl) (by exact (rfl)) (by decide) ?_
  refine ro_extract (by simp only [evalF, upd, argsF, ofConst, ofCell, Nat.reduceEqDiff, reduceIte, List.getD_cons_zero, List.getD_cons_succ, List.getD_nil, h1, h6, h7, h8] <;> rfl) (by exact (rfl)) (by decide) ?_
  refine ro_assign (by simp only [evalF, upd, argsF, ofConst, ofCell, Nat.reduceEqDiff, reduceIte, List.getD_cons_zero, List.getD_cons_succ, List.getD_nil, h1, h6, h7, h8] <;> rfl) (by decide) ?_
  refine ro_assign (by simp only [evalF, upd, argsF, ofConst, ofCell, Nat.reduceEqDiff, reduceIte, List.getD_cons_zero, List.getD_cons_succ, List.getD_nil, h1, h6, h7, h8] <;> rfl) (by decide) ?_
  refine ro_assign (by simp only [evalF, upd, argsF, ofConst, ofCell, Nat.reduceEqDiff, reduceIte, List.getD_cons_zero, List.getD_cons_succ, List.getD_nil, h1, h6, h7, h8] <;> rfl) (by decide) ?_
  refine ro_nil ?_
  simp only
  refine ex_seq (ex_region ?_)
  refine ro_move (by simp only [evalF, upd, argsF, ofConst, ofCell, Nat.reduceEqDiff, reduceIte, List.getD_cons_zero, List.getD_cons_succ, List.getD_nil, h1, h6, h7, h8] <;> rfl) (by decide) ?_
  refine ro_move (by simp only [evalF, upd, argsF, ofConst, ofCell, Nat.reduceEqDiff, reduceIte, List.getD_cons_zero, List.getD_cons_succ, List.getD_nil, h1, h6, h7, h8] <;> rfl) (by decide) ?_
  refine ro_bin (by simp only [evalF, upd, argsF, ofConst, ofCell, Nat.reduceEqDiff, reduceIte, List.getD_cons_zero, List.getD_cons_succ, List.getD_nil, h1, h6, h7, h8] <;> rfl) (by simp only [evalF, upd, argsF, ofConst, ofCell, Nat.reduceEqDiff, reduceIte, List.getD_cons_zero, List.getD_cons_succ, List.getD_nil, h1, h6, h7, h8] <;> rfl) (by exact (neq4 _)) (by decide) ?_
  refine ro_move (by simp only [evalF, upd, argsF, ofConst, ofCell, Nat.reduceEqDiff, reduceIte, List.getD_cons_zero, List.getD_cons_succ, List.getD_nil, h1, h6, h7, h8] <;> rfl) (by decide) ?_
  refine ro_guard rfl (by simp only [evalF, upd, argsF, ofConst, ofCell, Nat.reduceEqDiff, reduceIte, List.getD_cons_zero, List.getD_cons_succ, List.getD_nil, h1, h6, h7, h8] <;> rfl) rfl ?_
  refine ro_move (by simp only [evalF, upd, argsF, ofConst, ofCell, Nat.reduceEqDiff, reduceIte, List.getD_cons_zero, List.getD_cons_succ, List.getD_nil, h1, h6, h7, h8] <;> rfl) (by decide) ?_
  refine ro_guard rfl (by simp only [evalF, upd, argsF, ofConst, ofCell, Nat.reduceEqDiff, reduceIte, List.getD_cons_zero, List.getD_cons_succ, List.getD_nil, h1, h6, h7, h8] <;> rfl) rfl ?_
  refine ro_move (by simp only [evalF, upd, argsF, ofConst, ofCell, Nat.reduceEqDiff, reduceIte, List.getD_cons_zero, List.getD_cons_succ, List.getD_nil, h1, h6, h7, h8] <;> rfl) (by decide) ?_
  refine ro_guard rfl (by simp only [evalF, upd, argsF, ofConst, ofCell, Nat.reduceEqDiff, reduceIte, List.getD_cons_zero, List.getD_cons_succ, List.getD_nil, h1, h6, h7, h8] <;> rfl) rfl ?_
  refine ro_bin (by simp only [evalF, upd, argsF, ofConst, ofCell, Nat.reduceEqDiff, reduceIte, List.getD_cons_zero, List.getD_cons_succ, List.getD_nil, h1, h6, h7, h8] <;> rfl) (by simp only [evalF, upd, argsF, ofConst, ofCell, Nat.reduceEqDiff, reduceIte, List.getD_cons_zero, List.getD_cons_succ, List.getD_nil, h1, h6, h7, h8] <;> rfl) (by exact (neq4 _)) (by decide) ?_
  refine ro_pick (by simp only [evalF, upd, argsF, ofConst, ofCell, Nat.reduceEqDiff, reduceIte, List.getD_cons_zero, List.getD_cons_succ, List.getD_nil, h1, h6, h7, h8] <;> rfl) (by simp only [evalF, upd, argsF, ofConst, ofCell, Nat.reduceEqDiff, reduceIte, List.getD_cons_zero, List.getD_cons_succ, List.getD_nil, h1, h6, h7, h8] <;> rfl) (by simp only [evalF, upd, argsF, ofConst, ofCell, Nat.reduceEqDiff, reduceIte, List.getD_cons_zero, List.getD_cons_succ, List.getD_nil, h1, h6, h7, h8] <;> rfl) (by decide) ?_
  refine ro_move (by simp only [evalF, upd, argsF, ofConst, ofCell, Nat.reduceEqDiff, reduceIte, List.getD_cons_zero, List.getD_cons_succ, List.getD_nil, h1, h6, h7, h8] <;> rfl) (by decide) ?_
  refine ro_guard rfl (by simp only [evalF, upd, argsF, ofConst, ofCell, Nat.reduceEqDiff, reduceIte, List.getD_cons_zero, List.getD_cons_succ, List.getD_nil, h1, h6, h7, h8] <;> rfl) rfl ?_
  refine ro_move (by simp only [evalF, upd, argsF, ofConst, ofCell, Nat.reduceEqDiff, reduceIte, List.getD_cons_zero, List.getD_cons_succ, List.getD_nil, h1, h6, h7, h8] <;> rfl) (by decide) ?_
  refine ro_guard rfl (by simp only [evalF, upd, argsF, ofConst, ofCell, Nat.reduceEqDiff, reduceIte, List.getD_cons_zero, List.getD_cons_succ, List.getD_nil, h1, h6, h7, h8] <;> rfl) rfl ?_
  refine ro_conv (by simp only [evalF, upd, argsF, ofConst, ofCell, Nat.reduceEqDiff, reduceIte, List.getD_cons_zero, List.getD_cons_succ, List.getD_nil, h1, h6, h7, h8] <;> rfl) (by exact (hstr1 _ _)) (by decide) ?_
  refine ro_guard rfl (by simp only [evalF, upd, argsF, ofConst, ofCell, Nat.reduceEqDiff, reduceIte, List.getD_cons_zero, List.getD_cons_succ, List.getD_nil, h1, h6, h7, h8] <;> rfl) rfl ?_
  refine ro_move (by simp only [evalF, upd, argsF, ofConst, ofCell, Nat.reduceEqDiff, reduceIte, List.getD_cons_zero, List.getD_cons_succ, List.getD_nil, h1, h6, h7, h8] <;> rfl) (by decide) ?_
  refine ro_guard rfl (by simp only [evalF, upd, argsF, ofConst, ofCell, Nat.reduceEqDiff, reduceIte, List.getD_cons_zero, List.getD_cons_succ, List.getD_nil, h1, h6, h7, h8] <;> rfl) rfl ?_
  refine ro_conv (by simp only [evalF, upd, argsF, ofConst, ofCell, Nat.reduceEqDiff, reduceIte, List.getD_cons_zero, List.getD_cons_succ, List.getD_nil, h1, h6, h7, h8] <;> rfl) (by exact (hstr _ _)) (by decide) ?_
  refine ro_guard rfl (by simp only [evalF, upd, argsF, ofConst, ofCell, Nat.reduceEqDiff, reduceIte, List.getD_cons_zero, List.getD_cons_succ, List.getD_nil, h1, h6, h7, h8] <;> rfl) rfl ?_
  refine ro_bin (by simp only [evalF, upd, argsF, ofConst, ofCell, Nat.reduceEqDiff, reduceIte, List.getD_cons_zero, List.getD_cons_succ, List.getD_nil, h1, h6, h7, h8] <;> rfl) (by simp only [evalF, upd, argsF, ofConst, ofCell, Nat.reduceEqDiff, reduceIte, List.getD_cons_zero, List.getD_cons_succ, List.getD_nil, h1, h6, h7, h8] <;> rfl) (by exact (neq9 _)) (by decide) ?_
  refine ro_pick (by simp only [evalF, upd, argsF, ofConst, ofCell, Nat.reduceEqDiff, reduceIte, List.getD_cons_zero, List.getD_cons_succ, List.getD_nil, h1, h6, h7, h8] <;> rfl) (by simp only [evalF, upd, argsF, ofConst, ofCell, Nat.reduceEqDiff, reduceIte, List.getD_cons_zero, List.getD_cons_succ, List.getD_nil, h1, h6, h7, h8] <;> rfl) (by simp only [evalF, upd, argsF, ofConst, ofCell, Nat.reduceEqDiff, reduceIte, List.getD_cons_zero, List.getD_cons_succ, List.getD_nil, h1, h6, h7, h8] <;> rfl) (by decide) ?_
  refine ro_move (by simp only [evalF, upd, argsF, ofConst, ofCell, Nat.reduceEqDiff, reduceIte, List.getD_cons_zero, List.getD_cons_succ, List.getD_nil, h1, h6, h7, h8] <;> rfl) (by decide) ?_
  refine ro_guard rfl (by simp only [evalF, upd, argsF, ofConst, ofCell, Nat.reduceEqDiff, reduceIte, List.getD_cons_zero, List.getD_cons_succ, List.getD_nil, h1, h6, h7, h8] <;> rfl) rfl ?_
  refine ro_move (by simp only [evalF, upd, argsF, ofConst, ofCell, Nat.reduceEqDiff, reduceIte, List.getD_cons_zero, List.getD_cons_succ, List.getD_nil, h1, h6, h7, h8] <;> rfl) (by decide) ?_
  refine ro_guard rfl (by simp only [evalF, upd, argsF, ofConst, ofCell, Nat.reduceEqDiff, reduceIte, List.getD_cons_zero, List.getD_cons_succ, List.getD_nil, h1, h6, h7, h8] <;> rfl) rfl ?_
  refine ro_call (f := 17) («as» := [.ptr idp 1 0]) rfl (by simp [evalF, upd, h6]) rfl rfl (sent_calls facts plains 1000 18 hpz nbz idp (k + 1) (.pv (.int .u64 x)) l hlp3) (by decide) ?_
  rintro v hpw nbw ⟨rfl, rfl, rfl⟩
  refine ro_guard rfl (by simp only [evalF, upd, argsF, ofConst, ofCell, Nat.reduceEqDiff, reduceIte, List.getD_cons_zero, List.getD_cons_succ, List.getD_nil, h1, h6, h7, h8] <;> rfl) rfl ?_
  refine ro_move (by simp only [evalF, upd, argsF, ofConst, ofCell, Nat.reduceEqDiff, reduceIte, List.getD_cons_zero, List.getD_cons_succ, List.getD_nil, h1, h6, h7, h8] <;> rfl) (by decide) ?_
  refine ro_guard rfl (by simp only [evalF, upd, argsF, ofConst, ofCell, Nat.reduceEqDiff, reduceIte, List.getD_cons_zero, List.getD_cons_succ, List.getD_nil, h1, h6, h7, h8] <;> rfl) rfl ?_
  refine ro_bin (by simp only [evalF, upd, argsF, ofConst, ofCell, Nat.reduceEqDiff, reduceIte, List.getD_cons_zero, List.getD_cons_succ, List.getD_nil, h1, h6, h7, h8] <;> rfl) (by simp only [evalF, upd, argsF, ofConst, ofCell, Nat.reduceEqDiff, reduceIte, List.getD_cons_zero, List.getD_cons_succ, List.getD_nil, h1, h6, h7, h8] <;> rfl) (by exact (show _ = some (AV.pv (.int .i64 (k + 1))) from by show some (AV.pv (.int .i64 (IntKind.i64.wrap (k + 1)))) = _; rw [IntWalk.i64_in _ (by omega)])) (by decide) ?_
  refine ro_guard rfl (by simp only [evalF, upd, argsF, ofConst, ofCell, Nat.reduceEqDiff, reduceIte, List.getD_cons_zero, List.getD_cons_succ, List.getD_nil, h1, h6, h7, h8] <;> rfl) rfl ?_
  refine ro_bin (by simp only [evalF, upd, argsF, ofConst, ofCell, Nat.reduceEqDiff, reduceIte, List.getD_cons_zero, List.getD_cons_succ, List.getD_nil, h1, h6, h7, h8] <;> rfl) (by simp only [evalF, upd, argsF, ofConst, ofCell, Nat.reduceEqDiff, reduceIte, List.getD_cons_zero, List.getD_cons_succ, List.getD_nil, h1, h6, h7, h8] <;> rfl) (by exact (neq3 _)) (by decide) ?_
  refine ro_pick (by simp only [evalF, upd, argsF, ofConst, ofCell, Nat.reduceEqDiff, reduceIte, List.getD_cons_zero, List.getD_cons_succ, List.getD_nil, h1, h6, h7, h8] <;> rfl) (by simp only [evalF, upd, argsF, ofConst, ofCell, Nat.reduceEqDiff, reduceIte, List.getD_cons_zero, List.getD_cons_succ, List.getD_nil, h1, h6, h7, h8] <;> rfl) (by simp only [evalF, upd, argsF, ofConst, ofCell, Nat.reduceEqDiff, reduceIte, List.getD_cons_zero, List.getD_cons_succ, List.getD_nil, h1, h6, h7, h8] <;> rfl) (by decide) ?_
  refine ro_nil ?_
  simp only
  refine ex_cond (t := false) (by simp only [evalF, upd, argsF, ofConst, ofCell, Nat.reduceEqDiff, reduceIte, List.getD_cons_zero, List.getD_cons_succ, List.getD_nil, h1, h6, h7, h8] <;> rfl) (fun h => by simp at h) (fun _ => ex_skip ?_)
  simp only
  refine ex_region ?_
  refine ro_move (by simp only [evalF, upd, argsF, ofConst, ofCell, Nat.reduceEqDiff, reduceIte, List.getD_cons_zero, List.getD_cons_succ, List.getD_nil, h1, h6, h7, h8] <;> rfl) (by decide) ?_
  refine ro_bin (by simp only [evalF, upd, argsF, ofConst, ofCell, Nat.reduceEqDiff, reduceIte, List.getD_cons_zero, List.getD_cons_succ, List.getD_nil, h1, h6, h7, h8] <;> rfl) (by simp only [evalF, upd, argsF, ofConst, ofCell, Nat.reduceEqDiff, reduceIte, List.getD_cons_zero, List.getD_cons_succ, List.getD_nil, h1, h6, h7, h8] <;> rfl) (by exact (show _ = some (AV.pv (.int .i64 (k + 1))) from by show some (AV.pv (.int .i64 (IntKind.i64.wrap (k + 1)))) = _; rw [IntWalk.i64_in _ (by omega)])) (by decide) ?_
  refine ro_assign (by simp only [evalF, upd, argsF, ofConst, ofCell, Nat.reduceEqDiff, reduceIte, List.getD_cons_zero, List.getD_cons_succ, List.getD_nil, h1, h6, h7, h8] <;> rfl) (by decide) ?_
  refine ro_nil ?_
  exact ⟨(n % 80 - (k + 1)).toNat, by omega, k + 1, by omega, by omega, rfl, by simp [upd, h1], by simp [upd, h6], by simp [upd, h7], by simp [upd], by omega, hlp3, hlq3, hcl3⟩
end Go.Proofs.Ytabpcmmkmbchnaa.ringPosts
