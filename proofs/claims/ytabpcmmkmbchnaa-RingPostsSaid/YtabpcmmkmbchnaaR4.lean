/- The posts of a ring: copies of lies; a new post. -/
import Derived.Test.YtabpcmmkmbchnaaR3
set_option linter.unusedVariables false
set_option linter.unusedSimpArgs false
set_option linter.unusedSectionVars false
namespace Go.Proofs.Ytabpcmmkmbchnaa
open Go AI

set_option maxHeartbeats 4000000
set_option maxRecDepth 10000

/-- A row of bytes that is read. -/
inductive BytesP : PV → Nat → Prop
  | nil : BytesP .nilSlice 0
  | zcap : BytesP .zcap 0
  | ros0 : BytesP (.ros 1 0 []) 0
  | ros (n : Nat) (bs : List Int) (h : bs.length = n + 1) : BytesP (.ros 1 (n + 1) (bs.map fun z => .int .u8 z)) (n + 1)

/-- What a copy of bytes is. -/
def nrm (p : PV) : PV :=
  match p with
  | .ros _ 0 _ => .zcap
  | p => p

theorem bytes_nrm {p : PV} {n : Nat} (h : BytesP p n) : BytesP (nrm p) n := by
  cases h with
  | nil => exact .nil
  | zcap => exact .zcap
  | ros0 => exact .zcap
  | ros n bs h => exact .ros n bs h

theorem nrm_nrm {p : PV} {n : Nat} (h : BytesP p n) : nrm (nrm p) = nrm p := by cases h <;> rfl

theorem bytes_len {p : PV} {n : Nat} (h : BytesP p n) : lenA Try.prog 48 (.pv p) = some (n : Int) := by
  cases h with
  | nil => kernel_rfl
  | zcap => kernel_rfl
  | ros0 => kernel_rfl
  | ros n bs h => 
    show lenA Try.prog 48 (.pv (.ros 1 (n + 1) _)) = some ((n + 1 : Nat) : Int)
    unfold lenA
    rw [Try.underlying48]

theorem eq48_nil : binOpA Try.prog .eql 48 (.pv .nilSlice) (.pv .nilSlice) = some (.pv (.bool true)) := by kernel_rfl
theorem eq48_zcap : binOpA Try.prog .eql 48 (.pv .zcap) (.pv .nilSlice) = some (.pv (.bool false)) := by kernel_rfl
theorem eq48_ros (a b : Nat) (c : List PV) : binOpA Try.prog .eql 48 (.pv (.ros a b c)) (.pv .nilSlice) = some (.pv (.bool false)) := by kernel_rfl
theorem eq45_nil : binOpA Try.prog .eql 45 (.pv .nilSlice) (.pv .nilSlice) = some (.pv (.bool true)) := by kernel_rfl
theorem eq45_zcap : binOpA Try.prog .eql 45 (.pv .zcap) (.pv .nilSlice) = some (.pv (.bool false)) := by kernel_rfl
theorem eq45_ros (a b : Nat) (c : List PV) : binOpA Try.prog .eql 45 (.pv (.ros a b c)) (.pv .nilSlice) = some (.pv (.bool false)) := by kernel_rfl
theorem bs48 (nb : Nat) : buildSliceA Try.prog nb 48 0 [] = some (.new (.slice nb 1 0 0 0 1 true) (.cells 1 [])) := by kernel_rfl
theorem bs45 (nb : Nat) : buildSliceA Try.prog nb 45 0 [] = some (.new (.slice nb 1 0 0 0 2 true) (.cells 1 [])) := by kernel_rfl
theorem info5 : Try.prog.info? 5 = some Try.t5 := by kernel_rfl
theorem info50 : Try.prog.info? 50 = some Try.t50 := by kernel_rfl

theorem app48_zcap {hp : Hp} {nb id : Nat} (hl : AI.look hp id 1 = some []) : builtinA Try.prog hp nb .append #[48, 48] [.slice id 1 0 0 0 1 true, .pv .zcap] = some (.val (.slice id 1 0 0 0 1 true)) := by
  unfold builtinA appendA
  simp only [show (#[48, 48] : Array TypeId)[0]? = some 48 from rfl, show (#[48, 48] : Array TypeId)[1]? = some 48 from rfl, Try.underlying48, info5, sourceA, srcA, Option.bind_some, hl]
  rfl

theorem app48_ros0 {hp : Hp} {nb id : Nat} (hl : AI.look hp id 1 = some []) : builtinA Try.prog hp nb .append #[48, 48] [.slice id 1 0 0 0 1 true, .pv (.ros 1 0 [])] = some (.val (.slice id 1 0 0 0 1 true)) := by
  unfold builtinA appendA
  have e1 : Try.t5.size = 1 := rfl
  simp only [show (#[48, 48] : Array TypeId)[0]? = some 48 from rfl, show (#[48, 48] : Array TypeId)[1]? = some 48 from rfl, Try.underlying48, info5, sourceA, srcA, e1, if_true, Option.bind_some, hl]
  rfl

theorem app45_ros0 {hp : Hp} {nb id : Nat} (hl : AI.look hp id 1 = some []) : builtinA Try.prog hp nb .append #[45, 45] [.slice id 1 0 0 0 2 true, .pv (.ros 2 0 [])] = some (.val (.slice id 1 0 0 0 2 true)) := by
  unfold builtinA appendA
  have e1 : Try.t50.size = 2 := rfl
  simp only [show (#[45, 45] : Array TypeId)[0]? = some 45 from rfl, show (#[45, 45] : Array TypeId)[1]? = some 45 from rfl, Try.underlying45, info50, sourceA, srcA, e1, if_true, Option.bind_some, hl]
  rfl

theorem app45_zcap {hp : Hp} {nb id : Nat} (hl : AI.look hp id 1 = some []) : builtinA Try.prog hp nb .append #[45, 45] [.slice id 1 0 0 0 2 true, .pv .zcap] = some (.val (.slice id 1 0 0 0 2 true)) := by
  unfold builtinA appendA
  simp only [show (#[45, 45] : Array TypeId)[0]? = some 45 from rfl, show (#[45, 45] : Array TypeId)[1]? = some 45 from rfl, Try.underlying45, info50, sourceA, srcA, Option.bind_some, hl]
  rfl

theorem app48_ros {hp : Hp} {nb id n : Nat} {cs : List PV} (hn : n < 100000) (hl : AI.look hp id 1 = some []) :
    builtinA Try.prog hp nb .append #[48, 48] [.slice id 1 0 0 0 1 true, .pv (.ros 1 (n + 1) cs)] = some (.new (.slice nb 1 0 (n + 1) (n + 1) 1 false) (.cells 1 (cs.map .pv))) := by
  unfold builtinA appendA
  have e1 : Try.t5.size = 1 := rfl
  have e2 : Try.t5.bytes = 1 := rfl
  have e3 : Try.t5.zero.map (·.cells.size) = some 1 := rfl
  simp only [show (#[48, 48] : Array TypeId)[0]? = some 48 from rfl, show (#[48, 48] : Array TypeId)[1]? = some 48 from rfl, Try.underlying48, info5, sourceA, srcA, Option.bind_some, hl, e1, e2, e3, if_true]
  rw [if_neg (by simp [AV.isCell])]
  simp only [ne_eq, not_true, if_false]
  rw [if_neg (by omega), if_neg (by omega), if_pos (by omega)]
  simp [newCells]

theorem app45_ros {hp : Hp} {nb id n : Nat} {cs : List PV} (hn : n < 100000) (hl : AI.look hp id 1 = some []) :
    builtinA Try.prog hp nb .append #[45, 45] [.slice id 1 0 0 0 2 true, .pv (.ros 2 (n + 1) cs)] = some (.new (.slice nb 1 0 (n + 1) (n + 1) 2 false) (.cells 1 (cs.map .pv))) := by
  unfold builtinA appendA
  have e1 : Try.t50.size = 2 := rfl
  have e2 : Try.t50.bytes ≤ 64 := by decide
  have e3 : Try.t50.zero.map (·.cells.size) = some 2 := rfl
  simp only [show (#[45, 45] : Array TypeId)[0]? = some 45 from rfl, show (#[45, 45] : Array TypeId)[1]? = some 45 from rfl, Try.underlying45, info50, sourceA, srcA, Option.bind_some, hl, e1, e3, if_true]
  rw [if_neg (by simp [AV.isCell])]
  simp only [ne_eq, not_true, if_false]
  rw [if_neg (by omega), if_neg (by omega), if_pos (by
    refine ⟨?_, by omega⟩
    calc (2 * (0 + (n + 1)) + 768) * Try.t50.bytes ≤ (2 * (0 + (n + 1)) + 768) * 64 := Nat.mul_le_mul_left _ e2
      _ ≤ _ := by omega)]
  simp [newCells]

theorem mapM_frz (hp : Hp) (d : Nat) : ∀ l : List Int, ((l.map fun z => PV.int .u8 z).map AV.pv).mapM (freezeP hp d) = some (l.map fun z => PV.int .u8 z)
  | [] => rfl
  | a :: l => by
    rw [List.map_cons, List.map_cons, List.mapM_cons, mapM_frz hp d l]
    cases d <;> rfl

/-- A copy of bytes. -/
theorem clone_bytes (S : CallG) (pure : Nat → Bool) (lim d : Nat) {p : PV} {n : Nat} (hp0 : BytesP p n) (hn : n < 100000) (hp : Hp) : pureOf (callA Try.prog S pure lim (d + 1)) hp 28 [.pv p] = some (.pv (nrm p)) := by
  refine pure_of_ca (Qc := fun v hp' nb' => freezeR hp' v = some (.pv (nrm p))) rfl ?_ (fun v hp' nb' h => h) hp
  refine ca_body (fn := Try.f28) (c := bodyOf Try.f28) Try.func28 rfl (by show 1 ≤ 8; omega) ?_
  show EX _ _ _ _ _ 8 _ _ _ _ _
  unfold bodyOf Try.f28
  refine ex_seq (ex_region ?_)
  refine ro_assign (by simp only [evalF, upd, argsF, ofConst, ofCell, Nat.reduceEqDiff, reduceIte, List.getD_cons_zero, List.getD_cons_succ, List.getD_nil] <;> rfl) (by decide) ?_
  refine ro_nil ?_
  simp only
  cases hp0 with
  | nil =>
    refine ex_seq (ex_seq ?_)
    refine ex_region ?_
    refine ro_move (by simp only [evalF, upd, argsF, ofConst, ofCell, Nat.reduceEqDiff, reduceIte, List.getD_cons_zero, List.getD_cons_succ, List.getD_nil] <;> rfl) (by decide) ?_
    refine ro_bin (by simp only [evalF, upd, argsF, ofConst, ofCell, Nat.reduceEqDiff, reduceIte, List.getD_cons_zero, List.getD_cons_succ, List.getD_nil] <;> rfl) (by simp only [evalF, upd, argsF, ofConst, ofCell, Nat.reduceEqDiff, reduceIte, List.getD_cons_zero, List.getD_cons_succ, List.getD_nil] <;> rfl) (by exact (eq48_nil)) (by decide) ?_
    refine ro_nil ?_
    simp only
    refine ex_cond (t := true) (by simp only [evalF, upd, argsF, ofConst, ofCell, Nat.reduceEqDiff, reduceIte, List.getD_cons_zero, List.getD_cons_succ, List.getD_nil] <;> rfl) (fun _ => ?_) (fun h => by simp at h)
    refine ex_seq (ex_region ?_)
    refine ro_assign (by simp only [evalF, upd, argsF, ofConst, ofCell, Nat.reduceEqDiff, reduceIte, List.getD_cons_zero, List.getD_cons_succ, List.getD_nil] <;> rfl) (by decide) ?_
    refine ro_nil ?_
    simp only
    refine ex_ret ?_
    exact ⟨_, rfl, by simp [upd, freezeR, freezeV, freezeP, nrm]⟩
  | zcap =>
    refine ex_seq (ex_seq ?_)
    refine ex_region ?_
    refine ro_move (by simp only [evalF, upd, argsF, ofConst, ofCell, Nat.reduceEqDiff, reduceIte, List.getD_cons_zero, List.getD_cons_succ, List.getD_nil] <;> rfl) (by decide) ?_
    refine ro_bin (by simp only [evalF, upd, argsF, ofConst, ofCell, Nat.reduceEqDiff, reduceIte, List.getD_cons_zero, List.getD_cons_succ, List.getD_nil] <;> rfl) (by simp only [evalF, upd, argsF, ofConst, ofCell, Nat.reduceEqDiff, reduceIte, List.getD_cons_zero, List.getD_cons_succ, List.getD_nil] <;> rfl) (by exact (eq48_zcap)) (by decide) ?_
    refine ro_nil ?_
    simp only
    refine ex_cond (t := false) (by simp only [evalF, upd, argsF, ofConst, ofCell, Nat.reduceEqDiff, reduceIte, List.getD_cons_zero, List.getD_cons_succ, List.getD_nil] <;> rfl) (fun h => by simp at h) (fun _ => ?_)
    refine ex_skip ?_
    simp only
    refine ex_seq (ex_region ?_)
    refine ro_buildSlice rfl (bs48 _) (by decide) ?_
    refine ro_move (by simp only [evalF, upd, argsF, ofConst, ofCell, Nat.reduceEqDiff, reduceIte, List.getD_cons_zero, List.getD_cons_succ, List.getD_nil] <;> rfl) (by decide) ?_
    refine ro_builtin rfl (by simp only [List.map_cons, List.map_nil, evalF, upd, Nat.reduceEqDiff, reduceIte, argsF, List.getD_cons_zero] <;> rfl) (app48_zcap (look_same _ _ _ _)) (by decide) ?_
    refine ro_assign (by simp only [evalF, upd, argsF, ofConst, ofCell, Nat.reduceEqDiff, reduceIte, List.getD_cons_zero, List.getD_cons_succ, List.getD_nil] <;> rfl) (by decide) ?_
    refine ro_nil ?_
    simp only
    refine ex_ret ?_
    exact ⟨_, rfl, by simp [upd, freezeR, freezeV, freezeP, nrm]⟩
  | ros0 =>
    refine ex_seq (ex_seq ?_)
    refine ex_region ?_
    refine ro_move (by simp only [evalF, upd, argsF, ofConst, ofCell, Nat.reduceEqDiff, reduceIte, List.getD_cons_zero, List.getD_cons_succ, List.getD_nil] <;> rfl) (by decide) ?_
    refine ro_bin (by simp only [evalF, upd, argsF, ofConst, ofCell, Nat.reduceEqDiff, reduceIte, List.getD_cons_zero, List.getD_cons_succ, List.getD_nil] <;> rfl) (by simp only [evalF, upd, argsF, ofConst, ofCell, Nat.reduceEqDiff, reduceIte, List.getD_cons_zero, List.getD_cons_succ, List.getD_nil] <;> rfl) (by exact (eq48_ros _ _ _)) (by decide) ?_
    refine ro_nil ?_
    simp only
    refine ex_cond (t := false) (by simp only [evalF, upd, argsF, ofConst, ofCell, Nat.reduceEqDiff, reduceIte, List.getD_cons_zero, List.getD_cons_succ, List.getD_nil] <;> rfl) (fun h => by simp at h) (fun _ => ?_)
    refine ex_skip ?_
    simp only
    refine ex_seq (ex_region ?_)
    refine ro_buildSlice rfl (bs48 _) (by decide) ?_
    refine ro_move (by simp only [evalF, upd, argsF, ofConst, ofCell, Nat.reduceEqDiff, reduceIte, List.getD_cons_zero, List.getD_cons_succ, List.getD_nil] <;> rfl) (by decide) ?_
    refine ro_builtin rfl (by simp only [List.map_cons, List.map_nil, evalF, upd, Nat.reduceEqDiff, reduceIte, argsF, List.getD_cons_zero] <;> rfl) (app48_ros0 (look_same _ _ _ _)) (by decide) ?_
    refine ro_assign (by simp only [evalF, upd, argsF, ofConst, ofCell, Nat.reduceEqDiff, reduceIte, List.getD_cons_zero, List.getD_cons_succ, List.getD_nil] <;> rfl) (by decide) ?_
    refine ro_nil ?_
    simp only
    refine ex_ret ?_
    exact ⟨_, rfl, by simp [upd, freezeR, freezeV, freezeP, nrm]⟩
  | ros n bs hb =>
    refine ex_seq (ex_seq ?_)
    refine ex_region ?_
    refine ro_move (by simp only [evalF, upd, argsF, ofConst, ofCell, Nat.reduceEqDiff, reduceIte, List.getD_cons_zero, List.getD_cons_succ, List.getD_nil] <;> rfl) (by decide) ?_
    refine ro_bin (by simp only [evalF, upd, argsF, ofConst, ofCell, Nat.reduceEqDiff, reduceIte, List.getD_cons_zero, List.getD_cons_succ, List.getD_nil] <;> rfl) (by simp only [evalF, upd, argsF, ofConst, ofCell, Nat.reduceEqDiff, reduceIte, List.getD_cons_zero, List.getD_cons_succ, List.getD_nil] <;> rfl) (by exact (eq48_ros _ _ _)) (by decide) ?_
    refine ro_nil ?_
    simp only
    refine ex_cond (t := false) (by simp only [evalF, upd, argsF, ofConst, ofCell, Nat.reduceEqDiff, reduceIte, List.getD_cons_zero, List.getD_cons_succ, List.getD_nil] <;> rfl) (fun h => by simp at h) (fun _ => ?_)
    refine ex_skip ?_
    simp only
    refine ex_seq (ex_region ?_)
    refine ro_buildSlice rfl (bs48 _) (by decide) ?_
    refine ro_move (by simp only [evalF, upd, argsF, ofConst, ofCell, Nat.reduceEqDiff, reduceIte, List.getD_cons_zero, List.getD_cons_succ, List.getD_nil] <;> rfl) (by decide) ?_
    refine ro_builtin_new rfl (by simp only [List.map_cons, List.map_nil, evalF, upd, Nat.reduceEqDiff, reduceIte, argsF, List.getD_cons_zero] <;> rfl) (app48_ros (by omega) (look_same _ _ _ _)) (by decide) ?_
    refine ro_assign (by simp only [evalF, upd, argsF, ofConst, ofCell, Nat.reduceEqDiff, reduceIte, List.getD_cons_zero, List.getD_cons_succ, List.getD_nil] <;> rfl) (by decide) ?_
    refine ro_nil ?_
    simp only
    refine ex_ret ?_
    refine ⟨_, rfl, ?_⟩
    simp only [upd, Nat.reduceEqDiff, reduceIte, freezeR, freezeV, freezeP, look_same, Option.bind_some, List.length_map, hb, Nat.zero_add, Nat.mul_one, List.drop_zero]
    have h1 : ¬ n + 1 = 0 := by omega
    simp only [h1, if_false, Nat.le_refl, if_true]
    rw [List.take_of_length_le (by simp [hb]), mapM_frz]
    rfl

/-- The cells of a row of lies. -/
def flat : List (Int × PV) → List PV
  | [] => []
  | p :: r => .int .i64 p.1 :: p.2 :: flat r

theorem flat_length : ∀ cs : List (Int × PV), (flat cs).length = 2 * cs.length
  | [] => rfl
  | p :: r => by simp [flat, flat_length r]; omega

theorem flat_get : ∀ (cs : List (Int × PV)) (i : Nat) (p : Int × PV), cs[i]? = some p → (flat cs)[2 * i]? = some (.int .i64 p.1) ∧ (flat cs)[2 * i + 1]? = some p.2
  | [], i, p, h => by simp at h
  | q :: r, 0, p, h => by simp at h; subst h; exact ⟨rfl, rfl⟩
  | q :: r, i + 1, p, h => by
    have ih := flat_get r i p (by simpa using h)
    rw [show 2 * (i + 1) = 2 * i + 1 + 1 by omega]
    exact ih

/-- A row of lies that is read. -/
inductive LiesP : PV → List (Int × PV) → Prop
  | nil : LiesP .nilSlice []
  | zcap : LiesP .zcap []
  | ros0 : LiesP (.ros 2 0 []) []
  | ros (n : Nat) (cs : List (Int × PV)) (h : cs.length = n + 1) : LiesP (.ros 2 (n + 1) (flat cs)) cs

/-- A copy of lies: what it is, where it lies. -/
def Copied (cs : List (Int × PV)) (v : AV) (hp : Hp) (lo nb : Nat) : Prop :=
  (cs = [] ∧ (v = .pv .nilSlice ∨ ∃ id, id < nb ∧ v = .slice id 1 0 0 0 2 true)) ∨ ∃ id n, lo ≤ id ∧ id < nb ∧ cs.length = n + 1 ∧ v = .slice id 1 0 (n + 1) (n + 1) 2 false ∧ hp id = .cells 1 ((flat cs).map .pv)

theorem clone_lies (S : CallG) (pure : Nat → Bool) (lim d : Nat) {p : PV} {cs : List (Int × PV)} (hp0 : LiesP p cs) (hn : cs.length < 100000) :
    CA (callA Try.prog S pure lim (d + 1)) 27 [.pv p] (hf []) 0 fun v hp' nb' => Copied cs v hp' 0 nb' ∧ Tidy hp' nb' := by
  refine ca_body (fn := Try.f27) (c := bodyOf Try.f27) Try.func27 rfl (by show 1 ≤ 8; omega) ?_
  show EX _ _ _ _ _ 8 _ _ _ _ _
  unfold bodyOf Try.f27
  refine ex_seq (ex_region ?_)
  refine ro_assign (by simp only [evalF, upd, argsF, ofConst, ofCell, Nat.reduceEqDiff, reduceIte, List.getD_cons_zero, List.getD_cons_succ, List.getD_nil] <;> rfl) (by decide) ?_
  refine ro_nil ?_
  simp only
  cases hp0 with
  | nil =>
    refine ex_seq (ex_seq ?_)
    refine ex_region ?_
    refine ro_move (by simp only [evalF, upd, argsF, ofConst, ofCell, Nat.reduceEqDiff, reduceIte, List.getD_cons_zero, List.getD_cons_succ, List.getD_nil] <;> rfl) (by decide) ?_
    refine ro_bin (by simp only [evalF, upd, argsF, ofConst, ofCell, Nat.reduceEqDiff, reduceIte, List.getD_cons_zero, List.getD_cons_succ, List.getD_nil] <;> rfl) (by simp only [evalF, upd, argsF, ofConst, ofCell, Nat.reduceEqDiff, reduceIte, List.getD_cons_zero, List.getD_cons_succ, List.getD_nil] <;> rfl) (by exact (eq45_nil)) (by decide) ?_
    refine ro_nil ?_
    simp only
    refine ex_cond (t := true) (by simp only [evalF, upd, argsF, ofConst, ofCell, Nat.reduceEqDiff, reduceIte, List.getD_cons_zero, List.getD_cons_succ, List.getD_nil] <;> rfl) (fun _ => ?_) (fun h => by simp at h)
    refine ex_seq (ex_region ?_)
    refine ro_assign (by simp only [evalF, upd, argsF, ofConst, ofCell, Nat.reduceEqDiff, reduceIte, List.getD_cons_zero, List.getD_cons_succ, List.getD_nil] <;> rfl) (by decide) ?_
    refine ro_nil ?_
    simp only
    refine ex_ret ?_
    exact ⟨_, rfl, .inl ⟨rfl, .inl (by simp [upd])⟩, tidy_nil⟩
  | zcap =>
    refine ex_seq (ex_seq ?_)
    refine ex_region ?_
    refine ro_move (by simp only [evalF, upd, argsF, ofConst, ofCell, Nat.reduceEqDiff, reduceIte, List.getD_cons_zero, List.getD_cons_succ, List.getD_nil] <;> rfl) (by decide) ?_
    refine ro_bin (by simp only [evalF, upd, argsF, ofConst, ofCell, Nat.reduceEqDiff, reduceIte, List.getD_cons_zero, List.getD_cons_succ, List.getD_nil] <;> rfl) (by simp only [evalF, upd, argsF, ofConst, ofCell, Nat.reduceEqDiff, reduceIte, List.getD_cons_zero, List.getD_cons_succ, List.getD_nil] <;> rfl) (by exact (eq45_zcap)) (by decide) ?_
    refine ro_nil ?_
    simp only
    refine ex_cond (t := false) (by simp only [evalF, upd, argsF, ofConst, ofCell, Nat.reduceEqDiff, reduceIte, List.getD_cons_zero, List.getD_cons_succ, List.getD_nil] <;> rfl) (fun h => by simp at h) (fun _ => ?_)
    refine ex_skip ?_
    simp only
    refine ex_seq (ex_region ?_)
    refine ro_buildSlice rfl (bs45 _) (by decide) ?_
    refine ro_move (by simp only [evalF, upd, argsF, ofConst, ofCell, Nat.reduceEqDiff, reduceIte, List.getD_cons_zero, List.getD_cons_succ, List.getD_nil] <;> rfl) (by decide) ?_
    refine ro_builtin rfl (by simp only [List.map_cons, List.map_nil, evalF, upd, Nat.reduceEqDiff, reduceIte, argsF, List.getD_cons_zero] <;> rfl) (app45_zcap (look_same _ _ _ _)) (by decide) ?_
    refine ro_assign (by simp only [evalF, upd, argsF, ofConst, ofCell, Nat.reduceEqDiff, reduceIte, List.getD_cons_zero, List.getD_cons_succ, List.getD_nil] <;> rfl) (by decide) ?_
    refine ro_nil ?_
    simp only
    refine ex_ret ?_
    exact ⟨_, rfl, .inl ⟨rfl, .inr ⟨0, by omega, by simp [upd]⟩⟩, tidy_new tidy_nil (by simp)⟩
  | ros0 =>
    refine ex_seq (ex_seq ?_)
    refine ex_region ?_
    refine ro_move (by simp only [evalF, upd, argsF, ofConst, ofCell, Nat.reduceEqDiff, reduceIte, List.getD_cons_zero, List.getD_cons_succ, List.getD_nil] <;> rfl) (by decide) ?_
    refine ro_bin (by simp only [evalF, upd, argsF, ofConst, ofCell, Nat.reduceEqDiff, reduceIte, List.getD_cons_zero, List.getD_cons_succ, List.getD_nil] <;> rfl) (by simp only [evalF, upd, argsF, ofConst, ofCell, Nat.reduceEqDiff, reduceIte, List.getD_cons_zero, List.getD_cons_succ, List.getD_nil] <;> rfl) (by exact (eq45_ros _ _ _)) (by decide) ?_
    refine ro_nil ?_
    simp only
    refine ex_cond (t := false) (by simp only [evalF, upd, argsF, ofConst, ofCell, Nat.reduceEqDiff, reduceIte, List.getD_cons_zero, List.getD_cons_succ, List.getD_nil] <;> rfl) (fun h => by simp at h) (fun _ => ?_)
    refine ex_skip ?_
    simp only
    refine ex_seq (ex_region ?_)
    refine ro_buildSlice rfl (bs45 _) (by decide) ?_
    refine ro_move (by simp only [evalF, upd, argsF, ofConst, ofCell, Nat.reduceEqDiff, reduceIte, List.getD_cons_zero, List.getD_cons_succ, List.getD_nil] <;> rfl) (by decide) ?_
    refine ro_builtin rfl (by simp only [List.map_cons, List.map_nil, evalF, upd, Nat.reduceEqDiff, reduceIte, argsF, List.getD_cons_zero] <;> rfl) (app45_ros0 (look_same _ _ _ _)) (by decide) ?_
    refine ro_assign (by simp only [evalF, upd, argsF, ofConst, ofCell, Nat.reduceEqDiff, reduceIte, List.getD_cons_zero, List.getD_cons_succ, List.getD_nil] <;> rfl) (by decide) ?_
    refine ro_nil ?_
    simp only
    refine ex_ret ?_
    exact ⟨_, rfl, .inl ⟨rfl, .inr ⟨0, by omega, by simp [upd]⟩⟩, tidy_new tidy_nil (by simp)⟩
  | ros n cs hb =>
    refine ex_seq (ex_seq ?_)
    refine ex_region ?_
    refine ro_move (by simp only [evalF, upd, argsF, ofConst, ofCell, Nat.reduceEqDiff, reduceIte, List.getD_cons_zero, List.getD_cons_succ, List.getD_nil] <;> rfl) (by decide) ?_
    refine ro_bin (by simp only [evalF, upd, argsF, ofConst, ofCell, Nat.reduceEqDiff, reduceIte, List.getD_cons_zero, List.getD_cons_succ, List.getD_nil] <;> rfl) (by simp only [evalF, upd, argsF, ofConst, ofCell, Nat.reduceEqDiff, reduceIte, List.getD_cons_zero, List.getD_cons_succ, List.getD_nil] <;> rfl) (by exact (eq45_ros _ _ _)) (by decide) ?_
    refine ro_nil ?_
    simp only
    refine ex_cond (t := false) (by simp only [evalF, upd, argsF, ofConst, ofCell, Nat.reduceEqDiff, reduceIte, List.getD_cons_zero, List.getD_cons_succ, List.getD_nil] <;> rfl) (fun h => by simp at h) (fun _ => ?_)
    refine ex_skip ?_
    simp only
    refine ex_seq (ex_region ?_)
    refine ro_buildSlice rfl (bs45 _) (by decide) ?_
    refine ro_move (by simp only [evalF, upd, argsF, ofConst, ofCell, Nat.reduceEqDiff, reduceIte, List.getD_cons_zero, List.getD_cons_succ, List.getD_nil] <;> rfl) (by decide) ?_
    refine ro_builtin_new rfl (by simp only [List.map_cons, List.map_nil, evalF, upd, Nat.reduceEqDiff, reduceIte, argsF, List.getD_cons_zero] <;> rfl) (app45_ros (by omega) (look_same _ _ _ _)) (by decide) ?_
    refine ro_assign (by simp only [evalF, upd, argsF, ofConst, ofCell, Nat.reduceEqDiff, reduceIte, List.getD_cons_zero, List.getD_cons_succ, List.getD_nil] <;> rfl) (by decide) ?_
    refine ro_nil ?_
    simp only
    refine ex_ret ?_
    refine ⟨_, rfl, .inr ⟨1, n, by omega, by omega, hb, by simp [upd], by simp [setHp]⟩, tidy_new (tidy_new tidy_nil (by simp)) (fun c hc => ?_)⟩
    obtain ⟨q, _, rfl⟩ := List.mem_map.1 hc
    exact okC_pv _ _
end Go.Proofs.Ytabpcmmkmbchnaa
