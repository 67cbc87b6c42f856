/- Writing: a kind's row, a list. -/
import Derived.Test.YtlinbbjobjnipaaF2
set_option linter.unusedVariables false
set_option linter.unusedSimpArgs false
set_option linter.unusedSectionVars false
namespace Go.Proofs.Ytlinbbjobjnipaa
open Go AI

set_option maxHeartbeats 4000000
set_option maxRecDepth 10000

theorem row_own {hp : Hp} {nb id : Nat} {v : AV} {l : List PV} (r : Row hp nb v l) (ho : ownOf v = some id) : id < nb := by
  cases r with
  | own id' ver off n mc xc cs l' h1 hi => simp only [ownOf, Option.some.injEq] at ho; omega
  | _ => simp [ownOf] at ho

theorem after_trans {hp hp1 hp2 : Hp} {nb nb1 nb2 : Nat} {v v1 : AV} (a : After hp nb v hp1 nb1) (b : After hp1 nb1 v1 hp2 nb2) (ho : ∀ id, ownOf v1 = some id → ownOf v = some id ∨ nb ≤ id) : After hp nb v hp2 nb2 := by
  obtain ⟨a1, a2, a3⟩ := a
  obtain ⟨b1, b2, b3⟩ := b
  refine ⟨by omega, fun id hid hne => ?_, fun h => b3 (a3 h)⟩
  rw [b2 id (by omega) (fun h => (ho id h).elim hne (fun h => by omega)), a2 id hid hne]

theorem after_refl (hp : Hp) (nb : Nat) (v : AV) : After hp nb v hp nb := ⟨Nat.le_refl _, fun _ _ _ => rfl, fun h => h⟩

/-- A new block of plain values. -/
theorem after_new (hp : Hp) (nb : Nat) (v : AV) (cs : List AV) (h : ∀ c ∈ cs, okC nb c) : After hp nb v (setHp hp nb (.cells 1 cs)) (nb + 1) :=
  ⟨Nat.le_succ _, fun id hid _ => by simp [setHp, show id ≠ nb by omega], fun ht => tidy_new ht (fun c hc => okC_mono (Nat.le_succ _) (h c hc))⟩

/-- What writing behind bytes gives. -/
def WrOk (b : AV) (bs : List Int) (r : Except Int (List Int)) (hp : Hp) (nb : Nat) (v : AV) (hp' : Hp) (nb' : Nat) : Prop :=
  After hp nb b hp' nb' ∧ match r with
    | .ok x => ∃ b', v = .tuple [b', .pv (.int .i64 0)] ∧ Grow hp' nb' b' (u8s (bs ++ x)) ∧ (∀ id, ownOf b' = some id → ownOf b = some id ∨ nb ≤ id)
    | .error e => v = .tuple [.pv .nilSlice, .pv (.int .i64 e)]

def rowV (k : Int) : AV :=
  match rowOf k with
  | none => .tuple [.pv .nilSlice, .pv (.bool false)]
  | some [] => .tuple [.pv .nilSlice, .pv (.bool true)]
  | some fs => .tuple [.pv (.ros 1 fs.length (ints (fs.map Int.ofNat))), .pv (.bool true)]

section
variable {P : Program} {pure : Nat → Bool} {F : CallF} {G : CallG} {lim n : Nat} {g : Gm} {hp : Hp} {nb : Nat} {a b : Code} {e i : Nat}
theorem ex_block_pass (hne : e ≠ i) (h : EX P pure F G lim n b g hp nb fun y _ _ _ => y = .exit e) : EX P pure F G lim n (.block i b) g hp nb fun y _ _ _ => y = .exit e :=
  ex_block (ex_weaken h (fun x g hp nb hx => by subst hx; simp [hne]))
theorem ex_block_hit (h : EX P pure F G lim n b g hp nb fun y _ _ _ => y = .exit i) : EX P pure F G lim n (.block i b) g hp nb fun y _ _ _ => y = .normal :=
  ex_block (ex_weaken h (fun x g hp nb hx => by subst hx; simp))
theorem ex_seq_stop (h : EX P pure F G lim n a g hp nb fun y _ _ _ => y = .exit e) : EX P pure F G lim n (.seq a b) g hp nb fun y _ _ _ => y = .exit e :=
  ex_seq (ex_weaken h (fun x g hp nb hx => by subst hx; rfl))
end

theorem row_none (lim d : Nat) (k : Int) (hk : ¬ (1 ≤ k ∧ k ≤ 12)) (hp : Hp) : pureOf (callA Try.prog facts plains lim (d + 1)) hp 19 [.pv (.int .i64 k)] = some (.tuple [.pv .nilSlice, .pv (.bool false)]) := by
  refine pure_of_ca (Qc := fun v hp' nb' => v = .tuple [.pv .nilSlice, .pv (.bool false)]) rfl ?_ (fun v hp' nb' h => by rw [h]; rfl) hp
  refine ca_body (fn := Try.f19) (c := bodyOf Try.f19) Try.func19 rfl (by show 1 ≤ 37; omega) ?_
  show EX _ _ _ _ _ 37 _ _ _ _ _
  unfold bodyOf Try.f19
  refine ex_seq (ex_region ?_)
  refine ro_assign (by simp only [evalF, upd, arg0, argS, ofConst, ofCell, Nat.reduceEqDiff, reduceIte] <;> rfl) (by decide) ?_
  refine ro_assign (by simp only [evalF, upd, arg0, argS, ofConst, ofCell, Nat.reduceEqDiff, reduceIte] <;> rfl) (by decide) ?_
  refine ro_nil ?_
  try simp only
  refine ex_seq (ex_weaken (K := fun y _ _ _ => y = .normal) ?_ ?_)
  · refine ex_seq (ex_region ?_)
    refine ro_move (by simp only [evalF, upd, arg0, argS, ofConst, ofCell, Nat.reduceEqDiff, reduceIte] <;> rfl) (by decide) ?_
    refine ro_nil ?_
    try simp only
    refine ex_block_hit ?_
    refine ex_seq_stop ?_
    refine ex_block_pass (by decide) ?_
    refine ex_seq_stop ?_
    refine ex_block_pass (by decide) ?_
    refine ex_seq_stop ?_
    refine ex_block_pass (by decide) ?_
    refine ex_seq_stop ?_
    refine ex_block_pass (by decide) ?_
    refine ex_seq_stop ?_
    refine ex_block_pass (by decide) ?_
    refine ex_seq_stop ?_
    refine ex_block_pass (by decide) ?_
    refine ex_block_pass (by decide) ?_
    refine ex_seq_stop ?_
    refine ex_block_pass (by decide) ?_
    refine ex_seq_stop ?_
    refine ex_block_pass (by decide) ?_
    refine ex_seq_stop ?_
    refine ex_block_pass (by decide) ?_
    refine ex_seq_stop ?_
    refine ex_block_pass (by decide) ?_
    refine ex_seq (ex_weaken (K := fun y _ _ _ => y = .normal) ?_ (fun x g hp nb hx => by subst hx; exact ex_exit rfl))
    refine ex_seq (ex_seq (ex_region ?_))
    refine ro_bin (by simp only [evalF, upd, arg0, argS, ofConst, ofCell, Nat.reduceEqDiff, reduceIte] <;> rfl) (by simp only [evalF, upd, arg0, argS, ofConst, ofCell, Nat.reduceEqDiff, reduceIte] <;> rfl) (by exact (eql_f (by omega))) (by decide) ?_
    refine ro_assign (by simp only [evalF, upd, arg0, argS, ofConst, ofCell, Nat.reduceEqDiff, reduceIte] <;> rfl) (by decide) ?_
    refine ro_nil ?_
    try simp only
    refine ex_cond (t := false) (by simp only [evalF, upd, arg0, argS, ofConst, ofCell, Nat.reduceEqDiff, reduceIte] <;> rfl) (fun h => by simp at h) (fun _ => ex_skip ?_)
    try simp only
    refine ex_seq (ex_seq (ex_region ?_))
    refine ro_bin (by simp only [evalF, upd, arg0, argS, ofConst, ofCell, Nat.reduceEqDiff, reduceIte] <;> rfl) (by simp only [evalF, upd, arg0, argS, ofConst, ofCell, Nat.reduceEqDiff, reduceIte] <;> rfl) (by exact (eql_f (by omega))) (by decide) ?_
    refine ro_assign (by simp only [evalF, upd, arg0, argS, ofConst, ofCell, Nat.reduceEqDiff, reduceIte] <;> rfl) (by decide) ?_
    refine ro_nil ?_
    try simp only
    refine ex_cond (t := false) (by simp only [evalF, upd, arg0, argS, ofConst, ofCell, Nat.reduceEqDiff, reduceIte] <;> rfl) (fun h => by simp at h) (fun _ => ex_skip ?_)
    try simp only
    refine ex_seq (ex_seq (ex_region ?_))
    refine ro_bin (by simp only [evalF, upd, arg0, argS, ofConst, ofCell, Nat.reduceEqDiff, reduceIte] <;> rfl) (by simp only [evalF, upd, arg0, argS, ofConst, ofCell, Nat.reduceEqDiff, reduceIte] <;> rfl) (by exact (eql_f (by omega))) (by decide) ?_
    refine ro_assign (by simp only [evalF, upd, arg0, argS, ofConst, ofCell, Nat.reduceEqDiff, reduceIte] <;> rfl) (by decide) ?_
    refine ro_nil ?_
    try simp only
    refine ex_cond (t := false) (by simp only [evalF, upd, arg0, argS, ofConst, ofCell, Nat.reduceEqDiff, reduceIte] <;> rfl) (fun h => by simp at h) (fun _ => ex_skip ?_)
    try simp only
    refine ex_seq (ex_seq (ex_region ?_))
    refine ro_bin (by simp only [evalF, upd, arg0, argS, ofConst, ofCell, Nat.reduceEqDiff, reduceIte] <;> rfl) (by simp only [evalF, upd, arg0, argS, ofConst, ofCell, Nat.reduceEqDiff, reduceIte] <;> rfl) (by exact (eql_f (by omega))) (by decide) ?_
    refine ro_assign (by simp only [evalF, upd, arg0, argS, ofConst, ofCell, Nat.reduceEqDiff, reduceIte] <;> rfl) (by decide) ?_
    refine ro_nil ?_
    try simp only
    refine ex_cond (t := false) (by simp only [evalF, upd, arg0, argS, ofConst, ofCell, Nat.reduceEqDiff, reduceIte] <;> rfl) (fun h => by simp at h) (fun _ => ex_skip ?_)
    try simp only
    refine ex_seq (ex_seq (ex_seq (ex_region ?_)))
    refine ro_bin (by simp only [evalF, upd, arg0, argS, ofConst, ofCell, Nat.reduceEqDiff, reduceIte] <;> rfl) (by simp only [evalF, upd, arg0, argS, ofConst, ofCell, Nat.reduceEqDiff, reduceIte] <;> rfl) (by exact (eql_f (by omega))) (by decide) ?_
    refine ro_assign (by simp only [evalF, upd, arg0, argS, ofConst, ofCell, Nat.reduceEqDiff, reduceIte] <;> rfl) (by decide) ?_
    refine ro_nil ?_
    try simp only
    refine ex_cond (t := false) (by simp only [evalF, upd, arg0, argS, ofConst, ofCell, Nat.reduceEqDiff, reduceIte] <;> rfl) (fun h => by simp at h) (fun _ => ?_)
    refine ex_region ?_
    refine ro_bin (by simp only [evalF, upd, arg0, argS, ofConst, ofCell, Nat.reduceEqDiff, reduceIte] <;> rfl) (by simp only [evalF, upd, arg0, argS, ofConst, ofCell, Nat.reduceEqDiff, reduceIte] <;> rfl) (by exact (eql_f (by omega))) (by decide) ?_
    refine ro_assign (by simp only [evalF, upd, arg0, argS, ofConst, ofCell, Nat.reduceEqDiff, reduceIte] <;> rfl) (by decide) ?_
    refine ro_nil ?_
    try simp only
    refine ex_cond (t := false) (by simp only [evalF, upd, arg0, argS, ofConst, ofCell, Nat.reduceEqDiff, reduceIte] <;> rfl) (fun h => by simp at h) (fun _ => ex_skip ?_)
    try simp only
    refine ex_seq (ex_seq (ex_region ?_))
    refine ro_bin (by simp only [evalF, upd, arg0, argS, ofConst, ofCell, Nat.reduceEqDiff, reduceIte] <;> rfl) (by simp only [evalF, upd, arg0, argS, ofConst, ofCell, Nat.reduceEqDiff, reduceIte] <;> rfl) (by exact (eql_f (by omega))) (by decide) ?_
    refine ro_assign (by simp only [evalF, upd, arg0, argS, ofConst, ofCell, Nat.reduceEqDiff, reduceIte] <;> rfl) (by decide) ?_
    refine ro_nil ?_
    try simp only
    refine ex_cond (t := false) (by simp only [evalF, upd, arg0, argS, ofConst, ofCell, Nat.reduceEqDiff, reduceIte] <;> rfl) (fun h => by simp at h) (fun _ => ex_skip ?_)
    try simp only
    refine ex_seq (ex_seq (ex_region ?_))
    refine ro_bin (by simp only [evalF, upd, arg0, argS, ofConst, ofCell, Nat.reduceEqDiff, reduceIte] <;> rfl) (by simp only [evalF, upd, arg0, argS, ofConst, ofCell, Nat.reduceEqDiff, reduceIte] <;> rfl) (by exact (eql_f (by omega))) (by decide) ?_
    refine ro_assign (by simp only [evalF, upd, arg0, argS, ofConst, ofCell, Nat.reduceEqDiff, reduceIte] <;> rfl) (by decide) ?_
    refine ro_nil ?_
    try simp only
    refine ex_cond (t := false) (by simp only [evalF, upd, arg0, argS, ofConst, ofCell, Nat.reduceEqDiff, reduceIte] <;> rfl) (fun h => by simp at h) (fun _ => ex_skip ?_)
    try simp only
    refine ex_seq (ex_seq (ex_region ?_))
    refine ro_bin (by simp only [evalF, upd, arg0, argS, ofConst, ofCell, Nat.reduceEqDiff, reduceIte] <;> rfl) (by simp only [evalF, upd, arg0, argS, ofConst, ofCell, Nat.reduceEqDiff, reduceIte] <;> rfl) (by exact (eql_f (by omega))) (by decide) ?_
    refine ro_assign (by simp only [evalF, upd, arg0, argS, ofConst, ofCell, Nat.reduceEqDiff, reduceIte] <;> rfl) (by decide) ?_
    refine ro_nil ?_
    try simp only
    refine ex_cond (t := false) (by simp only [evalF, upd, arg0, argS, ofConst, ofCell, Nat.reduceEqDiff, reduceIte] <;> rfl) (fun h => by simp at h) (fun _ => ex_skip ?_)
    try simp only
    refine ex_seq (ex_seq (ex_region ?_))
    refine ro_bin (by simp only [evalF, upd, arg0, argS, ofConst, ofCell, Nat.reduceEqDiff, reduceIte] <;> rfl) (by simp only [evalF, upd, arg0, argS, ofConst, ofCell, Nat.reduceEqDiff, reduceIte] <;> rfl) (by exact (eql_f (by omega))) (by decide) ?_
    refine ro_assign (by simp only [evalF, upd, arg0, argS, ofConst, ofCell, Nat.reduceEqDiff, reduceIte] <;> rfl) (by decide) ?_
    refine ro_nil ?_
    try simp only
    refine ex_cond (t := false) (by simp only [evalF, upd, arg0, argS, ofConst, ofCell, Nat.reduceEqDiff, reduceIte] <;> rfl) (fun h => by simp at h) (fun _ => ex_skip ?_)
    try simp only
    refine ex_seq (ex_seq (ex_region ?_))
    refine ro_bin (by simp only [evalF, upd, arg0, argS, ofConst, ofCell, Nat.reduceEqDiff, reduceIte] <;> rfl) (by simp only [evalF, upd, arg0, argS, ofConst, ofCell, Nat.reduceEqDiff, reduceIte] <;> rfl) (by exact (eql_f (by omega))) (by decide) ?_
    refine ro_assign (by simp only [evalF, upd, arg0, argS, ofConst, ofCell, Nat.reduceEqDiff, reduceIte] <;> rfl) (by decide) ?_
    refine ro_nil ?_
    try simp only
    refine ex_cond (t := false) (by simp only [evalF, upd, arg0, argS, ofConst, ofCell, Nat.reduceEqDiff, reduceIte] <;> rfl) (fun h => by simp at h) (fun _ => ex_skip ?_)
    try simp only
    refine ex_seq (ex_region ?_)
    refine ro_bin (by simp only [evalF, upd, arg0, argS, ofConst, ofCell, Nat.reduceEqDiff, reduceIte] <;> rfl) (by simp only [evalF, upd, arg0, argS, ofConst, ofCell, Nat.reduceEqDiff, reduceIte] <;> rfl) (by exact (eql_f (by omega))) (by decide) ?_
    refine ro_assign (by simp only [evalF, upd, arg0, argS, ofConst, ofCell, Nat.reduceEqDiff, reduceIte] <;> rfl) (by decide) ?_
    refine ro_nil ?_
    try simp only
    refine ex_cond (t := false) (by simp only [evalF, upd, arg0, argS, ofConst, ofCell, Nat.reduceEqDiff, reduceIte] <;> rfl) (fun h => by simp at h) (fun _ => ex_skip ?_)
    try simp only
  rintro x g2 hp2 nb2 rfl
  try simp only
  refine ex_seq (ex_region ?_)
  refine ro_assign (by simp only [evalF, upd, arg0, argS, ofConst, ofCell, Nat.reduceEqDiff, reduceIte] <;> rfl) (by decide) ?_
  refine ro_assign (by simp only [evalF, upd, arg0, argS, ofConst, ofCell, Nat.reduceEqDiff, reduceIte] <;> rfl) (by decide) ?_
  refine ro_nil ?_
  try simp only
  refine ex_ret ?_
  exact ⟨_, rfl, by simp [upd]⟩

theorem row_1 (lim d : Nat) (hp : Hp) : pureOf (callA Try.prog facts plains lim (d + 1)) hp 19 [.pv (.int .i64 1)] = some (rowV 1) := by kernel_rfl
theorem row_2 (lim d : Nat) (hp : Hp) : pureOf (callA Try.prog facts plains lim (d + 1)) hp 19 [.pv (.int .i64 2)] = some (rowV 2) := by kernel_rfl
theorem row_3 (lim d : Nat) (hp : Hp) : pureOf (callA Try.prog facts plains lim (d + 1)) hp 19 [.pv (.int .i64 3)] = some (rowV 3) := by kernel_rfl
theorem row_4 (lim d : Nat) (hp : Hp) : pureOf (callA Try.prog facts plains lim (d + 1)) hp 19 [.pv (.int .i64 4)] = some (rowV 4) := by kernel_rfl
theorem row_5 (lim d : Nat) (hp : Hp) : pureOf (callA Try.prog facts plains lim (d + 1)) hp 19 [.pv (.int .i64 5)] = some (rowV 5) := by kernel_rfl
theorem row_6 (lim d : Nat) (hp : Hp) : pureOf (callA Try.prog facts plains lim (d + 1)) hp 19 [.pv (.int .i64 6)] = some (rowV 6) := by kernel_rfl
theorem row_7 (lim d : Nat) (hp : Hp) : pureOf (callA Try.prog facts plains lim (d + 1)) hp 19 [.pv (.int .i64 7)] = some (rowV 7) := by kernel_rfl
theorem row_8 (lim d : Nat) (hp : Hp) : pureOf (callA Try.prog facts plains lim (d + 1)) hp 19 [.pv (.int .i64 8)] = some (rowV 8) := by kernel_rfl
theorem row_9 (lim d : Nat) (hp : Hp) : pureOf (callA Try.prog facts plains lim (d + 1)) hp 19 [.pv (.int .i64 9)] = some (rowV 9) := by kernel_rfl
theorem row_10 (lim d : Nat) (hp : Hp) : pureOf (callA Try.prog facts plains lim (d + 1)) hp 19 [.pv (.int .i64 10)] = some (rowV 10) := by kernel_rfl
theorem row_11 (lim d : Nat) (hp : Hp) : pureOf (callA Try.prog facts plains lim (d + 1)) hp 19 [.pv (.int .i64 11)] = some (rowV 11) := by kernel_rfl
theorem row_12 (lim d : Nat) (hp : Hp) : pureOf (callA Try.prog facts plains lim (d + 1)) hp 19 [.pv (.int .i64 12)] = some (rowV 12) := by kernel_rfl

theorem row_calls (lim d : Nat) (k : Int) (hp : Hp) : pureOf (callA Try.prog facts plains lim (d + 1)) hp 19 [.pv (.int .i64 k)] = some (rowV k) := by
  by_cases hk : 1 ≤ k ∧ k ≤ 12
  · have : k = 1 ∨ k = 2 ∨ k = 3 ∨ k = 4 ∨ k = 5 ∨ k = 6 ∨ k = 7 ∨ k = 8 ∨ k = 9 ∨ k = 10 ∨ k = 11 ∨ k = 12 := by omega
    rcases this with h | h | h | h | h | h | h | h | h | h | h | h <;> rw [h]
    · exact row_1 lim d hp
    · exact row_2 lim d hp
    · exact row_3 lim d hp
    · exact row_4 lim d hp
    · exact row_5 lim d hp
    · exact row_6 lim d hp
    · exact row_7 lim d hp
    · exact row_8 lim d hp
    · exact row_9 lim d hp
    · exact row_10 lim d hp
    · exact row_11 lim d hp
    · exact row_12 lim d hp
  · rw [row_none lim d k hk hp]
    unfold rowV rowOf
    rw [if_neg (by omega), if_neg (by omega), if_neg (by omega), if_neg (by omega), if_neg (by omega), if_neg (by omega), if_neg (by omega), if_neg (by omega), if_neg (by omega), if_neg (by omega), if_neg (by omega), if_neg (by omega)]

/-- A list is written. -/
def listE (l : List Int) : Except Int (List Int) :=
  if l.length > 10 then .error 4 else if l.all isNode then .ok (u8 l.length :: l.map u8) else .error 1

theorem lists_calls (lim d : Nat) {hp : Hp} {nb : Nat} {b L : AV} {bs l : List Int} (hg : Grow hp nb b (u8s bs)) (hbs : bs.length < 100000) (hL : Row hp nb L (ints l)) (hne : ∀ id, ownOf L = some id → ownOf b ≠ some id) (hlim : 10 < lim) :
    CA (callA Try.prog facts plains lim (d + 2)) 40 [b, L] hp nb (WrOk b bs (listE l) hp nb) := by
  refine ca_body (fn := Try.f40) (c := bodyOf Try.f40) Try.func40 rfl (by show 2 ≤ 33; omega) ?_
  show EX _ _ _ _ _ 33 _ _ _ _ _
  unfold bodyOf Try.f40
  refine ex_seq (ex_region ?_)
  refine ro_assign (by simp only [evalF, upd, arg0, argS, ofConst, ofCell, Nat.reduceEqDiff, reduceIte] <;> rfl) (by decide) ?_
  refine ro_assign (by simp only [evalF, upd, arg0, argS, ofConst, ofCell, Nat.reduceEqDiff, reduceIte] <;> rfl) (by decide) ?_
  refine ro_nil ?_
  try simp only
  refine ex_seq (ex_seq (ex_region ?_))
  refine ro_move (by simp only [evalF, upd, arg0, argS, ofConst, ofCell, Nat.reduceEqDiff, reduceIte] <;> rfl) (by decide) ?_
  refine ro_builtin rfl (by simp only [List.map_cons, List.map_nil, evalF, upd, arg0, argS, ofConst, ofCell, Nat.reduceEqDiff, reduceIte] <;> rfl) (by exact (row_len st24 hL)) (by decide) ?_
  refine ro_bin (by simp only [evalF, upd, arg0, argS, ofConst, ofCell, Nat.reduceEqDiff, reduceIte] <;> rfl) (by simp only [evalF, upd, arg0, argS, ofConst, ofCell, Nat.reduceEqDiff, reduceIte] <;> rfl) (by exact (gtr_v)) (by decide) ?_
  refine ro_nil ?_
  try simp only
  refine ex_cond (t := decide (((ints l).length : Int) > 10)) (by simp only [evalF, upd, arg0, argS, ofConst, ofCell, Nat.reduceEqDiff, reduceIte] <;> rfl) (fun ht => ?_) (fun ht => ?_)
  · refine ex_seq (ex_region ?_)
    refine ro_assign (by simp only [evalF, upd, arg0, argS, ofConst, ofCell, Nat.reduceEqDiff, reduceIte] <;> rfl) (by decide) ?_
    refine ro_assign (by simp only [evalF, upd, arg0, argS, ofConst, ofCell, Nat.reduceEqDiff, reduceIte] <;> rfl) (by decide) ?_
    refine ro_nil ?_
    try simp only
    refine ex_ret ?_
    have hl : l.length > 10 := by
      have := of_decide_eq_true ht
      simp [ints] at this; omega
    refine ⟨.tuple [.pv .nilSlice, .pv (.int .i64 4)], rfl, after_refl _ _ _, ?_⟩
    rw [listE, if_pos hl]
  refine ex_skip ?_
  try simp only
  have hl : ¬ l.length > 10 := by
    have := of_decide_eq_false ht
    simp [ints] at this; omega
  refine ex_seq (ex_region ?_)
  refine ro_move (by simp only [evalF, upd, arg0, argS, ofConst, ofCell, Nat.reduceEqDiff, reduceIte] <;> rfl) (by decide) ?_
  refine ro_move (by simp only [evalF, upd, arg0, argS, ofConst, ofCell, Nat.reduceEqDiff, reduceIte] <;> rfl) (by decide) ?_
  refine ro_builtin rfl (by simp only [List.map_cons, List.map_nil, evalF, upd, arg0, argS, ofConst, ofCell, Nat.reduceEqDiff, reduceIte] <;> rfl) (by exact (row_len st24 hL)) (by decide) ?_
  refine ro_conv (by simp only [evalF, upd, arg0, argS, ofConst, ofCell, Nat.reduceEqDiff, reduceIte] <;> rfl) (by exact (conv_u8 _ _)) (by decide) ?_
  refine ro_buildSlice rfl (by simp only [List.map_cons, List.map_nil, evalF, upd, Nat.reduceEqDiff, reduceIte]; exact bs27_1 _ _) (by decide) ?_
  refine ro_append (r := [.int .u8 (u8 l.length)]) st27 Try.underlying27 (by simp only [evalF, upd, arg0, argS, ofConst, ofCell, Nat.reduceEqDiff, reduceIte] <;> rfl) (by simp only [evalF, upd, arg0, argS, ofConst, ofCell, Nat.reduceEqDiff, reduceIte] <;> rfl) (hg.keep (Nat.le_succ _) (fun id hid _ => by simp [setHp, show id ≠ nb by omega])) (src_built rfl (by simp [setHp, ints])) (by simp [u8s]; omega) (by decide) ?_
  intro b1 hp1 nb1 hg1 ha1 ho1
  have ha1' := after_trans (after_new hp nb b [.pv (.int .u8 (u8 (ints l).length))] (by intro c hc; simp at hc; subst hc; exact okC_pv _ _)) ha1 (fun id h => .inl h)
  have ho1' : ∀ id, ownOf b1 = some id → ownOf b = some id ∨ nb ≤ id := fun id h => (ho1 id h).imp (fun h => h) (fun h => by omega)
  refine ro_assign (by simp only [evalF, upd, arg0, argS, ofConst, ofCell, Nat.reduceEqDiff, reduceIte] <;> rfl) (by decide) ?_
  refine ro_nil ?_
  try simp only
  have hL1 : Row hp1 nb1 L (ints l) := hL.keep ha1'.1 (fun id hid ho => ha1'.2.1 id hid (hne id ho))
  clear ha1 ho1
  refine ex_seq ?_
  refine ex_seq (ex_region ?_)
  refine ro_move (by simp only [evalF, upd, arg0, argS, ofConst, ofCell, Nat.reduceEqDiff, reduceIte] <;> rfl) (by decide) ?_
  refine ro_builtin rfl (by simp only [List.map_cons, List.map_nil, evalF, upd, arg0, argS, ofConst, ofCell, Nat.reduceEqDiff, reduceIte] <;> rfl) (by exact (row_len st24 hL1)) (by decide) ?_
  refine ro_move (by simp only [evalF, upd, arg0, argS, ofConst, ofCell, Nat.reduceEqDiff, reduceIte] <;> rfl) (by decide) ?_
  refine ro_nil ?_
  try simp only
  refine ex_block (ex_loop (I := fun k g hpx nbx => ∃ (i : Nat) (v : AV), k = l.length - i ∧ i ≤ l.length ∧ (∀ (j : Nat) (q : Int), j < i → l[j]? = some q → isNode q = true) ∧ g 0 = v ∧ g 17 = L ∧ g 18 = .pv (.int .i64 l.length) ∧ g 19 = .pv (.int .i64 i) ∧
    Grow hpx nbx v (u8s (bs ++ (u8 l.length :: (l.take i).map u8))) ∧ (∀ id, ownOf v = some id → ownOf b = some id ∨ nb ≤ id) ∧ (∀ id, ownOf L = some id → ownOf v ≠ some id) ∧ After hp nb b hpx nbx ∧ Row hpx nbx L (ints l))
    (m := l.length) ⟨0, b1, rfl, Nat.zero_le _, fun j q h => by omega, by simp [upd], by simp [upd, argsF], by simp [upd, ints], by simp [upd], ?_, ho1', ?_, ha1', hL1⟩ (by omega) ?_)
  · have e : u8s (bs ++ (u8 l.length :: (l.take 0).map u8)) = u8s bs ++ [.int .u8 (u8 l.length)] := by simp [u8s]
    rw [e]; exact hg1
  · intro id ho h
    rcases ho1' id h with h | h
    · exact hne id ho h
    · have := row_own hL ho; omega
  rintro k g hpx nbx ⟨i, v, hk, hi, hno, h0, h17, h18, h19, hg, hov, hoL, haf, hLx⟩
  refine ex_seq (ex_region ?_)
  refine ro_bin (by simp only [evalF, upd, arg0, argS, ofConst, ofCell, Nat.reduceEqDiff, reduceIte, h0, h17, h18, h19] <;> rfl) (by simp only [evalF, upd, arg0, argS, ofConst, ofCell, Nat.reduceEqDiff, reduceIte, h0, h17, h18, h19] <;> rfl) (by exact (lss_v)) (by decide) ?_
  refine ro_nil ?_
  try simp only
  refine ex_seq (ex_cond (t := decide ((i : Int) < l.length)) (by simp only [evalF, upd, arg0, argS, ofConst, ofCell, Nat.reduceEqDiff, reduceIte, h0, h17, h18, h19] <;> rfl) (fun ht => ?_) (fun ht => ?_))
  rotate_left
  · have hie : i = l.length := by
      have := of_decide_eq_false ht
      omega
    refine ex_exit ?_
    simp only [if_true]
    refine ex_seq (ex_region ?_)
    refine ro_move (by simp only [evalF, upd, arg0, argS, ofConst, ofCell, Nat.reduceEqDiff, reduceIte, h0, h17, h18, h19] <;> rfl) (by decide) ?_
    refine ro_assign (by simp only [evalF, upd, arg0, argS, ofConst, ofCell, Nat.reduceEqDiff, reduceIte, h0, h17, h18, h19] <;> rfl) (by decide) ?_
    refine ro_assign (by simp only [evalF, upd, arg0, argS, ofConst, ofCell, Nat.reduceEqDiff, reduceIte, h0, h17, h18, h19] <;> rfl) (by decide) ?_
    refine ro_nil ?_
    try simp only
    refine ex_ret ?_
    have hall : l.all isNode = true := by
      rw [List.all_eq_true]
      intro q hq
      obtain ⟨j, hj⟩ := List.mem_iff_getElem?.1 hq
      exact hno j q (by have := (List.getElem?_eq_some_iff.1 hj).1; omega) hj
    refine ⟨.tuple [v, .pv (.int .i64 0)], by simp [resF, resOneF, upd, h0], haf, ?_⟩
    rw [listE, if_neg hl, if_pos hall]
    refine ⟨v, rfl, ?_, hov⟩
    rw [List.take_of_length_le (by omega)] at hg
    exact hg
  refine ex_skip ?_
  try simp only
  have hil : i < l.length := by
    have := of_decide_eq_true ht
    omega
  have hgi : (ints l)[i]? = some (.int .i64 l[i]) := by
    unfold ints
    rw [List.getElem?_map, List.getElem?_eq_getElem hil]
    rfl
  obtain ⟨a, ha, hla⟩ := row_at st24 hLx hgi
  refine ex_seq (ex_block ?_)
  refine ex_seq (ex_region ?_)
  refine ro_indexAddr (by simp only [evalF, upd, arg0, argS, ofConst, ofCell, Nat.reduceEqDiff, reduceIte, h0, h17, h18, h19] <;> rfl) (by simp only [evalF, upd, arg0, argS, ofConst, ofCell, Nat.reduceEqDiff, reduceIte, h0, h17, h18, h19] <;> rfl) (by exact (ha)) (by decide) ?_
  refine ro_load (by simp only [evalF, upd, arg0, argS, ofConst, ofCell, Nat.reduceEqDiff, reduceIte, h0, h17, h18, h19] <;> rfl) (by exact (hla)) (by decide) ?_
  refine ro_assign (by simp only [evalF, upd, arg0, argS, ofConst, ofCell, Nat.reduceEqDiff, reduceIte, h0, h17, h18, h19] <;> rfl) (by decide) ?_
  refine ro_nil ?_
  try simp only
  refine ex_seq (ex_seq (ex_region ?_))
  refine ro_move (by simp only [evalF, upd, arg0, argS, ofConst, ofCell, Nat.reduceEqDiff, reduceIte, h0, h17, h18, h19] <;> rfl) (by decide) ?_
  refine ro_pure (f := 39) («as» := [.pv (.int .i64 l[i])]) rfl (by simp [evalF, upd]) rfl (show orS facts _ _ 39 _ = _ from by unfold orS facts; exact node_calls facts plains lim d l[i] _) (by decide) ?_
  refine ro_un (by simp only [evalF, upd, arg0, argS, ofConst, ofCell, Nat.reduceEqDiff, reduceIte, h0, h17, h18, h19] <;> rfl) (by exact (show unOpA .not (.pv (.bool (isNode l[i]))) = some (.pv (.bool (!isNode l[i]))) from rfl)) (by decide) ?_
  refine ro_nil ?_
  try simp only
  refine ex_cond (t := !isNode l[i]) (by simp only [evalF, upd, arg0, argS, ofConst, ofCell, Nat.reduceEqDiff, reduceIte, h0, h17, h18, h19] <;> rfl) (fun hnd => ?_) (fun hnd => ?_)
  · refine ex_seq (ex_region ?_)
    refine ro_assign (by simp only [evalF, upd, arg0, argS, ofConst, ofCell, Nat.reduceEqDiff, reduceIte, h0, h17, h18, h19] <;> rfl) (by decide) ?_
    refine ro_assign (by simp only [evalF, upd, arg0, argS, ofConst, ofCell, Nat.reduceEqDiff, reduceIte, h0, h17, h18, h19] <;> rfl) (by decide) ?_
    refine ro_nil ?_
    try simp only
    refine ex_ret ?_
    refine ⟨.tuple [.pv .nilSlice, .pv (.int .i64 1)], rfl, haf, ?_⟩
    have hall : ¬ l.all isNode = true := by
      intro h
      rw [List.all_eq_true] at h
      have := h l[i] (List.getElem_mem hil)
      rw [this] at hnd
      simp at hnd
    rw [listE, if_neg hl, if_neg hall]
  refine ex_skip ?_
  try simp only
  have hnode : isNode l[i] = true := by simpa using hnd
  refine ex_region ?_
  refine ro_move (by simp only [evalF, upd, arg0, argS, ofConst, ofCell, Nat.reduceEqDiff, reduceIte, h0, h17, h18, h19] <;> rfl) (by decide) ?_
  refine ro_move (by simp only [evalF, upd, arg0, argS, ofConst, ofCell, Nat.reduceEqDiff, reduceIte, h0, h17, h18, h19] <;> rfl) (by decide) ?_
  refine ro_conv (by simp only [evalF, upd, arg0, argS, ofConst, ofCell, Nat.reduceEqDiff, reduceIte, h0, h17, h18, h19] <;> rfl) (by exact (conv_u8 _ _)) (by decide) ?_
  refine ro_buildSlice rfl (by simp only [List.map_cons, List.map_nil, evalF, upd, Nat.reduceEqDiff, reduceIte]; exact bs27_1 _ _) (by decide) ?_
  refine ro_append (r := [.int .u8 (u8 l[i])]) st27 Try.underlying27 (by simp only [evalF, upd, arg0, argS, ofConst, ofCell, Nat.reduceEqDiff, reduceIte, h0, h17, h18, h19] <;> rfl) (by simp only [evalF, upd, arg0, argS, ofConst, ofCell, Nat.reduceEqDiff, reduceIte, h0, h17, h18, h19] <;> rfl) (hg.keep (Nat.le_succ _) (fun id hid _ => by simp [setHp, show id ≠ nbx by omega])) (src_built rfl (by simp [setHp])) (by simp [u8s]; omega) (by decide) ?_
  intro v' hp' nb' hg' ha' ho'
  have hax := after_trans (after_new hpx nbx v [.pv (.int .u8 (u8 l[i]))] (by intro c hc; simp at hc; subst hc; exact okC_pv _ _)) ha' (fun id h => .inl h)
  refine ro_assign (by simp only [evalF, upd, arg0, argS, ofConst, ofCell, Nat.reduceEqDiff, reduceIte, h0, h17, h18, h19] <;> rfl) (by decide) ?_
  refine ro_nil ?_
  try simp only
  refine ex_region ?_
  refine ro_bin (by simp only [evalF, upd, arg0, argS, ofConst, ofCell, Nat.reduceEqDiff, reduceIte, h0, h17, h18, h19] <;> rfl) (by simp only [evalF, upd, arg0, argS, ofConst, ofCell, Nat.reduceEqDiff, reduceIte, h0, h17, h18, h19] <;> rfl) (by exact (add_v (by omega))) (by decide) ?_
  refine ro_move (by simp only [evalF, upd, arg0, argS, ofConst, ofCell, Nat.reduceEqDiff, reduceIte, h0, h17, h18, h19] <;> rfl) (by decide) ?_
  refine ro_nil ?_
  refine ⟨l.length - (i + 1), by omega, i + 1, v', rfl, by omega, ?_, by simp [upd], by simp [upd, h17], by simp [upd, h18], by simp [upd], ?_, ?_, ?_, after_trans haf hax hov, hLx.keep hax.1 (fun id hid ho => hax.2.1 id hid (hoL id ho))⟩
  · intro j q hj hq
    rcases Nat.lt_or_ge j i with h | h
    · exact hno j q h hq
    · have : j = i := by omega
      subst this
      rw [List.getElem?_eq_getElem hil] at hq
      cases hq
      exact hnode
  · have e0 : l.take (i + 1) = l.take i ++ [l[i]] := by
      rw [List.take_add_one, List.getElem?_eq_getElem hil]
      rfl
    have e : u8s (bs ++ (u8 l.length :: (l.take (i + 1)).map u8)) = u8s (bs ++ (u8 l.length :: (l.take i).map u8)) ++ [.int .u8 (u8 l[i])] := by
      rw [e0]
      unfold u8s
      simp only [List.map_append, List.map_cons, List.map_nil, List.append_assoc, List.cons_append]
    rw [e]; exact hg'
  · intro id h
    rcases ho' id h with h | h
    · exact hov id h
    · have := haf.1; exact .inr (by omega)
  · intro id ho h
    rcases ho' id h with h | h
    · exact hoL id ho h
    · have := row_own hLx ho; omega
end Go.Proofs.Ytlinbbjobjnipaa
