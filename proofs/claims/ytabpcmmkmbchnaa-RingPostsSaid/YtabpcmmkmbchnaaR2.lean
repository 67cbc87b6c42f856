/- The posts of a ring: what becomes of the next message, for any lies. -/
import Derived.Test.YtabpcmmkmbchnaaR0
import Derived.Test.YtabpcmmkmbchnaaA18
set_option linter.unusedVariables false
set_option linter.unusedSimpArgs false
set_option linter.unusedSectionVars false
namespace Go.Proofs.Ytabpcmmkmbchnaa
open Go AI

theorem fa73_0 (id ver off : Nat) : fieldAddrA Try.prog 73 (.ptr id ver off) 0 = some (.ptr id ver off) := by kernel_rfl
theorem fa73_1 (id ver off : Nat) : fieldAddrA Try.prog 73 (.ptr id ver off) 1 = some (.ptr id ver (off + 2)) := by kernel_rfl
theorem fa47_0 (id ver off : Nat) : fieldAddrA Try.prog 47 (.ptr id ver off) 0 = some (.ptr id ver off) := by kernel_rfl
theorem fa47_1 (id ver off : Nat) : fieldAddrA Try.prog 47 (.ptr id ver off) 1 = some (.ptr id ver (off + 1)) := by kernel_rfl
theorem fa55_0 (id ver off : Nat) : fieldAddrA Try.prog 55 (.ptr id ver off) 0 = some (.ptr id ver off) := by kernel_rfl
theorem fa55_1 (id ver off : Nat) : fieldAddrA Try.prog 55 (.ptr id ver off) 1 = some (.ptr id ver (off + 2)) := by kernel_rfl
theorem fa50_0 (id ver off : Nat) : fieldAddrA Try.prog 50 (.ptr id ver off) 0 = some (.ptr id ver off) := by kernel_rfl
theorem fa50_1 (id ver off : Nat) : fieldAddrA Try.prog 50 (.ptr id ver off) 1 = some (.ptr id ver (off + 1)) := by kernel_rfl
theorem ag3 : isAggA Try.prog 3 = some false := by kernel_rfl
theorem ag44 : isAggA Try.prog 44 = some false := by kernel_rfl
theorem ag45 : isAggA Try.prog 45 = some false := by kernel_rfl
theorem ag48 : isAggA Try.prog 48 = some false := by kernel_rfl
theorem ag50 : isAggA Try.prog 50 = some true := by kernel_rfl
theorem sz3 : szA Try.prog 3 = some 1 := by kernel_rfl
theorem sz50 : szA Try.prog 50 = some 2 := by kernel_rfl
theorem zero50 : zeroA Try.prog 50 = some [.pv (.int .i64 0), .pv .nilSlice] := by kernel_rfl

theorem load1 {hp : Hp} {t id ver off : Nat} {cs : List AV} {v : AV} (ht : isAggA Try.prog t = some false) (hl : AI.look hp id ver = some cs) (hv : cs[off]? = some v) : loadA Try.prog hp t (.ptr id ver off) = some v := by
  unfold loadA
  simp only [ht, hl, Option.bind_some]
  exact hv

theorem loadN {hp : Hp} {t id ver off n : Nat} {cs : List AV} (ht : isAggA Try.prog t = some true) (hs : szA Try.prog t = some n) (hl : AI.look hp id ver = some cs) (ho : off + n ≤ cs.length) :
    loadA Try.prog hp t (.ptr id ver off) = some (.agg ((cs.drop off).take n)) := by
  unfold loadA
  simp [ht, hs, readAt, hl, ho]

theorem store1 {hp : Hp} {t id ver off : Nat} {cs : List AV} {v : AV} (ht : szA Try.prog t = some 1) (hl : AI.look hp id ver = some cs) (hv : v.cells = [v]) (hc : v.isCell = true) (ho : off + 1 ≤ cs.length) :
    storeA Try.prog hp t (.ptr id ver off) v = some (.upd undefA id (.cells ver (splice cs off [v]))) := by
  unfold storeA
  simp only [hl, Option.bind_some, hv, ht]
  simp [hc, ho]

theorem storeN {hp : Hp} {t id ver off n : Nat} {cs : List AV} {vs : List AV} (ht : szA Try.prog t = some n) (hl : AI.look hp id ver = some cs) (hc : vs.all AV.isCell = true) (hn : vs.length = n) (ho : off + n ≤ cs.length) :
    storeA Try.prog hp t (.ptr id ver off) (.agg vs) = some (.upd undefA id (.cells ver (splice cs off vs))) := by
  unfold storeA
  simp only [hl, Option.bind_some, AV.cells, ht]
  simp [hc, hn, ho]

theorem look_same (hp : Hp) (id ver : Nat) (cs : List AV) : AI.look (setHp hp id (.cells ver cs)) id ver = some cs := by simp [AI.look, setHp]
theorem look_ne (hp : Hp) {id j : Nat} (ver : Nat) (b : Blk) (h : j ≠ id) : AI.look (setHp hp id b) j ver = AI.look hp j ver := by simp [AI.look, setHp, h]
theorem look_at {hp hp' : Hp} {j : Nat} (ver : Nat) (h : hp' j = hp j) : AI.look hp' j ver = AI.look hp j ver := by simp [AI.look, h]

def bodyOf (f : Func) : Code := match f.body with | some c => c | none => .skip

/-- Is the message of this number lost? -/
def lostB (x k : Int) : Bool := if k < 64 then IntKind.u64.wrap ((BitVec.ofInt IntKind.u64.bits (x.fdiv (2 ^ (min k.toNat IntKind.u64.bits))) &&& BitVec.ofInt IntKind.u64.bits 1).toNat : Int) == 1 else false

/-- A row of lies that can be read. -/
structure Lies (hp : Hp) (l : AV) (cs : List (Int × PV)) : Prop where
  len : lenA Try.prog 45 l = some (cs.length : Int)
  at_ : ∀ (i : Nat) (p : Int × PV), cs[i]? = some p → ∃ a, indexAddrA Try.prog 45 l (.pv (.int .i64 i)) = some a ∧ loadA Try.prog hp 50 a = some (.agg [.pv (.int .i64 p.1), .pv p.2]) ∧
    (∃ a0, fieldAddrA Try.prog 50 a 0 = some a0 ∧ loadA Try.prog hp 3 a0 = some (.pv (.int .i64 p.1))) ∧ (∃ a1, fieldAddrA Try.prog 50 a 1 = some a1 ∧ loadA Try.prog hp 48 a1 = some (.pv p.2))

/-- What is said of a message: of the first lie with its number. -/
def said (cs : List (Int × PV)) (k : Int) : Bool × PV :=
  match cs.find? fun p => p.1 == k with
  | some p => (true, p.2)
  | none => (false, .nilSlice)

theorem said_hit {cs : List (Int × PV)} {k : Int} {i : Nat} {p : Int × PV} (hp : cs[i]? = some p) (hk : p.1 = k) (hn : ∀ (j : Nat) (q : Int × PV), j < i → cs[j]? = some q → q.1 ≠ k) : said cs k = (true, p.2) := by
  have : cs.find? (fun p => p.1 == k) = some p := by
    rw [List.find?_eq_some_iff_getElem]
    obtain ⟨hi, he⟩ := List.getElem?_eq_some_iff.1 hp
    refine ⟨by simpa using hk, i, hi, he, fun j hj => ?_⟩
    have := hn j cs[j] hj (List.getElem?_eq_getElem (by omega))
    simpa using this
  unfold said
  rw [this]

theorem said_miss {cs : List (Int × PV)} {k : Int} (hn : ∀ (j : Nat) (q : Int × PV), cs[j]? = some q → q.1 ≠ k) : said cs k = (false, .nilSlice) := by
  have : cs.find? (fun p => p.1 == k) = none := by
    rw [List.find?_eq_none]
    intro q hq
    obtain ⟨j, hj⟩ := List.mem_iff_getElem?.1 hq
    simpa using hn j q hj
  unfold said
  rw [this]

/-- What is the same: all blocks that were, but one. -/
def Keeps (idp nb : Nat) (hp hp' : Hp) : Prop := ∀ id, id < nb → id ≠ idp → hp' id = hp id

theorem len45 {hp : Hp} {nb : Nat} {l : AV} {m : Int} (h : lenA Try.prog 45 l = some m) : builtinA Try.prog hp nb .len #[45] [l] = some (.val (.pv (.int .i64 m))) := by
  unfold builtinA
  show Option.map _ (lenA Try.prog 45 l) = _
  rw [h]
  rfl

set_option maxHeartbeats 4000000
set_option maxRecDepth 10000

theorem next_calls (S : CallG) (pure : Nat → Bool) (lim d : Nat) (hp : Hp) (nb idp : Nat) (k x : Int) (l : AV) (cs : List (Int × PV)) (hk0 : 0 ≤ k ∧ k < 1000) (hlim : cs.length < lim) (hcs : cs.length < 1000)
    (hpp : AI.look hp idp 1 = some [.pv (.int .u64 x), l, .pv (.int .i64 k)]) (hid : idp < nb) (hL : ∀ hp', Keeps idp nb hp hp' → Lies hp' l cs) (hpu : pure 28 = true)
    (hcl : ∀ hp p, p ∈ cs → (orS S (pureOf (callA Try.prog S pure lim d))) hp 28 [.pv p.2] = some (.pv p.2)) :
    CA (callA Try.prog S pure lim (d + 1)) 15 [.ptr idp 1 0] hp nb fun v hp' nb' => v = .tuple [.pv (.bool (lostB x k)), .pv (.bool (said cs k).1), .pv (said cs k).2] ∧
      AI.look hp' idp 1 = some [.pv (.int .u64 x), l, .pv (.int .i64 (k + 1))] ∧ Keeps idp nb hp hp' ∧ nb ≤ nb' := by
  refine ca_body (fn := Try.f15) (c := bodyOf Try.f15) Try.func15 rfl (by show 1 ≤ 52; omega) ?_
  show EX _ _ _ _ _ 52 _ _ _ _ _
  unfold bodyOf Try.f15
  refine ex_seq (ex_region ?_)
  refine ro_assign (by simp only [evalF, upd, argsF, ofConst, ofCell, Nat.reduceEqDiff, reduceIte, List.getD_cons_zero, List.getD_cons_succ, List.getD_nil] <;> rfl) (by decide) ?_
  refine ro_assign (by simp only [evalF, upd, argsF, ofConst, ofCell, Nat.reduceEqDiff, reduceIte, List.getD_cons_zero, List.getD_cons_succ, List.getD_nil] <;> rfl) (by decide) ?_
  refine ro_assign (by simp only [evalF, upd, argsF, ofConst, ofCell, Nat.reduceEqDiff, reduceIte, List.getD_cons_zero, List.getD_cons_succ, List.getD_nil] <;> rfl) (by decide) ?_
  refine ro_nil ?_
  simp only
  refine ex_seq (ex_region ?_)
  refine ro_move (by simp only [evalF, upd, argsF, ofConst, ofCell, Nat.reduceEqDiff, reduceIte, List.getD_cons_zero, List.getD_cons_succ, List.getD_nil] <;> rfl) (by decide) ?_
  refine ro_nilCheck (by simp only [evalF, upd, argsF, ofConst, ofCell, Nat.reduceEqDiff, reduceIte, List.getD_cons_zero, List.getD_cons_succ, List.getD_nil] <;> rfl) (by decide) ?_
  refine ro_fieldAddr (by simp only [evalF, upd, argsF, ofConst, ofCell, Nat.reduceEqDiff, reduceIte, List.getD_cons_zero, List.getD_cons_succ, List.getD_nil] <;> rfl) (by exact (fa73_1 _ _ _)) (by decide) ?_
  refine ro_load (by simp only [evalF, upd, argsF, ofConst, ofCell, Nat.reduceEqDiff, reduceIte, List.getD_cons_zero, List.getD_cons_succ, List.getD_nil] <;> rfl) (by exact (load1 ag3 hpp rfl)) (by decide) ?_
  refine ro_assign (by simp only [evalF, upd, argsF, ofConst, ofCell, Nat.reduceEqDiff, reduceIte, List.getD_cons_zero, List.getD_cons_succ, List.getD_nil] <;> rfl) (by decide) ?_
  refine ro_nil ?_
  simp only
  refine ex_seq (ex_region ?_)
  refine ro_move (by simp only [evalF, upd, argsF, ofConst, ofCell, Nat.reduceEqDiff, reduceIte, List.getD_cons_zero, List.getD_cons_succ, List.getD_nil] <;> rfl) (by decide) ?_
  refine ro_nilCheck (by simp only [evalF, upd, argsF, ofConst, ofCell, Nat.reduceEqDiff, reduceIte, List.getD_cons_zero, List.getD_cons_succ, List.getD_nil] <;> rfl) (by decide) ?_
  refine ro_fieldAddr (by simp only [evalF, upd, argsF, ofConst, ofCell, Nat.reduceEqDiff, reduceIte, List.getD_cons_zero, List.getD_cons_succ, List.getD_nil] <;> rfl) (by exact (fa73_1 _ _ _)) (by decide) ?_
  refine ro_load (by simp only [evalF, upd, argsF, ofConst, ofCell, Nat.reduceEqDiff, reduceIte, List.getD_cons_zero, List.getD_cons_succ, List.getD_nil] <;> rfl) (by exact (load1 ag3 hpp rfl)) (by decide) ?_
  refine ro_bin (by simp only [evalF, upd, argsF, ofConst, ofCell, Nat.reduceEqDiff, reduceIte, List.getD_cons_zero, List.getD_cons_succ, List.getD_nil] <;> rfl) (by simp only [evalF, upd, argsF, ofConst, ofCell, Nat.reduceEqDiff, reduceIte, List.getD_cons_zero, List.getD_cons_succ, List.getD_nil] <;> rfl) (by exact (show _ = some (AV.pv (.int .i64 (k + 1))) from by show some (AV.pv (.int .i64 (IntKind.i64.wrap (k + 1)))) = _; rw [IntWalk.i64_in _ (by omega)])) (by decide) ?_
  refine ro_nilCheck (by simp only [evalF, upd, argsF, ofConst, ofCell, Nat.reduceEqDiff, reduceIte, List.getD_cons_zero, List.getD_cons_succ, List.getD_nil] <;> rfl) (by decide) ?_
  refine ro_fieldAddr (by simp only [evalF, upd, argsF, ofConst, ofCell, Nat.reduceEqDiff, reduceIte, List.getD_cons_zero, List.getD_cons_succ, List.getD_nil] <;> rfl) (by exact (fa73_1 _ _ _)) (by decide) ?_
  refine ro_store (by simp only [evalF, upd, argsF, ofConst, ofCell, Nat.reduceEqDiff, reduceIte, List.getD_cons_zero, List.getD_cons_succ, List.getD_nil] <;> rfl) (by simp only [evalF, upd, argsF, ofConst, ofCell, Nat.reduceEqDiff, reduceIte, List.getD_cons_zero, List.getD_cons_succ, List.getD_nil] <;> rfl) (store1 sz3 hpp rfl rfl (by show 0 + 2 + 1 ≤ 3; omega)) ?_
  refine ro_nil ?_
  simp only
  generalize hhp1 : setHp hp idp _ = hp1
  have hpp1 : AI.look hp1 idp 1 = some [.pv (.int .u64 x), l, .pv (.int .i64 (k + 1))] := by
    rw [← hhp1]; exact look_same _ _ _ _
  have hkeep1 : Keeps idp nb hp hp1 := by
    intro id _ hne
    rw [← hhp1]; simp [setHp, hne]
  clear hhp1
  refine ex_seq (ex_weaken (K := fun xa g' hp' nb' => xa = .normal ∧ g' 0 = .ptr idp 1 0 ∧ g' 2 = .pv (.bool (lostB x k)) ∧ g' 5 = .pv (.int .i64 k) ∧ hp' = hp1 ∧ nb' = nb) ?_ ?_)
  · by_cases hk : k < 64
    · refine ex_region ?_
      refine ro_move (by simp only [evalF, upd, argsF, ofConst, ofCell, Nat.reduceEqDiff, reduceIte, List.getD_cons_zero, List.getD_cons_succ, List.getD_nil] <;> rfl) (by decide) ?_
      refine ro_bin (by simp only [evalF, upd, argsF, ofConst, ofCell, Nat.reduceEqDiff, reduceIte, List.getD_cons_zero, List.getD_cons_succ, List.getD_nil] <;> rfl) (by simp only [evalF, upd, argsF, ofConst, ofCell, Nat.reduceEqDiff, reduceIte, List.getD_cons_zero, List.getD_cons_succ, List.getD_nil] <;> rfl) (by exact (show some (AV.pv (.bool (decide (k < 64)))) = some (AV.pv (.bool true)) from by rw [decide_eq_true hk])) (by decide) ?_
      refine ro_move (by simp only [evalF, upd, argsF, ofConst, ofCell, Nat.reduceEqDiff, reduceIte, List.getD_cons_zero, List.getD_cons_succ, List.getD_nil] <;> rfl) (by decide) ?_
      refine ro_guard rfl (by simp only [evalF, upd, argsF, ofConst, ofCell, Nat.reduceEqDiff, reduceIte, List.getD_cons_zero, List.getD_cons_succ, List.getD_nil] <;> rfl) rfl ?_
      refine ro_move (by simp only [evalF, upd, argsF, ofConst, ofCell, Nat.reduceEqDiff, reduceIte, List.getD_cons_zero, List.getD_cons_succ, List.getD_nil] <;> rfl) (by decide) ?_
      refine ro_guard rfl (by simp only [evalF, upd, argsF, ofConst, ofCell, Nat.reduceEqDiff, reduceIte, List.getD_cons_zero, List.getD_cons_succ, List.getD_nil] <;> rfl) rfl ?_
      refine ro_nilCheck (by simp only [evalF, upd, argsF, ofConst, ofCell, Nat.reduceEqDiff, reduceIte, List.getD_cons_zero, List.getD_cons_succ, List.getD_nil] <;> rfl) (by decide) ?_
      refine ro_guard rfl (by simp only [evalF, upd, argsF, ofConst, ofCell, Nat.reduceEqDiff, reduceIte, List.getD_cons_zero, List.getD_cons_succ, List.getD_nil] <;> rfl) rfl ?_
      refine ro_fieldAddr (by simp only [evalF, upd, argsF, ofConst, ofCell, Nat.reduceEqDiff, reduceIte, List.getD_cons_zero, List.getD_cons_succ, List.getD_nil] <;> rfl) (by exact (fa73_0 _ _ _)) (by decide) ?_
      refine ro_guard rfl (by simp only [evalF, upd, argsF, ofConst, ofCell, Nat.reduceEqDiff, reduceIte, List.getD_cons_zero, List.getD_cons_succ, List.getD_nil] <;> rfl) rfl ?_
      refine ro_fieldAddr (by simp only [evalF, upd, argsF, ofConst, ofCell, Nat.reduceEqDiff, reduceIte, List.getD_cons_zero, List.getD_cons_succ, List.getD_nil] <;> rfl) (by exact (fa47_0 _ _ _)) (by decide) ?_
      refine ro_guard rfl (by simp only [evalF, upd, argsF, ofConst, ofCell, Nat.reduceEqDiff, reduceIte, List.getD_cons_zero, List.getD_cons_succ, List.getD_nil] <;> rfl) rfl ?_
      refine ro_load (by simp only [evalF, upd, argsF, ofConst, ofCell, Nat.reduceEqDiff, reduceIte, List.getD_cons_zero, List.getD_cons_succ, List.getD_nil] <;> rfl) (by exact (load1 ag44 hpp1 rfl)) (by decide) ?_
      refine ro_guard rfl (by simp only [evalF, upd, argsF, ofConst, ofCell, Nat.reduceEqDiff, reduceIte, List.getD_cons_zero, List.getD_cons_succ, List.getD_nil] <;> rfl) rfl ?_
      refine ro_move (by simp only [evalF, upd, argsF, ofConst, ofCell, Nat.reduceEqDiff, reduceIte, List.getD_cons_zero, List.getD_cons_succ, List.getD_nil] <;> rfl) (by decide) ?_
      refine ro_guard rfl (by simp only [evalF, upd, argsF, ofConst, ofCell, Nat.reduceEqDiff, reduceIte, List.getD_cons_zero, List.getD_cons_succ, List.getD_nil] <;> rfl) rfl ?_
      refine ro_bin (by simp only [evalF, upd, argsF, ofConst, ofCell, Nat.reduceEqDiff, reduceIte, List.getD_cons_zero, List.getD_cons_succ, List.getD_nil] <;> rfl) (by simp only [evalF, upd, argsF, ofConst, ofCell, Nat.reduceEqDiff, reduceIte, List.getD_cons_zero, List.getD_cons_succ, List.getD_nil] <;> rfl) (by exact (show _ = some (AV.pv (.int .u64 (x.fdiv (2 ^ (min k.toNat IntKind.u64.bits))))) from by simp only [binOpA, shiftA, if_neg (show ¬ k < 0 by omega), Option.map_some])) (by decide) ?_
      refine ro_guard rfl (by simp only [evalF, upd, argsF, ofConst, ofCell, Nat.reduceEqDiff, reduceIte, List.getD_cons_zero, List.getD_cons_succ, List.getD_nil] <;> rfl) rfl ?_
      refine ro_bin (by simp only [evalF, upd, argsF, ofConst, ofCell, Nat.reduceEqDiff, reduceIte, List.getD_cons_zero, List.getD_cons_succ, List.getD_nil] <;> rfl) (by simp only [evalF, upd, argsF, ofConst, ofCell, Nat.reduceEqDiff, reduceIte, List.getD_cons_zero, List.getD_cons_succ, List.getD_nil] <;> rfl) (by exact (rfl)) (by decide) ?_
      refine ro_guard rfl (by simp only [evalF, upd, argsF, ofConst, ofCell, Nat.reduceEqDiff, reduceIte, List.getD_cons_zero, List.getD_cons_succ, List.getD_nil] <;> rfl) rfl ?_
      refine ro_bin (by simp only [evalF, upd, argsF, ofConst, ofCell, Nat.reduceEqDiff, reduceIte, List.getD_cons_zero, List.getD_cons_succ, List.getD_nil] <;> rfl) (by simp only [evalF, upd, argsF, ofConst, ofCell, Nat.reduceEqDiff, reduceIte, List.getD_cons_zero, List.getD_cons_succ, List.getD_nil] <;> rfl) (by exact (rfl)) (by decide) ?_
      refine ro_pick (by simp only [evalF, upd, argsF, ofConst, ofCell, Nat.reduceEqDiff, reduceIte, List.getD_cons_zero, List.getD_cons_succ, List.getD_nil] <;> rfl) (by simp only [evalF, upd, argsF, ofConst, ofCell, Nat.reduceEqDiff, reduceIte, List.getD_cons_zero, List.getD_cons_succ, List.getD_nil] <;> rfl) (by simp only [evalF, upd, argsF, ofConst, ofCell, Nat.reduceEqDiff, reduceIte, List.getD_cons_zero, List.getD_cons_succ, List.getD_nil] <;> rfl) (by decide) ?_
      refine ro_assign (by simp only [evalF, upd, argsF, ofConst, ofCell, Nat.reduceEqDiff, reduceIte, List.getD_cons_zero, List.getD_cons_succ, List.getD_nil] <;> rfl) (by decide) ?_
      refine ro_nil ?_
      refine ⟨by first | rfl | trivial, by simp [upd, argsF], ?_, by simp [upd], rfl, rfl⟩
      simp only [upd, Nat.reduceEqDiff, reduceIte, lostB, if_pos hk]
    · refine ex_region ?_
      refine ro_move (by simp only [evalF, upd, argsF, ofConst, ofCell, Nat.reduceEqDiff, reduceIte, List.getD_cons_zero, List.getD_cons_succ, List.getD_nil] <;> rfl) (by decide) ?_
      refine ro_bin (by simp only [evalF, upd, argsF, ofConst, ofCell, Nat.reduceEqDiff, reduceIte, List.getD_cons_zero, List.getD_cons_succ, List.getD_nil] <;> rfl) (by simp only [evalF, upd, argsF, ofConst, ofCell, Nat.reduceEqDiff, reduceIte, List.getD_cons_zero, List.getD_cons_succ, List.getD_nil] <;> rfl) (by exact (show some (AV.pv (.bool (decide (k < 64)))) = some (AV.pv (.bool false)) from by rw [decide_eq_false hk])) (by decide) ?_
      refine ro_move (by simp only [evalF, upd, argsF, ofConst, ofCell, Nat.reduceEqDiff, reduceIte, List.getD_cons_zero, List.getD_cons_succ, List.getD_nil] <;> rfl) (by decide) ?_
      refine ro_skip rfl (by simp only [evalF, upd, argsF, ofConst, ofCell, Nat.reduceEqDiff, reduceIte, List.getD_cons_zero, List.getD_cons_succ, List.getD_nil] <;> rfl) rfl (fun e he => by cases he; decide) ?_
      simp only [putF]
      refine ro_skip rfl (by simp only [evalF, upd, argsF, ofConst, ofCell, Nat.reduceEqDiff, reduceIte, List.getD_cons_zero, List.getD_cons_succ, List.getD_nil] <;> rfl) rfl (fun e he => by cases he; decide) ?_
      simp only [putF]
      refine ro_skip rfl (by simp only [evalF, upd, argsF, ofConst, ofCell, Nat.reduceEqDiff, reduceIte, List.getD_cons_zero, List.getD_cons_succ, List.getD_nil] <;> rfl) rfl (fun e he => by cases he; decide) ?_
      simp only [putF]
      refine ro_skip rfl (by simp only [evalF, upd, argsF, ofConst, ofCell, Nat.reduceEqDiff, reduceIte, List.getD_cons_zero, List.getD_cons_succ, List.getD_nil] <;> rfl) rfl (fun e he => by cases he; decide) ?_
      simp only [putF]
      refine ro_skip rfl (by simp only [evalF, upd, argsF, ofConst, ofCell, Nat.reduceEqDiff, reduceIte, List.getD_cons_zero, List.getD_cons_succ, List.getD_nil] <;> rfl) rfl (fun e he => by cases he; decide) ?_
      simp only [putF]
      refine ro_skip rfl (by simp only [evalF, upd, argsF, ofConst, ofCell, Nat.reduceEqDiff, reduceIte, List.getD_cons_zero, List.getD_cons_succ, List.getD_nil] <;> rfl) rfl (fun e he => by cases he; decide) ?_
      simp only [putF]
      refine ro_skip rfl (by simp only [evalF, upd, argsF, ofConst, ofCell, Nat.reduceEqDiff, reduceIte, List.getD_cons_zero, List.getD_cons_succ, List.getD_nil] <;> rfl) rfl (fun e he => by cases he; decide) ?_
      simp only [putF]
      refine ro_skip rfl (by simp only [evalF, upd, argsF, ofConst, ofCell, Nat.reduceEqDiff, reduceIte, List.getD_cons_zero, List.getD_cons_succ, List.getD_nil] <;> rfl) rfl (fun e he => by cases he; decide) ?_
      simp only [putF]
      refine ro_skip rfl (by simp only [evalF, upd, argsF, ofConst, ofCell, Nat.reduceEqDiff, reduceIte, List.getD_cons_zero, List.getD_cons_succ, List.getD_nil] <;> rfl) rfl (fun e he => by cases he; decide) ?_
      simp only [putF]
      refine ro_pick (by simp only [evalF, upd, argsF, ofConst, ofCell, Nat.reduceEqDiff, reduceIte, List.getD_cons_zero, List.getD_cons_succ, List.getD_nil] <;> rfl) (by simp only [evalF, upd, argsF, ofConst, ofCell, Nat.reduceEqDiff, reduceIte, List.getD_cons_zero, List.getD_cons_succ, List.getD_nil] <;> rfl) (by simp only [evalF, upd, argsF, ofConst, ofCell, Nat.reduceEqDiff, reduceIte, List.getD_cons_zero, List.getD_cons_succ, List.getD_nil] <;> rfl) (by decide) ?_
      refine ro_assign (by simp only [evalF, upd, argsF, ofConst, ofCell, Nat.reduceEqDiff, reduceIte, List.getD_cons_zero, List.getD_cons_succ, List.getD_nil] <;> rfl) (by decide) ?_
      refine ro_nil ?_
      refine ⟨by first | rfl | trivial, by simp [upd, argsF], ?_, by simp [upd], rfl, rfl⟩
      simp [upd, lostB, if_neg hk]
  rintro xa g1 hpx nbx ⟨rfl, h0, h2, h5, hx1, hx2⟩
  rw [hx1, hx2]
  clear hx1 hx2 hpx nbx
  simp only
  refine ex_seq ?_
  refine ex_seq (ex_region ?_)
  refine ro_move (by simp only [evalF, upd, argsF, ofConst, ofCell, Nat.reduceEqDiff, reduceIte, List.getD_cons_zero, List.getD_cons_succ, List.getD_nil, h0, h2, h5] <;> rfl) (by decide) ?_
  refine ro_nilCheck (by simp only [evalF, upd, argsF, ofConst, ofCell, Nat.reduceEqDiff, reduceIte, List.getD_cons_zero, List.getD_cons_succ, List.getD_nil, h0, h2, h5] <;> rfl) (by decide) ?_
  refine ro_fieldAddr (by simp only [evalF, upd, argsF, ofConst, ofCell, Nat.reduceEqDiff, reduceIte, List.getD_cons_zero, List.getD_cons_succ, List.getD_nil, h0, h2, h5] <;> rfl) (by exact (fa73_0 _ _ _)) (by decide) ?_
  refine ro_fieldAddr (by simp only [evalF, upd, argsF, ofConst, ofCell, Nat.reduceEqDiff, reduceIte, List.getD_cons_zero, List.getD_cons_succ, List.getD_nil, h0, h2, h5] <;> rfl) (by exact (fa47_1 _ _ _)) (by decide) ?_
  refine ro_load (by simp only [evalF, upd, argsF, ofConst, ofCell, Nat.reduceEqDiff, reduceIte, List.getD_cons_zero, List.getD_cons_succ, List.getD_nil, h0, h2, h5] <;> rfl) (by exact (load1 ag45 hpp1 rfl)) (by decide) ?_
  refine ro_builtin rfl (by simp only [List.map_cons, List.map_nil, evalF, upd, argsF, ofConst, ofCell, Nat.reduceEqDiff, reduceIte, List.getD_cons_zero, List.getD_cons_succ, List.getD_nil, h0, h2, h5] <;> rfl) (by exact (len45 (hL _ hkeep1).len)) (by decide) ?_
  refine ro_move (by simp only [evalF, upd, argsF, ofConst, ofCell, Nat.reduceEqDiff, reduceIte, List.getD_cons_zero, List.getD_cons_succ, List.getD_nil, h0, h2, h5] <;> rfl) (by decide) ?_
  refine ro_nil ?_
  simp only
  refine ex_block (ex_loop (I := fun m g hpx nbx => ∃ i : Nat, m = cs.length - i ∧ i ≤ cs.length ∧ (∀ (j : Nat) (q : Int × PV), j < i → cs[j]? = some q → q.1 ≠ k) ∧ g 2 = .pv (.bool (lostB x k)) ∧ g 5 = .pv (.int .i64 k) ∧
    g 36 = l ∧ g 37 = .pv (.int .i64 cs.length) ∧ g 38 = .pv (.int .i64 i) ∧ AI.look hpx idp 1 = some [.pv (.int .u64 x), l, .pv (.int .i64 (k + 1))] ∧ Keeps idp nb hp hpx ∧ nb ≤ nbx)
    (m := cs.length) ⟨0, rfl, Nat.zero_le _, fun j q hj => by omega, by simp [upd, h2], by simp [upd, h5], by simp [upd], by simp [upd], by simp [upd], hpp1, hkeep1, Nat.le_refl _⟩ hlim ?_)
  rintro m g hpx nbx ⟨i, hm, hi, hno, h2, h5, h36, h37, h38, hppx, hkeep, hnb⟩
  refine ex_seq (ex_region ?_)
  refine ro_bin (by simp only [evalF, upd, argsF, ofConst, ofCell, Nat.reduceEqDiff, reduceIte, List.getD_cons_zero, List.getD_cons_succ, List.getD_nil, h2, h5, h36, h37, h38] <;> rfl) (by simp only [evalF, upd, argsF, ofConst, ofCell, Nat.reduceEqDiff, reduceIte, List.getD_cons_zero, List.getD_cons_succ, List.getD_nil, h2, h5, h36, h37, h38] <;> rfl) (by exact (rfl)) (by decide) ?_
  refine ro_nil ?_
  simp only
  refine ex_seq (ex_cond (t := decide ((i : Int) < cs.length)) (by simp only [evalF, upd, argsF, ofConst, ofCell, Nat.reduceEqDiff, reduceIte, List.getD_cons_zero, List.getD_cons_succ, List.getD_nil, h2, h5, h36, h37, h38] <;> rfl) (fun ht => ?_) (fun ht => ?_))
  rotate_left
  · -- all have been looked at
    have hie : i = cs.length := by
      have := of_decide_eq_false ht
      omega
    refine ex_exit ?_
    simp only [if_true]
    refine ex_seq (ex_region ?_)
    refine ro_move (by simp only [evalF, upd, argsF, ofConst, ofCell, Nat.reduceEqDiff, reduceIte, List.getD_cons_zero, List.getD_cons_succ, List.getD_nil, h2] <;> rfl) (by decide) ?_
    refine ro_assign (by simp only [evalF, upd, argsF, ofConst, ofCell, Nat.reduceEqDiff, reduceIte, List.getD_cons_zero, List.getD_cons_succ, List.getD_nil, h2] <;> rfl) (by decide) ?_
    refine ro_assign (by simp only [evalF, upd, argsF, ofConst, ofCell, Nat.reduceEqDiff, reduceIte, List.getD_cons_zero, List.getD_cons_succ, List.getD_nil, h2] <;> rfl) (by decide) ?_
    refine ro_assign (by simp only [evalF, upd, argsF, ofConst, ofCell, Nat.reduceEqDiff, reduceIte, List.getD_cons_zero, List.getD_cons_succ, List.getD_nil, h2] <;> rfl) (by decide) ?_
    refine ro_nil ?_
    simp only
    refine ex_ret ?_
    refine ⟨_, rfl, ?_, hppx, hkeep, hnb⟩
    have hs := said_miss (cs := cs) (k := k) (fun j q hq => hno j q (by
      have := (List.getElem?_eq_some_iff.1 hq).1
      omega) hq)
    rw [hs]
    simp [upd, resOneF, h2]
  · refine ex_skip ?_
    simp only
    have hil : i < cs.length := by
      have := of_decide_eq_true ht
      omega
    obtain ⟨a, ha, hla, ⟨a0, hf0, hl0⟩, ⟨a1, hf1, hl1⟩⟩ := (hL _ hkeep).at_ i cs[i] (List.getElem?_eq_getElem hil)
    refine ex_seq (ex_block ?_)
    refine ex_seq (ex_region ?_)
    refine ro_indexAddr (by simp only [evalF, upd, argsF, ofConst, ofCell, Nat.reduceEqDiff, reduceIte, List.getD_cons_zero, List.getD_cons_succ, List.getD_nil, h2, h5, h36, h37, h38] <;> rfl) (by simp only [evalF, upd, argsF, ofConst, ofCell, Nat.reduceEqDiff, reduceIte, List.getD_cons_zero, List.getD_cons_succ, List.getD_nil, h2, h5, h36, h37, h38] <;> rfl) (by exact (ha)) (by decide) ?_
    refine ro_load (by simp only [evalF, upd, argsF, ofConst, ofCell, Nat.reduceEqDiff, reduceIte, List.getD_cons_zero, List.getD_cons_succ, List.getD_nil, h2, h5, h36, h37, h38] <;> rfl) (by exact (hla)) (by decide) ?_
    refine ro_alloc zero50 rfl (by decide) ?_
    refine ro_store (by simp only [evalF, upd, argsF, ofConst, ofCell, Nat.reduceEqDiff, reduceIte, List.getD_cons_zero, List.getD_cons_succ, List.getD_nil, h2, h5, h36, h37, h38] <;> rfl) (by simp only [evalF, upd, argsF, ofConst, ofCell, Nat.reduceEqDiff, reduceIte, List.getD_cons_zero, List.getD_cons_succ, List.getD_nil, h2, h5, h36, h37, h38] <;> rfl) (storeN sz50 (look_same _ _ _ _) rfl rfl (by show 0 + 2 ≤ 2; omega)) ?_
    refine ro_nil ?_
    simp only
    generalize hhp2 : setHp (setHp hpx nbx _) nbx _ = hp2
    have hl2 : AI.look hp2 nbx 1 = some [.pv (.int .i64 cs[i].1), .pv cs[i].2] := by
      rw [← hhp2]; exact look_same _ _ _ _
    have hag : ∀ id, id < nbx → hp2 id = hpx id := by
      intro id hid
      rw [← hhp2]; simp [setHp, show id ≠ nbx by omega]
    have hpp2 : AI.look hp2 idp 1 = some [.pv (.int .u64 x), l, .pv (.int .i64 (k + 1))] := by
      rw [look_at 1 (hag idp (by omega))]; exact hppx
    have hkeep2 : Keeps idp nb hp hp2 := fun id h1 h2 => (hag id (by omega)).trans (hkeep id h1 h2)
    clear hhp2
    refine ex_seq (ex_region ?_)
    refine ro_fieldAddr (by simp only [evalF, upd, argsF, ofConst, ofCell, Nat.reduceEqDiff, reduceIte, List.getD_cons_zero, List.getD_cons_succ, List.getD_nil, h2, h5, h36, h37, h38] <;> rfl) (by exact (fa50_0 _ _ _)) (by decide) ?_
    refine ro_load (by simp only [evalF, upd, argsF, ofConst, ofCell, Nat.reduceEqDiff, reduceIte, List.getD_cons_zero, List.getD_cons_succ, List.getD_nil, h2, h5, h36, h37, h38] <;> rfl) (by exact (load1 ag3 hl2 rfl)) (by decide) ?_
    refine ro_move (by simp only [evalF, upd, argsF, ofConst, ofCell, Nat.reduceEqDiff, reduceIte, List.getD_cons_zero, List.getD_cons_succ, List.getD_nil, h2, h5, h36, h37, h38] <;> rfl) (by decide) ?_
    refine ro_bin (by simp only [evalF, upd, argsF, ofConst, ofCell, Nat.reduceEqDiff, reduceIte, List.getD_cons_zero, List.getD_cons_succ, List.getD_nil, h2, h5, h36, h37, h38] <;> rfl) (by simp only [evalF, upd, argsF, ofConst, ofCell, Nat.reduceEqDiff, reduceIte, List.getD_cons_zero, List.getD_cons_succ, List.getD_nil, h2, h5, h36, h37, h38] <;> rfl) (by exact (rfl)) (by decide) ?_
    refine ro_nil ?_
    simp only
    refine ex_cond (t := cs[i].1 == k) (by simp only [evalF, upd, argsF, ofConst, ofCell, Nat.reduceEqDiff, reduceIte, List.getD_cons_zero, List.getD_cons_succ, List.getD_nil, h2, h5, h36, h37, h38] <;> rfl) (fun hb => ?_) (fun hb => ?_)
    · have hpe : cs[i].1 = k := by simpa using hb
      refine ex_seq (ex_region ?_)
      refine ro_move (by simp only [evalF, upd, argsF, ofConst, ofCell, Nat.reduceEqDiff, reduceIte, List.getD_cons_zero, List.getD_cons_succ, List.getD_nil, h2, h5, h36, h37, h38] <;> rfl) (by decide) ?_
      refine ro_fieldAddr (by simp only [evalF, upd, argsF, ofConst, ofCell, Nat.reduceEqDiff, reduceIte, List.getD_cons_zero, List.getD_cons_succ, List.getD_nil, h2, h5, h36, h37, h38] <;> rfl) (by exact (fa50_1 _ _ _)) (by decide) ?_
      refine ro_load (by simp only [evalF, upd, argsF, ofConst, ofCell, Nat.reduceEqDiff, reduceIte, List.getD_cons_zero, List.getD_cons_succ, List.getD_nil, h2, h5, h36, h37, h38] <;> rfl) (by exact (load1 ag48 hl2 rfl)) (by decide) ?_
      refine ro_pure (f := 28) rfl (by simp only [List.map_cons, List.map_nil, evalF, upd, Nat.reduceEqDiff, reduceIte] <;> rfl) hpu (hcl _ _ (List.getElem_mem hil)) (by decide) ?_
      refine ro_assign (by simp only [evalF, upd, argsF, ofConst, ofCell, Nat.reduceEqDiff, reduceIte, List.getD_cons_zero, List.getD_cons_succ, List.getD_nil, h2, h5, h36, h37, h38] <;> rfl) (by decide) ?_
      refine ro_assign (by simp only [evalF, upd, argsF, ofConst, ofCell, Nat.reduceEqDiff, reduceIte, List.getD_cons_zero, List.getD_cons_succ, List.getD_nil, h2, h5, h36, h37, h38] <;> rfl) (by decide) ?_
      refine ro_assign (by simp only [evalF, upd, argsF, ofConst, ofCell, Nat.reduceEqDiff, reduceIte, List.getD_cons_zero, List.getD_cons_succ, List.getD_nil, h2, h5, h36, h37, h38] <;> rfl) (by decide) ?_
      refine ro_nil ?_
      simp only
      refine ex_ret ?_
      refine ⟨_, rfl, ?_, hpp2, hkeep2, by omega⟩
      rw [said_hit (List.getElem?_eq_getElem hil) hpe hno]
      simp [upd, resOneF, h2]
    · refine ex_skip ?_
      simp only
      refine ex_region ?_
      refine ro_bin (by simp only [evalF, upd, argsF, ofConst, ofCell, Nat.reduceEqDiff, reduceIte, List.getD_cons_zero, List.getD_cons_succ, List.getD_nil, h2, h5, h36, h37, h38] <;> rfl) (by simp only [evalF, upd, argsF, ofConst, ofCell, Nat.reduceEqDiff, reduceIte, List.getD_cons_zero, List.getD_cons_succ, List.getD_nil, h2, h5, h36, h37, h38] <;> rfl) (by exact (show _ = some (AV.pv (.int .i64 ((i : Int) + 1))) from by show some (AV.pv (.int .i64 (IntKind.i64.wrap ((i : Int) + 1)))) = _; rw [IntWalk.i64_in _ (by omega)])) (by decide) ?_
      refine ro_move (by simp only [evalF, upd, argsF, ofConst, ofCell, Nat.reduceEqDiff, reduceIte, List.getD_cons_zero, List.getD_cons_succ, List.getD_nil, h2, h5, h36, h37, h38] <;> rfl) (by decide) ?_
      refine ro_nil ?_
      refine ⟨cs.length - (i + 1), by omega, i + 1, rfl, by omega, ?_, by simp [upd, h2], by simp [upd, h5], by simp [upd, h36], by simp [upd, h37], by simp [upd], hpp2, hkeep2, by omega⟩
      intro j q hj hq
      rcases Nat.lt_or_ge j i with h | h
      · exact hno j q h hq
      · have : j = i := by omega
        subst this
        rw [List.getElem?_eq_getElem hil] at hq
        cases hq
        simpa using hb
end Go.Proofs.Ytabpcmmkmbchnaa
