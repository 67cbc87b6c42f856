/- Messages in memory: fields, rows; the functions 'node', 'few', 'good' of numbers and rows. -/
import Derived.Test.YtlinbbjobjnipaaF0
set_option linter.unusedVariables false
set_option linter.unusedSimpArgs false
set_option linter.unusedSectionVars false
namespace Go.Proofs.Ytlinbbjobjnipaa
open Go AI

set_option maxHeartbeats 4000000
set_option maxRecDepth 10000

theorem st24 : ST Try.prog 24 3 := ⟨by kernel_rfl, ⟨Try.t3, by kernel_rfl, rfl, by decide, rfl⟩, by kernel_rfl⟩
theorem st27 : ST Try.prog 27 5 := ⟨by kernel_rfl, ⟨Try.t5, by kernel_rfl, rfl, by decide, rfl⟩, by kernel_rfl⟩

theorem fa30_0 (id ver off : Nat) : fieldAddrA Try.prog 30 (.ptr id ver off) 0 = some (.ptr id ver off) := by kernel_rfl
theorem fa30_1 (id ver off : Nat) : fieldAddrA Try.prog 30 (.ptr id ver off) 1 = some (.ptr id ver (off + 1)) := by kernel_rfl
theorem fa30_2 (id ver off : Nat) : fieldAddrA Try.prog 30 (.ptr id ver off) 2 = some (.ptr id ver (off + 2)) := by kernel_rfl
theorem fa30_3 (id ver off : Nat) : fieldAddrA Try.prog 30 (.ptr id ver off) 3 = some (.ptr id ver (off + 3)) := by kernel_rfl
theorem fa30_4 (id ver off : Nat) : fieldAddrA Try.prog 30 (.ptr id ver off) 4 = some (.ptr id ver (off + 4)) := by kernel_rfl
theorem fa30_5 (id ver off : Nat) : fieldAddrA Try.prog 30 (.ptr id ver off) 5 = some (.ptr id ver (off + 5)) := by kernel_rfl
theorem fa30_6 (id ver off : Nat) : fieldAddrA Try.prog 30 (.ptr id ver off) 6 = some (.ptr id ver (off + 37)) := by kernel_rfl
theorem fa30_7 (id ver off : Nat) : fieldAddrA Try.prog 30 (.ptr id ver off) 7 = some (.ptr id ver (off + 38)) := by kernel_rfl
theorem fa30_8 (id ver off : Nat) : fieldAddrA Try.prog 30 (.ptr id ver off) 8 = some (.ptr id ver (off + 39)) := by kernel_rfl
theorem ag3 : isAggA Try.prog 3 = some false := by kernel_rfl
theorem ag4 : isAggA Try.prog 4 = some false := by kernel_rfl
theorem ag24 : isAggA Try.prog 24 = some false := by kernel_rfl
theorem ag27 : isAggA Try.prog 27 = some false := by kernel_rfl
theorem ag28 : isAggA Try.prog 28 = some false := by kernel_rfl
theorem ag30 : isAggA Try.prog 30 = some true := by kernel_rfl
theorem sz3 : szA Try.prog 3 = some 1 := by kernel_rfl
theorem sz24 : szA Try.prog 24 = some 1 := by kernel_rfl
theorem sz27 : szA Try.prog 27 = some 1 := by kernel_rfl
theorem sz28 : szA Try.prog 28 = some 1 := by kernel_rfl
theorem sz30 : szA Try.prog 30 = some 40 := by kernel_rfl

theorem load1 {hp : Hp} {t id ver off : Nat} {cs : List AV} {v : AV} (ht : isAggA Try.prog t = some false) (hl : AI.look hp id ver = some cs) (hv : cs[off]? = some v) : loadA Try.prog hp t (.ptr id ver off) = some v := by
  unfold loadA
  simp only [ht, hl, Option.bind_some]
  exact hv

theorem loadN {hp : Hp} {t id ver off n : Nat} {cs : List AV} (ht : isAggA Try.prog t = some true) (hs : szA Try.prog t = some n) (hl : AI.look hp id ver = some cs) (ho : off + n ≤ cs.length) :
    loadA Try.prog hp t (.ptr id ver off) = some (.agg ((cs.drop off).take n)) := by
  unfold loadA
  simp [ht, hs, readAt, hl, ho]

theorem store1 {hp : Hp} {t id ver off : Nat} {cs : List AV} {v : AV} (ht : szA Try.prog t = some 1) (hl : AI.look hp id ver = some cs) (hv : v.cells = [v]) (hc : v.isCell = true) (ho : off + 1 ≤ cs.length) :
    storeA Try.prog hp t (.ptr id ver off) v = some (.upd undefA id (.cells ver (splice cs off [v]))) := by
  unfold storeA
  simp only [hl, Option.bind_some, hv, ht]
  simp [hc, ho]

theorem storeN {hp : Hp} {t id ver off n : Nat} {cs : List AV} {vs : List AV} (ht : szA Try.prog t = some n) (hl : AI.look hp id ver = some cs) (hc : vs.all AV.isCell = true) (hn : vs.length = n) (ho : off + n ≤ cs.length) :
    storeA Try.prog hp t (.ptr id ver off) (.agg vs) = some (.upd undefA id (.cells ver (splice cs off vs))) := by
  unfold storeA
  simp only [hl, Option.bind_some, AV.cells, ht]
  simp [hc, hn, ho]

theorem look_same (hp : Hp) (id ver : Nat) (cs : List AV) : AI.look (setHp hp id (.cells ver cs)) id ver = some cs := by simp [AI.look, setHp]
theorem look_ne (hp : Hp) {id j : Nat} (ver : Nat) (b : Blk) (h : j ≠ id) : AI.look (setHp hp id b) j ver = AI.look hp j ver := by simp [AI.look, setHp, h]
theorem look_at {hp hp' : Hp} {j : Nat} (ver : Nat) (h : hp' j = hp j) : AI.look hp' j ver = AI.look hp j ver := by simp [AI.look, h]


section
variable {t : TypeId} {a b : Int}
theorem lss_v : binOpA Try.prog .lss t (.pv (.int .i64 a)) (.pv (.int .i64 b)) = some (.pv (.bool (decide (a < b)))) := rfl
theorem gtr_v : binOpA Try.prog .gtr t (.pv (.int .i64 a)) (.pv (.int .i64 b)) = some (.pv (.bool (decide (a > b)))) := rfl
theorem geq_v : binOpA Try.prog .geq t (.pv (.int .i64 a)) (.pv (.int .i64 b)) = some (.pv (.bool (decide (a ≥ b)))) := rfl
theorem leq_v : binOpA Try.prog .leq t (.pv (.int .i64 a)) (.pv (.int .i64 b)) = some (.pv (.bool (decide (a ≤ b)))) := rfl
theorem eql_v : binOpA Try.prog .eql t (.pv (.int .i64 a)) (.pv (.int .i64 b)) = some (.pv (.bool (a == b))) := rfl
theorem neq_v : binOpA Try.prog .neq t (.pv (.int .i64 a)) (.pv (.int .i64 b)) = some (.pv (.bool (a != b))) := rfl
theorem lss_t (h : a < b) : binOpA Try.prog .lss t (.pv (.int .i64 a)) (.pv (.int .i64 b)) = some (.pv (.bool true)) := by rw [lss_v, decide_eq_true h]
theorem lss_f (h : ¬ a < b) : binOpA Try.prog .lss t (.pv (.int .i64 a)) (.pv (.int .i64 b)) = some (.pv (.bool false)) := by rw [lss_v, decide_eq_false h]
theorem gtr_t (h : a > b) : binOpA Try.prog .gtr t (.pv (.int .i64 a)) (.pv (.int .i64 b)) = some (.pv (.bool true)) := by rw [gtr_v, decide_eq_true h]
theorem gtr_f (h : ¬ a > b) : binOpA Try.prog .gtr t (.pv (.int .i64 a)) (.pv (.int .i64 b)) = some (.pv (.bool false)) := by rw [gtr_v, decide_eq_false h]
theorem geq_t (h : a ≥ b) : binOpA Try.prog .geq t (.pv (.int .i64 a)) (.pv (.int .i64 b)) = some (.pv (.bool true)) := by rw [geq_v, decide_eq_true h]
theorem geq_f (h : ¬ a ≥ b) : binOpA Try.prog .geq t (.pv (.int .i64 a)) (.pv (.int .i64 b)) = some (.pv (.bool false)) := by rw [geq_v, decide_eq_false h]
theorem eql_t (h : a = b) : binOpA Try.prog .eql t (.pv (.int .i64 a)) (.pv (.int .i64 b)) = some (.pv (.bool true)) := by rw [eql_v, h]; simp
theorem eql_f (h : a ≠ b) : binOpA Try.prog .eql t (.pv (.int .i64 a)) (.pv (.int .i64 b)) = some (.pv (.bool false)) := by rw [eql_v]; simp [h]
theorem neq_t (h : a ≠ b) : binOpA Try.prog .neq t (.pv (.int .i64 a)) (.pv (.int .i64 b)) = some (.pv (.bool true)) := by rw [neq_v]; simp [h]
theorem neq_f (h : a = b) : binOpA Try.prog .neq t (.pv (.int .i64 a)) (.pv (.int .i64 b)) = some (.pv (.bool false)) := by rw [neq_v, h]; simp
theorem add_v (h : -9223372036854775808 ≤ a + b ∧ a + b ≤ 9223372036854775807) : binOpA Try.prog .add t (.pv (.int .i64 a)) (.pv (.int .i64 b)) = some (.pv (.int .i64 (a + b))) := by
  show some (AV.pv (.int .i64 (IntKind.i64.wrap (a + b)))) = _
  rw [IntWalk.i64_in _ h]
theorem sub_v (h : -9223372036854775808 ≤ a - b ∧ a - b ≤ 9223372036854775807) : binOpA Try.prog .sub t (.pv (.int .i64 a)) (.pv (.int .i64 b)) = some (.pv (.int .i64 (a - b))) := by
  show some (AV.pv (.int .i64 (IntKind.i64.wrap (a - b)))) = _
  rw [IntWalk.i64_in _ h]
theorem shr_v (n : Nat) (h : n ≤ 64) : binOpA Try.prog .shr t (.pv (.int .i64 a)) (.pv (.int .u64 n)) = some (.pv (.int .i64 (a / 2 ^ n))) := by
  show (shiftA .shr .i64 a n).map AV.pv = _
  unfold shiftA
  rw [if_neg (by omega)]
  simp only [Option.map_some]
  have e : min (n : Int).toNat IntKind.i64.bits = n := by
    show min (n : Int).toNat 64 = n
    omega
  rw [e, Int.fdiv_eq_ediv_of_nonneg _ (Int.le_of_lt (Int.pow_pos (by omega)))]
theorem conv_u8 (hp : Hp) (nb : Nat) : convertA Try.prog hp nb 3 5 (.pv (.int .i64 a)) = some (.val (.pv (.int .u8 (u8 a)))) := by
  have h : convertA Try.prog hp nb 3 5 (.pv (.int .i64 a)) = some (.val (.pv (.int .u8 (IntKind.u8.wrap a)))) := by kernel_rfl
  rw [h]
  rfl
theorem conv_u8e (hp : Hp) (nb : Nat) : convertA Try.prog hp nb 28 5 (.pv (.int .i64 a)) = some (.val (.pv (.int .u8 (u8 a)))) := by
  have h : convertA Try.prog hp nb 28 5 (.pv (.int .i64 a)) = some (.val (.pv (.int .u8 (IntKind.u8.wrap a)))) := by kernel_rfl
  rw [h]
  rfl
end

def bodyOf (f : Func) : Code := match f.body with | some c => c | none => .skip

/-! A message's cells. -/

def ints (l : List Int) : List PV := l.map fun z => .int .i64 z
def u8s (l : List Int) : List PV := l.map fun z => .int .u8 z

def mcells (m : M) (L D : AV) : List AV :=
  [.pv (.int .i64 m.kind), .pv (.int .i64 m.node), .pv (.int .i64 m.pred), L, .pv (.bool m.done)] ++ ((u8s m.key).map .pv ++ [D, .pv (.int .i64 m.lease), .pv (.int .i64 m.err)])

section
variable {m : M} {L D : AV}
theorem mc_length (hk : m.key.length = 32) : (mcells m L D).length = 40 := by simp [mcells, u8s, hk]
theorem mc0 : (mcells m L D)[0]? = some (.pv (.int .i64 m.kind)) := rfl
theorem mc1 : (mcells m L D)[1]? = some (.pv (.int .i64 m.node)) := rfl
theorem mc2 : (mcells m L D)[2]? = some (.pv (.int .i64 m.pred)) := rfl
theorem mc3 : (mcells m L D)[3]? = some L := rfl
theorem mc4 : (mcells m L D)[4]? = some (.pv (.bool m.done)) := rfl
theorem mcHi (hk : m.key.length = 32) (i : Nat) : (mcells m L D)[37 + i]? = [D, .pv (.int .i64 m.lease), .pv (.int .i64 m.err)][i]? := by
  unfold mcells
  rw [List.getElem?_append_right (by simp; omega), List.getElem?_append_right (by simp [u8s, hk]; omega)]
  congr 1
  simp [u8s, hk]; omega
theorem mc37 (hk : m.key.length = 32) : (mcells m L D)[37]? = some D := mcHi hk 0
theorem mc38 (hk : m.key.length = 32) : (mcells m L D)[38]? = some (.pv (.int .i64 m.lease)) := mcHi hk 1
theorem mc39 (hk : m.key.length = 32) : (mcells m L D)[39]? = some (.pv (.int .i64 m.err)) := mcHi hk 2
theorem mcKey (hk : m.key.length = 32) : ((mcells m L D).drop 5).take 32 = (u8s m.key).map .pv := by
  unfold mcells
  rw [List.drop_append_of_le_length (by simp)]
  simp only [List.drop_succ_cons, List.drop_zero, List.drop_nil, List.nil_append]
  rw [List.take_append_of_le_length (by simp [u8s, hk]), List.take_of_length_le (by simp [u8s, hk])]
theorem mc_all (hL : L.isCell = true) (hD : D.isCell = true) : (mcells m L D).all AV.isCell = true := by
  unfold mcells
  have : ∀ l : List PV, (l.map AV.pv).all AV.isCell = true := by
    intro l
    induction l with
    | nil => rfl
    | cons a l ih => rw [List.map_cons, List.all_cons, ih]; rfl
  simp only [List.all_append, List.all_cons, List.all_nil, this, hL, hD]
  rfl
end

theorem row_cell {hp : Hp} {nb : Nat} {v : AV} {l : List PV} (r : Row hp nb v l) : v.isCell = true ∧ v.cells = [v] := by cases r <;> exact ⟨rfl, rfl⟩

/-- A message that lies in memory. -/
structure Msg (hp : Hp) (nb : Nat) (cs : List AV) (m : M) : Prop where
  key : m.key.length = 32
  ex : ∃ L D, cs = mcells m L D ∧ Row hp nb L (ints m.list) ∧ Row hp nb D (u8s m.data)

theorem node_calls (S : CallG) (pure : Nat → Bool) (lim d : Nat) (z : Int) (hp : Hp) : pureOf (callA Try.prog S pure lim (d + 1)) hp 39 [.pv (.int .i64 z)] = some (.pv (.bool (isNode z))) := by
  refine pure_of_ca (Qc := fun v hp' nb' => v = .pv (.bool (isNode z))) rfl ?_ (fun v hp' nb' h => by rw [h]; rfl) hp
  refine ca_body (fn := Try.f39) (c := bodyOf Try.f39) Try.func39 rfl (by show 1 ≤ 9; omega) ?_
  show EX _ _ _ _ _ 9 _ _ _ _ _
  unfold bodyOf Try.f39
  refine ex_seq (ex_region ?_)
  refine ro_assign (by simp only [evalF, upd, arg0, argS, ofConst, ofCell, Nat.reduceEqDiff, reduceIte] <;> rfl) (by decide) ?_
  refine ro_nil ?_
  try simp only
  by_cases h : z ≥ 0
  · refine ex_seq (ex_region ?_)
    refine ro_move (by simp only [evalF, upd, arg0, argS, ofConst, ofCell, Nat.reduceEqDiff, reduceIte] <;> rfl) (by decide) ?_
    refine ro_bin (by simp only [evalF, upd, arg0, argS, ofConst, ofCell, Nat.reduceEqDiff, reduceIte] <;> rfl) (by simp only [evalF, upd, arg0, argS, ofConst, ofCell, Nat.reduceEqDiff, reduceIte] <;> rfl) (by exact (show some (AV.pv (.bool (decide (z ≥ 0)))) = some (AV.pv (.bool true)) from by rw [decide_eq_true h])) (by decide) ?_
    refine ro_move (by simp only [evalF, upd, arg0, argS, ofConst, ofCell, Nat.reduceEqDiff, reduceIte] <;> rfl) (by decide) ?_
    refine ro_guard rfl (by simp only [evalF, upd, arg0, argS, ofConst, ofCell, Nat.reduceEqDiff, reduceIte] <;> rfl) rfl ?_
    refine ro_move (by simp only [evalF, upd, arg0, argS, ofConst, ofCell, Nat.reduceEqDiff, reduceIte] <;> rfl) (by decide) ?_
    refine ro_guard rfl (by simp only [evalF, upd, arg0, argS, ofConst, ofCell, Nat.reduceEqDiff, reduceIte] <;> rfl) rfl ?_
    refine ro_bin (by simp only [evalF, upd, arg0, argS, ofConst, ofCell, Nat.reduceEqDiff, reduceIte] <;> rfl) (by simp only [evalF, upd, arg0, argS, ofConst, ofCell, Nat.reduceEqDiff, reduceIte] <;> rfl) (by exact (lss_v)) (by decide) ?_
    refine ro_pick (by simp only [evalF, upd, arg0, argS, ofConst, ofCell, Nat.reduceEqDiff, reduceIte] <;> rfl) (by simp only [evalF, upd, arg0, argS, ofConst, ofCell, Nat.reduceEqDiff, reduceIte] <;> rfl) (by simp only [evalF, upd, arg0, argS, ofConst, ofCell, Nat.reduceEqDiff, reduceIte] <;> rfl) (by decide) ?_
    refine ro_assign (by simp only [evalF, upd, arg0, argS, ofConst, ofCell, Nat.reduceEqDiff, reduceIte] <;> rfl) (by decide) ?_
    refine ro_nil ?_
    try simp only
    refine ex_ret ?_
    refine ⟨_, rfl, ?_⟩
    simp [upd, isNode, h]
  · refine ex_seq (ex_region ?_)
    refine ro_move (by simp only [evalF, upd, arg0, argS, ofConst, ofCell, Nat.reduceEqDiff, reduceIte] <;> rfl) (by decide) ?_
    refine ro_bin (by simp only [evalF, upd, arg0, argS, ofConst, ofCell, Nat.reduceEqDiff, reduceIte] <;> rfl) (by simp only [evalF, upd, arg0, argS, ofConst, ofCell, Nat.reduceEqDiff, reduceIte] <;> rfl) (by exact (show some (AV.pv (.bool (decide (z ≥ 0)))) = some (AV.pv (.bool false)) from by rw [decide_eq_false h])) (by decide) ?_
    refine ro_move (by simp only [evalF, upd, arg0, argS, ofConst, ofCell, Nat.reduceEqDiff, reduceIte] <;> rfl) (by decide) ?_
    refine ro_skip rfl (by simp only [evalF, upd, arg0, argS, ofConst, ofCell, Nat.reduceEqDiff, reduceIte] <;> rfl) rfl (fun e he => by cases he; decide) ?_
    simp only [putF]
    refine ro_skip rfl (by simp only [evalF, upd, arg0, argS, ofConst, ofCell, Nat.reduceEqDiff, reduceIte] <;> rfl) rfl (fun e he => by cases he; decide) ?_
    simp only [putF]
    refine ro_pick (by simp only [evalF, upd, arg0, argS, ofConst, ofCell, Nat.reduceEqDiff, reduceIte] <;> rfl) (by simp only [evalF, upd, arg0, argS, ofConst, ofCell, Nat.reduceEqDiff, reduceIte] <;> rfl) (by simp only [evalF, upd, arg0, argS, ofConst, ofCell, Nat.reduceEqDiff, reduceIte] <;> rfl) (by decide) ?_
    refine ro_assign (by simp only [evalF, upd, arg0, argS, ofConst, ofCell, Nat.reduceEqDiff, reduceIte] <;> rfl) (by decide) ?_
    refine ro_nil ?_
    try simp only
    refine ex_ret ?_
    refine ⟨_, rfl, ?_⟩
    simp [upd, isNode, h]

/-- Is a message not too much? -/
def fewM (m : M) : Bool := decide ((m.data.length : Int) < 8000) && decide ((m.list.length : Int) < 50)

theorem few_t {m : M} (h : (m.data.length : Int) < 8000) : fewM m = decide ((m.list.length : Int) < 50) := by
  unfold fewM
  rw [decide_eq_true h, Bool.true_and]

theorem few_f {m : M} (h : ¬ (m.data.length : Int) < 8000) : fewM m = false := by
  unfold fewM
  rw [decide_eq_false h, Bool.false_and]

theorem few_calls (S : CallG) (pure : Nat → Bool) (lim d : Nat) {m : M} {L D : AV} (hk : m.key.length = 32) {hp0 : Hp} {nb0 : Nat} (hL : Row hp0 nb0 L (ints m.list)) (hD : Row hp0 nb0 D (u8s m.data)) (hLp : ownOf L = none) (hDp : ownOf D = none) (hp : Hp) :
    pureOf (callA Try.prog S pure lim (d + 1)) hp 12 [.agg (mcells m L D)] = some (.pv (.bool (fewM m))) := by
  have hpv : ∀ {v : AV} {l : List PV}, Row hp0 nb0 v l → ownOf v = none → plainV v = true ∧ (toPV v).isSome = true := by
    intro v l r ho
    cases r <;> first | exact ⟨rfl, rfl⟩ | simp [ownOf] at ho
  have hall : ([.agg (mcells m L D)] : List AV).all plainV = true := by
    have hpvs : ∀ l : List PV, ((l.map AV.pv).all fun c => (toPV c).isSome) = true := by
      intro l
      induction l with
      | nil => rfl
      | cons a l ih => rw [List.map_cons, List.all_cons, ih]; rfl
    have : ((mcells m L D).all fun c => (toPV c).isSome) = true := by
      simp only [List.all_cons, List.all_nil, mcells, List.all_append, hpvs, (hpv hL hLp).2, (hpv hD hDp).2]
      rfl
    simp only [List.all_cons, List.all_nil, plainV, this]
    rfl
  refine pure_of_ca (Qc := fun v hp' nb' => v = .pv (.bool (fewM m))) hall ?_ (fun v hp' nb' h => by rw [h]; rfl) hp
  refine ca_body (fn := Try.f12) (c := bodyOf Try.f12) Try.func12 rfl (by show 1 ≤ 13; omega) ?_
  show EX _ _ _ _ _ 13 _ _ _ _ _
  unfold bodyOf Try.f12
  refine ex_seq (ex_region ?_)
  refine ro_box (v := .agg (mcells m L D)) (by simp [evalF, argsF]) (mc_all (row_cell hL).1 (row_cell hD).1) (by decide) ?_
  refine ro_assign (by simp only [evalF, upd, arg0, argS, ofConst, ofCell, Nat.reduceEqDiff, reduceIte] <;> rfl) (by decide) ?_
  refine ro_nil ?_
  try simp only
  generalize hh1 : setHp (hf []) 0 _ = hp1
  have hl1 : AI.look hp1 0 1 = some (mcells m L D) := by rw [← hh1]; exact look_same _ _ _ _
  clear hh1
  by_cases h : (m.data.length : Int) < 8000
  · refine ex_seq (ex_region ?_)
    refine ro_fieldAddr (by simp only [evalF, upd, arg0, argS, ofConst, ofCell, Nat.reduceEqDiff, reduceIte] <;> rfl) (by exact (fa30_6 _ _ _)) (by decide) ?_
    refine ro_load (by simp only [evalF, upd, arg0, argS, ofConst, ofCell, Nat.reduceEqDiff, reduceIte] <;> rfl) (by exact (load1 ag27 hl1 (mc37 hk))) (by decide) ?_
    refine ro_builtin rfl (by simp only [List.map_cons, List.map_nil, evalF, upd, arg0, argS, ofConst, ofCell, Nat.reduceEqDiff, reduceIte] <;> rfl) (by exact (row_len st27 hD)) (by decide) ?_
    refine ro_bin (by simp only [evalF, upd, arg0, argS, ofConst, ofCell, Nat.reduceEqDiff, reduceIte] <;> rfl) (by simp only [evalF, upd, arg0, argS, ofConst, ofCell, Nat.reduceEqDiff, reduceIte] <;> rfl) (by exact (lss_t (by simpa [u8s] using h))) (by decide) ?_
    refine ro_move (by simp only [evalF, upd, arg0, argS, ofConst, ofCell, Nat.reduceEqDiff, reduceIte] <;> rfl) (by decide) ?_
    refine ro_guard rfl (by simp only [evalF, upd, arg0, argS, ofConst, ofCell, Nat.reduceEqDiff, reduceIte] <;> rfl) rfl ?_
    refine ro_fieldAddr (by simp only [evalF, upd, arg0, argS, ofConst, ofCell, Nat.reduceEqDiff, reduceIte] <;> rfl) (by exact (fa30_3 _ _ _)) (by decide) ?_
    refine ro_guard rfl (by simp only [evalF, upd, arg0, argS, ofConst, ofCell, Nat.reduceEqDiff, reduceIte] <;> rfl) rfl ?_
    refine ro_load (by simp only [evalF, upd, arg0, argS, ofConst, ofCell, Nat.reduceEqDiff, reduceIte] <;> rfl) (by exact (load1 ag24 hl1 mc3)) (by decide) ?_
    refine ro_guard rfl (by simp only [evalF, upd, arg0, argS, ofConst, ofCell, Nat.reduceEqDiff, reduceIte] <;> rfl) rfl ?_
    refine ro_builtin rfl (by simp only [List.map_cons, List.map_nil, evalF, upd, arg0, argS, ofConst, ofCell, Nat.reduceEqDiff, reduceIte] <;> rfl) (by exact (row_len st24 hL)) (by decide) ?_
    refine ro_guard rfl (by simp only [evalF, upd, arg0, argS, ofConst, ofCell, Nat.reduceEqDiff, reduceIte] <;> rfl) rfl ?_
    refine ro_bin (by simp only [evalF, upd, arg0, argS, ofConst, ofCell, Nat.reduceEqDiff, reduceIte] <;> rfl) (by simp only [evalF, upd, arg0, argS, ofConst, ofCell, Nat.reduceEqDiff, reduceIte] <;> rfl) (by exact (lss_v)) (by decide) ?_
    refine ro_pick (by simp only [evalF, upd, arg0, argS, ofConst, ofCell, Nat.reduceEqDiff, reduceIte] <;> rfl) (by simp only [evalF, upd, arg0, argS, ofConst, ofCell, Nat.reduceEqDiff, reduceIte] <;> rfl) (by simp only [evalF, upd, arg0, argS, ofConst, ofCell, Nat.reduceEqDiff, reduceIte] <;> rfl) (by decide) ?_
    refine ro_assign (by simp only [evalF, upd, arg0, argS, ofConst, ofCell, Nat.reduceEqDiff, reduceIte] <;> rfl) (by decide) ?_
    refine ro_nil ?_
    try simp only
    refine ex_ret ?_
    refine ⟨_, rfl, ?_⟩
    simp only [upd, Nat.reduceEqDiff, reduceIte, few_t h, ints, List.length_map]
  · refine ex_seq (ex_region ?_)
    refine ro_fieldAddr (by simp only [evalF, upd, arg0, argS, ofConst, ofCell, Nat.reduceEqDiff, reduceIte] <;> rfl) (by exact (fa30_6 _ _ _)) (by decide) ?_
    refine ro_load (by simp only [evalF, upd, arg0, argS, ofConst, ofCell, Nat.reduceEqDiff, reduceIte] <;> rfl) (by exact (load1 ag27 hl1 (mc37 hk))) (by decide) ?_
    refine ro_builtin rfl (by simp only [List.map_cons, List.map_nil, evalF, upd, arg0, argS, ofConst, ofCell, Nat.reduceEqDiff, reduceIte] <;> rfl) (by exact (row_len st27 hD)) (by decide) ?_
    refine ro_bin (by simp only [evalF, upd, arg0, argS, ofConst, ofCell, Nat.reduceEqDiff, reduceIte] <;> rfl) (by simp only [evalF, upd, arg0, argS, ofConst, ofCell, Nat.reduceEqDiff, reduceIte] <;> rfl) (by exact (lss_f (by simpa [u8s] using h))) (by decide) ?_
    refine ro_move (by simp only [evalF, upd, arg0, argS, ofConst, ofCell, Nat.reduceEqDiff, reduceIte] <;> rfl) (by decide) ?_
    refine ro_skip rfl (by simp only [evalF, upd, arg0, argS, ofConst, ofCell, Nat.reduceEqDiff, reduceIte] <;> rfl) rfl (fun e he => by cases he; decide) ?_
    simp only [putF]
    refine ro_skip rfl (by simp only [evalF, upd, arg0, argS, ofConst, ofCell, Nat.reduceEqDiff, reduceIte] <;> rfl) rfl (fun e he => by cases he; decide) ?_
    simp only [putF]
    refine ro_skip rfl (by simp only [evalF, upd, arg0, argS, ofConst, ofCell, Nat.reduceEqDiff, reduceIte] <;> rfl) rfl (fun e he => by cases he; decide) ?_
    simp only [putF]
    refine ro_skip rfl (by simp only [evalF, upd, arg0, argS, ofConst, ofCell, Nat.reduceEqDiff, reduceIte] <;> rfl) rfl (fun e he => by cases he; decide) ?_
    simp only [putF]
    refine ro_pick (by simp only [evalF, upd, arg0, argS, ofConst, ofCell, Nat.reduceEqDiff, reduceIte] <;> rfl) (by simp only [evalF, upd, arg0, argS, ofConst, ofCell, Nat.reduceEqDiff, reduceIte] <;> rfl) (by simp only [evalF, upd, arg0, argS, ofConst, ofCell, Nat.reduceEqDiff, reduceIte] <;> rfl) (by decide) ?_
    refine ro_assign (by simp only [evalF, upd, arg0, argS, ofConst, ofCell, Nat.reduceEqDiff, reduceIte] <;> rfl) (by decide) ?_
    refine ro_nil ?_
    try simp only
    refine ex_ret ?_
    refine ⟨_, rfl, ?_⟩
    simp only [upd, Nat.reduceEqDiff, reduceIte, few_f h, Bool.false_eq_true]

end Go.Proofs.Ytlinbbjobjnipaa
