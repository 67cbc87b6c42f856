/- What the proof needs, part 3. Joined by pack.py. -/
import Derived.Test.YtlinbbjobjnipaaRows
import Derived.Test.YtlinbbjobjnipaaV2
set_option linter.unusedVariables false
namespace Go.Proofs.Ytlinbbjobjnipaa
open Go AI Go.ChangeShapes Go.WideShapes Go.ChangeAt Go.RowKit
theorem own : ownKnob Try.prog.godebug = none := by kernel_rfl
theorem orders : Try.prog.follows .mixedOrders = true := by kernel_rfl
theorem names (f : Nat) (fn : Func) (h : Try.prog.funcs[f]? = some fn) : (fn.name == "runtime.NumGoroutine") = false := by
  have hall : (Try.prog.funcs.all fun fn => !(fn.name == "runtime.NumGoroutine")) = true := by kernel_rfl
  have := Array.all_eq_true'.1 hall fn (Array.mem_of_getElem? h)
  simpa using this
theorem laid : laidOutB Try.prog = true := by kernel_rfl
theorem rowed : mapsRowed Try.prog = true := by kernel_rfl
theorem full : ((List.range Try.prog.types.size).all fun t => match Try.prog.underlying t with | some (.slice e) => decide (0 < Try.prog.cellsOf e) | _ => true) = true := by kernel_rfl
theorem other : (Try.prog.funcs.all fun fn => !(fn.name == "internal/bytealg.Compare")) = true := by kernel_rfl
theorem ext : ExtOk Try.prog := by
  intro f fn h hn hb
  have := Array.all_eq_true'.1 other fn (Array.mem_of_getElem? h)
  rw [hn] at this
  simp at this
def isT : Option (AV × List Blk) → Bool
  | some (.pv (.bool true), _) => true
  | _ => false
theorem isT_some {x : Option (AV × List Blk)} (h : isT x = true) : ∃ hp, x = some (.pv (.bool true), hp) := by
  unfold isT at h
  split at h
  · exact ⟨_, rfl⟩
  · simp at h
theorem bodied (f : Nat) (h : ((Try.prog.funcs[f]?).bind (·.body)).isSome = true) : Bodied Try.prog f := by
  cases hf : Try.prog.funcs[f]? with
  | none => rw [hf] at h; simp at h
  | some fn =>
    rw [hf] at h
    refine ⟨fn, hf, names f fn hf, ?_⟩
    simpa using h
theorem within_calls (a n : Int) (ha : (Lit.int .i64 a).wf = true) (hn : 0 < n ∧ n ≤ 100000) (w : World) :
    Calls Try.prog 10 #[.int .i64 a, .int .i64 n] w fun e w' => e = .returned (.int .i64 (a % n)) ∧ w' = w := by
  have hx : IntKind.i64.min ≤ a ∧ a ≤ IntKind.i64.max := by simpa [Lit.wf] using ha
  simp only [IntKind.min, IntKind.max, IntKind.signed, IntKind.bits, if_true] at hx
  go_enter Try.func10, Try.ntmps10
  go_wp2
  all_goals go_ret
  all_goals
    have h1 := Int.emod_nonneg a (show n ≠ 0 by omega)
    have h2 := Int.emod_lt_of_pos a hn.1
    have h3 := Int.tmod_eq_emod (a := a) (b := n)
    have h4 : ((n.natAbs : Nat) : Int) = n := by omega
    refine ⟨?_, rfl⟩
  · have h5 : a.tmod n + n = a % n := by split at h3 <;> omega
    show Ending.returned (.int .i64 (wrap64 (a.tmod n + n))) = _
    rw [h5, show wrap64 (a % n) = a % n by unfold wrap64; omega]
  · have h5 : a.tmod n = a % n := by split at h3 <;> omega
    show Ending.returned (.int .i64 (a.tmod n)) = _
    rw [h5]
end Go.Proofs.Ytlinbbjobjnipaa

set_option linter.unusedVariables false
set_option linter.unusedSimpArgs false
set_option linter.unusedSectionVars false
namespace Go.Proofs.Ytlinbbjobjnipaa
open Go AI
set_option maxHeartbeats 4000000
set_option maxRecDepth 10000
theorem st24 : ST Try.prog 24 3 := ⟨by kernel_rfl, ⟨Try.t3, by kernel_rfl, rfl, by decide, rfl⟩, by kernel_rfl⟩
theorem st27 : ST Try.prog 27 5 := ⟨by kernel_rfl, ⟨Try.t5, by kernel_rfl, rfl, by decide, rfl⟩, by kernel_rfl⟩
theorem fa30_0 (id ver off : Nat) : fieldAddrA Try.prog 30 (.ptr id ver off) 0 = some (.ptr id ver off) := by kernel_rfl
theorem fa30_1 (id ver off : Nat) : fieldAddrA Try.prog 30 (.ptr id ver off) 1 = some (.ptr id ver (off + 1)) := by kernel_rfl
theorem fa30_2 (id ver off : Nat) : fieldAddrA Try.prog 30 (.ptr id ver off) 2 = some (.ptr id ver (off + 2)) := by kernel_rfl
theorem fa30_3 (id ver off : Nat) : fieldAddrA Try.prog 30 (.ptr id ver off) 3 = some (.ptr id ver (off + 3)) := by kernel_rfl
theorem fa30_4 (id ver off : Nat) : fieldAddrA Try.prog 30 (.ptr id ver off) 4 = some (.ptr id ver (off + 4)) := by kernel_rfl
theorem fa30_5 (id ver off : Nat) : fieldAddrA Try.prog 30 (.ptr id ver off) 5 = some (.ptr id ver (off + 5)) := by kernel_rfl
theorem fa30_6 (id ver off : Nat) : fieldAddrA Try.prog 30 (.ptr id ver off) 6 = some (.ptr id ver (off + 37)) := by kernel_rfl
theorem fa30_7 (id ver off : Nat) : fieldAddrA Try.prog 30 (.ptr id ver off) 7 = some (.ptr id ver (off + 38)) := by kernel_rfl
theorem fa30_8 (id ver off : Nat) : fieldAddrA Try.prog 30 (.ptr id ver off) 8 = some (.ptr id ver (off + 39)) := by kernel_rfl
theorem ag3 : isAggA Try.prog 3 = some false := by kernel_rfl
theorem ag4 : isAggA Try.prog 4 = some false := by kernel_rfl
theorem ag24 : isAggA Try.prog 24 = some false := by kernel_rfl
theorem ag27 : isAggA Try.prog 27 = some false := by kernel_rfl
theorem ag28 : isAggA Try.prog 28 = some false := by kernel_rfl
theorem ag30 : isAggA Try.prog 30 = some true := by kernel_rfl
theorem sz3 : szA Try.prog 3 = some 1 := by kernel_rfl
theorem sz24 : szA Try.prog 24 = some 1 := by kernel_rfl
theorem sz27 : szA Try.prog 27 = some 1 := by kernel_rfl
theorem sz28 : szA Try.prog 28 = some 1 := by kernel_rfl
theorem sz30 : szA Try.prog 30 = some 40 := by kernel_rfl
theorem load1 {hp : Hp} {t id ver off : Nat} {cs : List AV} {v : AV} (ht : isAggA Try.prog t = some false) (hl : AI.look hp id ver = some cs) (hv : cs[off]? = some v) : loadA Try.prog hp t (.ptr id ver off) = some v := by
  unfold loadA
  simp only [ht, hl, Option.bind_some]
  exact hv
theorem loadN {hp : Hp} {t id ver off n : Nat} {cs : List AV} (ht : isAggA Try.prog t = some true) (hs : szA Try.prog t = some n) (hl : AI.look hp id ver = some cs) (ho : off + n ≤ cs.length) :
    loadA Try.prog hp t (.ptr id ver off) = some (.agg ((cs.drop off).take n)) := by
  unfold loadA
  simp [ht, hs, readAt, hl, ho]
theorem store1 {hp : Hp} {t id ver off : Nat} {cs : List AV} {v : AV} (ht : szA Try.prog t = some 1) (hl : AI.look hp id ver = some cs) (hv : v.cells = [v]) (hc : v.isCell = true) (ho : off + 1 ≤ cs.length) :
    storeA Try.prog hp t (.ptr id ver off) v = some (.upd undefA id (.cells ver (splice cs off [v]))) := by
  unfold storeA
  simp only [hl, Option.bind_some, hv, ht]
  simp [hc, ho]
theorem storeN {hp : Hp} {t id ver off n : Nat} {cs : List AV} {vs : List AV} (ht : szA Try.prog t = some n) (hl : AI.look hp id ver = some cs) (hc : vs.all AV.isCell = true) (hn : vs.length = n) (ho : off + n ≤ cs.length) :
    storeA Try.prog hp t (.ptr id ver off) (.agg vs) = some (.upd undefA id (.cells ver (splice cs off vs))) := by
  unfold storeA
  simp only [hl, Option.bind_some, AV.cells, ht]
  simp [hc, hn, ho]
theorem look_same (hp : Hp) (id ver : Nat) (cs : List AV) : AI.look (setHp hp id (.cells ver cs)) id ver = some cs := by simp [AI.look, setHp]
theorem look_ne (hp : Hp) {id j : Nat} (ver : Nat) (b : Blk) (h : j ≠ id) : AI.look (setHp hp id b) j ver = AI.look hp j ver := by simp [AI.look, setHp, h]
theorem look_at {hp hp' : Hp} {j : Nat} (ver : Nat) (h : hp' j = hp j) : AI.look hp' j ver = AI.look hp j ver := by simp [AI.look, h]
section
variable {t : TypeId} {a b : Int}
theorem lss_v : binOpA Try.prog .lss t (.pv (.int .i64 a)) (.pv (.int .i64 b)) = some (.pv (.bool (decide (a < b)))) := rfl
theorem gtr_v : binOpA Try.prog .gtr t (.pv (.int .i64 a)) (.pv (.int .i64 b)) = some (.pv (.bool (decide (a > b)))) := rfl
theorem geq_v : binOpA Try.prog .geq t (.pv (.int .i64 a)) (.pv (.int .i64 b)) = some (.pv (.bool (decide (a ≥ b)))) := rfl
theorem leq_v : binOpA Try.prog .leq t (.pv (.int .i64 a)) (.pv (.int .i64 b)) = some (.pv (.bool (decide (a ≤ b)))) := rfl
theorem eql_v : binOpA Try.prog .eql t (.pv (.int .i64 a)) (.pv (.int .i64 b)) = some (.pv (.bool (a == b))) := rfl
theorem neq_v : binOpA Try.prog .neq t (.pv (.int .i64 a)) (.pv (.int .i64 b)) = some (.pv (.bool (a != b))) := rfl
theorem lss_t (h : a < b) : binOpA Try.prog .lss t (.pv (.int .i64 a)) (.pv (.int .i64 b)) = some (.pv (.bool true)) := by rw [lss_v, decide_eq_true h]
theorem lss_f (h : ¬ a < b) : binOpA Try.prog .lss t (.pv (.int .i64 a)) (.pv (.int .i64 b)) = some (.pv (.bool false)) := by rw [lss_v, decide_eq_false h]
theorem gtr_t (h : a > b) : binOpA Try.prog .gtr t (.pv (.int .i64 a)) (.pv (.int .i64 b)) = some (.pv (.bool true)) := by rw [gtr_v, decide_eq_true h]
theorem gtr_f (h : ¬ a > b) : binOpA Try.prog .gtr t (.pv (.int .i64 a)) (.pv (.int .i64 b)) = some (.pv (.bool false)) := by rw [gtr_v, decide_eq_false h]
theorem eql_t (h : a = b) : binOpA Try.prog .eql t (.pv (.int .i64 a)) (.pv (.int .i64 b)) = some (.pv (.bool true)) := by rw [eql_v, h]; simp
theorem eql_f (h : a ≠ b) : binOpA Try.prog .eql t (.pv (.int .i64 a)) (.pv (.int .i64 b)) = some (.pv (.bool false)) := by rw [eql_v]; simp [h]
theorem neq_t (h : a ≠ b) : binOpA Try.prog .neq t (.pv (.int .i64 a)) (.pv (.int .i64 b)) = some (.pv (.bool true)) := by rw [neq_v]; simp [h]
theorem neq_f (h : a = b) : binOpA Try.prog .neq t (.pv (.int .i64 a)) (.pv (.int .i64 b)) = some (.pv (.bool false)) := by rw [neq_v, h]; simp
theorem add_v (h : -9223372036854775808 ≤ a + b ∧ a + b ≤ 9223372036854775807) : binOpA Try.prog .add t (.pv (.int .i64 a)) (.pv (.int .i64 b)) = some (.pv (.int .i64 (a + b))) := by
  show some (AV.pv (.int .i64 (IntKind.i64.wrap (a + b)))) = _
  rw [IntWalk.i64_in _ h]
theorem sub_v (h : -9223372036854775808 ≤ a - b ∧ a - b ≤ 9223372036854775807) : binOpA Try.prog .sub t (.pv (.int .i64 a)) (.pv (.int .i64 b)) = some (.pv (.int .i64 (a - b))) := by
  show some (AV.pv (.int .i64 (IntKind.i64.wrap (a - b)))) = _
  rw [IntWalk.i64_in _ h]
theorem shr_v (n : Nat) (h : n ≤ 64) : binOpA Try.prog .shr t (.pv (.int .i64 a)) (.pv (.int .u64 n)) = some (.pv (.int .i64 (a / 2 ^ n))) := by
  show (shiftA .shr .i64 a n).map AV.pv = _
  unfold shiftA
  rw [if_neg (by omega)]
  simp only [Option.map_some]
  have e : min (n : Int).toNat IntKind.i64.bits = n := by
    show min (n : Int).toNat 64 = n
    omega
  rw [e, Int.fdiv_eq_ediv_of_nonneg _ (Int.le_of_lt (Int.pow_pos (by omega)))]
theorem conv_u8 (hp : Hp) (nb : Nat) : convertA Try.prog hp nb 3 5 (.pv (.int .i64 a)) = some (.val (.pv (.int .u8 (u8 a)))) := by
  have h : convertA Try.prog hp nb 3 5 (.pv (.int .i64 a)) = some (.val (.pv (.int .u8 (IntKind.u8.wrap a)))) := by kernel_rfl
  rw [h]
  rfl
theorem conv_u8e (hp : Hp) (nb : Nat) : convertA Try.prog hp nb 28 5 (.pv (.int .i64 a)) = some (.val (.pv (.int .u8 (u8 a)))) := by
  have h : convertA Try.prog hp nb 28 5 (.pv (.int .i64 a)) = some (.val (.pv (.int .u8 (IntKind.u8.wrap a)))) := by kernel_rfl
  rw [h]
  rfl
end
def bodyOf (f : Func) : Code := match f.body with | some c => c | none => .skip
def ints (l : List Int) : List PV := l.map fun z => .int .i64 z
def u8s (l : List Int) : List PV := l.map fun z => .int .u8 z
def mcells (m : M) (L D : AV) : List AV :=
  [.pv (.int .i64 m.kind), .pv (.int .i64 m.node), .pv (.int .i64 m.pred), L, .pv (.bool m.done)] ++ ((u8s m.key).map .pv ++ [D, .pv (.int .i64 m.lease), .pv (.int .i64 m.err)])
section
variable {m : M} {L D : AV}
theorem mc_length (hk : m.key.length = 32) : (mcells m L D).length = 40 := by simp [mcells, u8s, hk]
theorem mc0 : (mcells m L D)[0]? = some (.pv (.int .i64 m.kind)) := rfl
theorem mc1 : (mcells m L D)[1]? = some (.pv (.int .i64 m.node)) := rfl
theorem mc2 : (mcells m L D)[2]? = some (.pv (.int .i64 m.pred)) := rfl
theorem mc3 : (mcells m L D)[3]? = some L := rfl
theorem mc4 : (mcells m L D)[4]? = some (.pv (.bool m.done)) := rfl
theorem mcHi (hk : m.key.length = 32) (i : Nat) : (mcells m L D)[37 + i]? = [D, .pv (.int .i64 m.lease), .pv (.int .i64 m.err)][i]? := by
  unfold mcells
  rw [List.getElem?_append_right (by simp; omega), List.getElem?_append_right (by simp [u8s, hk]; omega)]
  congr 1
  simp [u8s, hk]; omega
theorem mc37 (hk : m.key.length = 32) : (mcells m L D)[37]? = some D := mcHi hk 0
theorem mc38 (hk : m.key.length = 32) : (mcells m L D)[38]? = some (.pv (.int .i64 m.lease)) := mcHi hk 1
theorem mc39 (hk : m.key.length = 32) : (mcells m L D)[39]? = some (.pv (.int .i64 m.err)) := mcHi hk 2
theorem mcKey (hk : m.key.length = 32) : ((mcells m L D).drop 5).take 32 = (u8s m.key).map .pv := by
  unfold mcells
  rw [List.drop_append_of_le_length (by simp)]
  simp only [List.drop_succ_cons, List.drop_zero, List.drop_nil, List.nil_append]
  rw [List.take_append_of_le_length (by simp [u8s, hk]), List.take_of_length_le (by simp [u8s, hk])]
theorem mc_all (hL : L.isCell = true) (hD : D.isCell = true) : (mcells m L D).all AV.isCell = true := by
  unfold mcells
  have : ∀ l : List PV, (l.map AV.pv).all AV.isCell = true := by
    intro l
    induction l with
    | nil => rfl
    | cons a l ih => rw [List.map_cons, List.all_cons, ih]; rfl
  simp only [List.all_append, List.all_cons, List.all_nil, this, hL, hD]
  rfl
end
theorem row_cell {hp : Hp} {nb : Nat} {v : AV} {l : List PV} (r : Row hp nb v l) : v.isCell = true ∧ v.cells = [v] := by cases r <;> exact ⟨rfl, rfl⟩
theorem node_calls (S : CallG) (pure : Nat → Bool) (lim d : Nat) (z : Int) (hp : Hp) : pureOf (callA Try.prog S pure lim (d + 1)) hp 39 [.pv (.int .i64 z)] = some (.pv (.bool (isNode z))) := by
  refine pure_of_ca (Qc := fun v hp' nb' => v = .pv (.bool (isNode z))) rfl ?_ (fun v hp' nb' h => by rw [h]; rfl) hp
  refine ca_body (fn := Try.f39) (c := bodyOf Try.f39) Try.func39 rfl (by show 1 ≤ 9; omega) ?_
  show EX _ _ _ _ _ 9 _ _ _ _ _
  unfold bodyOf Try.f39
  refine ex_seq (ex_region ?_)
  refine ro_assign (by simp only [evalF, upd, arg0, argS, ofConst, ofCell, Nat.reduceEqDiff, reduceIte] <;> rfl) (by decide) ?_
  refine ro_nil ?_
  try simp only
  by_cases h : z ≥ 0
  · refine ex_seq (ex_region ?_)
    refine ro_move (by simp only [evalF, upd, arg0, argS, ofConst, ofCell, Nat.reduceEqDiff, reduceIte] <;> rfl) (by decide) ?_
    refine ro_bin (by simp only [evalF, upd, arg0, argS, ofConst, ofCell, Nat.reduceEqDiff, reduceIte] <;> rfl) (by simp only [evalF, upd, arg0, argS, ofConst, ofCell, Nat.reduceEqDiff, reduceIte] <;> rfl) (by exact (show some (AV.pv (.bool (decide (z ≥ 0)))) = some (AV.pv (.bool true)) from by rw [decide_eq_true h])) (by decide) ?_
    refine ro_move (by simp only [evalF, upd, arg0, argS, ofConst, ofCell, Nat.reduceEqDiff, reduceIte] <;> rfl) (by decide) ?_
    refine ro_guard rfl (by simp only [evalF, upd, arg0, argS, ofConst, ofCell, Nat.reduceEqDiff, reduceIte] <;> rfl) rfl ?_
    refine ro_move (by simp only [evalF, upd, arg0, argS, ofConst, ofCell, Nat.reduceEqDiff, reduceIte] <;> rfl) (by decide) ?_
    refine ro_guard rfl (by simp only [evalF, upd, arg0, argS, ofConst, ofCell, Nat.reduceEqDiff, reduceIte] <;> rfl) rfl ?_
    refine ro_bin (by simp only [evalF, upd, arg0, argS, ofConst, ofCell, Nat.reduceEqDiff, reduceIte] <;> rfl) (by simp only [evalF, upd, arg0, argS, ofConst, ofCell, Nat.reduceEqDiff, reduceIte] <;> rfl) (by exact (lss_v)) (by decide) ?_
    refine ro_pick (by simp only [evalF, upd, arg0, argS, ofConst, ofCell, Nat.reduceEqDiff, reduceIte] <;> rfl) (by simp only [evalF, upd, arg0, argS, ofConst, ofCell, Nat.reduceEqDiff, reduceIte] <;> rfl) (by simp only [evalF, upd, arg0, argS, ofConst, ofCell, Nat.reduceEqDiff, reduceIte] <;> rfl) (by decide) ?_
    refine ro_assign (by simp only [evalF, upd, arg0, argS, ofConst, ofCell, Nat.reduceEqDiff, reduceIte] <;> rfl) (by decide) ?_
    refine ro_nil ?_
    try simp only
    refine ex_ret ?_
    refine ⟨_, rfl, ?_⟩
    simp [upd, isNode, h]
  · refine ex_seq (ex_region ?_)
    refine ro_move (by simp only [evalF, upd, arg0, argS, ofConst, ofCell, Nat.reduceEqDiff, reduceIte] <;> rfl) (by decide) ?_
    refine ro_bin (by simp only [evalF, upd, arg0, argS, ofConst, ofCell, Nat.reduceEqDiff, reduceIte] <;> rfl) (by simp only [evalF, upd, arg0, argS, ofConst, ofCell, Nat.reduceEqDiff, reduceIte] <;> rfl) (by exact (show some (AV.pv (.bool (decide (z ≥ 0)))) = some (AV.pv (.bool false)) from by rw [decide_eq_false h])) (by decide) ?_
    refine ro_move (by simp only [evalF, upd, arg0, argS, ofConst, ofCell, Nat.reduceEqDiff, reduceIte] <;> rfl) (by decide) ?_
    refine ro_skip rfl (by simp only [evalF, upd, arg0, argS, ofConst, ofCell, Nat.reduceEqDiff, reduceIte] <;> rfl) rfl (fun e he => by cases he; decide) ?_
    simp only [putF]
    refine ro_skip rfl (by simp only [evalF, upd, arg0, argS, ofConst, ofCell, Nat.reduceEqDiff, reduceIte] <;> rfl) rfl (fun e he => by cases he; decide) ?_
    simp only [putF]
    refine ro_pick (by simp only [evalF, upd, arg0, argS, ofConst, ofCell, Nat.reduceEqDiff, reduceIte] <;> rfl) (by simp only [evalF, upd, arg0, argS, ofConst, ofCell, Nat.reduceEqDiff, reduceIte] <;> rfl) (by simp only [evalF, upd, arg0, argS, ofConst, ofCell, Nat.reduceEqDiff, reduceIte] <;> rfl) (by decide) ?_
    refine ro_assign (by simp only [evalF, upd, arg0, argS, ofConst, ofCell, Nat.reduceEqDiff, reduceIte] <;> rfl) (by decide) ?_
    refine ro_nil ?_
    try simp only
    refine ex_ret ?_
    refine ⟨_, rfl, ?_⟩
    simp [upd, isNode, h]
/-- Is a message not too much? -/
def fewM (m : M) : Bool := decide ((m.data.length : Int) < 8000) && decide ((m.list.length : Int) < 50)
theorem few_t {m : M} (h : (m.data.length : Int) < 8000) : fewM m = decide ((m.list.length : Int) < 50) := by
  unfold fewM
  rw [decide_eq_true h, Bool.true_and]
theorem few_f {m : M} (h : ¬ (m.data.length : Int) < 8000) : fewM m = false := by
  unfold fewM
  rw [decide_eq_false h, Bool.false_and]
theorem few_calls (S : CallG) (pure : Nat → Bool) (lim d : Nat) {m : M} {L D : AV} (hk : m.key.length = 32) {hp0 : Hp} {nb0 : Nat} (hL : Row hp0 nb0 L (ints m.list)) (hD : Row hp0 nb0 D (u8s m.data)) (hLp : ownOf L = none) (hDp : ownOf D = none) (hp : Hp) :
    pureOf (callA Try.prog S pure lim (d + 1)) hp 12 [.agg (mcells m L D)] = some (.pv (.bool (fewM m))) := by
  have hpv : ∀ {v : AV} {l : List PV}, Row hp0 nb0 v l → ownOf v = none → plainV v = true ∧ (toPV v).isSome = true := by
    intro v l r ho
    cases r <;> first | exact ⟨rfl, rfl⟩ | simp [ownOf] at ho
  have hall : ([.agg (mcells m L D)] : List AV).all plainV = true := by
    have hpvs : ∀ l : List PV, ((l.map AV.pv).all fun c => (toPV c).isSome) = true := by
      intro l
      induction l with
      | nil => rfl
      | cons a l ih => rw [List.map_cons, List.all_cons, ih]; rfl
    have : ((mcells m L D).all fun c => (toPV c).isSome) = true := by
      simp only [List.all_cons, List.all_nil, mcells, List.all_append, hpvs, (hpv hL hLp).2, (hpv hD hDp).2]
      rfl
    simp only [List.all_cons, List.all_nil, plainV, this]
    rfl
  refine pure_of_ca (Qc := fun v hp' nb' => v = .pv (.bool (fewM m))) hall ?_ (fun v hp' nb' h => by rw [h]; rfl) hp
  refine ca_body (fn := Try.f12) (c := bodyOf Try.f12) Try.func12 rfl (by show 1 ≤ 13; omega) ?_
  show EX _ _ _ _ _ 13 _ _ _ _ _
  unfold bodyOf Try.f12
  refine ex_seq (ex_region ?_)
  refine ro_box (v := .agg (mcells m L D)) (by simp [evalF, argsF]) (mc_all (row_cell hL).1 (row_cell hD).1) (by decide) ?_
  refine ro_assign (by simp only [evalF, upd, arg0, argS, ofConst, ofCell, Nat.reduceEqDiff, reduceIte] <;> rfl) (by decide) ?_
  refine ro_nil ?_
  try simp only
  generalize hh1 : setHp (hf []) 0 _ = hp1
  have hl1 : AI.look hp1 0 1 = some (mcells m L D) := by rw [← hh1]; exact look_same _ _ _ _
  clear hh1
  by_cases h : (m.data.length : Int) < 8000
  · refine ex_seq (ex_region ?_)
    refine ro_fieldAddr (by simp only [evalF, upd, arg0, argS, ofConst, ofCell, Nat.reduceEqDiff, reduceIte] <;> rfl) (by exact (fa30_6 _ _ _)) (by decide) ?_
    refine ro_load (by simp only [evalF, upd, arg0, argS, ofConst, ofCell, Nat.reduceEqDiff, reduceIte] <;> rfl) (by exact (load1 ag27 hl1 (mc37 hk))) (by decide) ?_
    refine ro_builtin rfl (by simp only [List.map_cons, List.map_nil, evalF, upd, arg0, argS, ofConst, ofCell, Nat.reduceEqDiff, reduceIte] <;> rfl) (by exact (row_len st27 hD)) (by decide) ?_
    refine ro_bin (by simp only [evalF, upd, arg0, argS, ofConst, ofCell, Nat.reduceEqDiff, reduceIte] <;> rfl) (by simp only [evalF, upd, arg0, argS, ofConst, ofCell, Nat.reduceEqDiff, reduceIte] <;> rfl) (by exact (lss_t (by simpa [u8s] using h))) (by decide) ?_
    refine ro_move (by simp only [evalF, upd, arg0, argS, ofConst, ofCell, Nat.reduceEqDiff, reduceIte] <;> rfl) (by decide) ?_
    refine ro_guard rfl (by simp only [evalF, upd, arg0, argS, ofConst, ofCell, Nat.reduceEqDiff, reduceIte] <;> rfl) rfl ?_
    refine ro_fieldAddr (by simp only [evalF, upd, arg0, argS, ofConst, ofCell, Nat.reduceEqDiff, reduceIte] <;> rfl) (by exact (fa30_3 _ _ _)) (by decide) ?_
    refine ro_guard rfl (by simp only [evalF, upd, arg0, argS, ofConst, ofCell, Nat.reduceEqDiff, reduceIte] <;> rfl) rfl ?_
    refine ro_load (by simp only [evalF, upd, arg0, argS, ofConst, ofCell, Nat.reduceEqDiff, reduceIte] <;> rfl) (by exact (load1 ag24 hl1 mc3)) (by decide) ?_
    refine ro_guard rfl (by simp only [evalF, upd, arg0, argS, ofConst, ofCell, Nat.reduceEqDiff, reduceIte] <;> rfl) rfl ?_
    refine ro_builtin rfl (by simp only [List.map_cons, List.map_nil, evalF, upd, arg0, argS, ofConst, ofCell, Nat.reduceEqDiff, reduceIte] <;> rfl) (by exact (row_len st24 hL)) (by decide) ?_
    refine ro_guard rfl (by simp only [evalF, upd, arg0, argS, ofConst, ofCell, Nat.reduceEqDiff, reduceIte] <;> rfl) rfl ?_
    refine ro_bin (by simp only [evalF, upd, arg0, argS, ofConst, ofCell, Nat.reduceEqDiff, reduceIte] <;> rfl) (by simp only [evalF, upd, arg0, argS, ofConst, ofCell, Nat.reduceEqDiff, reduceIte] <;> rfl) (by exact (lss_v)) (by decide) ?_
    refine ro_pick (by simp only [evalF, upd, arg0, argS, ofConst, ofCell, Nat.reduceEqDiff, reduceIte] <;> rfl) (by simp only [evalF, upd, arg0, argS, ofConst, ofCell, Nat.reduceEqDiff, reduceIte] <;> rfl) (by simp only [evalF, upd, arg0, argS, ofConst, ofCell, Nat.reduceEqDiff, reduceIte] <;> rfl) (by decide) ?_
    refine ro_assign (by simp only [evalF, upd, arg0, argS, ofConst, ofCell, Nat.reduceEqDiff, reduceIte] <;> rfl) (by decide) ?_
    refine ro_nil ?_
    try simp only
    refine ex_ret ?_
    refine ⟨_, rfl, ?_⟩
    simp only [upd, Nat.reduceEqDiff, reduceIte, few_t h, ints, List.length_map]
  · refine ex_seq (ex_region ?_)
    refine ro_fieldAddr (by simp only [evalF, upd, arg0, argS, ofConst, ofCell, Nat.reduceEqDiff, reduceIte] <;> rfl) (by exact (fa30_6 _ _ _)) (by decide) ?_
    refine ro_load (by simp only [evalF, upd, arg0, argS, ofConst, ofCell, Nat.reduceEqDiff, reduceIte] <;> rfl) (by exact (load1 ag27 hl1 (mc37 hk))) (by decide) ?_
    refine ro_builtin rfl (by simp only [List.map_cons, List.map_nil, evalF, upd, arg0, argS, ofConst, ofCell, Nat.reduceEqDiff, reduceIte] <;> rfl) (by exact (row_len st27 hD)) (by decide) ?_
    refine ro_bin (by simp only [evalF, upd, arg0, argS, ofConst, ofCell, Nat.reduceEqDiff, reduceIte] <;> rfl) (by simp only [evalF, upd, arg0, argS, ofConst, ofCell, Nat.reduceEqDiff, reduceIte] <;> rfl) (by exact (lss_f (by simpa [u8s] using h))) (by decide) ?_
    refine ro_move (by simp only [evalF, upd, arg0, argS, ofConst, ofCell, Nat.reduceEqDiff, reduceIte] <;> rfl) (by decide) ?_
    refine ro_skip rfl (by simp only [evalF, upd, arg0, argS, ofConst, ofCell, Nat.reduceEqDiff, reduceIte] <;> rfl) rfl (fun e he => by cases he; decide) ?_
    simp only [putF]
    refine ro_skip rfl (by simp only [evalF, upd, arg0, argS, ofConst, ofCell, Nat.reduceEqDiff, reduceIte] <;> rfl) rfl (fun e he => by cases he; decide) ?_
    simp only [putF]
    refine ro_skip rfl (by simp only [evalF, upd, arg0, argS, ofConst, ofCell, Nat.reduceEqDiff, reduceIte] <;> rfl) rfl (fun e he => by cases he; decide) ?_
    simp only [putF]
    refine ro_skip rfl (by simp only [evalF, upd, arg0, argS, ofConst, ofCell, Nat.reduceEqDiff, reduceIte] <;> rfl) rfl (fun e he => by cases he; decide) ?_
    simp only [putF]
    refine ro_pick (by simp only [evalF, upd, arg0, argS, ofConst, ofCell, Nat.reduceEqDiff, reduceIte] <;> rfl) (by simp only [evalF, upd, arg0, argS, ofConst, ofCell, Nat.reduceEqDiff, reduceIte] <;> rfl) (by simp only [evalF, upd, arg0, argS, ofConst, ofCell, Nat.reduceEqDiff, reduceIte] <;> rfl) (by decide) ?_
    refine ro_assign (by simp only [evalF, upd, arg0, argS, ofConst, ofCell, Nat.reduceEqDiff, reduceIte] <;> rfl) (by decide) ?_
    refine ro_nil ?_
    try simp only
    refine ex_ret ?_
    refine ⟨_, rfl, ?_⟩
    simp only [upd, Nat.reduceEqDiff, reduceIte, few_f h, Bool.false_eq_true]
end Go.Proofs.Ytlinbbjobjnipaa

set_option linter.unusedVariables false
set_option linter.unusedSimpArgs false
set_option linter.unusedSectionVars false
namespace Go.Proofs.Ytlinbbjobjnipaa
open Go AI
set_option maxHeartbeats 4000000
set_option maxRecDepth 10000
/-- Which functions are called by value. -/
def plains (f : Nat) : Bool := [9, 10, 12, 19, 39].contains f
/-- What is known ahead: the chapter's example holds, the number within. -/
def facts : CallG := fun _ f aa =>
  match f, aa with
  | 9, [] => some (.pv (.bool true))
  | 10, [.pv (.int .i64 a), .pv (.int .i64 m)] => if (Lit.int .i64 a).wf = true ∧ 0 < m ∧ m ≤ 100000 then some (.pv (.int .i64 (a % m))) else none
  | _, _ => none
theorem facts_within {G : CallG} {hp : Hp} {a m : Int} (ha : (Lit.int .i64 a).wf = true) (hm : 0 < m ∧ m ≤ 100000) : orS facts G hp 10 [.pv (.int .i64 a), .pv (.int .i64 m)] = some (.pv (.int .i64 (a % m))) := by
  unfold orS facts
  simp [ha, hm.1, hm.2]
theorem wf_range {a : Int} (h : (Lit.int .i64 a).wf = true) : -9223372036854775808 ≤ a ∧ a ≤ 9223372036854775807 := by
  have hx : IntKind.i64.min ≤ a ∧ a ≤ IntKind.i64.max := by simpa [Lit.wf] using h
  simpa [IntKind.min, IntKind.max, IntKind.signed, IntKind.bits] using hx
/-- All numbers of a message fit. -/
structure Fit (m : M) : Prop where
  key : m.key.length = 32
  kind : (Lit.int .i64 m.kind).wf = true
  node : (Lit.int .i64 m.node).wf = true
  pred : (Lit.int .i64 m.pred).wf = true
  lease : (Lit.int .i64 m.lease).wf = true
  err : (Lit.int .i64 m.err).wf = true
  list : ∀ x ∈ m.list, (Lit.int .i64 x).wf = true
theorem splice_lo {α : Type} {pre : List α} {a b : α} {r : List α} {n : Nat} (hn : pre.length = n) : splice (pre ++ a :: r) n [b] = pre ++ b :: r := by
  subst hn
  simp [splice]
section
variable {m : M} {L D : AV}
theorem spl0 (z : Int) : splice (mcells m L D) 0 [.pv (.int .i64 z)] = mcells { m with kind := z } L D := rfl
theorem spl1 (z : Int) : splice (mcells m L D) 1 [.pv (.int .i64 z)] = mcells { m with node := z } L D := rfl
theorem spl2 (z : Int) : splice (mcells m L D) 2 [.pv (.int .i64 z)] = mcells { m with pred := z } L D := rfl
theorem spl3 (v : AV) (l : List Int) : splice (mcells m L D) 3 [v] = mcells { m with list := l } v D := rfl
theorem spl37 (hk : m.key.length = 32) (v : AV) (l : List Int) : splice (mcells m L D) 37 [v] = mcells { m with data := l } L v := by
  have h := splice_lo (n := 37) (pre := [.pv (.int .i64 m.kind), .pv (.int .i64 m.node), .pv (.int .i64 m.pred), L, .pv (.bool m.done)] ++ (u8s m.key).map AV.pv) (a := D) (b := v) (r := [.pv (.int .i64 m.lease), .pv (.int .i64 m.err)]) (by simp [u8s, hk])
  simpa [mcells] using h
theorem spl38 (hk : m.key.length = 32) (z : Int) : splice (mcells m L D) 38 [.pv (.int .i64 z)] = mcells { m with lease := z } L D := by
  have h := splice_lo (n := 38) (pre := [.pv (.int .i64 m.kind), .pv (.int .i64 m.node), .pv (.int .i64 m.pred), L, .pv (.bool m.done)] ++ ((u8s m.key).map AV.pv ++ [D])) (a := .pv (.int .i64 m.lease)) (b := .pv (.int .i64 z)) (r := [.pv (.int .i64 m.err)]) (by simp [u8s, hk])
  simpa [mcells] using h
theorem spl39 (hk : m.key.length = 32) (z : Int) : splice (mcells m L D) 39 [.pv (.int .i64 z)] = mcells { m with err := z } L D := by
  have h := splice_lo (n := 39) (pre := [.pv (.int .i64 m.kind), .pv (.int .i64 m.node), .pv (.int .i64 m.pred), L, .pv (.bool m.done)] ++ ((u8s m.key).map AV.pv ++ [D, .pv (.int .i64 m.lease)])) (a := .pv (.int .i64 m.err)) (b := .pv (.int .i64 z)) (r := []) (by simp [u8s, hk])
  simpa [mcells] using h
end
/-- A store into a field of a message. -/
theorem put_field {hp : Hp} {t id off : Nat} {m m' : M} {L D L' D' v : AV} (hk : m.key.length = 32) (ht : szA Try.prog t = some 1) (hl : AI.look hp id 1 = some (mcells m L D)) (hv : v.cells = [v] ∧ v.isCell = true) (ho : off < 40)
    (hs : splice (mcells m L D) off [v] = mcells m' L' D') : storeA Try.prog hp t (.ptr id 1 off) v = some (.upd undefA id (.cells 1 (mcells m' L' D'))) := by
  rw [store1 ht hl hv.1 hv.2 (by rw [mc_length hk]; omega), hs]
theorem zero30 : zeroA Try.prog 30 = some (mcells zeroM (.pv .nilSlice) (.pv .nilSlice)) := by kernel_rfl
theorem bs24_1 (nb : Nat) (z : Int) : buildSliceA Try.prog nb 24 1 [(0, .pv (.int .i64 z))] = some (.new (.slice nb 1 0 1 1 1 true) (.cells 1 [.pv (.int .i64 z)])) := by kernel_rfl
theorem bs27_1 (nb : Nat) (z : Int) : buildSliceA Try.prog nb 27 1 [(0, .pv (.int .u8 z))] = some (.new (.slice nb 1 0 1 1 1 true) (.cells 1 [.pv (.int .u8 z)])) := by kernel_rfl
theorem bs27_2 (nb : Nat) (z y : Int) : buildSliceA Try.prog nb 27 2 [(0, .pv (.int .u8 z)), (1, .pv (.int .u8 y))] = some (.new (.slice nb 1 0 2 2 1 true) (.cells 1 [.pv (.int .u8 z), .pv (.int .u8 y)])) := by kernel_rfl
theorem bs27_4 (nb : Nat) (z y x w : Int) : buildSliceA Try.prog nb 27 4 [(0, .pv (.int .u8 z)), (1, .pv (.int .u8 y)), (2, .pv (.int .u8 x)), (3, .pv (.int .u8 w))] = some (.new (.slice nb 1 0 4 4 1 true) (.cells 1 [.pv (.int .u8 z), .pv (.int .u8 y), .pv (.int .u8 x), .pv (.int .u8 w)])) := by kernel_rfl
/-- What was just built is read as it is. -/
theorem src_built {hp : Hp} {id n : Nat} {l : List PV} (hn : l.length = n) (h : hp id = .cells 1 (l.map .pv)) : srcA hp 1 (.slice id 1 0 n n 1 true) = some (l.length, l.map .pv) := by
  have r : Row hp (id + 1) (.slice id 1 0 n n 1 true) l := .own _ _ _ _ _ _ _ _ hn (by omega) h (by simp [hn]) (Nat.le_refl _) (by simp [← hn, ← List.map_take])
  exact row_src r
theorem row_okC {hp : Hp} {nb nb' : Nat} {v : AV} {l : List PV} (r : Row hp nb v l) (ho : ownOf v = none) : okC nb' v := by
  cases r with
  | own => simp [ownOf] at ho
  | _ => exact okC_pv _ _
theorem grow_okC {hp : Hp} {nb : Nat} {v : AV} {l : List PV} (g : Grow hp nb v l) : okC nb v := by
  cases g with
  | nil => exact okC_pv _ _
  | own id ver n xc l h hi hc => exact okC_slice hi
theorem min64 {hp : Hp} {nb : Nat} {ts : Array TypeId} {a b : Int} : builtinA Try.prog hp nb .min ts [.pv (.int .i64 a), .pv (.int .i64 b)] = some (.val (.pv (.int .i64 (if b < a then b else a)))) := rfl
theorem goodNeeds : needs (regOf Try.f13 2) = [(2, 4)] := by kernel_rfl
theorem goodStat : statOk (regOf Try.f13 2) = true := by kernel_rfl
theorem good_calls (lim d : Nat) {m : M} {L D : AV} (hf : Fit m) {hp0 : Hp} {nb0 : Nat} (hL : Row hp0 nb0 L (ints m.list)) (hD : Row hp0 nb0 D (u8s m.data)) (hLp : ownOf L = none) (hDp : ownOf D = none) (hlim : m.list.length < lim) (hln : m.list.length < 1000) (hdn : m.data.length < 100000) :
    CA (callA Try.prog facts plains lim (d + 1)) 13 [.agg (mcells m L D)] (AI.hf []) 0 fun v hp' nb' => ∃ L' D', v = .agg (mcells (goodM m) L' D') ∧ Row hp' nb' L' (ints (goodM m).list) ∧ Row hp' nb' D' (u8s (goodM m).data) ∧ ownOf D' = none ∧ Tidy hp' nb' := by
  have hk := hf.key
  have rowAny : ∀ {v : AV} {l : List PV}, Row hp0 nb0 v l → ownOf v = none → ∀ hp nb, Row hp nb v l := by
    intro v l r ho hp nb
    cases r with
    | nil => exact .nil
    | zcap => exact .zcap
    | ros n l h => exact .ros n l h
    | own => simp [ownOf] at ho
  have okPlain : ∀ {v : AV} {l : List PV}, Row hp0 nb0 v l → ownOf v = none → ∀ nb, okC nb v := by
    intro v l r ho nb
    cases r <;> first | exact okC_pv _ _ | simp [ownOf] at ho
  have okM : ∀ {nb : Nat} {m : M} {L D : AV}, okC nb L → okC nb D → ∀ c ∈ mcells m L D, okC nb c := by
    intro nb m L D hL hD c hc
    simp only [mcells, List.mem_append, List.mem_cons, List.not_mem_nil, or_false, List.mem_map] at hc
    rcases hc with (rfl | rfl | rfl | rfl | rfl) | (⟨q, _, rfl⟩ | rfl | rfl | rfl) <;> first | exact okC_pv _ _ | assumption
  refine ca_body (fn := Try.f13) (c := bodyOf Try.f13) Try.func13 rfl (by show 1 ≤ 59; omega) ?_
  show EX _ _ _ _ _ 59 _ _ _ _ _
  unfold bodyOf Try.f13
  refine ex_seq (ex_region ?_)
  refine ro_box (v := .agg (mcells m L D)) (by simp [evalF, argsF]) (mc_all (row_cell hL).1 (row_cell hD).1) (by decide) ?_
  refine ro_alloc zero30 (by kernel_rfl) (by decide) ?_
  refine ro_nil ?_
  try simp only
  generalize hh1 : setHp (setHp (AI.hf []) 0 _) _ _ = hp1
  have hl1 : AI.look hp1 0 1 = some (mcells m L D) := by rw [← hh1, look_ne _ _ _ (by omega)]; exact look_same _ _ _ _
  have hz1 : AI.look hp1 1 1 = some (mcells zeroM (.pv .nilSlice) (.pv .nilSlice)) := by rw [← hh1]; exact look_same _ _ _ _
  have ht1 : Tidy hp1 2 := by
    rw [← hh1]
    exact tidy_new (tidy_new tidy_nil (okM (okPlain hL hLp _) (okPlain hD hDp _))) (okM (okC_pv _ _) (okC_pv _ _))
  clear hh1
  have w12 := Int.emod_nonneg m.kind (show (12 : Int) ≠ 0 by omega)
  have w12' := Int.emod_lt_of_pos m.kind (show (0 : Int) < 12 by omega)
  have w11 := Int.emod_nonneg m.pred (show (11 : Int) ≠ 0 by omega)
  have w11' := Int.emod_lt_of_pos m.pred (show (0 : Int) < 11 by omega)
  have w1000 := Int.emod_nonneg m.lease (show (1000 : Int) ≠ 0 by omega)
  have w1000' := Int.emod_lt_of_pos m.lease (show (0 : Int) < 1000 by omega)
  -- Kind
  refine ex_seq (ex_region ?_)
  refine ro_fieldAddr (by simp only [evalF, upd, arg0, argS, ofConst, ofCell, Nat.reduceEqDiff, reduceIte] <;> rfl) (by exact (fa30_0 _ _ _)) (by decide) ?_
  refine ro_load (by simp only [evalF, upd, arg0, argS, ofConst, ofCell, Nat.reduceEqDiff, reduceIte] <;> rfl) (by exact (load1 ag3 hl1 mc0)) (by decide) ?_
  refine ro_pure (f := 10) («as» := [.pv (.int .i64 m.kind), .pv (.int .i64 12)]) rfl (by simp [evalF, upd, ofConst, ofCell]) rfl (facts_within hf.kind (by omega)) (by decide) ?_
  refine ro_bin (by simp only [evalF, upd, arg0, argS, ofConst, ofCell, Nat.reduceEqDiff, reduceIte] <;> rfl) (by simp only [evalF, upd, arg0, argS, ofConst, ofCell, Nat.reduceEqDiff, reduceIte] <;> rfl) (by exact (add_v (by omega))) (by decide) ?_
  refine ro_fieldAddr (by simp only [evalF, upd, arg0, argS, ofConst, ofCell, Nat.reduceEqDiff, reduceIte] <;> rfl) (by exact (fa30_0 _ _ _)) (by decide) ?_
  refine ro_store (by simp only [evalF, upd, arg0, argS, ofConst, ofCell, Nat.reduceEqDiff, reduceIte] <;> rfl) (by simp only [evalF, upd, arg0, argS, ofConst, ofCell, Nat.reduceEqDiff, reduceIte] <;> rfl) (put_field hk sz3 hl1 ⟨rfl, rfl⟩ (by omega) (spl0 _)) ?_
  refine ro_nil ?_
  try simp only
  generalize hh2 : setHp hp1 0 _ = hp2
  have hl2 : AI.look hp2 0 1 = some (mcells { m with kind := 1 + m.kind % 12 } L D) := by rw [← hh2]; exact look_same _ _ _ _
  have hz2 : AI.look hp2 1 1 = some (mcells zeroM (.pv .nilSlice) (.pv .nilSlice)) := by rw [← hh2, look_ne _ _ _ (by omega)]; exact hz1
  have ht2 : Tidy hp2 2 := by rw [← hh2]; exact tidy_put ht1 (okM (okPlain hL hLp _) (okPlain hD hDp _))
  clear hh2 hl1 hz1 ht1
  -- Node, Pred
  refine ex_seq (ex_draw goodStat ?_)
  refine rd_val (v := .ptr 0 1 1) rfl (by simp [primA, evalF, upd, fa30_1]) (by decide) ?_
  refine rd_val (v := .pv (.int .i64 m.node)) rfl (by simp only [primA, evalF, upd, Nat.reduceEqDiff, reduceIte, load1 ag3 hl2 mc1, Option.map_some]) (by decide) ?_
  refine rd_pure («as» := [.pv (.int .i64 m.node), .pv (.int .i64 10)]) (by simp [evalF, upd, ofConst, ofCell]) rfl (facts_within hf.node (by omega)) (by decide) ?_
  refine rd_val (v := .ptr 0 1 2) rfl (by simp [primA, evalF, upd, fa30_2]) (by decide) ?_
  refine rd_val (v := .pv (.int .i64 m.pred)) rfl (by simp only [primA, evalF, upd, Nat.reduceEqDiff, reduceIte, load1 ag3 hl2 mc2, Option.map_some]) (by decide) ?_
  refine rd_pure («as» := [.pv (.int .i64 m.pred), .pv (.int .i64 11)]) (by simp [evalF, upd, ofConst, ofCell]) rfl (facts_within hf.pred (by omega)) (by decide) ?_
  refine rd_val (v := .pv (.int .i64 (m.pred % 11 - 1))) rfl (by simp only [primA, evalF, upd, ofConst, ofCell, Nat.reduceEqDiff, reduceIte, sub_v (show -9223372036854775808 ≤ m.pred % 11 - 1 ∧ m.pred % 11 - 1 ≤ 9223372036854775807 by omega), Option.map_some]) (by decide) ?_
  refine rd_val (v := .ptr 0 1 1) rfl (by simp [primA, evalF, upd, fa30_1]) (by decide) ?_
  refine rd_upd (dst := none) (v := undefA) (id := 0) (b := .cells 1 (mcells { m with kind := 1 + m.kind % 12, node := m.node % 10 } L D)) rfl (by
    simp only [primA, evalF, upd, Nat.reduceEqDiff, reduceIte]
    exact put_field (m := { m with kind := 1 + m.kind % 12 }) hk sz3 hl2 ⟨rfl, rfl⟩ (by omega) (spl1 _)) (look_live hl2) (by simp) ?_
  simp only [putF]
  refine rd_val (v := .ptr 0 1 2) rfl (by simp [primA, evalF, upd, fa30_2]) (by decide) ?_
  refine rd_upd (dst := none) (v := undefA) (id := 0) (b := .cells 1 (mcells { m with kind := 1 + m.kind % 12, node := m.node % 10, pred := m.pred % 11 - 1 } L D)) rfl (by
    simp only [primA, evalF, upd, Nat.reduceEqDiff, reduceIte]
    exact put_field (m := { m with kind := 1 + m.kind % 12, node := m.node % 10 }) hk sz3 (look_same _ _ _ _) ⟨rfl, rfl⟩ (by omega) (spl2 _)) (look_live (look_same _ _ _ _)) (by simp) ?_
  simp only [putF]
  refine rd_nil ⟨dyn_of rfl (fun p hp => ?_), ?_⟩
  · have hp' : p ∈ needs (regOf Try.f13 2) := hp
    rw [goodNeeds] at hp'
    simp only [List.mem_cons, List.not_mem_nil, or_false] at hp'
    subst hp'
    intro a b ha hb
    cases ha; cases hb
    exact heapPart_no rfl rfl
  try simp only
  generalize hh3 : setHp (setHp hp2 0 _) 0 _ = hp3
  have hl3 : AI.look hp3 0 1 = some (mcells { m with kind := 1 + m.kind % 12, node := m.node % 10, pred := m.pred % 11 - 1 } L D) := by rw [← hh3]; exact look_same _ _ _ _
  have hz3 : AI.look hp3 1 1 = some (mcells zeroM (.pv .nilSlice) (.pv .nilSlice)) := by rw [← hh3, look_ne _ _ _ (by omega), look_ne _ _ _ (by omega)]; exact hz2
  have ht3 : Tidy hp3 2 := by rw [← hh3]; exact tidy_put (tidy_put ht2 (okM (okPlain hL hLp _) (okPlain hD hDp _))) (okM (okPlain hL hLp _) (okPlain hD hDp _))
  clear hh3 hl2 hz2 ht2
  -- Lease
  refine ex_seq (ex_region ?_)
  refine ro_fieldAddr (by simp only [evalF, upd, arg0, argS, ofConst, ofCell, Nat.reduceEqDiff, reduceIte] <;> rfl) (by exact (fa30_7 _ _ _)) (by decide) ?_
  refine ro_load (by simp only [evalF, upd, arg0, argS, ofConst, ofCell, Nat.reduceEqDiff, reduceIte] <;> rfl) (by exact (load1 ag3 hl3 (mc38 (m := { m with kind := 1 + m.kind % 12, node := m.node % 10, pred := m.pred % 11 - 1 }) hk))) (by decide) ?_
  refine ro_pure (f := 10) («as» := [.pv (.int .i64 m.lease), .pv (.int .i64 1000)]) rfl (by simp [evalF, upd, ofConst, ofCell]) rfl (facts_within hf.lease (by omega)) (by decide) ?_
  refine ro_bin (by simp only [evalF, upd, arg0, argS, ofConst, ofCell, Nat.reduceEqDiff, reduceIte] <;> rfl) (by simp only [evalF, upd, arg0, argS, ofConst, ofCell, Nat.reduceEqDiff, reduceIte] <;> rfl) (by exact (add_v (by omega))) (by decide) ?_
  refine ro_fieldAddr (by simp only [evalF, upd, arg0, argS, ofConst, ofCell, Nat.reduceEqDiff, reduceIte] <;> rfl) (by exact (fa30_7 _ _ _)) (by decide) ?_
  refine ro_store (by simp only [evalF, upd, arg0, argS, ofConst, ofCell, Nat.reduceEqDiff, reduceIte] <;> rfl) (by simp only [evalF, upd, arg0, argS, ofConst, ofCell, Nat.reduceEqDiff, reduceIte] <;> rfl) (put_field (m := { m with kind := 1 + m.kind % 12, node := m.node % 10, pred := m.pred % 11 - 1 }) hk sz3 hl3 ⟨rfl, rfl⟩ (by omega) (spl38 (m := { m with kind := 1 + m.kind % 12, node := m.node % 10, pred := m.pred % 11 - 1 }) hk _)) ?_
  refine ro_nil ?_
  try simp only
  generalize hh4 : setHp hp3 0 _ = hp4
  have hl4 : AI.look hp4 0 1 = some (mcells { m with kind := 1 + m.kind % 12, node := m.node % 10, pred := m.pred % 11 - 1, lease := 1 + m.lease % 1000 } L D) := by rw [← hh4]; exact look_same _ _ _ _
  have hz4 : AI.look hp4 1 1 = some (mcells zeroM (.pv .nilSlice) (.pv .nilSlice)) := by rw [← hh4, look_ne _ _ _ (by omega)]; exact hz3
  have ht4 : Tidy hp4 2 := by rw [← hh4]; exact tidy_put ht3 (okM (okPlain hL hLp _) (okPlain hD hDp _))
  clear hh4 hl3 hz3 ht3
  -- Err
  refine ex_seq (ex_region ?_)
  refine ro_fieldAddr (by simp only [evalF, upd, arg0, argS, ofConst, ofCell, Nat.reduceEqDiff, reduceIte] <;> rfl) (by exact (fa30_8 _ _ _)) (by decide) ?_
  refine ro_load (by simp only [evalF, upd, arg0, argS, ofConst, ofCell, Nat.reduceEqDiff, reduceIte] <;> rfl) (by exact (load1 ag28 hl4 (mc39 (m := { m with kind := 1 + m.kind % 12, node := m.node % 10, pred := m.pred % 11 - 1, lease := 1 + m.lease % 1000 }) hk))) (by decide) ?_
  refine ro_pure (f := 10) («as» := [.pv (.int .i64 m.err), .pv (.int .i64 21)]) rfl (by simp [evalF, upd, ofConst, ofCell]) rfl (facts_within hf.err (by omega)) (by decide) ?_
  refine ro_fieldAddr (by simp only [evalF, upd, arg0, argS, ofConst, ofCell, Nat.reduceEqDiff, reduceIte] <;> rfl) (by exact (fa30_8 _ _ _)) (by decide) ?_
  refine ro_store (by simp only [evalF, upd, arg0, argS, ofConst, ofCell, Nat.reduceEqDiff, reduceIte] <;> rfl) (by simp only [evalF, upd, arg0, argS, ofConst, ofCell, Nat.reduceEqDiff, reduceIte] <;> rfl) (put_field (m := { m with kind := 1 + m.kind % 12, node := m.node % 10, pred := m.pred % 11 - 1, lease := 1 + m.lease % 1000 }) hk sz28 hl4 ⟨rfl, rfl⟩ (by omega) (spl39 (m := { m with kind := 1 + m.kind % 12, node := m.node % 10, pred := m.pred % 11 - 1, lease := 1 + m.lease % 1000 }) hk _)) ?_
  refine ro_nil ?_
  try simp only
  generalize hh5 : setHp hp4 0 _ = hp5
  generalize hm5 : ({ m with kind := 1 + m.kind % 12, node := m.node % 10, pred := m.pred % 11 - 1, lease := 1 + m.lease % 1000, err := m.err % 21 } : M) = m5
  have hk5 : m5.key.length = 32 := by rw [← hm5]; exact hk
  have hml : m5.list = m.list := by rw [← hm5]
  have hmd : m5.data = m.data := by rw [← hm5]
  have hl5 : AI.look hp5 0 1 = some (mcells m5 L D) := by rw [← hh5, ← hm5]; exact look_same _ _ _ _
  have hz5 : AI.look hp5 1 1 = some (mcells zeroM (.pv .nilSlice) (.pv .nilSlice)) := by rw [← hh5, look_ne _ _ _ (by omega)]; exact hz4
  have ht5 : Tidy hp5 2 := by rw [← hh5]; exact tidy_put ht4 (okM (okPlain hL hLp _) (okPlain hD hDp _))
  clear hh5 hl4 hz4 ht4
  refine ex_seq (ex_region ?_)
  refine ro_assign (by simp only [evalF, upd, arg0, argS, ofConst, ofCell, Nat.reduceEqDiff, reduceIte] <;> rfl) (by decide) ?_
  refine ro_nil ?_
  try simp only
  -- List
  refine ex_seq ?_
  refine ex_seq (ex_region ?_)
  refine ro_assign (by simp only [evalF, upd, arg0, argS, ofConst, ofCell, Nat.reduceEqDiff, reduceIte] <;> rfl) (by decide) ?_
  refine ro_nil ?_
  try simp only
  refine ex_block (ex_loop (I := fun k g hpx nbx => ∃ (i : Nat) (v : AV), k = m.list.length - i ∧ i ≤ m.list.length ∧ i ≤ 10 ∧ g 1 = .ptr 0 1 0 ∧ g 2 = .ptr 1 1 0 ∧ g 3 = v ∧ g 4 = .pv (.int .i64 i) ∧ Grow hpx nbx v (ints ((m.list.take i).map (· % 10))) ∧
    (∀ id, ownOf v = some id → 2 ≤ id) ∧ AI.look hpx 0 1 = some (mcells m5 L D) ∧ AI.look hpx 1 1 = some (mcells zeroM (.pv .nilSlice) (.pv .nilSlice)) ∧ Tidy hpx nbx ∧ 2 ≤ nbx)
    (m := m.list.length) ⟨0, .pv .nilSlice, rfl, Nat.zero_le _, by omega, by simp [upd], by simp [upd], by simp [upd], by simp [upd], .nil, by simp [ownOf], hl5, hz5, ht5, Nat.le_refl _⟩ hlim ?_)
  rintro k g hpx nbx ⟨i, v, hkk, hi, hi10, h1, h2, h3, h4, hg, hown, hlx, hzx, htx, hnb⟩
  have hgo : ∀ b, b = (decide ((i : Int) < m.list.length) && decide ((i : Int) < 10)) → True := fun _ _ => trivial
  refine ex_seq (ex_seq (ex_weaken (K := fun xa g' hp' nb' => xa = .normal ∧ g' 36 = .pv (.bool (decide (i < m.list.length) && decide (i < 10))) ∧ g' 1 = .ptr 0 1 0 ∧ g' 2 = .ptr 1 1 0 ∧ g' 3 = v ∧ g' 4 = .pv (.int .i64 i) ∧ hp' = hpx ∧ nb' = nbx) ?_ ?_))
  · by_cases hc : i < m.list.length
    · refine ex_region ?_
      refine ro_move (by simp only [evalF, upd, arg0, argS, ofConst, ofCell, Nat.reduceEqDiff, reduceIte, h1, h2, h3, h4] <;> rfl) (by decide) ?_
      refine ro_fieldAddr (by simp only [evalF, upd, arg0, argS, ofConst, ofCell, Nat.reduceEqDiff, reduceIte, h1, h2, h3, h4] <;> rfl) (by exact (fa30_3 _ _ _)) (by decide) ?_
      refine ro_load (by simp only [evalF, upd, arg0, argS, ofConst, ofCell, Nat.reduceEqDiff, reduceIte, h1, h2, h3, h4] <;> rfl) (by exact (load1 ag24 hlx mc3)) (by decide) ?_
      refine ro_builtin rfl (by simp only [List.map_cons, List.map_nil, evalF, upd, arg0, argS, ofConst, ofCell, Nat.reduceEqDiff, reduceIte, h1, h2, h3, h4] <;> rfl) (by exact (row_len st24 hL)) (by decide) ?_
      refine ro_bin (by simp only [evalF, upd, arg0, argS, ofConst, ofCell, Nat.reduceEqDiff, reduceIte, h1, h2, h3, h4] <;> rfl) (by simp only [evalF, upd, arg0, argS, ofConst, ofCell, Nat.reduceEqDiff, reduceIte, h1, h2, h3, h4] <;> rfl) (by exact (lss_t (by simp [ints]; omega))) (by decide) ?_
      refine ro_move (by simp only [evalF, upd, arg0, argS, ofConst, ofCell, Nat.reduceEqDiff, reduceIte, h1, h2, h3, h4] <;> rfl) (by decide) ?_
      refine ro_guard rfl (by simp only [evalF, upd, arg0, argS, ofConst, ofCell, Nat.reduceEqDiff, reduceIte, h1, h2, h3, h4] <;> rfl) rfl ?_
      refine ro_move (by simp only [evalF, upd, arg0, argS, ofConst, ofCell, Nat.reduceEqDiff, reduceIte, h1, h2, h3, h4] <;> rfl) (by decide) ?_
      refine ro_guard rfl (by simp only [evalF, upd, arg0, argS, ofConst, ofCell, Nat.reduceEqDiff, reduceIte, h1, h2, h3, h4] <;> rfl) rfl ?_
      refine ro_bin (by simp only [evalF, upd, arg0, argS, ofConst, ofCell, Nat.reduceEqDiff, reduceIte, h1, h2, h3, h4] <;> rfl) (by simp only [evalF, upd, arg0, argS, ofConst, ofCell, Nat.reduceEqDiff, reduceIte, h1, h2, h3, h4] <;> rfl) (by exact (lss_v)) (by decide) ?_
      refine ro_pick (by simp only [evalF, upd, arg0, argS, ofConst, ofCell, Nat.reduceEqDiff, reduceIte, h1, h2, h3, h4] <;> rfl) (by simp only [evalF, upd, arg0, argS, ofConst, ofCell, Nat.reduceEqDiff, reduceIte, h1, h2, h3, h4] <;> rfl) (by simp only [evalF, upd, arg0, argS, ofConst, ofCell, Nat.reduceEqDiff, reduceIte, h1, h2, h3, h4] <;> rfl) (by decide) ?_
      refine ro_nil ?_
      refine ⟨by first | rfl | trivial, ?_, by simp [upd, h1], by simp [upd, h2], by simp [upd, h3], by simp [upd, h4], by first | rfl | trivial, by first | rfl | trivial⟩
      simp only [upd, Nat.reduceEqDiff, reduceIte, decide_eq_true hc, Bool.true_and, AV.pv.injEq, PV.bool.injEq, decide_eq_decide]
      omega
    · refine ex_region ?_
      refine ro_move (by simp only [evalF, upd, arg0, argS, ofConst, ofCell, Nat.reduceEqDiff, reduceIte, h1, h2, h3, h4] <;> rfl) (by decide) ?_
      refine ro_fieldAddr (by simp only [evalF, upd, arg0, argS, ofConst, ofCell, Nat.reduceEqDiff, reduceIte, h1, h2, h3, h4] <;> rfl) (by exact (fa30_3 _ _ _)) (by decide) ?_
      refine ro_load (by simp only [evalF, upd, arg0, argS, ofConst, ofCell, Nat.reduceEqDiff, reduceIte, h1, h2, h3, h4] <;> rfl) (by exact (load1 ag24 hlx mc3)) (by decide) ?_
      refine ro_builtin rfl (by simp only [List.map_cons, List.map_nil, evalF, upd, arg0, argS, ofConst, ofCell, Nat.reduceEqDiff, reduceIte, h1, h2, h3, h4] <;> rfl) (by exact (row_len st24 hL)) (by decide) ?_
      refine ro_bin (by simp only [evalF, upd, arg0, argS, ofConst, ofCell, Nat.reduceEqDiff, reduceIte, h1, h2, h3, h4] <;> rfl) (by simp only [evalF, upd, arg0, argS, ofConst, ofCell, Nat.reduceEqDiff, reduceIte, h1, h2, h3, h4] <;> rfl) (by exact (lss_f (by simp [ints]; omega))) (by decide) ?_
      refine ro_move (by simp only [evalF, upd, arg0, argS, ofConst, ofCell, Nat.reduceEqDiff, reduceIte, h1, h2, h3, h4] <;> rfl) (by decide) ?_
      refine ro_skip rfl (by simp only [evalF, upd, arg0, argS, ofConst, ofCell, Nat.reduceEqDiff, reduceIte, h1, h2, h3, h4] <;> rfl) rfl (fun e he => by cases he; decide) ?_
      simp only [putF]
      refine ro_skip rfl (by simp only [evalF, upd, arg0, argS, ofConst, ofCell, Nat.reduceEqDiff, reduceIte, h1, h2, h3, h4] <;> rfl) rfl (fun e he => by cases he; decide) ?_
      simp only [putF]
      refine ro_pick (by simp only [evalF, upd, arg0, argS, ofConst, ofCell, Nat.reduceEqDiff, reduceIte, h1, h2, h3, h4] <;> rfl) (by simp only [evalF, upd, arg0, argS, ofConst, ofCell, Nat.reduceEqDiff, reduceIte, h1, h2, h3, h4] <;> rfl) (by simp only [evalF, upd, arg0, argS, ofConst, ofCell, Nat.reduceEqDiff, reduceIte, h1, h2, h3, h4] <;> rfl) (by decide) ?_
      refine ro_nil ?_
      refine ⟨by first | rfl | trivial, ?_, by simp [upd, h1], by simp [upd, h2], by simp [upd, h3], by simp [upd, h4], by first | rfl | trivial, by first | rfl | trivial⟩
      simp only [upd, Nat.reduceEqDiff, reduceIte, decide_eq_false hc, Bool.false_and, Bool.false_eq_true]
  rintro xa g2 hpy nby ⟨rfl, h36, h1, h2, h3, h4, e1, e2⟩
  rw [e1, e2]
  clear e1 e2 hpy nby
  try simp only
  refine ex_cond (t := decide (i < m.list.length) && decide (i < 10)) (by simp only [evalF, upd, arg0, argS, ofConst, ofCell, Nat.reduceEqDiff, reduceIte, h1, h2, h3, h4, h36] <;> rfl) (fun ht => ?_) (fun ht => ?_)
  rotate_left
  · refine ex_exit ?_
    simp only [if_true]
    have hie : m.list.take i = m.list.take 10 := by
      simp only [Bool.and_eq_false_iff, decide_eq_false_iff_not] at ht
      rcases ht with ht | ht
      · rw [List.take_of_length_le (by omega), List.take_of_length_le (by omega)]
      · rw [show i = 10 by omega]
    rw [hie] at hg
    have hrow := hg.row
    refine ex_seq (ex_region ?_)
    refine ro_move (by simp only [evalF, upd, arg0, argS, ofConst, ofCell, Nat.reduceEqDiff, reduceIte, h1, h2, h3, h4, h36] <;> rfl) (by decide) ?_
    refine ro_fieldAddr (by simp only [evalF, upd, arg0, argS, ofConst, ofCell, Nat.reduceEqDiff, reduceIte, h1, h2, h3, h4, h36] <;> rfl) (by exact (fa30_3 _ _ _)) (by decide) ?_
    refine ro_store (by simp only [evalF, upd, arg0, argS, ofConst, ofCell, Nat.reduceEqDiff, reduceIte, h1, h2, h3, h4, h36] <;> rfl) (by simp only [evalF, upd, arg0, argS, ofConst, ofCell, Nat.reduceEqDiff, reduceIte, h1, h2, h3, h4, h36] <;> rfl) (put_field hk5 sz24 hlx ⟨(row_cell hrow).2, (row_cell hrow).1⟩ (by omega) (spl3 _ ((m.list.take 10).map (· % 10)))) ?_
    refine ro_nil ?_
    try simp only
    generalize hh6 : setHp hpx 0 _ = hp6
    have hl6 : AI.look hp6 0 1 = some (mcells { m5 with list := (m.list.take 10).map (· % 10) } v D) := by rw [← hh6]; exact look_same _ _ _ _
    have hz6 : AI.look hp6 1 1 = some (mcells zeroM (.pv .nilSlice) (.pv .nilSlice)) := by rw [← hh6, look_ne _ _ _ (by omega)]; exact hzx
    have hokv : okC nbx v := grow_okC hg
    have ht6 : Tidy hp6 nbx := by rw [← hh6]; exact tidy_put htx (okM hokv (okPlain hD hDp _))
    have hrow6 : Row hp6 nbx v (ints ((m.list.take 10).map (· % 10))) := hrow.keep (Nat.le_refl _) (fun id hid ho => by
      rw [← hh6]
      have := hown id ho
      simp [setHp, show id ≠ 0 by omega])
    clear hh6
    refine ex_seq (ex_region ?_)
    refine ro_fieldAddr (by simp only [evalF, upd, arg0, argS, ofConst, ofCell, Nat.reduceEqDiff, reduceIte, h1, h2, h3, h4, h36] <;> rfl) (by exact (fa30_6 _ _ _)) (by decide) ?_
    refine ro_load (by simp only [evalF, upd, arg0, argS, ofConst, ofCell, Nat.reduceEqDiff, reduceIte, h1, h2, h3, h4, h36] <;> rfl) (by exact (load1 ag27 hl6 (mc37 (m := { m5 with list := (m.list.take 10).map (· % 10) }) hk5))) (by decide) ?_
    refine ro_fieldAddr (by simp only [evalF, upd, arg0, argS, ofConst, ofCell, Nat.reduceEqDiff, reduceIte, h1, h2, h3, h4, h36] <;> rfl) (by exact (fa30_6 _ _ _)) (by decide) ?_
    refine ro_load (by simp only [evalF, upd, arg0, argS, ofConst, ofCell, Nat.reduceEqDiff, reduceIte, h1, h2, h3, h4, h36] <;> rfl) (by exact (load1 ag27 hl6 (mc37 (m := { m5 with list := (m.list.take 10).map (· % 10) }) hk5))) (by decide) ?_
    refine ro_builtin rfl (by simp only [List.map_cons, List.map_nil, evalF, upd, arg0, argS, ofConst, ofCell, Nat.reduceEqDiff, reduceIte, h1, h2, h3, h4, h36] <;> rfl) (by exact (row_len st27 hD)) (by decide) ?_
    refine ro_builtin rfl (by simp only [List.map_cons, List.map_nil, evalF, upd, arg0, argS, ofConst, ofCell, Nat.reduceEqDiff, reduceIte, h1, h2, h3, h4, h36] <;> rfl) (by exact (min64)) (by decide) ?_
    have hmin : (if (6000 : Int) < ((u8s m.data).length : Int) then (6000 : Int) else ((u8s m.data).length : Int)) = ((min m.data.length 6000 : Nat) : Int) := by
      simp only [u8s, List.length_map]
      split <;> omega
    rw [hmin]
    obtain ⟨D', hs1, hs2, hs3⟩ := row_slice st27 (rowAny hD hDp hp6 nbx) (lo := 0) (hi := min m.data.length 6000) (lv := none) (hv := some (.pv (.int .i64 ((min m.data.length 6000 : Nat) : Int)))) (.inr ⟨rfl, rfl⟩) (.inl rfl) (Nat.zero_le _) (by simp [u8s]; omega)
    refine ro_slice (by simp only [evalF, upd, arg0, argS, ofConst, ofCell, Nat.reduceEqDiff, reduceIte, h1, h2, h3, h4, h36] <;> rfl) rfl (by simp only [Option.map_some, evalF, upd, Nat.reduceEqDiff, reduceIte]) rfl hs1 (by decide) ?_
    refine ro_fieldAddr (by simp only [evalF, upd, arg0, argS, ofConst, ofCell, Nat.reduceEqDiff, reduceIte, h1, h2, h3, h4, h36] <;> rfl) (by exact (fa30_6 _ _ _)) (by decide) ?_
    have hDo : ownOf D' = none := by
      cases ho : ownOf D' with
      | none => rfl
      | some id => rw [hs3 id ho] at hDp; simp at hDp
    have hdat : ((u8s m.data).drop 0).take (min m.data.length 6000 - 0) = u8s (m.data.take 6000) := by
      simp only [List.drop_zero, Nat.sub_zero, u8s, ← List.map_take]
      congr 1
      by_cases h6 : 6000 ≤ m.data.length
      · rw [show min m.data.length 6000 = 6000 by omega]
      · rw [List.take_of_length_le (by omega), List.take_of_length_le (by omega)]
    rw [hdat] at hs2
    refine ro_store (by simp only [evalF, upd, arg0, argS, ofConst, ofCell, Nat.reduceEqDiff, reduceIte, h1, h2, h3, h4, h36] <;> rfl) (by simp only [evalF, upd, arg0, argS, ofConst, ofCell, Nat.reduceEqDiff, reduceIte, h1, h2, h3, h4, h36] <;> rfl) (put_field (m := { m5 with list := (m.list.take 10).map (· % 10) }) hk5 sz27 hl6 ⟨(row_cell hs2).2, (row_cell hs2).1⟩ (by omega) (spl37 (m := { m5 with list := (m.list.take 10).map (· % 10) }) hk5 _ (m.data.take 6000))) ?_
    refine ro_nil ?_
    try simp only
    have hgm : ({ m5 with list := (m.list.take 10).map (· % 10), data := m.data.take 6000 } : M) = goodM m := by rw [← hm5]; rfl
    generalize hh7 : setHp hp6 0 _ = hp7
    have hl7 : AI.look hp7 0 1 = some (mcells (goodM m) v D') := by rw [← hh7, ← hgm]; exact look_same _ _ _ _
    have hz7 : AI.look hp7 1 1 = some (mcells zeroM (.pv .nilSlice) (.pv .nilSlice)) := by rw [← hh7, look_ne _ _ _ (by omega)]; exact hz6
    have hokD : okC nbx D' := row_okC hs2 hDo
    have ht7 : Tidy hp7 nbx := by rw [← hh7]; exact tidy_put ht6 (okM hokv hokD)
    have hrow7 : Row hp7 nbx v (ints ((m.list.take 10).map (· % 10))) := hrow6.keep (Nat.le_refl _) (fun id hid ho => by
      rw [← hh7]
      have := hown id ho
      simp [setHp, show id ≠ 0 by omega])
    have hgk : (goodM m).key.length = 32 := hk
    clear hh7
    refine ex_seq (ex_region ?_)
    refine ro_load (by simp only [evalF, upd, arg0, argS, ofConst, ofCell, Nat.reduceEqDiff, reduceIte, h1, h2, h3, h4, h36] <;> rfl) (by exact (loadN ag30 sz30 hl7 (by rw [mc_length hgk]; omega))) (by decide) ?_
    refine ro_store (v := .agg (mcells (goodM m) v D')) (by simp only [evalF, upd, arg0, argS, ofConst, ofCell, Nat.reduceEqDiff, reduceIte, h1, h2, h3, h4, h36] <;> rfl) (by simp only [evalF, upd, Nat.reduceEqDiff, reduceIte, List.drop_zero]; rw [List.take_of_length_le (by rw [mc_length hgk]; omega)]) (storeN sz30 hz7 (mc_all (row_cell hrow7).1 (row_cell hs2).1) (mc_length hgk) (by rw [mc_length (by rfl)]; omega)) ?_
    refine ro_nil ?_
    try simp only
    have hsp : splice (mcells zeroM (.pv .nilSlice) (.pv .nilSlice)) 0 (mcells (goodM m) v D') = mcells (goodM m) v D' := by
      unfold splice
      rw [mc_length hgk]
      rw [List.drop_of_length_le (by rw [mc_length (by rfl)]; omega)]
      simp
    rw [hsp]
    refine ex_ret ?_
    have hfin : AI.look (setHp hp7 1 (.cells 1 (mcells (goodM m) v D'))) 1 1 = some (mcells (goodM m) v D') := look_same _ _ _ _
    refine ⟨.agg (mcells (goodM m) v D'), ?_, v, D', rfl, ?_, ?_, hDo, tidy_put ht7 (okM hokv hokD)⟩
    · show resOneF Try.prog _ _ (.cell 2 30) = _
      simp only [resOneF, upd, Nat.reduceEqDiff, reduceIte, h2]
      rw [loadN ag30 sz30 hfin (by rw [mc_length hgk]; omega), List.drop_zero, List.take_of_length_le (by rw [mc_length hgk]; omega)]
    · exact hrow7.keep (Nat.le_refl _) (fun id hid ho => by
        have := hown id ho
        simp [setHp, show id ≠ 1 by omega])
    · exact hs2.keep (Nat.le_refl _) (fun id hid ho => by rw [hDo] at ho; simp at ho)
  · refine ex_skip ?_
    try simp only
    simp only [Bool.and_eq_true, decide_eq_true_eq] at ht
    obtain ⟨hil, hi10'⟩ := ht
    have hgi : (ints m.list)[i]? = some (.int .i64 m.list[i]) := by
      unfold ints
      rw [List.getElem?_map, List.getElem?_eq_getElem hil]
      rfl
    obtain ⟨a, ha, hla⟩ := row_at st24 (rowAny hL hLp hpx nbx) hgi
    refine ex_seq (ex_block ?_)
    refine ex_region ?_
    refine ro_move (by simp only [evalF, upd, arg0, argS, ofConst, ofCell, Nat.reduceEqDiff, reduceIte, h1, h2, h3, h4, h36] <;> rfl) (by decide) ?_
    refine ro_fieldAddr (by simp only [evalF, upd, arg0, argS, ofConst, ofCell, Nat.reduceEqDiff, reduceIte, h1, h2, h3, h4, h36] <;> rfl) (by exact (fa30_3 _ _ _)) (by decide) ?_
    refine ro_load (by simp only [evalF, upd, arg0, argS, ofConst, ofCell, Nat.reduceEqDiff, reduceIte, h1, h2, h3, h4, h36] <;> rfl) (by exact (load1 ag24 hlx mc3)) (by decide) ?_
    refine ro_move (by simp only [evalF, upd, arg0, argS, ofConst, ofCell, Nat.reduceEqDiff, reduceIte, h1, h2, h3, h4, h36] <;> rfl) (by decide) ?_
    refine ro_indexAddr (by simp only [evalF, upd, arg0, argS, ofConst, ofCell, Nat.reduceEqDiff, reduceIte, h1, h2, h3, h4, h36] <;> rfl) (by simp only [evalF, upd, arg0, argS, ofConst, ofCell, Nat.reduceEqDiff, reduceIte, h1, h2, h3, h4, h36] <;> rfl) (by exact (ha)) (by decide) ?_
    refine ro_load (by simp only [evalF, upd, arg0, argS, ofConst, ofCell, Nat.reduceEqDiff, reduceIte, h1, h2, h3, h4, h36] <;> rfl) (by exact (hla)) (by decide) ?_
    refine ro_pure (f := 10) («as» := [.pv (.int .i64 m.list[i]), .pv (.int .i64 10)]) rfl (by simp [evalF, upd, ofConst, ofCell]) rfl (facts_within (hf.list _ (List.getElem_mem hil)) (by omega)) (by decide) ?_
    refine ro_buildSlice rfl (by simp only [List.map_cons, List.map_nil, evalF, upd, Nat.reduceEqDiff, reduceIte]; exact bs24_1 _ _) (by decide) ?_
    refine ro_append (r := [.int .i64 (m.list[i] % 10)]) st24 Try.underlying24 (by simp only [evalF, upd, arg0, argS, ofConst, ofCell, Nat.reduceEqDiff, reduceIte, h1, h2, h3, h4, h36] <;> rfl) (by simp only [evalF, upd, arg0, argS, ofConst, ofCell, Nat.reduceEqDiff, reduceIte, h1, h2, h3, h4, h36] <;> rfl) (hg.keep (Nat.le_succ _) (fun id hid _ => by simp [setHp, show id ≠ nbx by omega])) (src_built rfl (by simp [setHp])) (by simp [ints]; omega) (by decide) ?_
    intro v' hp' nb' hg' haft hown'
    refine ro_assign (by simp only [evalF, upd, arg0, argS, ofConst, ofCell, Nat.reduceEqDiff, reduceIte, h1, h2, h3, h4, h36] <;> rfl) (by decide) ?_
    refine ro_nil ?_
    try simp only
    refine ex_region ?_
    refine ro_move (by simp only [evalF, upd, arg0, argS, ofConst, ofCell, Nat.reduceEqDiff, reduceIte, h1, h2, h3, h4, h36] <;> rfl) (by decide) ?_
    refine ro_bin (by simp only [evalF, upd, arg0, argS, ofConst, ofCell, Nat.reduceEqDiff, reduceIte, h1, h2, h3, h4, h36] <;> rfl) (by simp only [evalF, upd, arg0, argS, ofConst, ofCell, Nat.reduceEqDiff, reduceIte, h1, h2, h3, h4, h36] <;> rfl) (by exact (add_v (by omega))) (by decide) ?_
    refine ro_assign (by simp only [evalF, upd, arg0, argS, ofConst, ofCell, Nat.reduceEqDiff, reduceIte, h1, h2, h3, h4, h36] <;> rfl) (by decide) ?_
    refine ro_nil ?_
    obtain ⟨a1, a2, a3⟩ := haft
    have k0 : ∀ id, id < 2 → hp' id = hpx id := fun id hid => by
      rw [a2 id (by omega) (fun ho => by have := hown id ho; omega)]
      simp [setHp, show id ≠ nbx by omega]
    refine ⟨m.list.length - (i + 1), by omega, i + 1, v', rfl, by omega, by omega, by simp [upd, h1], by simp [upd, h2], by simp [upd], by simp [upd], ?_, ?_, ?_, ?_, ?_, by omega⟩
    · have e : ints ((m.list.take (i + 1)).map (· % 10)) = ints ((m.list.take i).map (· % 10)) ++ [.int .i64 (m.list[i] % 10)] := by
        have e0 : m.list.take (i + 1) = m.list.take i ++ [m.list[i]] := by
          rw [List.take_add_one, List.getElem?_eq_getElem hil]
          rfl
        rw [e0]
        unfold ints
        rw [List.map_append, List.map_append]
        rfl
      rw [e]; exact hg'
    · intro id hid
      rcases hown' id hid with h | h
      · exact hown id h
      · omega
    · rw [look_at 1 (k0 0 (by omega))]; exact hlx
    · rw [look_at 1 (k0 1 (by omega))]; exact hzx
    · exact a3 (tidy_new htx (by intro c hc; simp at hc; subst hc; exact okC_pv _ _))
end Go.Proofs.Ytlinbbjobjnipaa

set_option linter.unusedVariables false
set_option linter.unusedSimpArgs false
set_option linter.unusedSectionVars false
namespace Go.Proofs.Ytlinbbjobjnipaa
open Go AI
set_option maxHeartbeats 4000000
set_option maxRecDepth 10000
theorem row_own {hp : Hp} {nb id : Nat} {v : AV} {l : List PV} (r : Row hp nb v l) (ho : ownOf v = some id) : id < nb := by
  cases r with
  | own id' ver off n mc xc cs l' h1 hi => simp only [ownOf, Option.some.injEq] at ho; omega
  | _ => simp [ownOf] at ho
theorem after_trans {hp hp1 hp2 : Hp} {nb nb1 nb2 : Nat} {v v1 : AV} (a : After hp nb v hp1 nb1) (b : After hp1 nb1 v1 hp2 nb2) (ho : ∀ id, ownOf v1 = some id → ownOf v = some id ∨ nb ≤ id) : After hp nb v hp2 nb2 := by
  obtain ⟨a1, a2, a3⟩ := a
  obtain ⟨b1, b2, b3⟩ := b
  refine ⟨by omega, fun id hid hne => ?_, fun h => b3 (a3 h)⟩
  rw [b2 id (by omega) (fun h => (ho id h).elim hne (fun h => by omega)), a2 id hid hne]
theorem after_refl (hp : Hp) (nb : Nat) (v : AV) : After hp nb v hp nb := ⟨Nat.le_refl _, fun _ _ _ => rfl, fun h => h⟩
/-- A new block of plain values. -/
theorem after_new (hp : Hp) (nb : Nat) (v : AV) (cs : List AV) (h : ∀ c ∈ cs, okC nb c) : After hp nb v (setHp hp nb (.cells 1 cs)) (nb + 1) :=
  ⟨Nat.le_succ _, fun id hid _ => by simp [setHp, show id ≠ nb by omega], fun ht => tidy_new ht (fun c hc => okC_mono (Nat.le_succ _) (h c hc))⟩
/-- What writing behind bytes gives. -/
def WrOk (b : AV) (bs : List Int) (r : Except Int (List Int)) (hp : Hp) (nb : Nat) (v : AV) (hp' : Hp) (nb' : Nat) : Prop :=
  After hp nb b hp' nb' ∧ match r with
    | .ok x => ∃ b', v = .tuple [b', .pv (.int .i64 0)] ∧ Grow hp' nb' b' (u8s (bs ++ x)) ∧ (∀ id, ownOf b' = some id → ownOf b = some id ∨ nb ≤ id)
    | .error e => v = .tuple [.pv .nilSlice, .pv (.int .i64 e)]
def rowV (k : Int) : AV :=
  match rowOf k with
  | none => .tuple [.pv .nilSlice, .pv (.bool false)]
  | some [] => .tuple [.pv .nilSlice, .pv (.bool true)]
  | some fs => .tuple [.pv (.ros 1 fs.length (ints (fs.map Int.ofNat))), .pv (.bool true)]
section
variable {P : Program} {pure : Nat → Bool} {F : CallF} {G : CallG} {lim n : Nat} {g : Gm} {hp : Hp} {nb : Nat} {a b : Code} {e i : Nat}
theorem ex_block_pass (hne : e ≠ i) (h : EX P pure F G lim n b g hp nb fun y _ _ _ => y = .exit e) : EX P pure F G lim n (.block i b) g hp nb fun y _ _ _ => y = .exit e :=
  ex_block (ex_weaken h (fun x g hp nb hx => by subst hx; simp [hne]))
theorem ex_block_hit (h : EX P pure F G lim n b g hp nb fun y _ _ _ => y = .exit i) : EX P pure F G lim n (.block i b) g hp nb fun y _ _ _ => y = .normal :=
  ex_block (ex_weaken h (fun x g hp nb hx => by subst hx; simp))
theorem ex_seq_stop (h : EX P pure F G lim n a g hp nb fun y _ _ _ => y = .exit e) : EX P pure F G lim n (.seq a b) g hp nb fun y _ _ _ => y = .exit e :=
  ex_seq (ex_weaken h (fun x g hp nb hx => by subst hx; rfl))
end
theorem row_none (lim d : Nat) (k : Int) (hk : ¬ (1 ≤ k ∧ k ≤ 12)) (hp : Hp) : pureOf (callA Try.prog facts plains lim (d + 1)) hp 19 [.pv (.int .i64 k)] = some (.tuple [.pv .nilSlice, .pv (.bool false)]) := by
  refine pure_of_ca (Qc := fun v hp' nb' => v = .tuple [.pv .nilSlice, .pv (.bool false)]) rfl ?_ (fun v hp' nb' h => by rw [h]; rfl) hp
  refine ca_body (fn := Try.f19) (c := bodyOf Try.f19) Try.func19 rfl (by show 1 ≤ 37; omega) ?_
  show EX _ _ _ _ _ 37 _ _ _ _ _
  unfold bodyOf Try.f19
  refine ex_seq (ex_region ?_)
  refine ro_assign (by simp only [evalF, upd, arg0, argS, ofConst, ofCell, Nat.reduceEqDiff, reduceIte] <;> rfl) (by decide) ?_
  refine ro_assign (by simp only [evalF, upd, arg0, argS, ofConst, ofCell, Nat.reduceEqDiff, reduceIte] <;> rfl) (by decide) ?_
  refine ro_nil ?_
  try simp only
  refine ex_seq (ex_weaken (K := fun y _ _ _ => y = .normal) ?_ ?_)
  · refine ex_seq (ex_region ?_)
    refine ro_move (by simp only [evalF, upd, arg0, argS, ofConst, ofCell, Nat.reduceEqDiff, reduceIte] <;> rfl) (by decide) ?_
    refine ro_nil ?_
    try simp only
    refine ex_block_hit ?_
    refine ex_seq_stop ?_
    refine ex_block_pass (by decide) ?_
    refine ex_seq_stop ?_
    refine ex_block_pass (by decide) ?_
    refine ex_seq_stop ?_
    refine ex_block_pass (by decide) ?_
    refine ex_seq_stop ?_
    refine ex_block_pass (by decide) ?_
    refine ex_seq_stop ?_
    refine ex_block_pass (by decide) ?_
    refine ex_seq_stop ?_
    refine ex_block_pass (by decide) ?_
    refine ex_block_pass (by decide) ?_
    refine ex_seq_stop ?_
    refine ex_block_pass (by decide) ?_
    refine ex_seq_stop ?_
    refine ex_block_pass (by decide) ?_
    refine ex_seq_stop ?_
    refine ex_block_pass (by decide) ?_
    refine ex_seq_stop ?_
    refine ex_block_pass (by decide) ?_
    refine ex_seq (ex_weaken (K := fun y _ _ _ => y = .normal) ?_ (fun x g hp nb hx => by subst hx; exact ex_exit rfl))
    refine ex_seq (ex_seq (ex_region ?_))
    refine ro_bin (by simp only [evalF, upd, arg0, argS, ofConst, ofCell, Nat.reduceEqDiff, reduceIte] <;> rfl) (by simp only [evalF, upd, arg0, argS, ofConst, ofCell, Nat.reduceEqDiff, reduceIte] <;> rfl) (by exact (eql_f (by omega))) (by decide) ?_
    refine ro_assign (by simp only [evalF, upd, arg0, argS, ofConst, ofCell, Nat.reduceEqDiff, reduceIte] <;> rfl) (by decide) ?_
    refine ro_nil ?_
    try simp only
    refine ex_cond (t := false) (by simp only [evalF, upd, arg0, argS, ofConst, ofCell, Nat.reduceEqDiff, reduceIte] <;> rfl) (fun h => by simp at h) (fun _ => ex_skip ?_)
    try simp only
    refine ex_seq (ex_seq (ex_region ?_))
    refine ro_bin (by simp only [evalF, upd, arg0, argS, ofConst, ofCell, Nat.reduceEqDiff, reduceIte] <;> rfl) (by simp only [evalF, upd, arg0, argS, ofConst, ofCell, Nat.reduceEqDiff, reduceIte] <;> rfl) (by exact (eql_f (by omega))) (by decide) ?_
    refine ro_assign (by simp only [evalF, upd, arg0, argS, ofConst, ofCell, Nat.reduceEqDiff, reduceIte] <;> rfl) (by decide) ?_
    refine ro_nil ?_
    try simp only
    refine ex_cond (t := false) (by simp only [evalF, upd, arg0, argS, ofConst, ofCell, Nat.reduceEqDiff, reduceIte] <;> rfl) (fun h => by simp at h) (fun _ => ex_skip ?_)
    try simp only
    refine ex_seq (ex_seq (ex_region ?_))
    refine ro_bin (by simp only [evalF, upd, arg0, argS, ofConst, ofCell, Nat.reduceEqDiff, reduceIte] <;> rfl) (by simp only [evalF, upd, arg0, argS, ofConst, ofCell, Nat.reduceEqDiff, reduceIte] <;> rfl) (by exact (eql_f (by omega))) (by decide) ?_
    refine ro_assign (by simp only [evalF, upd, arg0, argS, ofConst, ofCell, Nat.reduceEqDiff, reduceIte] <;> rfl) (by decide) ?_
    refine ro_nil ?_
    try simp only
    refine ex_cond (t := false) (by simp only [evalF, upd, arg0, argS, ofConst, ofCell, Nat.reduceEqDiff, reduceIte] <;> rfl) (fun h => by simp at h) (fun _ => ex_skip ?_)
    try simp only
    refine ex_seq (ex_seq (ex_region ?_))
    refine ro_bin (by simp only [evalF, upd, arg0, argS, ofConst, ofCell, Nat.reduceEqDiff, reduceIte] <;> rfl) (by simp only [evalF, upd, arg0, argS, ofConst, ofCell, Nat.reduceEqDiff, reduceIte] <;> rfl) (by exact (eql_f (by omega))) (by decide) ?_
    refine ro_assign (by simp only [evalF, upd, arg0, argS, ofConst, ofCell, Nat.reduceEqDiff, reduceIte] <;> rfl) (by decide) ?_
    refine ro_nil ?_
    try simp only
    refine ex_cond (t := false) (by simp only [evalF, upd, arg0, argS, ofConst, ofCell, Nat.reduceEqDiff, reduceIte] <;> rfl) (fun h => by simp at h) (fun _ => ex_skip ?_)
    try simp only
    refine ex_seq (ex_seq (ex_seq (ex_region ?_)))
    refine ro_bin (by simp only [evalF, upd, arg0, argS, ofConst, ofCell, Nat.reduceEqDiff, reduceIte] <;> rfl) (by simp only [evalF, upd, arg0, argS, ofConst, ofCell, Nat.reduceEqDiff, reduceIte] <;> rfl) (by exact (eql_f (by omega))) (by decide) ?_
    refine ro_assign (by simp only [evalF, upd, arg0, argS, ofConst, ofCell, Nat.reduceEqDiff, reduceIte] <;> rfl) (by decide) ?_
    refine ro_nil ?_
    try simp only
    refine ex_cond (t := false) (by simp only [evalF, upd, arg0, argS, ofConst, ofCell, Nat.reduceEqDiff, reduceIte] <;> rfl) (fun h => by simp at h) (fun _ => ?_)
    refine ex_region ?_
    refine ro_bin (by simp only [evalF, upd, arg0, argS, ofConst, ofCell, Nat.reduceEqDiff, reduceIte] <;> rfl) (by simp only [evalF, upd, arg0, argS, ofConst, ofCell, Nat.reduceEqDiff, reduceIte] <;> rfl) (by exact (eql_f (by omega))) (by decide) ?_
    refine ro_assign (by simp only [evalF, upd, arg0, argS, ofConst, ofCell, Nat.reduceEqDiff, reduceIte] <;> rfl) (by decide) ?_
    refine ro_nil ?_
    try simp only
    refine ex_cond (t := false) (by simp only [evalF, upd, arg0, argS, ofConst, ofCell, Nat.reduceEqDiff, reduceIte] <;> rfl) (fun h => by simp at h) (fun _ => ex_skip ?_)
    try simp only
    refine ex_seq (ex_seq (ex_region ?_))
    refine ro_bin (by simp only [evalF, upd, arg0, argS, ofConst, ofCell, Nat.reduceEqDiff, reduceIte] <;> rfl) (by simp only [evalF, upd, arg0, argS, ofConst, ofCell, Nat.reduceEqDiff, reduceIte] <;> rfl) (by exact (eql_f (by omega))) (by decide) ?_
    refine ro_assign (by simp only [evalF, upd, arg0, argS, ofConst, ofCell, Nat.reduceEqDiff, reduceIte] <;> rfl) (by decide) ?_
    refine ro_nil ?_
    try simp only
    refine ex_cond (t := false) (by simp only [evalF, upd, arg0, argS, ofConst, ofCell, Nat.reduceEqDiff, reduceIte] <;> rfl) (fun h => by simp at h) (fun _ => ex_skip ?_)
    try simp only
    refine ex_seq (ex_seq (ex_region ?_))
    refine ro_bin (by simp only [evalF, upd, arg0, argS, ofConst, ofCell, Nat.reduceEqDiff, reduceIte] <;> rfl) (by simp only [evalF, upd, arg0, argS, ofConst, ofCell, Nat.reduceEqDiff, reduceIte] <;> rfl) (by exact (eql_f (by omega))) (by decide) ?_
    refine ro_assign (by simp only [evalF, upd, arg0, argS, ofConst, ofCell, Nat.reduceEqDiff, reduceIte] <;> rfl) (by decide) ?_
    refine ro_nil ?_
    try simp only
    refine ex_cond (t := false) (by simp only [evalF, upd, arg0, argS, ofConst, ofCell, Nat.reduceEqDiff, reduceIte] <;> rfl) (fun h => by simp at h) (fun _ => ex_skip ?_)
    try simp only
    refine ex_seq (ex_seq (ex_region ?_))
    refine ro_bin (by simp only [evalF, upd, arg0, argS, ofConst, ofCell, Nat.reduceEqDiff, reduceIte] <;> rfl) (by simp only [evalF, upd, arg0, argS, ofConst, ofCell, Nat.reduceEqDiff, reduceIte] <;> rfl) (by exact (eql_f (by omega))) (by decide) ?_
    refine ro_assign (by simp only [evalF, upd, arg0, argS, ofConst, ofCell, Nat.reduceEqDiff, reduceIte] <;> rfl) (by decide) ?_
    refine ro_nil ?_
    try simp only
    refine ex_cond (t := false) (by simp only [evalF, upd, arg0, argS, ofConst, ofCell, Nat.reduceEqDiff, reduceIte] <;> rfl) (fun h => by simp at h) (fun _ => ex_skip ?_)
    try simp only
    refine ex_seq (ex_seq (ex_region ?_))
    refine ro_bin (by simp only [evalF, upd, arg0, argS, ofConst, ofCell, Nat.reduceEqDiff, reduceIte] <;> rfl) (by simp only [evalF, upd, arg0, argS, ofConst, ofCell, Nat.reduceEqDiff, reduceIte] <;> rfl) (by exact (eql_f (by omega))) (by decide) ?_
    refine ro_assign (by simp only [evalF, upd, arg0, argS, ofConst, ofCell, Nat.reduceEqDiff, reduceIte] <;> rfl) (by decide) ?_
    refine ro_nil ?_
    try simp only
    refine ex_cond (t := false) (by simp only [evalF, upd, arg0, argS, ofConst, ofCell, Nat.reduceEqDiff, reduceIte] <;> rfl) (fun h => by simp at h) (fun _ => ex_skip ?_)
    try simp only
    refine ex_seq (ex_seq (ex_region ?_))
    refine ro_bin (by simp only [evalF, upd, arg0, argS, ofConst, ofCell, Nat.reduceEqDiff, reduceIte] <;> rfl) (by simp only [evalF, upd, arg0, argS, ofConst, ofCell, Nat.reduceEqDiff, reduceIte] <;> rfl) (by exact (eql_f (by omega))) (by decide) ?_
    refine ro_assign (by simp only [evalF, upd, arg0, argS, ofConst, ofCell, Nat.reduceEqDiff, reduceIte] <;> rfl) (by decide) ?_
    refine ro_nil ?_
    try simp only
    refine ex_cond (t := false) (by simp only [evalF, upd, arg0, argS, ofConst, ofCell, Nat.reduceEqDiff, reduceIte] <;> rfl) (fun h => by simp at h) (fun _ => ex_skip ?_)
    try simp only
    refine ex_seq (ex_region ?_)
    refine ro_bin (by simp only [evalF, upd, arg0, argS, ofConst, ofCell, Nat.reduceEqDiff, reduceIte] <;> rfl) (by simp only [evalF, upd, arg0, argS, ofConst, ofCell, Nat.reduceEqDiff, reduceIte] <;> rfl) (by exact (eql_f (by omega))) (by decide) ?_
    refine ro_assign (by simp only [evalF, upd, arg0, argS, ofConst, ofCell, Nat.reduceEqDiff, reduceIte] <;> rfl) (by decide) ?_
    refine ro_nil ?_
    try simp only
    refine ex_cond (t := false) (by simp only [evalF, upd, arg0, argS, ofConst, ofCell, Nat.reduceEqDiff, reduceIte] <;> rfl) (fun h => by simp at h) (fun _ => ex_skip ?_)
    try simp only
  rintro x g2 hp2 nb2 rfl
  try simp only
  refine ex_seq (ex_region ?_)
  refine ro_assign (by simp only [evalF, upd, arg0, argS, ofConst, ofCell, Nat.reduceEqDiff, reduceIte] <;> rfl) (by decide) ?_
  refine ro_assign (by simp only [evalF, upd, arg0, argS, ofConst, ofCell, Nat.reduceEqDiff, reduceIte] <;> rfl) (by decide) ?_
  refine ro_nil ?_
  try simp only
  refine ex_ret ?_
  exact ⟨_, rfl, by simp [upd]⟩
theorem row_1 (lim d : Nat) (hp : Hp) : pureOf (callA Try.prog facts plains lim (d + 1)) hp 19 [.pv (.int .i64 1)] = some (rowV 1) := by kernel_rfl
theorem row_2 (lim d : Nat) (hp : Hp) : pureOf (callA Try.prog facts plains lim (d + 1)) hp 19 [.pv (.int .i64 2)] = some (rowV 2) := by kernel_rfl
theorem row_3 (lim d : Nat) (hp : Hp) : pureOf (callA Try.prog facts plains lim (d + 1)) hp 19 [.pv (.int .i64 3)] = some (rowV 3) := by kernel_rfl
theorem row_4 (lim d : Nat) (hp : Hp) : pureOf (callA Try.prog facts plains lim (d + 1)) hp 19 [.pv (.int .i64 4)] = some (rowV 4) := by kernel_rfl
theorem row_5 (lim d : Nat) (hp : Hp) : pureOf (callA Try.prog facts plains lim (d + 1)) hp 19 [.pv (.int .i64 5)] = some (rowV 5) := by kernel_rfl
theorem row_6 (lim d : Nat) (hp : Hp) : pureOf (callA Try.prog facts plains lim (d + 1)) hp 19 [.pv (.int .i64 6)] = some (rowV 6) := by kernel_rfl
theorem row_7 (lim d : Nat) (hp : Hp) : pureOf (callA Try.prog facts plains lim (d + 1)) hp 19 [.pv (.int .i64 7)] = some (rowV 7) := by kernel_rfl
theorem row_8 (lim d : Nat) (hp : Hp) : pureOf (callA Try.prog facts plains lim (d + 1)) hp 19 [.pv (.int .i64 8)] = some (rowV 8) := by kernel_rfl
theorem row_9 (lim d : Nat) (hp : Hp) : pureOf (callA Try.prog facts plains lim (d + 1)) hp 19 [.pv (.int .i64 9)] = some (rowV 9) := by kernel_rfl
theorem row_10 (lim d : Nat) (hp : Hp) : pureOf (callA Try.prog facts plains lim (d + 1)) hp 19 [.pv (.int .i64 10)] = some (rowV 10) := by kernel_rfl
theorem row_11 (lim d : Nat) (hp : Hp) : pureOf (callA Try.prog facts plains lim (d + 1)) hp 19 [.pv (.int .i64 11)] = some (rowV 11) := by kernel_rfl
theorem row_12 (lim d : Nat) (hp : Hp) : pureOf (callA Try.prog facts plains lim (d + 1)) hp 19 [.pv (.int .i64 12)] = some (rowV 12) := by kernel_rfl
theorem row_calls (lim d : Nat) (k : Int) (hp : Hp) : pureOf (callA Try.prog facts plains lim (d + 1)) hp 19 [.pv (.int .i64 k)] = some (rowV k) := by
  by_cases hk : 1 ≤ k ∧ k ≤ 12
  · have : k = 1 ∨ k = 2 ∨ k = 3 ∨ k = 4 ∨ k = 5 ∨ k = 6 ∨ k = 7 ∨ k = 8 ∨ k = 9 ∨ k = 10 ∨ k = 11 ∨ k = 12 := by omega
    rcases this with h | h | h | h | h | h | h | h | h | h | h | h <;> rw [h]
    · exact row_1 lim d hp
    · exact row_2 lim d hp
    · exact row_3 lim d hp
    · exact row_4 lim d hp
    · exact row_5 lim d hp
    · exact row_6 lim d hp
    · exact row_7 lim d hp
    · exact row_8 lim d hp
    · exact row_9 lim d hp
    · exact row_10 lim d hp
    · exact row_11 lim d hp
    · exact row_12 lim d hp
  · rw [row_none lim d k hk hp]
    unfold rowV rowOf
    rw [if_neg (by omega), if_neg (by omega), if_neg (by omega), if_neg (by omega), if_neg (by omega), if_neg (by omega), if_neg (by omega), if_neg (by omega), if_neg (by omega), if_neg (by omega), if_neg (by omega), if_neg (by omega)]
/-- A list is written. -/
def listE (l : List Int) : Except Int (List Int) :=
  if l.length > 10 then .error 4 else if l.all isNode then .ok (u8 l.length :: l.map u8) else .error 1
theorem lists_calls (lim d : Nat) {hp : Hp} {nb : Nat} {b L : AV} {bs l : List Int} (hg : Grow hp nb b (u8s bs)) (hbs : bs.length < 100000) (hL : Row hp nb L (ints l)) (hne : ∀ id, ownOf L = some id → ownOf b ≠ some id) (hlim : 10 < lim) :
    CA (callA Try.prog facts plains lim (d + 2)) 40 [b, L] hp nb (WrOk b bs (listE l) hp nb) := by
  refine ca_body (fn := Try.f40) (c := bodyOf Try.f40) Try.func40 rfl (by show 2 ≤ 33; omega) ?_
  show EX _ _ _ _ _ 33 _ _ _ _ _
  unfold bodyOf Try.f40
  refine ex_seq (ex_region ?_)
  refine ro_assign (by simp only [evalF, upd, arg0, argS, ofConst, ofCell, Nat.reduceEqDiff, reduceIte] <;> rfl) (by decide) ?_
  refine ro_assign (by simp only [evalF, upd, arg0, argS, ofConst, ofCell, Nat.reduceEqDiff, reduceIte] <;> rfl) (by decide) ?_
  refine ro_nil ?_
  try simp only
  refine ex_seq (ex_seq (ex_region ?_))
  refine ro_move (by simp only [evalF, upd, arg0, argS, ofConst, ofCell, Nat.reduceEqDiff, reduceIte] <;> rfl) (by decide) ?_
  refine ro_builtin rfl (by simp only [List.map_cons, List.map_nil, evalF, upd, arg0, argS, ofConst, ofCell, Nat.reduceEqDiff, reduceIte] <;> rfl) (by exact (row_len st24 hL)) (by decide) ?_
  refine ro_bin (by simp only [evalF, upd, arg0, argS, ofConst, ofCell, Nat.reduceEqDiff, reduceIte] <;> rfl) (by simp only [evalF, upd, arg0, argS, ofConst, ofCell, Nat.reduceEqDiff, reduceIte] <;> rfl) (by exact (gtr_v)) (by decide) ?_
  refine ro_nil ?_
  try simp only
  refine ex_cond (t := decide (((ints l).length : Int) > 10)) (by simp only [evalF, upd, arg0, argS, ofConst, ofCell, Nat.reduceEqDiff, reduceIte] <;> rfl) (fun ht => ?_) (fun ht => ?_)
  · refine ex_seq (ex_region ?_)
    refine ro_assign (by simp only [evalF, upd, arg0, argS, ofConst, ofCell, Nat.reduceEqDiff, reduceIte] <;> rfl) (by decide) ?_
    refine ro_assign (by simp only [evalF, upd, arg0, argS, ofConst, ofCell, Nat.reduceEqDiff, reduceIte] <;> rfl) (by decide) ?_
    refine ro_nil ?_
    try simp only
    refine ex_ret ?_
    have hl : l.length > 10 := by
      have := of_decide_eq_true ht
      simp [ints] at this; omega
    refine ⟨.tuple [.pv .nilSlice, .pv (.int .i64 4)], rfl, after_refl _ _ _, ?_⟩
    rw [listE, if_pos hl]
  refine ex_skip ?_
  try simp only
  have hl : ¬ l.length > 10 := by
    have := of_decide_eq_false ht
    simp [ints] at this; omega
  refine ex_seq (ex_region ?_)
  refine ro_move (by simp only [evalF, upd, arg0, argS, ofConst, ofCell, Nat.reduceEqDiff, reduceIte] <;> rfl) (by decide) ?_
  refine ro_move (by simp only [evalF, upd, arg0, argS, ofConst, ofCell, Nat.reduceEqDiff, reduceIte] <;> rfl) (by decide) ?_
  refine ro_builtin rfl (by simp only [List.map_cons, List.map_nil, evalF, upd, arg0, argS, ofConst, ofCell, Nat.reduceEqDiff, reduceIte] <;> rfl) (by exact (row_len st24 hL)) (by decide) ?_
  refine ro_conv (by simp only [evalF, upd, arg0, argS, ofConst, ofCell, Nat.reduceEqDiff, reduceIte] <;> rfl) (by exact (conv_u8 _ _)) (by decide) ?_
  refine ro_buildSlice rfl (by simp only [List.map_cons, List.map_nil, evalF, upd, Nat.reduceEqDiff, reduceIte]; exact bs27_1 _ _) (by decide) ?_
  refine ro_append (r := [.int .u8 (u8 l.length)]) st27 Try.underlying27 (by simp only [evalF, upd, arg0, argS, ofConst, ofCell, Nat.reduceEqDiff, reduceIte] <;> rfl) (by simp only [evalF, upd, arg0, argS, ofConst, ofCell, Nat.reduceEqDiff, reduceIte] <;> rfl) (hg.keep (Nat.le_succ _) (fun id hid _ => by simp [setHp, show id ≠ nb by omega])) (src_built rfl (by simp [setHp, ints])) (by simp [u8s]; omega) (by decide) ?_
  intro b1 hp1 nb1 hg1 ha1 ho1
  have ha1' := after_trans (after_new hp nb b [.pv (.int .u8 (u8 (ints l).length))] (by intro c hc; simp at hc; subst hc; exact okC_pv _ _)) ha1 (fun id h => .inl h)
  have ho1' : ∀ id, ownOf b1 = some id → ownOf b = some id ∨ nb ≤ id := fun id h => (ho1 id h).imp (fun h => h) (fun h => by omega)
  refine ro_assign (by simp only [evalF, upd, arg0, argS, ofConst, ofCell, Nat.reduceEqDiff, reduceIte] <;> rfl) (by decide) ?_
  refine ro_nil ?_
  try simp only
  have hL1 : Row hp1 nb1 L (ints l) := hL.keep ha1'.1 (fun id hid ho => ha1'.2.1 id hid (hne id ho))
  clear ha1 ho1
  refine ex_seq ?_
  refine ex_seq (ex_region ?_)
  refine ro_move (by simp only [evalF, upd, arg0, argS, ofConst, ofCell, Nat.reduceEqDiff, reduceIte] <;> rfl) (by decide) ?_
  refine ro_builtin rfl (by simp only [List.map_cons, List.map_nil, evalF, upd, arg0, argS, ofConst, ofCell, Nat.reduceEqDiff, reduceIte] <;> rfl) (by exact (row_len st24 hL1)) (by decide) ?_
  refine ro_move (by simp only [evalF, upd, arg0, argS, ofConst, ofCell, Nat.reduceEqDiff, reduceIte] <;> rfl) (by decide) ?_
  refine ro_nil ?_
  try simp only
  refine ex_block (ex_loop (I := fun k g hpx nbx => ∃ (i : Nat) (v : AV), k = l.length - i ∧ i ≤ l.length ∧ (∀ (j : Nat) (q : Int), j < i → l[j]? = some q → isNode q = true) ∧ g 0 = v ∧ g 17 = L ∧ g 18 = .pv (.int .i64 l.length) ∧ g 19 = .pv (.int .i64 i) ∧
    Grow hpx nbx v (u8s (bs ++ (u8 l.length :: (l.take i).map u8))) ∧ (∀ id, ownOf v = some id → ownOf b = some id ∨ nb ≤ id) ∧ (∀ id, ownOf L = some id → ownOf v ≠ some id) ∧ After hp nb b hpx nbx ∧ Row hpx nbx L (ints l))
    (m := l.length) ⟨0, b1, rfl, Nat.zero_le _, fun j q h => by omega, by simp [upd], by simp [upd, argsF], by simp [upd, ints], by simp [upd], ?_, ho1', ?_, ha1', hL1⟩ (by omega) ?_)
  · have e : u8s (bs ++ (u8 l.length :: (l.take 0).map u8)) = u8s bs ++ [.int .u8 (u8 l.length)] := by simp [u8s]
    rw [e]; exact hg1
  · intro id ho h
    rcases ho1' id h with h | h
    · exact hne id ho h
    · have := row_own hL ho; omega
  rintro k g hpx nbx ⟨i, v, hk, hi, hno, h0, h17, h18, h19, hg, hov, hoL, haf, hLx⟩
  refine ex_seq (ex_region ?_)
  refine ro_bin (by simp only [evalF, upd, arg0, argS, ofConst, ofCell, Nat.reduceEqDiff, reduceIte, h0, h17, h18, h19] <;> rfl) (by simp only [evalF, upd, arg0, argS, ofConst, ofCell, Nat.reduceEqDiff, reduceIte, h0, h17, h18, h19] <;> rfl) (by exact (lss_v)) (by decide) ?_
  refine ro_nil ?_
  try simp only
  refine ex_seq (ex_cond (t := decide ((i : Int) < l.length)) (by simp only [evalF, upd, arg0, argS, ofConst, ofCell, Nat.reduceEqDiff, reduceIte, h0, h17, h18, h19] <;> rfl) (fun ht => ?_) (fun ht => ?_))
  rotate_left
  · have hie : i = l.length := by
      have := of_decide_eq_false ht
      omega
    refine ex_exit ?_
    simp only [if_true]
    refine ex_seq (ex_region ?_)
    refine ro_move (by simp only [evalF, upd, arg0, argS, ofConst, ofCell, Nat.reduceEqDiff, reduceIte, h0, h17, h18, h19] <;> rfl) (by decide) ?_
    refine ro_assign (by simp only [evalF, upd, arg0, argS, ofConst, ofCell, Nat.reduceEqDiff, reduceIte, h0, h17, h18, h19] <;> rfl) (by decide) ?_
    refine ro_assign (by simp only [evalF, upd, arg0, argS, ofConst, ofCell, Nat.reduceEqDiff, reduceIte, h0, h17, h18, h19] <;> rfl) (by decide) ?_
    refine ro_nil ?_
    try simp only
    refine ex_ret ?_
    have hall : l.all isNode = true := by
      rw [List.all_eq_true]
      intro q hq
      obtain ⟨j, hj⟩ := List.mem_iff_getElem?.1 hq
      exact hno j q (by have := (List.getElem?_eq_some_iff.1 hj).1; omega) hj
    refine ⟨.tuple [v, .pv (.int .i64 0)], by simp [resF, resOneF, upd, h0], haf, ?_⟩
    rw [listE, if_neg hl, if_pos hall]
    refine ⟨v, rfl, ?_, hov⟩
    rw [List.take_of_length_le (by omega)] at hg
    exact hg
  refine ex_skip ?_
  try simp only
  have hil : i < l.length := by
    have := of_decide_eq_true ht
    omega
  have hgi : (ints l)[i]? = some (.int .i64 l[i]) := by
    unfold ints
    rw [List.getElem?_map, List.getElem?_eq_getElem hil]
    rfl
  obtain ⟨a, ha, hla⟩ := row_at st24 hLx hgi
  refine ex_seq (ex_block ?_)
  refine ex_seq (ex_region ?_)
  refine ro_indexAddr (by simp only [evalF, upd, arg0, argS, ofConst, ofCell, Nat.reduceEqDiff, reduceIte, h0, h17, h18, h19] <;> rfl) (by simp only [evalF, upd, arg0, argS, ofConst, ofCell, Nat.reduceEqDiff, reduceIte, h0, h17, h18, h19] <;> rfl) (by exact (ha)) (by decide) ?_
  refine ro_load (by simp only [evalF, upd, arg0, argS, ofConst, ofCell, Nat.reduceEqDiff, reduceIte, h0, h17, h18, h19] <;> rfl) (by exact (hla)) (by decide) ?_
  refine ro_assign (by simp only [evalF, upd, arg0, argS, ofConst, ofCell, Nat.reduceEqDiff, reduceIte, h0, h17, h18, h19] <;> rfl) (by decide) ?_
  refine ro_nil ?_
  try simp only
  refine ex_seq (ex_seq (ex_region ?_))
  refine ro_move (by simp only [evalF, upd, arg0, argS, ofConst, ofCell, Nat.reduceEqDiff, reduceIte, h0, h17, h18, h19] <;> rfl) (by decide) ?_
  refine ro_pure (f := 39) («as» := [.pv (.int .i64 l[i])]) rfl (by simp [evalF, upd]) rfl (show orS facts _ _ 39 _ = _ from by unfold orS facts; exact node_calls facts plains lim d l[i] _) (by decide) ?_
  refine ro_un (by simp only [evalF, upd, arg0, argS, ofConst, ofCell, Nat.reduceEqDiff, reduceIte, h0, h17, h18, h19] <;> rfl) (by exact (show unOpA .not (.pv (.bool (isNode l[i]))) = some (.pv (.bool (!isNode l[i]))) from rfl)) (by decide) ?_
  refine ro_nil ?_
  try simp only
  refine ex_cond (t := !isNode l[i]) (by simp only [evalF, upd, arg0, argS, ofConst, ofCell, Nat.reduceEqDiff, reduceIte, h0, h17, h18, h19] <;> rfl) (fun hnd => ?_) (fun hnd => ?_)
  · refine ex_seq (ex_region ?_)
    refine ro_assign (by simp only [evalF, upd, arg0, argS, ofConst, ofCell, Nat.reduceEqDiff, reduceIte, h0, h17, h18, h19] <;> rfl) (by decide) ?_
    refine ro_assign (by simp only [evalF, upd, arg0, argS, ofConst, ofCell, Nat.reduceEqDiff, reduceIte, h0, h17, h18, h19] <;> rfl) (by decide) ?_
    refine ro_nil ?_
    try simp only
    refine ex_ret ?_
    refine ⟨.tuple [.pv .nilSlice, .pv (.int .i64 1)], rfl, haf, ?_⟩
    have hall : ¬ l.all isNode = true := by
      intro h
      rw [List.all_eq_true] at h
      have := h l[i] (List.getElem_mem hil)
      rw [this] at hnd
      simp at hnd
    rw [listE, if_neg hl, if_neg hall]
  refine ex_skip ?_
  try simp only
  have hnode : isNode l[i] = true := by simpa using hnd
  refine ex_region ?_
  refine ro_move (by simp only [evalF, upd, arg0, argS, ofConst, ofCell, Nat.reduceEqDiff, reduceIte, h0, h17, h18, h19] <;> rfl) (by decide) ?_
  refine ro_move (by simp only [evalF, upd, arg0, argS, ofConst, ofCell, Nat.reduceEqDiff, reduceIte, h0, h17, h18, h19] <;> rfl) (by decide) ?_
  refine ro_conv (by simp only [evalF, upd, arg0, argS, ofConst, ofCell, Nat.reduceEqDiff, reduceIte, h0, h17, h18, h19] <;> rfl) (by exact (conv_u8 _ _)) (by decide) ?_
  refine ro_buildSlice rfl (by simp only [List.map_cons, List.map_nil, evalF, upd, Nat.reduceEqDiff, reduceIte]; exact bs27_1 _ _) (by decide) ?_
  refine ro_append (r := [.int .u8 (u8 l[i])]) st27 Try.underlying27 (by simp only [evalF, upd, arg0, argS, ofConst, ofCell, Nat.reduceEqDiff, reduceIte, h0, h17, h18, h19] <;> rfl) (by simp only [evalF, upd, arg0, argS, ofConst, ofCell, Nat.reduceEqDiff, reduceIte, h0, h17, h18, h19] <;> rfl) (hg.keep (Nat.le_succ _) (fun id hid _ => by simp [setHp, show id ≠ nbx by omega])) (src_built rfl (by simp [setHp])) (by simp [u8s]; omega) (by decide) ?_
  intro v' hp' nb' hg' ha' ho'
  have hax := after_trans (after_new hpx nbx v [.pv (.int .u8 (u8 l[i]))] (by intro c hc; simp at hc; subst hc; exact okC_pv _ _)) ha' (fun id h => .inl h)
  refine ro_assign (by simp only [evalF, upd, arg0, argS, ofConst, ofCell, Nat.reduceEqDiff, reduceIte, h0, h17, h18, h19] <;> rfl) (by decide) ?_
  refine ro_nil ?_
  try simp only
  refine ex_region ?_
  refine ro_bin (by simp only [evalF, upd, arg0, argS, ofConst, ofCell, Nat.reduceEqDiff, reduceIte, h0, h17, h18, h19] <;> rfl) (by simp only [evalF, upd, arg0, argS, ofConst, ofCell, Nat.reduceEqDiff, reduceIte, h0, h17, h18, h19] <;> rfl) (by exact (add_v (by omega))) (by decide) ?_
  refine ro_move (by simp only [evalF, upd, arg0, argS, ofConst, ofCell, Nat.reduceEqDiff, reduceIte, h0, h17, h18, h19] <;> rfl) (by decide) ?_
  refine ro_nil ?_
  refine ⟨l.length - (i + 1), by omega, i + 1, v', rfl, by omega, ?_, by simp [upd], by simp [upd, h17], by simp [upd, h18], by simp [upd], ?_, ?_, ?_, after_trans haf hax hov, hLx.keep hax.1 (fun id hid ho => hax.2.1 id hid (hoL id ho))⟩
  · intro j q hj hq
    rcases Nat.lt_or_ge j i with h | h
    · exact hno j q h hq
    · have : j = i := by omega
      subst this
      rw [List.getElem?_eq_getElem hil] at hq
      cases hq
      exact hnode
  · have e0 : l.take (i + 1) = l.take i ++ [l[i]] := by
      rw [List.take_add_one, List.getElem?_eq_getElem hil]
      rfl
    have e : u8s (bs ++ (u8 l.length :: (l.take (i + 1)).map u8)) = u8s (bs ++ (u8 l.length :: (l.take i).map u8)) ++ [.int .u8 (u8 l[i])] := by
      rw [e0]
      unfold u8s
      simp only [List.map_append, List.map_cons, List.map_nil, List.append_assoc, List.cons_append]
    rw [e]; exact hg'
  · intro id h
    rcases ho' id h with h | h
    · exact hov id h
    · have := haf.1; exact .inr (by omega)
  · intro id ho h
    rcases ho' id h with h | h
    · exact hoL id ho h
    · have := row_own hLx ho; omega
end Go.Proofs.Ytlinbbjobjnipaa

set_option linter.unusedVariables false
set_option linter.unusedSimpArgs false
set_option linter.unusedSectionVars false
namespace Go.Proofs.Ytlinbbjobjnipaa
open Go AI
set_option maxHeartbeats 4000000
set_option maxRecDepth 10000
theorem row_ok' {hp : Hp} {nb : Nat} {v : AV} {l : List PV} (r : Row hp nb v l) : okC nb v := by
  cases r with
  | own id ver off n mc xc cs l h hi => exact okC_slice hi
  | _ => exact okC_pv _ _
theorem ok_cells {nb : Nat} {m : M} {L D : AV} (hL : okC nb L) (hD : okC nb D) : ∀ c ∈ mcells m L D, okC nb c := by
  intro c hc
  simp only [mcells, List.mem_append, List.mem_cons, List.not_mem_nil, or_false, List.mem_map] at hc
  rcases hc with (rfl | rfl | rfl | rfl | rfl) | (⟨q, _, rfl⟩ | rfl | rfl | rfl) <;> first | exact okC_pv _ _ | assumption
theorem pvs_ok {nb : Nat} (l : List PV) : ∀ c ∈ l.map AV.pv, okC nb c := by
  intro c hc
  obtain ⟨q, _, rfl⟩ := List.mem_map.1 hc
  exact okC_pv _ _
theorem slice26 (id ver off : Nat) : sliceOpA Try.prog 26 (.ptr id ver off) none none none = some (.slice id ver (off + 0) 32 32 1 true) := by kernel_rfl
theorem grow_plain {hp : Hp} {nb : Nat} {v : AV} {l : List PV} (g : Grow hp nb v l) (h : l ≠ []) : plainV v = false := by
  cases g with
  | nil => exact absurd rfl h
  | own => rfl
theorem dataNeeds : needs (regOf Try.f20 25) = [(5, 7), (5, 8), (2, 9), (3, 9), (5, 9), (5, 13), (9, 13), (10, 13), (11, 13)] := by kernel_rfl
theorem dataStat : statOk (regOf Try.f20 25) = true := by kernel_rfl
theorem fieldE_7 (m : M) : fieldE m 7 = if m.lease < 1 ∨ m.lease > 1000 then .error 1 else .ok [u8 (m.lease / 16777216), u8 (m.lease / 65536), u8 (m.lease / 256), u8 m.lease] := rfl
/-- Bytes were built, then appended. -/
theorem wr_ok {hp hp1 hp2 : Hp} {nb nb1 nb2 : Nat} {b b' : AV} {bs x : List Int} {v : AV} (a1 : After hp nb b hp1 nb1) (a2 : After hp1 nb1 b hp2 nb2) (hg : Grow hp2 nb2 b' (u8s bs ++ u8s x)) (ho : ∀ id, ownOf b' = some id → ownOf b = some id ∨ nb1 ≤ id) (hv : v = .tuple [b', .pv (.int .i64 0)]) {r : Except Int (List Int)} (hr : r = .ok x) :
    WrOk b bs r hp nb v hp2 nb2 := by
  subst hr
  refine ⟨after_trans a1 a2 (fun id h => .inl h), b', hv, by rw [show u8s (bs ++ x) = u8s bs ++ u8s x by simp [u8s]]; exact hg, fun id h => ?_⟩
  rcases ho id h with h | h
  · exact .inl h
  · have := a1.1; exact .inr (by omega)
theorem field_0 (lim d : Nat) {hp : Hp} {nb : Nat} {b : AV} {bs : List Int} {m : M} {L D : AV} (hf : Fit m) (hg : Grow hp nb b (u8s bs)) (hbs : bs.length < 100000) (hL : Row hp nb L (ints m.list)) (hD : Row hp nb D (u8s m.data)) (hneL : ∀ id, ownOf L = some id → ownOf b ≠ some id) (hneD : ∀ id, ownOf D = some id → ownOf b ≠ some id) (hbn : bs ≠ []) (hlim : 10 < lim) :
    CA (callA Try.prog facts plains lim (d + 3)) 20 [b, .agg (mcells m L D), .pv (.int .i64 0)] hp nb (WrOk b bs (fieldE m 0) hp nb) := by
  have hk := hf.key
  refine ca_body (fn := Try.f20) (c := bodyOf Try.f20) Try.func20 rfl (by show 3 ≤ 125; omega) ?_
  show EX _ _ _ _ _ 125 _ _ _ _ _
  unfold bodyOf Try.f20
  refine ex_seq (ex_region ?_)
  refine ro_box (v := .agg (mcells m L D)) (by simp [evalF, argsF]) (mc_all (row_cell hL).1 (row_cell hD).1) (by decide) ?_
  refine ro_assign (by simp only [evalF, upd, arg0, argS, ofConst, ofCell, Nat.reduceEqDiff, reduceIte] <;> rfl) (by decide) ?_
  refine ro_assign (by simp only [evalF, upd, arg0, argS, ofConst, ofCell, Nat.reduceEqDiff, reduceIte] <;> rfl) (by decide) ?_
  refine ro_nil ?_
  try simp only
  have ha0 : After hp nb b (setHp hp nb (.cells 1 (mcells m L D))) (nb + 1) := after_new hp nb b _ (ok_cells (row_ok' hL) (row_ok' hD))
  have hl1 : AI.look (setHp hp nb (.cells 1 (mcells m L D))) nb 1 = some (mcells m L D) := look_same _ _ _ _
  have hkp : ∀ id, id < nb → setHp hp nb (.cells 1 (mcells m L D)) id = hp id := fun id hid => by simp [setHp, show id ≠ nb by omega]
  show EX _ _ _ _ _ 125 _ _ (setHp hp nb (.cells 1 (mcells m L D))) _ _
  generalize setHp hp nb (.cells 1 (mcells m L D)) = hp1 at ha0 hl1 hkp ⊢
  have hg1 : Grow hp1 (nb + 1) b (u8s bs) := hg.keep (Nat.le_succ _) (fun id hid _ => hkp id hid)
  have hL1 : Row hp1 (nb + 1) L (ints m.list) := hL.keep (Nat.le_succ _) (fun id hid _ => hkp id hid)
  have hD1 : Row hp1 (nb + 1) D (u8s m.data) := hD.keep (Nat.le_succ _) (fun id hid _ => hkp id hid)
  refine ex_seq ?_
  refine ex_seq (ex_region ?_)
  refine ro_move (by simp only [evalF, upd, arg0, argS, ofConst, ofCell, Nat.reduceEqDiff, reduceIte] <;> rfl) (by decide) ?_
  refine ro_nil ?_
  try simp only
  refine ex_block ?_
  refine ex_test_t (by simp only [evalF, upd, arg0, argS, ofConst, ofCell, Nat.reduceEqDiff, reduceIte] <;> rfl) (by omega) (by decide) (by decide) ?_
  by_cases hpd : m.pred = -1
  · refine ex_seq (ex_seq (ex_region ?_))
    refine ro_fieldAddr (by simp only [evalF, upd, arg0, argS, ofConst, ofCell, Nat.reduceEqDiff, reduceIte] <;> rfl) (by exact (fa30_2 _ _ _)) (by decide) ?_
    refine ro_load (by simp only [evalF, upd, arg0, argS, ofConst, ofCell, Nat.reduceEqDiff, reduceIte] <;> rfl) (by exact (load1 ag3 hl1 (by simpa using mc2))) (by decide) ?_
    refine ro_bin (by simp only [evalF, upd, arg0, argS, ofConst, ofCell, Nat.reduceEqDiff, reduceIte] <;> rfl) (by simp only [evalF, upd, arg0, argS, ofConst, ofCell, Nat.reduceEqDiff, reduceIte] <;> rfl) (by exact (neq_f hpd)) (by decide) ?_
    refine ro_move (by simp only [evalF, upd, arg0, argS, ofConst, ofCell, Nat.reduceEqDiff, reduceIte] <;> rfl) (by decide) ?_
    refine ro_skip rfl (by simp only [evalF, upd, arg0, argS, ofConst, ofCell, Nat.reduceEqDiff, reduceIte] <;> rfl) rfl (fun e he => by cases he; decide) ?_
    simp only [putF]
    refine ro_skip rfl (by simp only [evalF, upd, arg0, argS, ofConst, ofCell, Nat.reduceEqDiff, reduceIte] <;> rfl) rfl (fun e he => by cases he; decide) ?_
    simp only [putF]
    refine ro_skip rfl (by simp only [evalF, upd, arg0, argS, ofConst, ofCell, Nat.reduceEqDiff, reduceIte] <;> rfl) rfl (fun e he => by cases he; decide) ?_
    simp only [putF]
    refine ro_skip rfl (by simp only [evalF, upd, arg0, argS, ofConst, ofCell, Nat.reduceEqDiff, reduceIte] <;> rfl) rfl (fun e he => by cases he; decide) ?_
    simp only [putF]
    refine ro_pick (by simp only [evalF, upd, arg0, argS, ofConst, ofCell, Nat.reduceEqDiff, reduceIte] <;> rfl) (by simp only [evalF, upd, arg0, argS, ofConst, ofCell, Nat.reduceEqDiff, reduceIte] <;> rfl) (by simp only [evalF, upd, arg0, argS, ofConst, ofCell, Nat.reduceEqDiff, reduceIte] <;> rfl) (by decide) ?_
    refine ro_nil ?_
    try simp only
    refine ex_cond (t := false) (by simp only [evalF, upd, arg0, argS, ofConst, ofCell, Nat.reduceEqDiff, reduceIte] <;> rfl) (fun h => by simp at h) (fun _ => ex_skip ?_)
    try simp only
    refine ex_seq (ex_region ?_)
    refine ro_move (by simp only [evalF, upd, arg0, argS, ofConst, ofCell, Nat.reduceEqDiff, reduceIte] <;> rfl) (by decide) ?_
    refine ro_fieldAddr (by simp only [evalF, upd, arg0, argS, ofConst, ofCell, Nat.reduceEqDiff, reduceIte] <;> rfl) (by exact (fa30_2 _ _ _)) (by decide) ?_
    refine ro_load (by simp only [evalF, upd, arg0, argS, ofConst, ofCell, Nat.reduceEqDiff, reduceIte] <;> rfl) (by exact (load1 ag3 hl1 (by simpa using mc2))) (by decide) ?_
    refine ro_conv (by simp only [evalF, upd, arg0, argS, ofConst, ofCell, Nat.reduceEqDiff, reduceIte] <;> rfl) (by exact (conv_u8 _ _)) (by decide) ?_
    refine ro_buildSlice rfl (by simp only [List.map_cons, List.map_nil, evalF, upd, ofConst, ofCell, Nat.reduceEqDiff, reduceIte]; exact bs27_1 _ _) (by decide) ?_
    refine ro_append (r := [.int .u8 (u8 m.pred)]) st27 Try.underlying27 (by simp only [evalF, upd, arg0, argS, ofConst, ofCell, Nat.reduceEqDiff, reduceIte] <;> rfl) (by simp only [evalF, upd, arg0, argS, ofConst, ofCell, Nat.reduceEqDiff, reduceIte] <;> rfl) (hg1.keep (Nat.le_succ _) (fun id hid _ => by simp [setHp, show id ≠ nb + 1 by omega])) (src_built rfl (by simp [setHp])) (by simp [u8s]; omega) (by decide) ?_
    intro b' hp' nb' hg' ha' ho'
    refine ro_assign (by simp only [evalF, upd, arg0, argS, ofConst, ofCell, Nat.reduceEqDiff, reduceIte] <;> rfl) (by decide) ?_
    refine ro_assign (by simp only [evalF, upd, arg0, argS, ofConst, ofCell, Nat.reduceEqDiff, reduceIte] <;> rfl) (by decide) ?_
    refine ro_nil ?_
    try simp only
    refine ex_ret ?_
    refine ⟨.tuple [b', .pv (.int .i64 0)], by simp [resF, resOneF, upd], wr_ok ha0 (after_trans (after_new hp1 (nb + 1) b [.pv (.int .u8 (u8 m.pred))] (pvs_ok [.int .u8 (u8 m.pred)])) ha' (fun id h => .inl h)) (x := [u8 m.pred]) (by simpa [u8s] using hg') (fun id h => (ho' id h).imp (fun h => h) (fun h => by omega)) rfl ?_⟩
    rw [fieldE, if_neg (fun h => h.1 hpd)]
  · refine ex_seq (ex_seq (ex_region ?_))
    refine ro_fieldAddr (by simp only [evalF, upd, arg0, argS, ofConst, ofCell, Nat.reduceEqDiff, reduceIte] <;> rfl) (by exact (fa30_2 _ _ _)) (by decide) ?_
    refine ro_load (by simp only [evalF, upd, arg0, argS, ofConst, ofCell, Nat.reduceEqDiff, reduceIte] <;> rfl) (by exact (load1 ag3 hl1 (by simpa using mc2))) (by decide) ?_
    refine ro_bin (by simp only [evalF, upd, arg0, argS, ofConst, ofCell, Nat.reduceEqDiff, reduceIte] <;> rfl) (by simp only [evalF, upd, arg0, argS, ofConst, ofCell, Nat.reduceEqDiff, reduceIte] <;> rfl) (by exact (neq_t hpd)) (by decide) ?_
    refine ro_move (by simp only [evalF, upd, arg0, argS, ofConst, ofCell, Nat.reduceEqDiff, reduceIte] <;> rfl) (by decide) ?_
    refine ro_guard rfl (by simp only [evalF, upd, arg0, argS, ofConst, ofCell, Nat.reduceEqDiff, reduceIte] <;> rfl) rfl ?_
    refine ro_fieldAddr (by simp only [evalF, upd, arg0, argS, ofConst, ofCell, Nat.reduceEqDiff, reduceIte] <;> rfl) (by exact (fa30_2 _ _ _)) (by decide) ?_
    refine ro_guard rfl (by simp only [evalF, upd, arg0, argS, ofConst, ofCell, Nat.reduceEqDiff, reduceIte] <;> rfl) rfl ?_
    refine ro_load (by simp only [evalF, upd, arg0, argS, ofConst, ofCell, Nat.reduceEqDiff, reduceIte] <;> rfl) (by exact (load1 ag3 hl1 (by simpa using mc2))) (by decide) ?_
    refine ro_guard rfl (by simp only [evalF, upd, arg0, argS, ofConst, ofCell, Nat.reduceEqDiff, reduceIte] <;> rfl) rfl ?_
    refine ro_pure (f := 39) («as» := [.pv (.int .i64 m.pred)]) rfl (by simp [evalF, upd]) rfl (show orS facts _ _ 39 _ = _ from by unfold orS facts; exact node_calls facts plains lim (d + 1) m.pred _) (by decide) ?_
    refine ro_guard rfl (by simp only [evalF, upd, arg0, argS, ofConst, ofCell, Nat.reduceEqDiff, reduceIte] <;> rfl) rfl ?_
    refine ro_un (by simp only [evalF, upd, arg0, argS, ofConst, ofCell, Nat.reduceEqDiff, reduceIte] <;> rfl) (by exact (show unOpA .not (.pv (.bool (isNode m.pred))) = some (.pv (.bool (!isNode m.pred))) from rfl)) (by decide) ?_
    refine ro_pick (by simp only [evalF, upd, arg0, argS, ofConst, ofCell, Nat.reduceEqDiff, reduceIte] <;> rfl) (by simp only [evalF, upd, arg0, argS, ofConst, ofCell, Nat.reduceEqDiff, reduceIte] <;> rfl) (by simp only [evalF, upd, arg0, argS, ofConst, ofCell, Nat.reduceEqDiff, reduceIte] <;> rfl) (by decide) ?_
    refine ro_nil ?_
    try simp only
    refine ex_cond (t := !isNode m.pred) (by simp only [evalF, upd, arg0, argS, ofConst, ofCell, Nat.reduceEqDiff, reduceIte] <;> rfl) (fun hn => ?_) (fun hn => ?_)
    · refine ex_seq (ex_region ?_)
      refine ro_assign (by simp only [evalF, upd, arg0, argS, ofConst, ofCell, Nat.reduceEqDiff, reduceIte] <;> rfl) (by decide) ?_
      refine ro_assign (by simp only [evalF, upd, arg0, argS, ofConst, ofCell, Nat.reduceEqDiff, reduceIte] <;> rfl) (by decide) ?_
      refine ro_nil ?_
      try simp only
      refine ex_ret ?_
      refine ⟨.tuple [.pv .nilSlice, .pv (.int .i64 1)], rfl, ha0, ?_⟩
      rw [fieldE, if_pos ⟨hpd, by simpa using hn⟩]
    · refine ex_skip ?_
      try simp only
      refine ex_seq (ex_region ?_)
      refine ro_move (by simp only [evalF, upd, arg0, argS, ofConst, ofCell, Nat.reduceEqDiff, reduceIte] <;> rfl) (by decide) ?_
      refine ro_fieldAddr (by simp only [evalF, upd, arg0, argS, ofConst, ofCell, Nat.reduceEqDiff, reduceIte] <;> rfl) (by exact (fa30_2 _ _ _)) (by decide) ?_
      refine ro_load (by simp only [evalF, upd, arg0, argS, ofConst, ofCell, Nat.reduceEqDiff, reduceIte] <;> rfl) (by exact (load1 ag3 hl1 (by simpa using mc2))) (by decide) ?_
      refine ro_conv (by simp only [evalF, upd, arg0, argS, ofConst, ofCell, Nat.reduceEqDiff, reduceIte] <;> rfl) (by exact (conv_u8 _ _)) (by decide) ?_
      refine ro_buildSlice rfl (by simp only [List.map_cons, List.map_nil, evalF, upd, ofConst, ofCell, Nat.reduceEqDiff, reduceIte]; exact bs27_1 _ _) (by decide) ?_
      refine ro_append (r := [.int .u8 (u8 m.pred)]) st27 Try.underlying27 (by simp only [evalF, upd, arg0, argS, ofConst, ofCell, Nat.reduceEqDiff, reduceIte] <;> rfl) (by simp only [evalF, upd, arg0, argS, ofConst, ofCell, Nat.reduceEqDiff, reduceIte] <;> rfl) (hg1.keep (Nat.le_succ _) (fun id hid _ => by simp [setHp, show id ≠ nb + 1 by omega])) (src_built rfl (by simp [setHp])) (by simp [u8s]; omega) (by decide) ?_
      intro b' hp' nb' hg' ha' ho'
      refine ro_assign (by simp only [evalF, upd, arg0, argS, ofConst, ofCell, Nat.reduceEqDiff, reduceIte] <;> rfl) (by decide) ?_
      refine ro_assign (by simp only [evalF, upd, arg0, argS, ofConst, ofCell, Nat.reduceEqDiff, reduceIte] <;> rfl) (by decide) ?_
      refine ro_nil ?_
      try simp only
      refine ex_ret ?_
      refine ⟨.tuple [b', .pv (.int .i64 0)], by simp [resF, resOneF, upd], wr_ok ha0 (after_trans (after_new hp1 (nb + 1) b [.pv (.int .u8 (u8 m.pred))] (pvs_ok [.int .u8 (u8 m.pred)])) ha' (fun id h => .inl h)) (x := [u8 m.pred]) (by simpa [u8s] using hg') (fun id h => (ho' id h).imp (fun h => h) (fun h => by omega)) rfl ?_⟩
      rw [fieldE, if_neg (fun h => by rw [h.2] at hn; simp at hn)]
theorem field_1 (lim d : Nat) {hp : Hp} {nb : Nat} {b : AV} {bs : List Int} {m : M} {L D : AV} (hf : Fit m) (hg : Grow hp nb b (u8s bs)) (hbs : bs.length < 100000) (hL : Row hp nb L (ints m.list)) (hD : Row hp nb D (u8s m.data)) (hneL : ∀ id, ownOf L = some id → ownOf b ≠ some id) (hneD : ∀ id, ownOf D = some id → ownOf b ≠ some id) (hbn : bs ≠ []) (hlim : 10 < lim) :
    CA (callA Try.prog facts plains lim (d + 3)) 20 [b, .agg (mcells m L D), .pv (.int .i64 1)] hp nb (WrOk b bs (fieldE m 1) hp nb) := by
  have hk := hf.key
  refine ca_body (fn := Try.f20) (c := bodyOf Try.f20) Try.func20 rfl (by show 3 ≤ 125; omega) ?_
  show EX _ _ _ _ _ 125 _ _ _ _ _
  unfold bodyOf Try.f20
  refine ex_seq (ex_region ?_)
  refine ro_box (v := .agg (mcells m L D)) (by simp [evalF, argsF]) (mc_all (row_cell hL).1 (row_cell hD).1) (by decide) ?_
  refine ro_assign (by simp only [evalF, upd, arg0, argS, ofConst, ofCell, Nat.reduceEqDiff, reduceIte] <;> rfl) (by decide) ?_
  refine ro_assign (by simp only [evalF, upd, arg0, argS, ofConst, ofCell, Nat.reduceEqDiff, reduceIte] <;> rfl) (by decide) ?_
  refine ro_nil ?_
  try simp only
  have ha0 : After hp nb b (setHp hp nb (.cells 1 (mcells m L D))) (nb + 1) := after_new hp nb b _ (ok_cells (row_ok' hL) (row_ok' hD))
  have hl1 : AI.look (setHp hp nb (.cells 1 (mcells m L D))) nb 1 = some (mcells m L D) := look_same _ _ _ _
  have hkp : ∀ id, id < nb → setHp hp nb (.cells 1 (mcells m L D)) id = hp id := fun id hid => by simp [setHp, show id ≠ nb by omega]
  show EX _ _ _ _ _ 125 _ _ (setHp hp nb (.cells 1 (mcells m L D))) _ _
  generalize setHp hp nb (.cells 1 (mcells m L D)) = hp1 at ha0 hl1 hkp ⊢
  have hg1 : Grow hp1 (nb + 1) b (u8s bs) := hg.keep (Nat.le_succ _) (fun id hid _ => hkp id hid)
  have hL1 : Row hp1 (nb + 1) L (ints m.list) := hL.keep (Nat.le_succ _) (fun id hid _ => hkp id hid)
  have hD1 : Row hp1 (nb + 1) D (u8s m.data) := hD.keep (Nat.le_succ _) (fun id hid _ => hkp id hid)
  refine ex_seq ?_
  refine ex_seq (ex_region ?_)
  refine ro_move (by simp only [evalF, upd, arg0, argS, ofConst, ofCell, Nat.reduceEqDiff, reduceIte] <;> rfl) (by decide) ?_
  refine ro_nil ?_
  try simp only
  refine ex_block ?_
  refine ex_test_f (by simp only [evalF, upd, arg0, argS, ofConst, ofCell, Nat.reduceEqDiff, reduceIte] <;> rfl) (by omega) (by decide) (by decide) ?_
  refine ex_test_t (by simp only [evalF, upd, arg0, argS, ofConst, ofCell, Nat.reduceEqDiff, reduceIte] <;> rfl) (by omega) (by decide) (by decide) ?_
  refine ex_seq (ex_seq (ex_region ?_))
  refine ro_fieldAddr (by simp only [evalF, upd, arg0, argS, ofConst, ofCell, Nat.reduceEqDiff, reduceIte] <;> rfl) (by exact (fa30_1 _ _ _)) (by decide) ?_
  refine ro_load (by simp only [evalF, upd, arg0, argS, ofConst, ofCell, Nat.reduceEqDiff, reduceIte] <;> rfl) (by exact (load1 ag3 hl1 (by simpa using mc1))) (by decide) ?_
  refine ro_pure (f := 39) («as» := [.pv (.int .i64 m.node)]) rfl (by simp [evalF, upd]) rfl (show orS facts _ _ 39 _ = _ from by unfold orS facts; exact node_calls facts plains lim (d + 1) m.node _) (by decide) ?_
  refine ro_un (by simp only [evalF, upd, arg0, argS, ofConst, ofCell, Nat.reduceEqDiff, reduceIte] <;> rfl) (by exact (show unOpA .not (.pv (.bool (isNode m.node))) = some (.pv (.bool (!isNode m.node))) from rfl)) (by decide) ?_
  refine ro_nil ?_
  try simp only
  refine ex_cond (t := !isNode m.node) (by simp only [evalF, upd, arg0, argS, ofConst, ofCell, Nat.reduceEqDiff, reduceIte] <;> rfl) (fun hn => ?_) (fun hn => ?_)
  · refine ex_seq (ex_region ?_)
    refine ro_assign (by simp only [evalF, upd, arg0, argS, ofConst, ofCell, Nat.reduceEqDiff, reduceIte] <;> rfl) (by decide) ?_
    refine ro_assign (by simp only [evalF, upd, arg0, argS, ofConst, ofCell, Nat.reduceEqDiff, reduceIte] <;> rfl) (by decide) ?_
    refine ro_nil ?_
    try simp only
    refine ex_ret ?_
    refine ⟨.tuple [.pv .nilSlice, .pv (.int .i64 1)], rfl, ha0, ?_⟩
    rw [fieldE, if_pos (by simpa using hn)]
  · refine ex_skip ?_
    try simp only
    refine ex_seq (ex_region ?_)
    refine ro_move (by simp only [evalF, upd, arg0, argS, ofConst, ofCell, Nat.reduceEqDiff, reduceIte] <;> rfl) (by decide) ?_
    refine ro_fieldAddr (by simp only [evalF, upd, arg0, argS, ofConst, ofCell, Nat.reduceEqDiff, reduceIte] <;> rfl) (by exact (fa30_1 _ _ _)) (by decide) ?_
    refine ro_load (by simp only [evalF, upd, arg0, argS, ofConst, ofCell, Nat.reduceEqDiff, reduceIte] <;> rfl) (by exact (load1 ag3 hl1 (by simpa using mc1))) (by decide) ?_
    refine ro_conv (by simp only [evalF, upd, arg0, argS, ofConst, ofCell, Nat.reduceEqDiff, reduceIte] <;> rfl) (by exact (conv_u8 _ _)) (by decide) ?_
    refine ro_buildSlice rfl (by simp only [List.map_cons, List.map_nil, evalF, upd, ofConst, ofCell, Nat.reduceEqDiff, reduceIte]; exact bs27_1 _ _) (by decide) ?_
    refine ro_append (r := [.int .u8 (u8 m.node)]) st27 Try.underlying27 (by simp only [evalF, upd, arg0, argS, ofConst, ofCell, Nat.reduceEqDiff, reduceIte] <;> rfl) (by simp only [evalF, upd, arg0, argS, ofConst, ofCell, Nat.reduceEqDiff, reduceIte] <;> rfl) (hg1.keep (Nat.le_succ _) (fun id hid _ => by simp [setHp, show id ≠ nb + 1 by omega])) (src_built rfl (by simp [setHp])) (by simp [u8s]; omega) (by decide) ?_
    intro b' hp' nb' hg' ha' ho'
    refine ro_assign (by simp only [evalF, upd, arg0, argS, ofConst, ofCell, Nat.reduceEqDiff, reduceIte] <;> rfl) (by decide) ?_
    refine ro_assign (by simp only [evalF, upd, arg0, argS, ofConst, ofCell, Nat.reduceEqDiff, reduceIte] <;> rfl) (by decide) ?_
    refine ro_nil ?_
    try simp only
    refine ex_ret ?_
    refine ⟨.tuple [b', .pv (.int .i64 0)], by simp [resF, resOneF, upd], wr_ok ha0 (after_trans (after_new hp1 (nb + 1) b [.pv (.int .u8 (u8 m.node))] (pvs_ok [.int .u8 (u8 m.node)])) ha' (fun id h => .inl h)) (x := [u8 m.node]) (by simpa [u8s] using hg') (fun id h => (ho' id h).imp (fun h => h) (fun h => by omega)) rfl ?_⟩
    rw [fieldE, if_neg (fun h => by rw [h] at hn; simp at hn)]
theorem field_2 (lim d : Nat) {hp : Hp} {nb : Nat} {b : AV} {bs : List Int} {m : M} {L D : AV} (hf : Fit m) (hg : Grow hp nb b (u8s bs)) (hbs : bs.length < 100000) (hL : Row hp nb L (ints m.list)) (hD : Row hp nb D (u8s m.data)) (hneL : ∀ id, ownOf L = some id → ownOf b ≠ some id) (hneD : ∀ id, ownOf D = some id → ownOf b ≠ some id) (hbn : bs ≠ []) (hlim : 10 < lim) :
    CA (callA Try.prog facts plains lim (d + 3)) 20 [b, .agg (mcells m L D), .pv (.int .i64 2)] hp nb (WrOk b bs (fieldE m 2) hp nb) := by
  have hk := hf.key
  refine ca_body (fn := Try.f20) (c := bodyOf Try.f20) Try.func20 rfl (by show 3 ≤ 125; omega) ?_
  show EX _ _ _ _ _ 125 _ _ _ _ _
  unfold bodyOf Try.f20
  refine ex_seq (ex_region ?_)
  refine ro_box (v := .agg (mcells m L D)) (by simp [evalF, argsF]) (mc_all (row_cell hL).1 (row_cell hD).1) (by decide) ?_
  refine ro_assign (by simp only [evalF, upd, arg0, argS, ofConst, ofCell, Nat.reduceEqDiff, reduceIte] <;> rfl) (by decide) ?_
  refine ro_assign (by simp only [evalF, upd, arg0, argS, ofConst, ofCell, Nat.reduceEqDiff, reduceIte] <;> rfl) (by decide) ?_
  refine ro_nil ?_
  try simp only
  have ha0 : After hp nb b (setHp hp nb (.cells 1 (mcells m L D))) (nb + 1) := after_new hp nb b _ (ok_cells (row_ok' hL) (row_ok' hD))
  have hl1 : AI.look (setHp hp nb (.cells 1 (mcells m L D))) nb 1 = some (mcells m L D) := look_same _ _ _ _
  have hkp : ∀ id, id < nb → setHp hp nb (.cells 1 (mcells m L D)) id = hp id := fun id hid => by simp [setHp, show id ≠ nb by omega]
  show EX _ _ _ _ _ 125 _ _ (setHp hp nb (.cells 1 (mcells m L D))) _ _
  generalize setHp hp nb (.cells 1 (mcells m L D)) = hp1 at ha0 hl1 hkp ⊢
  have hg1 : Grow hp1 (nb + 1) b (u8s bs) := hg.keep (Nat.le_succ _) (fun id hid _ => hkp id hid)
  have hL1 : Row hp1 (nb + 1) L (ints m.list) := hL.keep (Nat.le_succ _) (fun id hid _ => hkp id hid)
  have hD1 : Row hp1 (nb + 1) D (u8s m.data) := hD.keep (Nat.le_succ _) (fun id hid _ => hkp id hid)
  refine ex_seq ?_
  refine ex_seq (ex_region ?_)
  refine ro_move (by simp only [evalF, upd, arg0, argS, ofConst, ofCell, Nat.reduceEqDiff, reduceIte] <;> rfl) (by decide) ?_
  refine ro_nil ?_
  try simp only
  refine ex_block ?_
  refine ex_test_f (by simp only [evalF, upd, arg0, argS, ofConst, ofCell, Nat.reduceEqDiff, reduceIte] <;> rfl) (by omega) (by decide) (by decide) ?_
  refine ex_test_f (by simp only [evalF, upd, arg0, argS, ofConst, ofCell, Nat.reduceEqDiff, reduceIte] <;> rfl) (by omega) (by decide) (by decide) ?_
  refine ex_test_t (by simp only [evalF, upd, arg0, argS, ofConst, ofCell, Nat.reduceEqDiff, reduceIte] <;> rfl) (by omega) (by decide) (by decide) ?_
  refine ex_seq (ex_region ?_)
  refine ro_move (by simp only [evalF, upd, arg0, argS, ofConst, ofCell, Nat.reduceEqDiff, reduceIte] <;> rfl) (by decide) ?_
  refine ro_fieldAddr (by simp only [evalF, upd, arg0, argS, ofConst, ofCell, Nat.reduceEqDiff, reduceIte] <;> rfl) (by exact (fa30_3 _ _ _)) (by decide) ?_
  refine ro_load (by simp only [evalF, upd, arg0, argS, ofConst, ofCell, Nat.reduceEqDiff, reduceIte] <;> rfl) (by exact (load1 ag24 hl1 (by simpa using mc3))) (by decide) ?_
  refine ro_call (f := 40) («as» := [b, L]) rfl (by simp only [List.map_cons, List.map_nil, evalF, upd, argsF, Nat.reduceEqDiff, reduceIte, List.getD_cons_zero] <;> rfl) rfl (by simp only [List.all_cons, grow_plain hg1 (by simpa [u8s] using hbn), Bool.false_and]) (lists_calls lim d hg1 hbs hL1 hneL hlim) (by decide) ?_
  rintro v hp' nb' ⟨hax, hres⟩
  have hfe : fieldE m 2 = listE m.list := rfl
  cases hE : listE m.list with
  | ok x =>
    rw [hE] at hres
    obtain ⟨b', rfl, hgb, hob⟩ := hres
    refine ro_extract (by simp only [evalF, upd, arg0, argS, ofConst, ofCell, Nat.reduceEqDiff, reduceIte] <;> rfl) (by exact (rfl)) (by decide) ?_
    refine ro_extract (by simp only [evalF, upd, arg0, argS, ofConst, ofCell, Nat.reduceEqDiff, reduceIte] <;> rfl) (by exact (rfl)) (by decide) ?_
    refine ro_assign (by simp only [evalF, upd, arg0, argS, ofConst, ofCell, Nat.reduceEqDiff, reduceIte] <;> rfl) (by decide) ?_
    refine ro_assign (by simp only [evalF, upd, arg0, argS, ofConst, ofCell, Nat.reduceEqDiff, reduceIte] <;> rfl) (by decide) ?_
    refine ro_nil ?_
    try simp only
    refine ex_ret ?_
    refine ⟨.tuple [b', .pv (.int .i64 0)], by simp [resF, resOneF, upd], after_trans ha0 hax (fun id h => .inl h), ?_⟩
    rw [hfe, hE]
    exact ⟨b', rfl, hgb, fun id h => (hob id h).imp (fun h => h) (fun h => by omega)⟩
  | error e =>
    rw [hE] at hres
    subst hres
    refine ro_extract (by simp only [evalF, upd, arg0, argS, ofConst, ofCell, Nat.reduceEqDiff, reduceIte] <;> rfl) (by exact (rfl)) (by decide) ?_
    refine ro_extract (by simp only [evalF, upd, arg0, argS, ofConst, ofCell, Nat.reduceEqDiff, reduceIte] <;> rfl) (by exact (rfl)) (by decide) ?_
    refine ro_assign (by simp only [evalF, upd, arg0, argS, ofConst, ofCell, Nat.reduceEqDiff, reduceIte] <;> rfl) (by decide) ?_
    refine ro_assign (by simp only [evalF, upd, arg0, argS, ofConst, ofCell, Nat.reduceEqDiff, reduceIte] <;> rfl) (by decide) ?_
    refine ro_nil ?_
    try simp only
    refine ex_ret ?_
    refine ⟨.tuple [.pv .nilSlice, .pv (.int .i64 e)], by simp [resF, resOneF, upd], after_trans ha0 hax (fun id h => .inl h), ?_⟩
    rw [hfe, hE]
theorem field_3 (lim d : Nat) {hp : Hp} {nb : Nat} {b : AV} {bs : List Int} {m : M} {L D : AV} (hf : Fit m) (hg : Grow hp nb b (u8s bs)) (hbs : bs.length < 100000) (hL : Row hp nb L (ints m.list)) (hD : Row hp nb D (u8s m.data)) (hneL : ∀ id, ownOf L = some id → ownOf b ≠ some id) (hneD : ∀ id, ownOf D = some id → ownOf b ≠ some id) (hbn : bs ≠ []) (hlim : 10 < lim) :
    CA (callA Try.prog facts plains lim (d + 3)) 20 [b, .agg (mcells m L D), .pv (.int .i64 3)] hp nb (WrOk b bs (fieldE m 3) hp nb) := by
  have hk := hf.key
  refine ca_body (fn := Try.f20) (c := bodyOf Try.f20) Try.func20 rfl (by show 3 ≤ 125; omega) ?_
  show EX _ _ _ _ _ 125 _ _ _ _ _
  unfold bodyOf Try.f20
  refine ex_seq (ex_region ?_)
  refine ro_box (v := .agg (mcells m L D)) (by simp [evalF, argsF]) (mc_all (row_cell hL).1 (row_cell hD).1) (by decide) ?_
  refine ro_assign (by simp only [evalF, upd, arg0, argS, ofConst, ofCell, Nat.reduceEqDiff, reduceIte] <;> rfl) (by decide) ?_
  refine ro_assign (by simp only [evalF, upd, arg0, argS, ofConst, ofCell, Nat.reduceEqDiff, reduceIte] <;> rfl) (by decide) ?_
  refine ro_nil ?_
  try simp only
  have ha0 : After hp nb b (setHp hp nb (.cells 1 (mcells m L D))) (nb + 1) := after_new hp nb b _ (ok_cells (row_ok' hL) (row_ok' hD))
  have hl1 : AI.look (setHp hp nb (.cells 1 (mcells m L D))) nb 1 = some (mcells m L D) := look_same _ _ _ _
  have hkp : ∀ id, id < nb → setHp hp nb (.cells 1 (mcells m L D)) id = hp id := fun id hid => by simp [setHp, show id ≠ nb by omega]
  show EX _ _ _ _ _ 125 _ _ (setHp hp nb (.cells 1 (mcells m L D))) _ _
  generalize setHp hp nb (.cells 1 (mcells m L D)) = hp1 at ha0 hl1 hkp ⊢
  have hg1 : Grow hp1 (nb + 1) b (u8s bs) := hg.keep (Nat.le_succ _) (fun id hid _ => hkp id hid)
  have hL1 : Row hp1 (nb + 1) L (ints m.list) := hL.keep (Nat.le_succ _) (fun id hid _ => hkp id hid)
  have hD1 : Row hp1 (nb + 1) D (u8s m.data) := hD.keep (Nat.le_succ _) (fun id hid _ => hkp id hid)
  refine ex_seq ?_
  refine ex_seq (ex_region ?_)
  refine ro_move (by simp only [evalF, upd, arg0, argS, ofConst, ofCell, Nat.reduceEqDiff, reduceIte] <;> rfl) (by decide) ?_
  refine ro_nil ?_
  try simp only
  refine ex_block ?_
  refine ex_test_f (by simp only [evalF, upd, arg0, argS, ofConst, ofCell, Nat.reduceEqDiff, reduceIte] <;> rfl) (by omega) (by decide) (by decide) ?_
  refine ex_test_f (by simp only [evalF, upd, arg0, argS, ofConst, ofCell, Nat.reduceEqDiff, reduceIte] <;> rfl) (by omega) (by decide) (by decide) ?_
  refine ex_test_f (by simp only [evalF, upd, arg0, argS, ofConst, ofCell, Nat.reduceEqDiff, reduceIte] <;> rfl) (by omega) (by decide) (by decide) ?_
  refine ex_test_t (by simp only [evalF, upd, arg0, argS, ofConst, ofCell, Nat.reduceEqDiff, reduceIte] <;> rfl) (by omega) (by decide) (by decide) ?_
  refine ex_seq (ex_seq (ex_region ?_))
  refine ro_fieldAddr (by simp only [evalF, upd, arg0, argS, ofConst, ofCell, Nat.reduceEqDiff, reduceIte] <;> rfl) (by exact (fa30_4 _ _ _)) (by decide) ?_
  refine ro_load (by simp only [evalF, upd, arg0, argS, ofConst, ofCell, Nat.reduceEqDiff, reduceIte] <;> rfl) (by exact (load1 ag4 hl1 (by simpa using mc4))) (by decide) ?_
  refine ro_nil ?_
  try simp only
  refine ex_cond (t := m.done) (by simp only [evalF, upd, arg0, argS, ofConst, ofCell, Nat.reduceEqDiff, reduceIte] <;> rfl) (fun hd1 => ?_) (fun hd1 => ?_)
  · refine ex_seq (ex_region ?_)
    refine ro_move (by simp only [evalF, upd, arg0, argS, ofConst, ofCell, Nat.reduceEqDiff, reduceIte] <;> rfl) (by decide) ?_
    refine ro_buildSlice rfl (by simp only [List.map_cons, List.map_nil, evalF, upd, ofConst, ofCell, Nat.reduceEqDiff, reduceIte]; exact bs27_1 _ _) (by decide) ?_
    refine ro_append (r := [.int .u8 (1)]) st27 Try.underlying27 (by simp only [evalF, upd, arg0, argS, ofConst, ofCell, Nat.reduceEqDiff, reduceIte] <;> rfl) (by simp only [evalF, upd, arg0, argS, ofConst, ofCell, Nat.reduceEqDiff, reduceIte] <;> rfl) (hg1.keep (Nat.le_succ _) (fun id hid _ => by simp [setHp, show id ≠ nb + 1 by omega])) (src_built rfl (by simp [setHp])) (by simp [u8s]; omega) (by decide) ?_
    intro b' hp' nb' hg' ha' ho'
    refine ro_assign (by simp only [evalF, upd, arg0, argS, ofConst, ofCell, Nat.reduceEqDiff, reduceIte] <;> rfl) (by decide) ?_
    refine ro_assign (by simp only [evalF, upd, arg0, argS, ofConst, ofCell, Nat.reduceEqDiff, reduceIte] <;> rfl) (by decide) ?_
    refine ro_nil ?_
    try simp only
    refine ex_ret ?_
    refine ⟨.tuple [b', .pv (.int .i64 0)], by simp [resF, resOneF, upd], wr_ok ha0 (after_trans (after_new hp1 (nb + 1) b [.pv (.int .u8 (1))] (pvs_ok [.int .u8 (1)])) ha' (fun id h => .inl h)) (x := [1]) (by simpa [u8s] using hg') (fun id h => (ho' id h).imp (fun h => h) (fun h => by omega)) rfl ?_⟩
    rw [fieldE, hd1]
    rfl
  · refine ex_skip ?_
    try simp only
    refine ex_seq (ex_region ?_)
    refine ro_move (by simp only [evalF, upd, arg0, argS, ofConst, ofCell, Nat.reduceEqDiff, reduceIte] <;> rfl) (by decide) ?_
    refine ro_buildSlice rfl (by simp only [List.map_cons, List.map_nil, evalF, upd, ofConst, ofCell, Nat.reduceEqDiff, reduceIte]; exact bs27_1 _ _) (by decide) ?_
    refine ro_append (r := [.int .u8 (0)]) st27 Try.underlying27 (by simp only [evalF, upd, arg0, argS, ofConst, ofCell, Nat.reduceEqDiff, reduceIte] <;> rfl) (by simp only [evalF, upd, arg0, argS, ofConst, ofCell, Nat.reduceEqDiff, reduceIte] <;> rfl) (hg1.keep (Nat.le_succ _) (fun id hid _ => by simp [setHp, show id ≠ nb + 1 by omega])) (src_built rfl (by simp [setHp])) (by simp [u8s]; omega) (by decide) ?_
    intro b' hp' nb' hg' ha' ho'
    refine ro_assign (by simp only [evalF, upd, arg0, argS, ofConst, ofCell, Nat.reduceEqDiff, reduceIte] <;> rfl) (by decide) ?_
    refine ro_assign (by simp only [evalF, upd, arg0, argS, ofConst, ofCell, Nat.reduceEqDiff, reduceIte] <;> rfl) (by decide) ?_
    refine ro_nil ?_
    try simp only
    refine ex_ret ?_
    refine ⟨.tuple [b', .pv (.int .i64 0)], by simp [resF, resOneF, upd], wr_ok ha0 (after_trans (after_new hp1 (nb + 1) b [.pv (.int .u8 (0))] (pvs_ok [.int .u8 (0)])) ha' (fun id h => .inl h)) (x := [0]) (by simpa [u8s] using hg') (fun id h => (ho' id h).imp (fun h => h) (fun h => by omega)) rfl ?_⟩
    rw [fieldE, hd1]
    rfl
theorem field_4 (lim d : Nat) {hp : Hp} {nb : Nat} {b : AV} {bs : List Int} {m : M} {L D : AV} (hf : Fit m) (hg : Grow hp nb b (u8s bs)) (hbs : bs.length < 100000) (hL : Row hp nb L (ints m.list)) (hD : Row hp nb D (u8s m.data)) (hneL : ∀ id, ownOf L = some id → ownOf b ≠ some id) (hneD : ∀ id, ownOf D = some id → ownOf b ≠ some id) (hbn : bs ≠ []) (hlim : 10 < lim) :
    CA (callA Try.prog facts plains lim (d + 3)) 20 [b, .agg (mcells m L D), .pv (.int .i64 4)] hp nb (WrOk b bs (fieldE m 4) hp nb) := by
  have hk := hf.key
  refine ca_body (fn := Try.f20) (c := bodyOf Try.f20) Try.func20 rfl (by show 3 ≤ 125; omega) ?_
  show EX _ _ _ _ _ 125 _ _ _ _ _
  unfold bodyOf Try.f20
  refine ex_seq (ex_region ?_)
  refine ro_box (v := .agg (mcells m L D)) (by simp [evalF, argsF]) (mc_all (row_cell hL).1 (row_cell hD).1) (by decide) ?_
  refine ro_assign (by simp only [evalF, upd, arg0, argS, ofConst, ofCell, Nat.reduceEqDiff, reduceIte] <;> rfl) (by decide) ?_
  refine ro_assign (by simp only [evalF, upd, arg0, argS, ofConst, ofCell, Nat.reduceEqDiff, reduceIte] <;> rfl) (by decide) ?_
  refine ro_nil ?_
  try simp only
  have ha0 : After hp nb b (setHp hp nb (.cells 1 (mcells m L D))) (nb + 1) := after_new hp nb b _ (ok_cells (row_ok' hL) (row_ok' hD))
  have hl1 : AI.look (setHp hp nb (.cells 1 (mcells m L D))) nb 1 = some (mcells m L D) := look_same _ _ _ _
  have hkp : ∀ id, id < nb → setHp hp nb (.cells 1 (mcells m L D)) id = hp id := fun id hid => by simp [setHp, show id ≠ nb by omega]
  show EX _ _ _ _ _ 125 _ _ (setHp hp nb (.cells 1 (mcells m L D))) _ _
  generalize setHp hp nb (.cells 1 (mcells m L D)) = hp1 at ha0 hl1 hkp ⊢
  have hg1 : Grow hp1 (nb + 1) b (u8s bs) := hg.keep (Nat.le_succ _) (fun id hid _ => hkp id hid)
  have hL1 : Row hp1 (nb + 1) L (ints m.list) := hL.keep (Nat.le_succ _) (fun id hid _ => hkp id hid)
  have hD1 : Row hp1 (nb + 1) D (u8s m.data) := hD.keep (Nat.le_succ _) (fun id hid _ => hkp id hid)
  refine ex_seq ?_
  refine ex_seq (ex_region ?_)
  refine ro_move (by simp only [evalF, upd, arg0, argS, ofConst, ofCell, Nat.reduceEqDiff, reduceIte] <;> rfl) (by decide) ?_
  refine ro_nil ?_
  try simp only
  refine ex_block ?_
  refine ex_test_f (by simp only [evalF, upd, arg0, argS, ofConst, ofCell, Nat.reduceEqDiff, reduceIte] <;> rfl) (by omega) (by decide) (by decide) ?_
  refine ex_test_f (by simp only [evalF, upd, arg0, argS, ofConst, ofCell, Nat.reduceEqDiff, reduceIte] <;> rfl) (by omega) (by decide) (by decide) ?_
  refine ex_test_f (by simp only [evalF, upd, arg0, argS, ofConst, ofCell, Nat.reduceEqDiff, reduceIte] <;> rfl) (by omega) (by decide) (by decide) ?_
  refine ex_test_f (by simp only [evalF, upd, arg0, argS, ofConst, ofCell, Nat.reduceEqDiff, reduceIte] <;> rfl) (by omega) (by decide) (by decide) ?_
  refine ex_test_t (by simp only [evalF, upd, arg0, argS, ofConst, ofCell, Nat.reduceEqDiff, reduceIte] <;> rfl) (by omega) (by decide) (by decide) ?_
  by_cases hlo : m.err < 0
  · refine ex_seq (ex_seq (ex_region ?_))
    refine ro_fieldAddr (by simp only [evalF, upd, arg0, argS, ofConst, ofCell, Nat.reduceEqDiff, reduceIte] <;> rfl) (by exact (fa30_8 _ _ _)) (by decide) ?_
    refine ro_load (by simp only [evalF, upd, arg0, argS, ofConst, ofCell, Nat.reduceEqDiff, reduceIte] <;> rfl) (by exact (load1 ag28 hl1 (by simpa using mc39 hk))) (by decide) ?_
    refine ro_bin (by simp only [evalF, upd, arg0, argS, ofConst, ofCell, Nat.reduceEqDiff, reduceIte] <;> rfl) (by simp only [evalF, upd, arg0, argS, ofConst, ofCell, Nat.reduceEqDiff, reduceIte] <;> rfl) (by exact (lss_t hlo)) (by decide) ?_
    refine ro_move (by simp only [evalF, upd, arg0, argS, ofConst, ofCell, Nat.reduceEqDiff, reduceIte] <;> rfl) (by decide) ?_
    refine ro_skip rfl (by simp only [evalF, upd, arg0, argS, ofConst, ofCell, Nat.reduceEqDiff, reduceIte] <;> rfl) rfl (fun e he => by cases he; decide) ?_
    simp only [putF]
    refine ro_skip rfl (by simp only [evalF, upd, arg0, argS, ofConst, ofCell, Nat.reduceEqDiff, reduceIte] <;> rfl) rfl (fun e he => by cases he; decide) ?_
    simp only [putF]
    refine ro_skip rfl (by simp only [evalF, upd, arg0, argS, ofConst, ofCell, Nat.reduceEqDiff, reduceIte] <;> rfl) rfl (fun e he => by cases he; decide) ?_
    simp only [putF]
    refine ro_pick (by simp only [evalF, upd, arg0, argS, ofConst, ofCell, Nat.reduceEqDiff, reduceIte] <;> rfl) (by simp only [evalF, upd, arg0, argS, ofConst, ofCell, Nat.reduceEqDiff, reduceIte] <;> rfl) (by simp only [evalF, upd, arg0, argS, ofConst, ofCell, Nat.reduceEqDiff, reduceIte] <;> rfl) (by decide) ?_
    refine ro_nil ?_
    try simp only
    refine ex_cond (t := true) (by simp only [evalF, upd, arg0, argS, ofConst, ofCell, Nat.reduceEqDiff, reduceIte] <;> rfl) (fun _ => ?_) (fun h => by simp at h)
    refine ex_seq (ex_region ?_)
    refine ro_assign (by simp only [evalF, upd, arg0, argS, ofConst, ofCell, Nat.reduceEqDiff, reduceIte] <;> rfl) (by decide) ?_
    refine ro_assign (by simp only [evalF, upd, arg0, argS, ofConst, ofCell, Nat.reduceEqDiff, reduceIte] <;> rfl) (by decide) ?_
    refine ro_nil ?_
    try simp only
    refine ex_ret ?_
    refine ⟨.tuple [.pv .nilSlice, .pv (.int .i64 1)], rfl, ha0, ?_⟩
    rw [fieldE, if_pos (.inl hlo)]
  · refine ex_seq (ex_seq (ex_region ?_))
    refine ro_fieldAddr (by simp only [evalF, upd, arg0, argS, ofConst, ofCell, Nat.reduceEqDiff, reduceIte] <;> rfl) (by exact (fa30_8 _ _ _)) (by decide) ?_
    refine ro_load (by simp only [evalF, upd, arg0, argS, ofConst, ofCell, Nat.reduceEqDiff, reduceIte] <;> rfl) (by exact (load1 ag28 hl1 (by simpa using mc39 hk))) (by decide) ?_
    refine ro_bin (by simp only [evalF, upd, arg0, argS, ofConst, ofCell, Nat.reduceEqDiff, reduceIte] <;> rfl) (by simp only [evalF, upd, arg0, argS, ofConst, ofCell, Nat.reduceEqDiff, reduceIte] <;> rfl) (by exact (lss_f hlo)) (by decide) ?_
    refine ro_move (by simp only [evalF, upd, arg0, argS, ofConst, ofCell, Nat.reduceEqDiff, reduceIte] <;> rfl) (by decide) ?_
    refine ro_guard rfl (by simp only [evalF, upd, arg0, argS, ofConst, ofCell, Nat.reduceEqDiff, reduceIte] <;> rfl) rfl ?_
    refine ro_fieldAddr (by simp only [evalF, upd, arg0, argS, ofConst, ofCell, Nat.reduceEqDiff, reduceIte] <;> rfl) (by exact (fa30_8 _ _ _)) (by decide) ?_
    refine ro_guard rfl (by simp only [evalF, upd, arg0, argS, ofConst, ofCell, Nat.reduceEqDiff, reduceIte] <;> rfl) rfl ?_
    refine ro_load (by simp only [evalF, upd, arg0, argS, ofConst, ofCell, Nat.reduceEqDiff, reduceIte] <;> rfl) (by exact (load1 ag28 hl1 (by simpa using mc39 hk))) (by decide) ?_
    refine ro_guard rfl (by simp only [evalF, upd, arg0, argS, ofConst, ofCell, Nat.reduceEqDiff, reduceIte] <;> rfl) rfl ?_
    refine ro_bin (by simp only [evalF, upd, arg0, argS, ofConst, ofCell, Nat.reduceEqDiff, reduceIte] <;> rfl) (by simp only [evalF, upd, arg0, argS, ofConst, ofCell, Nat.reduceEqDiff, reduceIte] <;> rfl) (by exact (gtr_v)) (by decide) ?_
    refine ro_pick (by simp only [evalF, upd, arg0, argS, ofConst, ofCell, Nat.reduceEqDiff, reduceIte] <;> rfl) (by simp only [evalF, upd, arg0, argS, ofConst, ofCell, Nat.reduceEqDiff, reduceIte] <;> rfl) (by simp only [evalF, upd, arg0, argS, ofConst, ofCell, Nat.reduceEqDiff, reduceIte] <;> rfl) (by decide) ?_
    refine ro_nil ?_
    try simp only
    refine ex_cond (t := decide (m.err > 20)) (by simp only [evalF, upd, arg0, argS, ofConst, ofCell, Nat.reduceEqDiff, reduceIte] <;> rfl) (fun hhi => ?_) (fun hhi => ?_)
    · refine ex_seq (ex_region ?_)
      refine ro_assign (by simp only [evalF, upd, arg0, argS, ofConst, ofCell, Nat.reduceEqDiff, reduceIte] <;> rfl) (by decide) ?_
      refine ro_assign (by simp only [evalF, upd, arg0, argS, ofConst, ofCell, Nat.reduceEqDiff, reduceIte] <;> rfl) (by decide) ?_
      refine ro_nil ?_
      try simp only
      refine ex_ret ?_
      refine ⟨.tuple [.pv .nilSlice, .pv (.int .i64 1)], rfl, ha0, ?_⟩
      rw [fieldE, if_pos (.inr (of_decide_eq_true hhi))]
    · refine ex_skip ?_
      try simp only
      have hhi' : ¬ m.err > 20 := of_decide_eq_false hhi
      refine ex_seq (ex_region ?_)
      refine ro_move (by simp only [evalF, upd, arg0, argS, ofConst, ofCell, Nat.reduceEqDiff, reduceIte] <;> rfl) (by decide) ?_
      refine ro_fieldAddr (by simp only [evalF, upd, arg0, argS, ofConst, ofCell, Nat.reduceEqDiff, reduceIte] <;> rfl) (by exact (fa30_8 _ _ _)) (by decide) ?_
      refine ro_load (by simp only [evalF, upd, arg0, argS, ofConst, ofCell, Nat.reduceEqDiff, reduceIte] <;> rfl) (by exact (load1 ag28 hl1 (by simpa using mc39 hk))) (by decide) ?_
      refine ro_conv (by simp only [evalF, upd, arg0, argS, ofConst, ofCell, Nat.reduceEqDiff, reduceIte] <;> rfl) (by exact (conv_u8e _ _)) (by decide) ?_
      refine ro_buildSlice rfl (by simp only [List.map_cons, List.map_nil, evalF, upd, ofConst, ofCell, Nat.reduceEqDiff, reduceIte]; exact bs27_1 _ _) (by decide) ?_
      refine ro_append (r := [.int .u8 (u8 m.err)]) st27 Try.underlying27 (by simp only [evalF, upd, arg0, argS, ofConst, ofCell, Nat.reduceEqDiff, reduceIte] <;> rfl) (by simp only [evalF, upd, arg0, argS, ofConst, ofCell, Nat.reduceEqDiff, reduceIte] <;> rfl) (hg1.keep (Nat.le_succ _) (fun id hid _ => by simp [setHp, show id ≠ nb + 1 by omega])) (src_built rfl (by simp [setHp])) (by simp [u8s]; omega) (by decide) ?_
      intro b' hp' nb' hg' ha' ho'
      refine ro_assign (by simp only [evalF, upd, arg0, argS, ofConst, ofCell, Nat.reduceEqDiff, reduceIte] <;> rfl) (by decide) ?_
      refine ro_assign (by simp only [evalF, upd, arg0, argS, ofConst, ofCell, Nat.reduceEqDiff, reduceIte] <;> rfl) (by decide) ?_
      refine ro_nil ?_
      try simp only
      refine ex_ret ?_
      refine ⟨.tuple [b', .pv (.int .i64 0)], by simp [resF, resOneF, upd], wr_ok ha0 (after_trans (after_new hp1 (nb + 1) b [.pv (.int .u8 (u8 m.err))] (pvs_ok [.int .u8 (u8 m.err)])) ha' (fun id h => .inl h)) (x := [u8 m.err]) (by simpa [u8s] using hg') (fun id h => (ho' id h).imp (fun h => h) (fun h => by omega)) rfl ?_⟩
      rw [fieldE, if_neg (by omega)]
theorem field_5 (lim d : Nat) {hp : Hp} {nb : Nat} {b : AV} {bs : List Int} {m : M} {L D : AV} (hf : Fit m) (hg : Grow hp nb b (u8s bs)) (hbs : bs.length < 100000) (hL : Row hp nb L (ints m.list)) (hD : Row hp nb D (u8s m.data)) (hneL : ∀ id, ownOf L = some id → ownOf b ≠ some id) (hneD : ∀ id, ownOf D = some id → ownOf b ≠ some id) (hbn : bs ≠ []) (hlim : 10 < lim) :
    CA (callA Try.prog facts plains lim (d + 3)) 20 [b, .agg (mcells m L D), .pv (.int .i64 5)] hp nb (WrOk b bs (fieldE m 5) hp nb) := by
  have hk := hf.key
  refine ca_body (fn := Try.f20) (c := bodyOf Try.f20) Try.func20 rfl (by show 3 ≤ 125; omega) ?_
  show EX _ _ _ _ _ 125 _ _ _ _ _
  unfold bodyOf Try.f20
  refine ex_seq (ex_region ?_)
  refine ro_box (v := .agg (mcells m L D)) (by simp [evalF, argsF]) (mc_all (row_cell hL).1 (row_cell hD).1) (by decide) ?_
  refine ro_assign (by simp only [evalF, upd, arg0, argS, ofConst, ofCell, Nat.reduceEqDiff, reduceIte] <;> rfl) (by decide) ?_
  refine ro_assign (by simp only [evalF, upd, arg0, argS, ofConst, ofCell, Nat.reduceEqDiff, reduceIte] <;> rfl) (by decide) ?_
  refine ro_nil ?_
  try simp only
  have ha0 : After hp nb b (setHp hp nb (.cells 1 (mcells m L D))) (nb + 1) := after_new hp nb b _ (ok_cells (row_ok' hL) (row_ok' hD))
  have hl1 : AI.look (setHp hp nb (.cells 1 (mcells m L D))) nb 1 = some (mcells m L D) := look_same _ _ _ _
  have hkp : ∀ id, id < nb → setHp hp nb (.cells 1 (mcells m L D)) id = hp id := fun id hid => by simp [setHp, show id ≠ nb by omega]
  show EX _ _ _ _ _ 125 _ _ (setHp hp nb (.cells 1 (mcells m L D))) _ _
  generalize setHp hp nb (.cells 1 (mcells m L D)) = hp1 at ha0 hl1 hkp ⊢
  have hg1 : Grow hp1 (nb + 1) b (u8s bs) := hg.keep (Nat.le_succ _) (fun id hid _ => hkp id hid)
  have hL1 : Row hp1 (nb + 1) L (ints m.list) := hL.keep (Nat.le_succ _) (fun id hid _ => hkp id hid)
  have hD1 : Row hp1 (nb + 1) D (u8s m.data) := hD.keep (Nat.le_succ _) (fun id hid _ => hkp id hid)
  refine ex_seq ?_
  refine ex_seq (ex_region ?_)
  refine ro_move (by simp only [evalF, upd, arg0, argS, ofConst, ofCell, Nat.reduceEqDiff, reduceIte] <;> rfl) (by decide) ?_
  refine ro_nil ?_
  try simp only
  refine ex_block ?_
  refine ex_test_f (by simp only [evalF, upd, arg0, argS, ofConst, ofCell, Nat.reduceEqDiff, reduceIte] <;> rfl) (by omega) (by decide) (by decide) ?_
  refine ex_test_f (by simp only [evalF, upd, arg0, argS, ofConst, ofCell, Nat.reduceEqDiff, reduceIte] <;> rfl) (by omega) (by decide) (by decide) ?_
  refine ex_test_f (by simp only [evalF, upd, arg0, argS, ofConst, ofCell, Nat.reduceEqDiff, reduceIte] <;> rfl) (by omega) (by decide) (by decide) ?_
  refine ex_test_f (by simp only [evalF, upd, arg0, argS, ofConst, ofCell, Nat.reduceEqDiff, reduceIte] <;> rfl) (by omega) (by decide) (by decide) ?_
  refine ex_test_f (by simp only [evalF, upd, arg0, argS, ofConst, ofCell, Nat.reduceEqDiff, reduceIte] <;> rfl) (by omega) (by decide) (by decide) ?_
  refine ex_test_t (by simp only [evalF, upd, arg0, argS, ofConst, ofCell, Nat.reduceEqDiff, reduceIte] <;> rfl) (by omega) (by decide) (by decide) ?_
  have hrow : Row hp1 (nb + 1) (.slice nb 1 (0 + 5 + 0) 32 32 1 true) (u8s m.key) := by
    have hcl : ∃ ver, hp1 nb = .cells ver (mcells m L D) ∧ ver = 1 := by
      unfold AI.look at hl1
      split at hl1
      · rename_i ver cs hc
        split at hl1
        · rename_i hv
          simp only [Option.some.injEq] at hl1
          exact ⟨ver, by rw [hc, hl1], hv⟩
        · simp at hl1
      · simp at hl1
    obtain ⟨ver, hc, rfl⟩ := hcl
    exact .own _ _ _ _ _ _ _ _ (by simp [u8s, hk]) (by omega) hc (by rw [mc_length hk]; omega) (Nat.le_refl _) (mcKey hk)
  refine ex_seq (ex_region ?_)
  refine ro_move (by simp only [evalF, upd, arg0, argS, ofConst, ofCell, Nat.reduceEqDiff, reduceIte] <;> rfl) (by decide) ?_
  refine ro_fieldAddr (by simp only [evalF, upd, arg0, argS, ofConst, ofCell, Nat.reduceEqDiff, reduceIte] <;> rfl) (by exact (fa30_5 _ _ _)) (by decide) ?_
  refine ro_slice (by simp only [evalF, upd, arg0, argS, ofConst, ofCell, Nat.reduceEqDiff, reduceIte] <;> rfl) rfl rfl rfl (slice26 _ _ _) (by decide) ?_
  refine ro_append (r := u8s m.key) st27 Try.underlying27 (by simp only [evalF, upd, arg0, argS, ofConst, ofCell, Nat.reduceEqDiff, reduceIte] <;> rfl) (by simp only [evalF, upd, arg0, argS, ofConst, ofCell, Nat.reduceEqDiff, reduceIte] <;> rfl) hg1 (row_src hrow) (by simp [u8s, hk]; omega) (by decide) ?_
  intro b' hp' nb' hg' ha' ho'
  refine ro_assign (by simp only [evalF, upd, arg0, argS, ofConst, ofCell, Nat.reduceEqDiff, reduceIte] <;> rfl) (by decide) ?_
  refine ro_assign (by simp only [evalF, upd, arg0, argS, ofConst, ofCell, Nat.reduceEqDiff, reduceIte] <;> rfl) (by decide) ?_
  refine ro_nil ?_
  try simp only
  refine ex_ret ?_
  refine ⟨.tuple [b', .pv (.int .i64 0)], by simp [resF, resOneF, upd], wr_ok ha0 ha' (x := m.key) hg' ho' rfl rfl⟩
theorem field_6 (lim d : Nat) {hp : Hp} {nb : Nat} {b : AV} {bs : List Int} {m : M} {L D : AV} (hf : Fit m) (hg : Grow hp nb b (u8s bs)) (hbs : bs.length < 100000) (hL : Row hp nb L (ints m.list)) (hD : Row hp nb D (u8s m.data)) (hneL : ∀ id, ownOf L = some id → ownOf b ≠ some id) (hneD : ∀ id, ownOf D = some id → ownOf b ≠ some id) (hbn : bs ≠ []) (hlim : 10 < lim) :
    CA (callA Try.prog facts plains lim (d + 3)) 20 [b, .agg (mcells m L D), .pv (.int .i64 6)] hp nb (WrOk b bs (fieldE m 6) hp nb) := by
  have hk := hf.key
  refine ca_body (fn := Try.f20) (c := bodyOf Try.f20) Try.func20 rfl (by show 3 ≤ 125; omega) ?_
  show EX _ _ _ _ _ 125 _ _ _ _ _
  unfold bodyOf Try.f20
  refine ex_seq (ex_region ?_)
  refine ro_box (v := .agg (mcells m L D)) (by simp [evalF, argsF]) (mc_all (row_cell hL).1 (row_cell hD).1) (by decide) ?_
  refine ro_assign (by simp only [evalF, upd, arg0, argS, ofConst, ofCell, Nat.reduceEqDiff, reduceIte] <;> rfl) (by decide) ?_
  refine ro_assign (by simp only [evalF, upd, arg0, argS, ofConst, ofCell, Nat.reduceEqDiff, reduceIte] <;> rfl) (by decide) ?_
  refine ro_nil ?_
  try simp only
  have ha0 : After hp nb b (setHp hp nb (.cells 1 (mcells m L D))) (nb + 1) := after_new hp nb b _ (ok_cells (row_ok' hL) (row_ok' hD))
  have hl1 : AI.look (setHp hp nb (.cells 1 (mcells m L D))) nb 1 = some (mcells m L D) := look_same _ _ _ _
  have hkp : ∀ id, id < nb → setHp hp nb (.cells 1 (mcells m L D)) id = hp id := fun id hid => by simp [setHp, show id ≠ nb by omega]
  show EX _ _ _ _ _ 125 _ _ (setHp hp nb (.cells 1 (mcells m L D))) _ _
  generalize setHp hp nb (.cells 1 (mcells m L D)) = hp1 at ha0 hl1 hkp ⊢
  have hg1 : Grow hp1 (nb + 1) b (u8s bs) := hg.keep (Nat.le_succ _) (fun id hid _ => hkp id hid)
  have hL1 : Row hp1 (nb + 1) L (ints m.list) := hL.keep (Nat.le_succ _) (fun id hid _ => hkp id hid)
  have hD1 : Row hp1 (nb + 1) D (u8s m.data) := hD.keep (Nat.le_succ _) (fun id hid _ => hkp id hid)
  refine ex_seq ?_
  refine ex_seq (ex_region ?_)
  refine ro_move (by simp only [evalF, upd, arg0, argS, ofConst, ofCell, Nat.reduceEqDiff, reduceIte] <;> rfl) (by decide) ?_
  refine ro_nil ?_
  try simp only
  refine ex_block ?_
  refine ex_test_f (by simp only [evalF, upd, arg0, argS, ofConst, ofCell, Nat.reduceEqDiff, reduceIte] <;> rfl) (by omega) (by decide) (by decide) ?_
  refine ex_test_f (by simp only [evalF, upd, arg0, argS, ofConst, ofCell, Nat.reduceEqDiff, reduceIte] <;> rfl) (by omega) (by decide) (by decide) ?_
  refine ex_test_f (by simp only [evalF, upd, arg0, argS, ofConst, ofCell, Nat.reduceEqDiff, reduceIte] <;> rfl) (by omega) (by decide) (by decide) ?_
  refine ex_test_f (by simp only [evalF, upd, arg0, argS, ofConst, ofCell, Nat.reduceEqDiff, reduceIte] <;> rfl) (by omega) (by decide) (by decide) ?_
  refine ex_test_f (by simp only [evalF, upd, arg0, argS, ofConst, ofCell, Nat.reduceEqDiff, reduceIte] <;> rfl) (by omega) (by decide) (by decide) ?_
  refine ex_test_f (by simp only [evalF, upd, arg0, argS, ofConst, ofCell, Nat.reduceEqDiff, reduceIte] <;> rfl) (by omega) (by decide) (by decide) ?_
  refine ex_test_t (by simp only [evalF, upd, arg0, argS, ofConst, ofCell, Nat.reduceEqDiff, reduceIte] <;> rfl) (by omega) (by decide) (by decide) ?_
  have hDs : (u8s m.data).length = m.data.length := by simp [u8s]
  refine ex_seq (ex_seq (ex_region ?_))
  refine ro_fieldAddr (by simp only [evalF, upd, arg0, argS, ofConst, ofCell, Nat.reduceEqDiff, reduceIte] <;> rfl) (by exact (fa30_6 _ _ _)) (by decide) ?_
  refine ro_load (by simp only [evalF, upd, arg0, argS, ofConst, ofCell, Nat.reduceEqDiff, reduceIte] <;> rfl) (by exact (load1 ag27 hl1 (by simpa using mc37 hk))) (by decide) ?_
  refine ro_builtin rfl (by simp only [List.map_cons, List.map_nil, evalF, upd, arg0, argS, ofConst, ofCell, Nat.reduceEqDiff, reduceIte] <;> rfl) (by exact (row_len st27 hD1)) (by decide) ?_
  refine ro_bin (by simp only [evalF, upd, arg0, argS, ofConst, ofCell, Nat.reduceEqDiff, reduceIte] <;> rfl) (by simp only [evalF, upd, arg0, argS, ofConst, ofCell, Nat.reduceEqDiff, reduceIte] <;> rfl) (by exact (gtr_v)) (by decide) ?_
  refine ro_nil ?_
  try simp only
  refine ex_cond (t := decide (((u8s m.data).length : Int) > 6000)) (by simp only [evalF, upd, arg0, argS, ofConst, ofCell, Nat.reduceEqDiff, reduceIte] <;> rfl) (fun hhi => ?_) (fun hhi => ?_)
  · refine ex_seq (ex_region ?_)
    refine ro_assign (by simp only [evalF, upd, arg0, argS, ofConst, ofCell, Nat.reduceEqDiff, reduceIte] <;> rfl) (by decide) ?_
    refine ro_assign (by simp only [evalF, upd, arg0, argS, ofConst, ofCell, Nat.reduceEqDiff, reduceIte] <;> rfl) (by decide) ?_
    refine ro_nil ?_
    try simp only
    refine ex_ret ?_
    refine ⟨.tuple [.pv .nilSlice, .pv (.int .i64 5)], rfl, ha0, ?_⟩
    have hgt := of_decide_eq_true hhi
    rw [fieldE, if_pos (by rw [hDs] at hgt; omega)]
  · refine ex_skip ?_
    try simp only
    have hle := of_decide_eq_false hhi
    have hldD : ∀ {hp : Hp}, hp nb = hp1 nb → loadA Try.prog hp 27 (.ptr nb 1 37) = some D := fun {hp} he => load1 ag27 (by rw [look_at 1 he]; exact hl1) (mc37 hk)
    refine ex_seq (ex_draw dataStat ?_)
    refine rd_val (v := b) rfl (by simp [primA, evalF, upd, argsF]) (by decide) ?_
    refine rd_val (v := .ptr nb 1 37) rfl (by simp [primA, evalF, upd, fa30_6]) (by decide) ?_
    refine rd_val (v := D) rfl (by simp only [primA, evalF, upd, Nat.reduceEqDiff, reduceIte, hldD rfl, Option.map_some]) (by decide) ?_
    refine rd_val (v := .pv (.int .i64 (u8s m.data).length)) rfl (by simp only [primA, List.map_cons, List.map_nil, evalF, upd, Nat.reduceEqDiff, reduceIte]; exact row_len st27 hD1) (by decide) ?_
    refine rd_val (v := .pv (.int .i64 (((u8s m.data).length : Int) / 2 ^ 8))) rfl (by simp only [primA, evalF, upd, ofConst, ofCell, Nat.reduceEqDiff, reduceIte]; rw [show (8 : Int) = ((8 : Nat) : Int) from rfl, shr_v 8 (by omega)]; rfl) (by decide) ?_
    refine rd_val (v := .pv (.int .u8 (u8 (((u8s m.data).length : Int) / 2 ^ 8)))) rfl (by simp only [primA, evalF, upd, Nat.reduceEqDiff, reduceIte]; exact conv_u8 _ _) (by decide) ?_
    refine rd_val (v := .ptr nb 1 37) rfl (by simp [primA, evalF, upd, fa30_6]) (by decide) ?_
    refine rd_val (v := D) rfl (by simp only [primA, evalF, upd, Nat.reduceEqDiff, reduceIte, hldD rfl, Option.map_some]) (by decide) ?_
    refine rd_val (v := .pv (.int .i64 (u8s m.data).length)) rfl (by simp only [primA, List.map_cons, List.map_nil, evalF, upd, Nat.reduceEqDiff, reduceIte]; exact row_len st27 hD1) (by decide) ?_
    refine rd_val (v := .pv (.int .u8 (u8 (u8s m.data).length))) rfl (by simp only [primA, evalF, upd, Nat.reduceEqDiff, reduceIte]; exact conv_u8 _ _) (by decide) ?_
    refine rd_new (v := .slice (nb + 1) 1 0 2 2 1 true) (b := .cells 1 [.pv (.int .u8 (u8 (((u8s m.data).length : Int) / 2 ^ 8))), .pv (.int .u8 (u8 (u8s m.data).length))]) rfl (by simp only [primA, List.map_cons, List.map_nil, evalF, upd, Nat.reduceEqDiff, reduceIte]; exact bs27_2 _ _ _) (by decide) ?_
    refine rd_append (r := [.int .u8 (u8 (((u8s m.data).length : Int) / 2 ^ 8)), .int .u8 (u8 (u8s m.data).length)]) st27 Try.underlying27 (v := b) (by simp [evalF, upd]) (by simp only [evalF, upd, Nat.reduceEqDiff, reduceIte]; rfl) (hg1.keep (Nat.le_succ _) (fun id hid _ => by simp [setHp, show id ≠ nb + 1 by omega])) (src_built rfl (by simp [setHp])) (by simp [u8s]; omega) (by decide) ?_
    intro b1 hp2 nb2 c1 hg2 ha2 hc1 ho2
    have hax := after_trans (after_new hp1 (nb + 1) b [.pv (.int .u8 (u8 (((u8s m.data).length : Int) / 2 ^ 8))), .pv (.int .u8 (u8 (u8s m.data).length))] (pvs_ok [.int .u8 (u8 (((u8s m.data).length : Int) / 2 ^ 8)), .int .u8 (u8 (u8s m.data).length)])) ha2 (fun id h => .inl h)
    have hbo : ∀ id, ownOf b = some id → id < nb := fun id h => row_own hg.row h
    have hD2 : Row hp2 nb2 D (u8s m.data) := hD1.keep hax.1 (fun id hid ho => hax.2.1 id hid (hneD id ho))
    refine rd_val (v := .ptr nb 1 37) rfl (by simp [primA, evalF, upd, fa30_6]) (by decide) ?_
    refine rd_val (v := D) rfl (by simp only [primA, evalF, upd, Nat.reduceEqDiff, reduceIte, hldD (hax.2.1 nb (by omega) (fun h => by have := hbo nb h; omega)), Option.map_some]) (by decide) ?_
    refine rd_append (r := u8s m.data) st27 Try.underlying27 (v := b1) (by simp [evalF, upd]) (by simp only [evalF, upd, Nat.reduceEqDiff, reduceIte] <;> rfl) hg2 (row_src hD2) (by simp only [List.length_append, List.length_cons, List.length_nil, hDs]; simp [u8s]; omega) (by decide) ?_
    intro b2 hp3 nb3 c2 hg3 ha3 hc2 ho3
    refine rd_val (v := b2) rfl (by simp [primA, evalF, upd]) (by decide) ?_
    refine rd_val (v := .pv (.int .i64 0)) rfl (by simp [primA, evalF, upd, ofConst, ofCell]) (by decide) ?_
    refine rd_nil ⟨dyn_of rfl (fun p hp' => ?_), ?_⟩
    · have hp'' : p ∈ needs (regOf Try.f20 25) := hp'
      rw [dataNeeds] at hp''
      simp only [List.mem_cons, List.not_mem_nil, or_false] at hp''
      rcases hp'' with rfl | rfl | rfl | rfl | rfl | rfl | rfl | rfl | rfl <;> intro x y hx hy <;> cases hx <;> cases hy
      · exact heapPart_no rfl rfl
      · exact heapPart_no rfl rfl
      · exact heapPart_no rfl rfl
      · exact heapPart_no rfl rfl
      · exact heapPart_no rfl rfl
      · exact heapPart_no rfl rfl
      · exact heapPart_no rfl rfl
      · simp [heapPart, footF, Chg.isAll, Chg.ids, disjointL, looksIn, Op.operands, evalF, upd, idOf, heapful]
      · rcases hc1 with rfl | ⟨bb, rfl⟩ | ⟨id, bb, rfl, hid, _⟩
        · exact heapPart_no rfl rfl
        · simp [heapPart, footF, Chg.isAll, Chg.ids, disjointL, looksIn, Op.operands, evalF, upd, idOf, heapful]
          omega
        · have := hbo id hid
          simp [heapPart, footF, Chg.isAll, Chg.ids, disjointL, looksIn, Op.operands, evalF, upd, idOf, heapful]
          omega
    try simp only
    refine ex_ret ?_
    have ha4 := after_trans hax ha3 (fun id h => (ho2 id h).imp (fun h => h) (fun h => by omega))
    refine ⟨.tuple [b2, .pv (.int .i64 0)], by simp [resF, resOneF, upd], wr_ok ha0 ha4 (x := u8 ((m.data.length : Int) / 256) :: u8 m.data.length :: m.data) ?_ (fun id h => ?_) rfl ?_⟩
    · have e : u8s bs ++ u8s (u8 ((m.data.length : Int) / 256) :: u8 m.data.length :: m.data) = u8s bs ++ [.int .u8 (u8 (((u8s m.data).length : Int) / 2 ^ 8)), .int .u8 (u8 (u8s m.data).length)] ++ u8s m.data := by
        rw [hDs]
        simp [u8s]
      rw [e]; exact hg3
    · rcases ho3 id h with h | h
      · exact (ho2 id h).imp (fun h => h) (fun h => by omega)
      · have := hax.1; exact .inr (by omega)
    · rw [fieldE, if_neg (by omega)]
theorem field_7 (lim d : Nat) {hp : Hp} {nb : Nat} {b : AV} {bs : List Int} {m : M} {L D : AV} (hf : Fit m) (hg : Grow hp nb b (u8s bs)) (hbs : bs.length < 100000) (hL : Row hp nb L (ints m.list)) (hD : Row hp nb D (u8s m.data)) (hneL : ∀ id, ownOf L = some id → ownOf b ≠ some id) (hneD : ∀ id, ownOf D = some id → ownOf b ≠ some id) (hbn : bs ≠ []) (hlim : 10 < lim) :
    CA (callA Try.prog facts plains lim (d + 3)) 20 [b, .agg (mcells m L D), .pv (.int .i64 7)] hp nb (WrOk b bs (fieldE m 7) hp nb) := by
  have hk := hf.key
  refine ca_body (fn := Try.f20) (c := bodyOf Try.f20) Try.func20 rfl (by show 3 ≤ 125; omega) ?_
  show EX _ _ _ _ _ 125 _ _ _ _ _
  unfold bodyOf Try.f20
  refine ex_seq (ex_region ?_)
  refine ro_box (v := .agg (mcells m L D)) (by simp [evalF, argsF]) (mc_all (row_cell hL).1 (row_cell hD).1) (by decide) ?_
  refine ro_assign (by simp only [evalF, upd, arg0, argS, ofConst, ofCell, Nat.reduceEqDiff, reduceIte] <;> rfl) (by decide) ?_
  refine ro_assign (by simp only [evalF, upd, arg0, argS, ofConst, ofCell, Nat.reduceEqDiff, reduceIte] <;> rfl) (by decide) ?_
  refine ro_nil ?_
  try simp only
  have ha0 : After hp nb b (setHp hp nb (.cells 1 (mcells m L D))) (nb + 1) := after_new hp nb b _ (ok_cells (row_ok' hL) (row_ok' hD))
  have hl1 : AI.look (setHp hp nb (.cells 1 (mcells m L D))) nb 1 = some (mcells m L D) := look_same _ _ _ _
  have hkp : ∀ id, id < nb → setHp hp nb (.cells 1 (mcells m L D)) id = hp id := fun id hid => by simp [setHp, show id ≠ nb by omega]
  show EX _ _ _ _ _ 125 _ _ (setHp hp nb (.cells 1 (mcells m L D))) _ _
  generalize setHp hp nb (.cells 1 (mcells m L D)) = hp1 at ha0 hl1 hkp ⊢
  have hg1 : Grow hp1 (nb + 1) b (u8s bs) := hg.keep (Nat.le_succ _) (fun id hid _ => hkp id hid)
  have hL1 : Row hp1 (nb + 1) L (ints m.list) := hL.keep (Nat.le_succ _) (fun id hid _ => hkp id hid)
  have hD1 : Row hp1 (nb + 1) D (u8s m.data) := hD.keep (Nat.le_succ _) (fun id hid _ => hkp id hid)
  refine ex_seq ?_
  refine ex_seq (ex_region ?_)
  refine ro_move (by simp only [evalF, upd, arg0, argS, ofConst, ofCell, Nat.reduceEqDiff, reduceIte] <;> rfl) (by decide) ?_
  refine ro_nil ?_
  try simp only
  refine ex_block ?_
  refine ex_test_f (by simp only [evalF, upd, arg0, argS, ofConst, ofCell, Nat.reduceEqDiff, reduceIte] <;> rfl) (by omega) (by decide) (by decide) ?_
  refine ex_test_f (by simp only [evalF, upd, arg0, argS, ofConst, ofCell, Nat.reduceEqDiff, reduceIte] <;> rfl) (by omega) (by decide) (by decide) ?_
  refine ex_test_f (by simp only [evalF, upd, arg0, argS, ofConst, ofCell, Nat.reduceEqDiff, reduceIte] <;> rfl) (by omega) (by decide) (by decide) ?_
  refine ex_test_f (by simp only [evalF, upd, arg0, argS, ofConst, ofCell, Nat.reduceEqDiff, reduceIte] <;> rfl) (by omega) (by decide) (by decide) ?_
  refine ex_test_f (by simp only [evalF, upd, arg0, argS, ofConst, ofCell, Nat.reduceEqDiff, reduceIte] <;> rfl) (by omega) (by decide) (by decide) ?_
  refine ex_test_f (by simp only [evalF, upd, arg0, argS, ofConst, ofCell, Nat.reduceEqDiff, reduceIte] <;> rfl) (by omega) (by decide) (by decide) ?_
  refine ex_test_f (by simp only [evalF, upd, arg0, argS, ofConst, ofCell, Nat.reduceEqDiff, reduceIte] <;> rfl) (by omega) (by decide) (by decide) ?_
  refine ex_skip ?_
  try simp only
  by_cases hlo : m.lease < 1
  · refine ex_seq (ex_seq (ex_region ?_))
    refine ro_fieldAddr (by simp only [evalF, upd, arg0, argS, ofConst, ofCell, Nat.reduceEqDiff, reduceIte] <;> rfl) (by exact (fa30_7 _ _ _)) (by decide) ?_
    refine ro_load (by simp only [evalF, upd, arg0, argS, ofConst, ofCell, Nat.reduceEqDiff, reduceIte] <;> rfl) (by exact (load1 ag3 hl1 (by simpa using mc38 hk))) (by decide) ?_
    refine ro_bin (by simp only [evalF, upd, arg0, argS, ofConst, ofCell, Nat.reduceEqDiff, reduceIte] <;> rfl) (by simp only [evalF, upd, arg0, argS, ofConst, ofCell, Nat.reduceEqDiff, reduceIte] <;> rfl) (by exact (lss_t hlo)) (by decide) ?_
    refine ro_move (by simp only [evalF, upd, arg0, argS, ofConst, ofCell, Nat.reduceEqDiff, reduceIte] <;> rfl) (by decide) ?_
    refine ro_skip rfl (by simp only [evalF, upd, arg0, argS, ofConst, ofCell, Nat.reduceEqDiff, reduceIte] <;> rfl) rfl (fun e he => by cases he; decide) ?_
    simp only [putF]
    refine ro_skip rfl (by simp only [evalF, upd, arg0, argS, ofConst, ofCell, Nat.reduceEqDiff, reduceIte] <;> rfl) rfl (fun e he => by cases he; decide) ?_
    simp only [putF]
    refine ro_skip rfl (by simp only [evalF, upd, arg0, argS, ofConst, ofCell, Nat.reduceEqDiff, reduceIte] <;> rfl) rfl (fun e he => by cases he; decide) ?_
    simp only [putF]
    refine ro_pick (by simp only [evalF, upd, arg0, argS, ofConst, ofCell, Nat.reduceEqDiff, reduceIte] <;> rfl) (by simp only [evalF, upd, arg0, argS, ofConst, ofCell, Nat.reduceEqDiff, reduceIte] <;> rfl) (by simp only [evalF, upd, arg0, argS, ofConst, ofCell, Nat.reduceEqDiff, reduceIte] <;> rfl) (by decide) ?_
    refine ro_nil ?_
    try simp only
    refine ex_cond (t := true) (by simp only [evalF, upd, arg0, argS, ofConst, ofCell, Nat.reduceEqDiff, reduceIte] <;> rfl) (fun _ => ?_) (fun h => by simp at h)
    refine ex_seq (ex_region ?_)
    refine ro_assign (by simp only [evalF, upd, arg0, argS, ofConst, ofCell, Nat.reduceEqDiff, reduceIte] <;> rfl) (by decide) ?_
    refine ro_assign (by simp only [evalF, upd, arg0, argS, ofConst, ofCell, Nat.reduceEqDiff, reduceIte] <;> rfl) (by decide) ?_
    refine ro_nil ?_
    try simp only
    refine ex_ret ?_
    refine ⟨.tuple [.pv .nilSlice, .pv (.int .i64 1)], rfl, ha0, ?_⟩
    rw [fieldE_7, if_pos (.inl hlo)]
  · refine ex_seq (ex_seq (ex_region ?_))
    refine ro_fieldAddr (by simp only [evalF, upd, arg0, argS, ofConst, ofCell, Nat.reduceEqDiff, reduceIte] <;> rfl) (by exact (fa30_7 _ _ _)) (by decide) ?_
    refine ro_load (by simp only [evalF, upd, arg0, argS, ofConst, ofCell, Nat.reduceEqDiff, reduceIte] <;> rfl) (by exact (load1 ag3 hl1 (by simpa using mc38 hk))) (by decide) ?_
    refine ro_bin (by simp only [evalF, upd, arg0, argS, ofConst, ofCell, Nat.reduceEqDiff, reduceIte] <;> rfl) (by simp only [evalF, upd, arg0, argS, ofConst, ofCell, Nat.reduceEqDiff, reduceIte] <;> rfl) (by exact (lss_f hlo)) (by decide) ?_
    refine ro_move (by simp only [evalF, upd, arg0, argS, ofConst, ofCell, Nat.reduceEqDiff, reduceIte] <;> rfl) (by decide) ?_
    refine ro_guard rfl (by simp only [evalF, upd, arg0, argS, ofConst, ofCell, Nat.reduceEqDiff, reduceIte] <;> rfl) rfl ?_
    refine ro_fieldAddr (by simp only [evalF, upd, arg0, argS, ofConst, ofCell, Nat.reduceEqDiff, reduceIte] <;> rfl) (by exact (fa30_7 _ _ _)) (by decide) ?_
    refine ro_guard rfl (by simp only [evalF, upd, arg0, argS, ofConst, ofCell, Nat.reduceEqDiff, reduceIte] <;> rfl) rfl ?_
    refine ro_load (by simp only [evalF, upd, arg0, argS, ofConst, ofCell, Nat.reduceEqDiff, reduceIte] <;> rfl) (by exact (load1 ag3 hl1 (by simpa using mc38 hk))) (by decide) ?_
    refine ro_guard rfl (by simp only [evalF, upd, arg0, argS, ofConst, ofCell, Nat.reduceEqDiff, reduceIte] <;> rfl) rfl ?_
    refine ro_bin (by simp only [evalF, upd, arg0, argS, ofConst, ofCell, Nat.reduceEqDiff, reduceIte] <;> rfl) (by simp only [evalF, upd, arg0, argS, ofConst, ofCell, Nat.reduceEqDiff, reduceIte] <;> rfl) (by exact (gtr_v)) (by decide) ?_
    refine ro_pick (by simp only [evalF, upd, arg0, argS, ofConst, ofCell, Nat.reduceEqDiff, reduceIte] <;> rfl) (by simp only [evalF, upd, arg0, argS, ofConst, ofCell, Nat.reduceEqDiff, reduceIte] <;> rfl) (by simp only [evalF, upd, arg0, argS, ofConst, ofCell, Nat.reduceEqDiff, reduceIte] <;> rfl) (by decide) ?_
    refine ro_nil ?_
    try simp only
    refine ex_cond (t := decide (m.lease > 1000)) (by simp only [evalF, upd, arg0, argS, ofConst, ofCell, Nat.reduceEqDiff, reduceIte] <;> rfl) (fun hhi => ?_) (fun hhi => ?_)
    · refine ex_seq (ex_region ?_)
      refine ro_assign (by simp only [evalF, upd, arg0, argS, ofConst, ofCell, Nat.reduceEqDiff, reduceIte] <;> rfl) (by decide) ?_
      refine ro_assign (by simp only [evalF, upd, arg0, argS, ofConst, ofCell, Nat.reduceEqDiff, reduceIte] <;> rfl) (by decide) ?_
      refine ro_nil ?_
      try simp only
      refine ex_ret ?_
      refine ⟨.tuple [.pv .nilSlice, .pv (.int .i64 1)], rfl, ha0, ?_⟩
      rw [fieldE_7, if_pos (.inr (of_decide_eq_true hhi))]
    · refine ex_skip ?_
      try simp only
      have hhi' : ¬ m.lease > 1000 := of_decide_eq_false hhi
      refine ex_seq (ex_region ?_)
      refine ro_move (by simp only [evalF, upd, arg0, argS, ofConst, ofCell, Nat.reduceEqDiff, reduceIte] <;> rfl) (by decide) ?_
      refine ro_fieldAddr (by simp only [evalF, upd, arg0, argS, ofConst, ofCell, Nat.reduceEqDiff, reduceIte] <;> rfl) (by exact (fa30_7 _ _ _)) (by decide) ?_
      refine ro_load (by simp only [evalF, upd, arg0, argS, ofConst, ofCell, Nat.reduceEqDiff, reduceIte] <;> rfl) (by exact (load1 ag3 hl1 (by simpa using mc38 hk))) (by decide) ?_
      refine ro_bin (by simp only [evalF, upd, arg0, argS, ofConst, ofCell, Nat.reduceEqDiff, reduceIte] <;> rfl) (by simp only [evalF, upd, arg0, argS, ofConst, ofCell, Nat.reduceEqDiff, reduceIte] <;> rfl) (by exact (shr_v 24 (by omega))) (by decide) ?_
      refine ro_conv (by simp only [evalF, upd, arg0, argS, ofConst, ofCell, Nat.reduceEqDiff, reduceIte] <;> rfl) (by exact (conv_u8 _ _)) (by decide) ?_
      refine ro_fieldAddr (by simp only [evalF, upd, arg0, argS, ofConst, ofCell, Nat.reduceEqDiff, reduceIte] <;> rfl) (by exact (fa30_7 _ _ _)) (by decide) ?_
      refine ro_load (by simp only [evalF, upd, arg0, argS, ofConst, ofCell, Nat.reduceEqDiff, reduceIte] <;> rfl) (by exact (load1 ag3 hl1 (by simpa using mc38 hk))) (by decide) ?_
      refine ro_bin (by simp only [evalF, upd, arg0, argS, ofConst, ofCell, Nat.reduceEqDiff, reduceIte] <;> rfl) (by simp only [evalF, upd, arg0, argS, ofConst, ofCell, Nat.reduceEqDiff, reduceIte] <;> rfl) (by exact (shr_v 16 (by omega))) (by decide) ?_
      refine ro_conv (by simp only [evalF, upd, arg0, argS, ofConst, ofCell, Nat.reduceEqDiff, reduceIte] <;> rfl) (by exact (conv_u8 _ _)) (by decide) ?_
      refine ro_fieldAddr (by simp only [evalF, upd, arg0, argS, ofConst, ofCell, Nat.reduceEqDiff, reduceIte] <;> rfl) (by exact (fa30_7 _ _ _)) (by decide) ?_
      refine ro_load (by simp only [evalF, upd, arg0, argS, ofConst, ofCell, Nat.reduceEqDiff, reduceIte] <;> rfl) (by exact (load1 ag3 hl1 (by simpa using mc38 hk))) (by decide) ?_
      refine ro_bin (by simp only [evalF, upd, arg0, argS, ofConst, ofCell, Nat.reduceEqDiff, reduceIte] <;> rfl) (by simp only [evalF, upd, arg0, argS, ofConst, ofCell, Nat.reduceEqDiff, reduceIte] <;> rfl) (by exact (shr_v 8 (by omega))) (by decide) ?_
      refine ro_conv (by simp only [evalF, upd, arg0, argS, ofConst, ofCell, Nat.reduceEqDiff, reduceIte] <;> rfl) (by exact (conv_u8 _ _)) (by decide) ?_
      refine ro_fieldAddr (by simp only [evalF, upd, arg0, argS, ofConst, ofCell, Nat.reduceEqDiff, reduceIte] <;> rfl) (by exact (fa30_7 _ _ _)) (by decide) ?_
      refine ro_load (by simp only [evalF, upd, arg0, argS, ofConst, ofCell, Nat.reduceEqDiff, reduceIte] <;> rfl) (by exact (load1 ag3 hl1 (by simpa using mc38 hk))) (by decide) ?_
      refine ro_conv (by simp only [evalF, upd, arg0, argS, ofConst, ofCell, Nat.reduceEqDiff, reduceIte] <;> rfl) (by exact (conv_u8 _ _)) (by decide) ?_
      refine ro_buildSlice rfl (by simp only [List.map_cons, List.map_nil, evalF, upd, ofConst, ofCell, Nat.reduceEqDiff, reduceIte]; exact bs27_4 _ _ _ _ _) (by decide) ?_
      refine ro_append (r := [.int .u8 (u8 (m.lease / 2 ^ 24)), .int .u8 (u8 (m.lease / 2 ^ 16)), .int .u8 (u8 (m.lease / 2 ^ 8)), .int .u8 (u8 m.lease)]) st27 Try.underlying27 (by simp only [evalF, upd, arg0, argS, ofConst, ofCell, Nat.reduceEqDiff, reduceIte] <;> rfl) (by simp only [evalF, upd, arg0, argS, ofConst, ofCell, Nat.reduceEqDiff, reduceIte] <;> rfl) (hg1.keep (Nat.le_succ _) (fun id hid _ => by simp [setHp, show id ≠ nb + 1 by omega])) (src_built rfl (by simp [setHp])) (by simp [u8s]; omega) (by decide) ?_
      intro b' hp' nb' hg' ha' ho'
      refine ro_assign (by simp only [evalF, upd, arg0, argS, ofConst, ofCell, Nat.reduceEqDiff, reduceIte] <;> rfl) (by decide) ?_
      refine ro_assign (by simp only [evalF, upd, arg0, argS, ofConst, ofCell, Nat.reduceEqDiff, reduceIte] <;> rfl) (by decide) ?_
      refine ro_nil ?_
      try simp only
      refine ex_ret ?_
      refine ⟨.tuple [b', .pv (.int .i64 0)], by simp [resF, resOneF, upd], wr_ok ha0 (after_trans (after_new hp1 (nb + 1) b [.pv (.int .u8 (u8 (m.lease / 2 ^ 24))), .pv (.int .u8 (u8 (m.lease / 2 ^ 16))), .pv (.int .u8 (u8 (m.lease / 2 ^ 8))), .pv (.int .u8 (u8 m.lease))] (pvs_ok [.int .u8 (u8 (m.lease / 2 ^ 24)), .int .u8 (u8 (m.lease / 2 ^ 16)), .int .u8 (u8 (m.lease / 2 ^ 8)), .int .u8 (u8 m.lease)])) ha' (fun id h => .inl h)) (x := [u8 (m.lease / 16777216), u8 (m.lease / 65536), u8 (m.lease / 256), u8 m.lease]) (by simpa [u8s] using hg') (fun id h => (ho' id h).imp (fun h => h) (fun h => by omega)) rfl ?_⟩
      rw [fieldE_7, if_neg (by omega)]
end Go.Proofs.Ytlinbbjobjnipaa

set_option linter.unusedVariables false
set_option linter.unusedSimpArgs false
set_option linter.unusedSectionVars false
namespace Go.Proofs.Ytlinbbjobjnipaa
open Go AI
set_option maxHeartbeats 4000000
set_option maxRecDepth 10000
theorem field_calls (lim d : Nat) {hp : Hp} {nb : Nat} {b : AV} {bs : List Int} {m : M} {L D : AV} (f : Nat) (hf8 : f < 8) (hf : Fit m) (hg : Grow hp nb b (u8s bs)) (hbs : bs.length < 100000) (hL : Row hp nb L (ints m.list)) (hD : Row hp nb D (u8s m.data)) (hneL : ∀ id, ownOf L = some id → ownOf b ≠ some id) (hneD : ∀ id, ownOf D = some id → ownOf b ≠ some id) (hbn : bs ≠ []) (hlim : 10 < lim) :
    CA (callA Try.prog facts plains lim (d + 3)) 20 [b, .agg (mcells m L D), .pv (.int .i64 f)] hp nb (WrOk b bs (fieldE m f) hp nb) := by
  have h8 : f = 0 ∨ f = 1 ∨ f = 2 ∨ f = 3 ∨ f = 4 ∨ f = 5 ∨ f = 6 ∨ f = 7 := by omega
  rcases h8 with rfl | rfl | rfl | rfl | rfl | rfl | rfl | rfl
  · exact field_0 lim d hf hg hbs hL hD hneL hneD hbn hlim
  · exact field_1 lim d hf hg hbs hL hD hneL hneD hbn hlim
  · exact field_2 lim d hf hg hbs hL hD hneL hneD hbn hlim
  · exact field_3 lim d hf hg hbs hL hD hneL hneD hbn hlim
  · exact field_4 lim d hf hg hbs hL hD hneL hneD hbn hlim
  · exact field_5 lim d hf hg hbs hL hD hneL hneD hbn hlim
  · exact field_6 lim d hf hg hbs hL hD hneL hneD hbn hlim
  · exact field_7 lim d hf hg hbs hL hD hneL hneD hbn hlim
theorem fieldE_len {m : M} (hk : m.key.length = 32) {f : Nat} {r : List Int} (h : fieldE m f = .ok r) : r.length ≤ 6100 := by
  unfold fieldE at h
  split at h
  · split at h
    · simp at h
    · simp only [Except.ok.injEq] at h; subst h; simp
  · split at h
    · simp at h
    · simp only [Except.ok.injEq] at h; subst h; simp
  · split at h
    · simp at h
    · split at h
      · simp only [Except.ok.injEq] at h; subst h; simp; omega
      · simp at h
  · simp only [Except.ok.injEq] at h; subst h; simp
  · split at h
    · simp at h
    · simp only [Except.ok.injEq] at h; subst h; simp
  · simp only [Except.ok.injEq] at h; subst h; omega
  · split at h
    · simp at h
    · simp only [Except.ok.injEq] at h; subst h; simp; omega
  · split at h
    · simp at h
    · simp only [Except.ok.injEq] at h; subst h; simp
theorem row_small {k : Int} {fs : List Nat} (h : rowOf k = some fs) : (∀ g ∈ fs, g < 8) ∧ fs.length ≤ 4 := by
  by_cases hk : 1 ≤ k ∧ k ≤ 12
  · have : k = 1 ∨ k = 2 ∨ k = 3 ∨ k = 4 ∨ k = 5 ∨ k = 6 ∨ k = 7 ∨ k = 8 ∨ k = 9 ∨ k = 10 ∨ k = 11 ∨ k = 12 := by omega
    rcases this with rfl | rfl | rfl | rfl | rfl | rfl | rfl | rfl | rfl | rfl | rfl | rfl <;> simp [rowOf] at h <;> subst h <;> simp
  · exfalso
    unfold rowOf at h
    rw [if_neg (by omega), if_neg (by omega), if_neg (by omega), if_neg (by omega), if_neg (by omega), if_neg (by omega), if_neg (by omega), if_neg (by omega), if_neg (by omega), if_neg (by omega), if_neg (by omega), if_neg (by omega)] at h
    simp at h
theorem rowV_some {k : Int} {fs : List Nat} (h : rowOf k = some fs) : ∃ lv, rowV k = .tuple [lv, .pv (.bool true)] ∧ ∀ hp nb, Row hp nb lv (ints (fs.map Int.ofNat)) := by
  unfold rowV
  rw [h]
  cases fs with
  | nil => exact ⟨_, rfl, fun hp nb => .nil⟩
  | cons f fs => exact ⟨_, rfl, fun hp nb => .ros _ _ (by simp [ints])⟩
/-- What writing a message gives. -/
def EncOk (m : M) (hp : Hp) (nb : Nat) (v : AV) (hp' : Hp) (nb' : Nat) : Prop :=
  After hp nb (.pv .nilSlice) hp' nb' ∧ match enc m with
    | .ok x => ∃ b', v = .tuple [b', .pv (.int .i64 0)] ∧ Grow hp' nb' b' (u8s x) ∧ (∀ id, ownOf b' = some id → nb ≤ id)
    | .error e => v = .tuple [.pv .nilSlice, .pv (.int .i64 e)]
theorem after_nil {hp hp1 hp2 : Hp} {nb nb1 nb2 : Nat} {v : AV} (a : After hp nb (.pv .nilSlice) hp1 nb1) (b : After hp1 nb1 v hp2 nb2) (ho : ∀ id, ownOf v = some id → nb ≤ id) : After hp nb (.pv .nilSlice) hp2 nb2 :=
  after_trans a b (fun id h => .inr (ho id h))
theorem errs_ne {m : M} {f : Nat} {e : Int} (h : fieldE m f = .error e) : e ≠ 0 := by
  unfold fieldE at h
  split at h
  · split at h <;> simp at h; omega
  · split at h <;> simp at h; omega
  · split at h
    · simp at h; omega
    · split at h <;> simp at h; omega
  · simp at h
  · split at h <;> simp at h; omega
  · simp at h
  · split at h <;> simp at h; omega
  · split at h <;> simp at h; omega
theorem encode_calls (lim d : Nat) {hp : Hp} {nb : Nat} {m : M} {L D : AV} (hf : Fit m) (hL : Row hp nb L (ints m.list)) (hD : Row hp nb D (u8s m.data)) (hlim : 10 < lim) :
    CA (callA Try.prog facts plains lim (d + 4)) 11 [.agg (mcells m L D)] hp nb (EncOk m hp nb) := by
  have hk := hf.key
  refine ca_body (fn := Try.f11) (c := bodyOf Try.f11) Try.func11 rfl (by show 1 ≤ 40; omega) ?_
  show EX _ _ _ _ _ 40 _ _ _ _ _
  unfold bodyOf Try.f11
  refine ex_seq (ex_region ?_)
  refine ro_box (v := .agg (mcells m L D)) (by simp [evalF, argsF]) (mc_all (row_cell hL).1 (row_cell hD).1) (by decide) ?_
  refine ro_assign (by simp only [evalF, upd, arg0, argS, ofConst, ofCell, Nat.reduceEqDiff, reduceIte] <;> rfl) (by decide) ?_
  refine ro_assign (by simp only [evalF, upd, arg0, argS, ofConst, ofCell, Nat.reduceEqDiff, reduceIte] <;> rfl) (by decide) ?_
  refine ro_nil ?_
  try simp only
  have ha0 : After hp nb (.pv .nilSlice) (setHp hp nb (.cells 1 (mcells m L D))) (nb + 1) := after_new hp nb _ _ (ok_cells (row_ok' hL) (row_ok' hD))
  have hl1 : AI.look (setHp hp nb (.cells 1 (mcells m L D))) nb 1 = some (mcells m L D) := look_same _ _ _ _
  show EX _ _ _ _ _ 40 _ _ (setHp hp nb (.cells 1 (mcells m L D))) _ _
  generalize setHp hp nb (.cells 1 (mcells m L D)) = hp1 at ha0 hl1 ⊢
  have hnil : ∀ id, ownOf (.pv .nilSlice) ≠ some id := fun id h => by simp [ownOf] at h
  cases hr : rowOf m.kind with
  | none =>
    refine ex_seq (ex_region ?_)
    refine ro_fieldAddr (by simp only [evalF, upd, arg0, argS, ofConst, ofCell, Nat.reduceEqDiff, reduceIte] <;> rfl) (by exact (fa30_0 _ _ _)) (by decide) ?_
    refine ro_load (by simp only [evalF, upd, arg0, argS, ofConst, ofCell, Nat.reduceEqDiff, reduceIte] <;> rfl) (by exact (load1 ag3 hl1 mc0)) (by decide) ?_
    refine ro_pure (f := 19) («as» := [.pv (.int .i64 m.kind)]) (v := .tuple [.pv .nilSlice, .pv (.bool false)]) rfl (by simp [evalF, upd]) rfl (by
      unfold orS facts
      have := row_calls lim (d + 2) m.kind hp1
      unfold rowV at this
      rw [hr] at this
      exact this) (by decide) ?_
    refine ro_move (by simp only [evalF, upd, arg0, argS, ofConst, ofCell, Nat.reduceEqDiff, reduceIte] <;> rfl) (by decide) ?_
    refine ro_extract (by simp only [evalF, upd, arg0, argS, ofConst, ofCell, Nat.reduceEqDiff, reduceIte] <;> rfl) (by exact (rfl)) (by decide) ?_
    refine ro_extract (by simp only [evalF, upd, arg0, argS, ofConst, ofCell, Nat.reduceEqDiff, reduceIte] <;> rfl) (by exact (rfl)) (by decide) ?_
    refine ro_assign (by simp only [evalF, upd, arg0, argS, ofConst, ofCell, Nat.reduceEqDiff, reduceIte] <;> rfl) (by decide) ?_
    refine ro_assign (by simp only [evalF, upd, arg0, argS, ofConst, ofCell, Nat.reduceEqDiff, reduceIte] <;> rfl) (by decide) ?_
    refine ro_nil ?_
    try simp only
    refine ex_seq (ex_seq (ex_region ?_))
    refine ro_move (by simp only [evalF, upd, arg0, argS, ofConst, ofCell, Nat.reduceEqDiff, reduceIte] <;> rfl) (by decide) ?_
    refine ro_un (by simp only [evalF, upd, arg0, argS, ofConst, ofCell, Nat.reduceEqDiff, reduceIte] <;> rfl) (by exact (show unOpA .not (.pv (.bool false)) = some (.pv (.bool true)) from rfl)) (by decide) ?_
    refine ro_nil ?_
    try simp only
    refine ex_cond (t := true) (by simp only [evalF, upd, arg0, argS, ofConst, ofCell, Nat.reduceEqDiff, reduceIte] <;> rfl) (fun _ => ?_) (fun h => by simp at h)
    refine ex_seq (ex_region ?_)
    refine ro_assign (by simp only [evalF, upd, arg0, argS, ofConst, ofCell, Nat.reduceEqDiff, reduceIte] <;> rfl) (by decide) ?_
    refine ro_assign (by simp only [evalF, upd, arg0, argS, ofConst, ofCell, Nat.reduceEqDiff, reduceIte] <;> rfl) (by decide) ?_
    refine ro_nil ?_
    try simp only
    refine ex_ret ?_
    refine ⟨.tuple [.pv .nilSlice, .pv (.int .i64 3)], rfl, ha0, ?_⟩
    unfold enc
    rw [hr]
  | some fs =>
    obtain ⟨hfs8, hfs4⟩ := row_small hr
    obtain ⟨lv, hlv, hlr⟩ := rowV_some hr
    refine ex_seq (ex_region ?_)
    refine ro_fieldAddr (by simp only [evalF, upd, arg0, argS, ofConst, ofCell, Nat.reduceEqDiff, reduceIte] <;> rfl) (by exact (fa30_0 _ _ _)) (by decide) ?_
    refine ro_load (by simp only [evalF, upd, arg0, argS, ofConst, ofCell, Nat.reduceEqDiff, reduceIte] <;> rfl) (by exact (load1 ag3 hl1 mc0)) (by decide) ?_
    refine ro_pure (f := 19) («as» := [.pv (.int .i64 m.kind)]) (v := .tuple [lv, .pv (.bool true)]) rfl (by simp [evalF, upd]) rfl (by
      unfold orS facts
      have := row_calls lim (d + 2) m.kind hp1
      rw [hlv] at this
      exact this) (by decide) ?_
    refine ro_move (by simp only [evalF, upd, arg0, argS, ofConst, ofCell, Nat.reduceEqDiff, reduceIte] <;> rfl) (by decide) ?_
    refine ro_extract (by simp only [evalF, upd, arg0, argS, ofConst, ofCell, Nat.reduceEqDiff, reduceIte] <;> rfl) (by exact (rfl)) (by decide) ?_
    refine ro_extract (by simp only [evalF, upd, arg0, argS, ofConst, ofCell, Nat.reduceEqDiff, reduceIte] <;> rfl) (by exact (rfl)) (by decide) ?_
    refine ro_assign (by simp only [evalF, upd, arg0, argS, ofConst, ofCell, Nat.reduceEqDiff, reduceIte] <;> rfl) (by decide) ?_
    refine ro_assign (by simp only [evalF, upd, arg0, argS, ofConst, ofCell, Nat.reduceEqDiff, reduceIte] <;> rfl) (by decide) ?_
    refine ro_nil ?_
    try simp only
    refine ex_seq (ex_seq (ex_region ?_))
    refine ro_move (by simp only [evalF, upd, arg0, argS, ofConst, ofCell, Nat.reduceEqDiff, reduceIte] <;> rfl) (by decide) ?_
    refine ro_un (by simp only [evalF, upd, arg0, argS, ofConst, ofCell, Nat.reduceEqDiff, reduceIte] <;> rfl) (by exact (show unOpA .not (.pv (.bool true)) = some (.pv (.bool false)) from rfl)) (by decide) ?_
    refine ro_nil ?_
    try simp only
    refine ex_cond (t := false) (by simp only [evalF, upd, arg0, argS, ofConst, ofCell, Nat.reduceEqDiff, reduceIte] <;> rfl) (fun h => by simp at h) (fun _ => ex_skip ?_)
    try simp only
    refine ex_seq (ex_region ?_)
    refine ro_fieldAddr (by simp only [evalF, upd, arg0, argS, ofConst, ofCell, Nat.reduceEqDiff, reduceIte] <;> rfl) (by exact (fa30_0 _ _ _)) (by decide) ?_
    refine ro_load (by simp only [evalF, upd, arg0, argS, ofConst, ofCell, Nat.reduceEqDiff, reduceIte] <;> rfl) (by exact (load1 ag3 hl1 mc0)) (by decide) ?_
    refine ro_conv (by simp only [evalF, upd, arg0, argS, ofConst, ofCell, Nat.reduceEqDiff, reduceIte] <;> rfl) (by exact (conv_u8 _ _)) (by decide) ?_
    refine ro_buildSlice rfl (by simp only [List.map_cons, List.map_nil, evalF, upd, Nat.reduceEqDiff, reduceIte]; exact bs27_1 _ _) (by decide) ?_
    refine ro_assign (by simp only [evalF, upd, arg0, argS, ofConst, ofCell, Nat.reduceEqDiff, reduceIte] <;> rfl) (by decide) ?_
    refine ro_nil ?_
    try simp only
    have hax1 : After hp1 (nb + 1) (.pv .nilSlice) (setHp hp1 (nb + 1) (.cells 1 [.pv (.int .u8 (u8 m.kind))])) (nb + 1 + 1) := after_new hp1 (nb + 1) _ _ (pvs_ok [.int .u8 (u8 m.kind)])
    have hg1 : Grow (setHp hp1 (nb + 1) (.cells 1 [.pv (.int .u8 (u8 m.kind))])) (nb + 1 + 1) (.slice (nb + 1) 1 0 1 1 1 true) (u8s [u8 m.kind]) := .own _ _ _ _ _ rfl (by omega) (by simp [setHp, u8s])
    have hl2 : AI.look (setHp hp1 (nb + 1) (.cells 1 [.pv (.int .u8 (u8 m.kind))])) nb 1 = some (mcells m L D) := by rw [look_ne _ _ _ (by omega)]; exact hl1
    generalize setHp hp1 (nb + 1) (.cells 1 [.pv (.int .u8 (u8 m.kind))]) = hp2 at hax1 hg1 hl2 ⊢
    have ha2 := after_nil ha0 hax1 (fun id h => by simp [ownOf] at h)
    refine ex_seq ?_
    refine ex_seq (ex_region ?_)
    refine ro_move (by simp only [evalF, upd, arg0, argS, ofConst, ofCell, Nat.reduceEqDiff, reduceIte] <;> rfl) (by decide) ?_
    refine ro_builtin rfl (by simp only [List.map_cons, List.map_nil, evalF, upd, arg0, argS, ofConst, ofCell, Nat.reduceEqDiff, reduceIte] <;> rfl) (by exact (row_len st24 (hlr hp2 (nb + 1 + 1)))) (by decide) ?_
    refine ro_move (by simp only [evalF, upd, arg0, argS, ofConst, ofCell, Nat.reduceEqDiff, reduceIte] <;> rfl) (by decide) ?_
    refine ro_nil ?_
    try simp only
    have henc : enc m = fieldsE m fs [u8 m.kind] := by unfold enc; rw [hr]
    refine ex_block (ex_loop (I := fun k g hpx nbx => ∃ (i : Nat) (b : AV) (bs : List Int), k = fs.length - i ∧ i ≤ fs.length ∧ g 1 = .ptr nb 1 0 ∧ g 6 = b ∧ g 22 = lv ∧ g 23 = .pv (.int .i64 fs.length) ∧ g 24 = .pv (.int .i64 i) ∧
      Grow hpx nbx b (u8s bs) ∧ (∀ id, ownOf b = some id → nb + 1 ≤ id) ∧ bs ≠ [] ∧ bs.length ≤ 1 + i * 6100 ∧ enc m = fieldsE m (fs.drop i) bs ∧ AI.look hpx nb 1 = some (mcells m L D) ∧ After hp nb (.pv .nilSlice) hpx nbx ∧ nb + 1 < nbx)
      (m := fs.length) ⟨0, _, [u8 m.kind], rfl, Nat.zero_le _, by simp [upd], by simp only [upd, Nat.reduceEqDiff, reduceIte] <;> rfl, by simp [upd], by simp [upd, ints], by simp [upd], hg1, fun id h => by simp [ownOf] at h; omega, by simp, by simp, henc, hl2, ha2, by omega⟩ (by omega) ?_)
    rintro k g hpx nbx ⟨i, b, bs, hkk, hi, h1, h6, h22, h23, h24, hg, hob, hbn, hbl, hen, hlx, hax, hnb⟩
    refine ex_seq (ex_region ?_)
    refine ro_bin (by simp only [evalF, upd, arg0, argS, ofConst, ofCell, Nat.reduceEqDiff, reduceIte, h1, h6, h22, h23, h24] <;> rfl) (by simp only [evalF, upd, arg0, argS, ofConst, ofCell, Nat.reduceEqDiff, reduceIte, h1, h6, h22, h23, h24] <;> rfl) (by exact (lss_v)) (by decide) ?_
    refine ro_nil ?_
    try simp only
    refine ex_seq (ex_cond (t := decide ((i : Int) < fs.length)) (by simp only [evalF, upd, arg0, argS, ofConst, ofCell, Nat.reduceEqDiff, reduceIte, h1, h6, h22, h23, h24] <;> rfl) (fun ht => ?_) (fun ht => ?_))
    rotate_left
    · have hie : i = fs.length := by
        have := of_decide_eq_false ht
        omega
      refine ex_exit ?_
      simp only [if_true]
      refine ex_seq (ex_region ?_)
      refine ro_move (by simp only [evalF, upd, arg0, argS, ofConst, ofCell, Nat.reduceEqDiff, reduceIte, h1, h6, h22, h23, h24] <;> rfl) (by decide) ?_
      refine ro_assign (by simp only [evalF, upd, arg0, argS, ofConst, ofCell, Nat.reduceEqDiff, reduceIte, h1, h6, h22, h23, h24] <;> rfl) (by decide) ?_
      refine ro_assign (by simp only [evalF, upd, arg0, argS, ofConst, ofCell, Nat.reduceEqDiff, reduceIte, h1, h6, h22, h23, h24] <;> rfl) (by decide) ?_
      refine ro_nil ?_
      try simp only
      refine ex_ret ?_
      refine ⟨.tuple [b, .pv (.int .i64 0)], by simp [resF, resOneF, upd, h6], hax, ?_⟩
      rw [hen, hie, List.drop_length]
      exact ⟨b, rfl, hg, fun id h => by have := hob id h; omega⟩
    refine ex_skip ?_
    try simp only
    have hil : i < fs.length := by
      have := of_decide_eq_true ht
      omega
    have hgi : (ints (fs.map Int.ofNat))[i]? = some (.int .i64 (fs[i] : Nat)) := by
      unfold ints
      rw [List.getElem?_map, List.getElem?_map, List.getElem?_eq_getElem hil]
      rfl
    obtain ⟨a, ha, hla⟩ := row_at st24 (hlr hpx nbx) hgi
    refine ex_seq (ex_block ?_)
    refine ex_seq (ex_region ?_)
    refine ro_indexAddr (by simp only [evalF, upd, arg0, argS, ofConst, ofCell, Nat.reduceEqDiff, reduceIte, h1, h6, h22, h23, h24] <;> rfl) (by simp only [evalF, upd, arg0, argS, ofConst, ofCell, Nat.reduceEqDiff, reduceIte, h1, h6, h22, h23, h24] <;> rfl) (by exact (ha)) (by decide) ?_
    refine ro_load (by simp only [evalF, upd, arg0, argS, ofConst, ofCell, Nat.reduceEqDiff, reduceIte, h1, h6, h22, h23, h24] <;> rfl) (by exact (hla)) (by decide) ?_
    refine ro_assign (by simp only [evalF, upd, arg0, argS, ofConst, ofCell, Nat.reduceEqDiff, reduceIte, h1, h6, h22, h23, h24] <;> rfl) (by decide) ?_
    refine ro_nil ?_
    try simp only
    refine ex_seq (ex_region ?_)
    refine ro_assign (by simp only [evalF, upd, arg0, argS, ofConst, ofCell, Nat.reduceEqDiff, reduceIte, h1, h6, h22, h23, h24] <;> rfl) (by decide) ?_
    refine ro_nil ?_
    try simp only
    have hLx : Row hpx nbx L (ints m.list) := hL.keep hax.1 (fun id hid _ => hax.2.1 id hid (hnil id))
    have hDx : Row hpx nbx D (u8s m.data) := hD.keep hax.1 (fun id hid _ => hax.2.1 id hid (hnil id))
    have hneL : ∀ id, ownOf L = some id → ownOf b ≠ some id := fun id ho h => by have := row_own hL ho; have := hob id h; omega
    have hneD : ∀ id, ownOf D = some id → ownOf b ≠ some id := fun id ho h => by have := row_own hD ho; have := hob id h; omega
    refine ex_seq (ex_region ?_)
    refine ro_move (by simp only [evalF, upd, arg0, argS, ofConst, ofCell, Nat.reduceEqDiff, reduceIte, h1, h6, h22, h23, h24] <;> rfl) (by decide) ?_
    refine ro_load (v := .agg (mcells m L D)) (by simp only [evalF, upd, arg0, argS, ofConst, ofCell, Nat.reduceEqDiff, reduceIte, h1, h6, h22, h23, h24] <;> rfl) (by rw [loadN ag30 sz30 hlx (by rw [mc_length hk]; omega), List.drop_zero, List.take_of_length_le (by rw [mc_length hk]; omega)]) (by decide) ?_
    refine ro_move (by simp only [evalF, upd, arg0, argS, ofConst, ofCell, Nat.reduceEqDiff, reduceIte, h1, h6, h22, h23, h24] <;> rfl) (by decide) ?_
    refine ro_call (f := 20) («as» := [b, .agg (mcells m L D), .pv (.int .i64 (fs[i] : Nat))]) rfl (by simp only [List.map_cons, List.map_nil, evalF, upd, Nat.reduceEqDiff, reduceIte, h6]) rfl (by simp only [List.all_cons, grow_plain hg (by simpa [u8s] using hbn), Bool.false_and]) (field_calls lim d fs[i] (hfs8 _ (List.getElem_mem hil)) hf hg (by omega) hLx hDx hneL hneD hbn hlim) (by decide) ?_
    rintro v hpy nby ⟨hay, hres⟩
    have hdrop : fs.drop i = fs[i] :: fs.drop (i + 1) := List.drop_eq_getElem_cons hil
    have hax2 := after_nil hax hay (fun id h => by have := hob id h; omega)
    cases hE : fieldE m fs[i] with
    | ok r =>
      rw [hE] at hres
      obtain ⟨b', rfl, hgb, hob'⟩ := hres
      have hlen := fieldE_len hk hE
      refine ro_move (by simp only [evalF, upd, arg0, argS, ofConst, ofCell, Nat.reduceEqDiff, reduceIte, h1, h6, h22, h23, h24] <;> rfl) (by decide) ?_
      refine ro_extract (by simp only [evalF, upd, arg0, argS, ofConst, ofCell, Nat.reduceEqDiff, reduceIte, h1, h6, h22, h23, h24] <;> rfl) (by exact (rfl)) (by decide) ?_
      refine ro_extract (by simp only [evalF, upd, arg0, argS, ofConst, ofCell, Nat.reduceEqDiff, reduceIte, h1, h6, h22, h23, h24] <;> rfl) (by exact (rfl)) (by decide) ?_
      refine ro_assign (by simp only [evalF, upd, arg0, argS, ofConst, ofCell, Nat.reduceEqDiff, reduceIte, h1, h6, h22, h23, h24] <;> rfl) (by decide) ?_
      refine ro_assign (by simp only [evalF, upd, arg0, argS, ofConst, ofCell, Nat.reduceEqDiff, reduceIte, h1, h6, h22, h23, h24] <;> rfl) (by decide) ?_
      refine ro_nil ?_
      try simp only
      refine ex_seq (ex_region ?_)
      refine ro_move (by simp only [evalF, upd, arg0, argS, ofConst, ofCell, Nat.reduceEqDiff, reduceIte, h1, h6, h22, h23, h24] <;> rfl) (by decide) ?_
      refine ro_bin (by simp only [evalF, upd, arg0, argS, ofConst, ofCell, Nat.reduceEqDiff, reduceIte, h1, h6, h22, h23, h24] <;> rfl) (by simp only [evalF, upd, arg0, argS, ofConst, ofCell, Nat.reduceEqDiff, reduceIte, h1, h6, h22, h23, h24] <;> rfl) (by exact (show binOpA Try.prog .neq 28 (.pv (.int .i64 0)) (.pv (.int .i64 0)) = some (.pv (.bool false)) from neq_f rfl)) (by decide) ?_
      refine ro_nil ?_
      try simp only
      refine ex_cond (t := false) (by simp only [evalF, upd, arg0, argS, ofConst, ofCell, Nat.reduceEqDiff, reduceIte, h1, h6, h22, h23, h24] <;> rfl) (fun h => by simp at h) (fun _ => ex_skip ?_)
      try simp only
      refine ex_region ?_
      refine ro_bin (by simp only [evalF, upd, arg0, argS, ofConst, ofCell, Nat.reduceEqDiff, reduceIte, h1, h6, h22, h23, h24] <;> rfl) (by simp only [evalF, upd, arg0, argS, ofConst, ofCell, Nat.reduceEqDiff, reduceIte, h1, h6, h22, h23, h24] <;> rfl) (by exact (add_v (by omega))) (by decide) ?_
      refine ro_move (by simp only [evalF, upd, arg0, argS, ofConst, ofCell, Nat.reduceEqDiff, reduceIte, h1, h6, h22, h23, h24] <;> rfl) (by decide) ?_
      refine ro_nil ?_
      refine ⟨fs.length - (i + 1), by omega, i + 1, b', bs ++ r, rfl, by omega, by simp [upd, h1], by simp [upd], by simp [upd, h22], by simp [upd, h23], by simp [upd], hgb, ?_, by simp [hbn], by simp; omega, ?_, ?_, hax2, by have := hay.1; omega⟩
      · intro id h
        rcases hob' id h with h | h
        · exact hob id h
        · omega
      · rw [hen, hdrop, fieldsE, hE]
      · rw [look_at 1 (hay.2.1 nb (by omega) (fun h => by have := hob nb h; omega))]; exact hlx
    | error e =>
      rw [hE] at hres
      subst hres
      refine ro_move (by simp only [evalF, upd, arg0, argS, ofConst, ofCell, Nat.reduceEqDiff, reduceIte, h1, h6, h22, h23, h24] <;> rfl) (by decide) ?_
      refine ro_extract (by simp only [evalF, upd, arg0, argS, ofConst, ofCell, Nat.reduceEqDiff, reduceIte, h1, h6, h22, h23, h24] <;> rfl) (by exact (rfl)) (by decide) ?_
      refine ro_extract (by simp only [evalF, upd, arg0, argS, ofConst, ofCell, Nat.reduceEqDiff, reduceIte, h1, h6, h22, h23, h24] <;> rfl) (by exact (rfl)) (by decide) ?_
      refine ro_assign (by simp only [evalF, upd, arg0, argS, ofConst, ofCell, Nat.reduceEqDiff, reduceIte, h1, h6, h22, h23, h24] <;> rfl) (by decide) ?_
      refine ro_assign (by simp only [evalF, upd, arg0, argS, ofConst, ofCell, Nat.reduceEqDiff, reduceIte, h1, h6, h22, h23, h24] <;> rfl) (by decide) ?_
      refine ro_nil ?_
      try simp only
      refine ex_seq (ex_region ?_)
      refine ro_move (by simp only [evalF, upd, arg0, argS, ofConst, ofCell, Nat.reduceEqDiff, reduceIte, h1, h6, h22, h23, h24] <;> rfl) (by decide) ?_
      refine ro_bin (by simp only [evalF, upd, arg0, argS, ofConst, ofCell, Nat.reduceEqDiff, reduceIte, h1, h6, h22, h23, h24] <;> rfl) (by simp only [evalF, upd, arg0, argS, ofConst, ofCell, Nat.reduceEqDiff, reduceIte, h1, h6, h22, h23, h24] <;> rfl) (by exact (show binOpA Try.prog .neq 28 (.pv (.int .i64 e)) (.pv (.int .i64 0)) = some (.pv (.bool true)) from neq_t (errs_ne hE))) (by decide) ?_
      refine ro_nil ?_
      try simp only
      refine ex_cond (t := true) (by simp only [evalF, upd, arg0, argS, ofConst, ofCell, Nat.reduceEqDiff, reduceIte, h1, h6, h22, h23, h24] <;> rfl) (fun _ => ?_) (fun h => by simp at h)
      refine ex_seq (ex_region ?_)
      refine ro_move (by simp only [evalF, upd, arg0, argS, ofConst, ofCell, Nat.reduceEqDiff, reduceIte, h1, h6, h22, h23, h24] <;> rfl) (by decide) ?_
      refine ro_assign (by simp only [evalF, upd, arg0, argS, ofConst, ofCell, Nat.reduceEqDiff, reduceIte, h1, h6, h22, h23, h24] <;> rfl) (by decide) ?_
      refine ro_assign (by simp only [evalF, upd, arg0, argS, ofConst, ofCell, Nat.reduceEqDiff, reduceIte, h1, h6, h22, h23, h24] <;> rfl) (by decide) ?_
      refine ro_nil ?_
      try simp only
      refine ex_ret ?_
      refine ⟨.tuple [.pv .nilSlice, .pv (.int .i64 e)], by simp [resF, resOneF, upd], hax2, ?_⟩
      rw [hen, hdrop, fieldsE, hE]
end Go.Proofs.Ytlinbbjobjnipaa

set_option linter.unusedVariables false
set_option linter.unusedSimpArgs false
set_option linter.unusedSectionVars false
namespace Go.Proofs.Ytlinbbjobjnipaa
open Go AI
set_option maxHeartbeats 4000000
set_option maxRecDepth 10000
theorem shA_pv (n len : Nat) (p : PV) : shA n len (.pv p) = some (.pv p) := rfl
theorem shV_pv (n len : Nat) (p : PV) : shV n len (.pv p) = some (.pv p) := rfl
section
variable {lim n : Nat} {ops rest : List Oper} {g : Gm} {hp : Hp} {nb : Nat} {Q : Gm → Hp → Nat → Prop}
theorem plain_pvs : ∀ l : List PV, ((l.map AV.pv).all fun c => (toPV c).isSome) = true
  | [] => rfl
  | a :: l => by rw [List.map_cons, List.all_cons, plain_pvs l]; rfl
theorem row_plain {hp : Hp} {nb : Nat} {v : AV} {l : List PV} (r : Row hp nb v l) : (toPV v).isSome = true ↔ ownOf v = none := by
  cases r <;> simp [toPV, ownOf]
theorem plain_msg {hp : Hp} {nb : Nat} {m : M} {L D : AV} (hL : Row hp nb L (ints m.list)) (hD : Row hp nb D (u8s m.data)) : ([.agg (mcells m L D)] : List AV).all plainV = ((toPV L).isSome && (toPV D).isSome) := by
  simp only [List.all_cons, List.all_nil, Bool.and_true, plainV, mcells, List.all_append, plain_pvs]
  cases (toPV L).isSome <;> cases (toPV D).isSome <;> simp [toPV]
theorem row_any {hp hp' : Hp} {nb nb' : Nat} {v : AV} {l : List PV} (r : Row hp nb v l) (ho : ownOf v = none) : Row hp' nb' v l := by
  cases r with
  | nil => exact .nil
  | zcap => exact .zcap
  | ros n l h => exact .ros n l h
  | own => simp [ownOf] at ho
/-- A call of 'Encode', whatever memory the message has. -/
theorem ro_encode (d0 : Nat) {d : Nat} {x : Operand} {ats : Array TypeId} {ty : TypeId} {pos : String} {aft : Array Edge} {m : M} {L D : AV} (hf : Fit m) (hL : Row hp nb L (ints m.list)) (hD : Row hp nb D (u8s m.data)) (hlim : 10 < lim)
    (hx : evalF g x = .agg (mcells m L D)) (hd : d < n)
    (h2 : ∀ v hp' nb', EncOk m hp nb v hp' nb' → RO Try.prog plains (callA Try.prog facts plains lim (d0 + 4)) (orS facts (pureOf (callA Try.prog facts plains lim (d0 + 4)))) n ops rest (upd g d v) hp' nb' Q) :
    RO Try.prog plains (callA Try.prog facts plains lim (d0 + 4)) (orS facts (pureOf (callA Try.prog facts plains lim (d0 + 4)))) n ops ({ dst := some d, op := .call { callee := .value (.func 11), args := #[x], argTypes := ats }, type := ty, pos := pos, after := aft, guard := none } :: rest) g hp nb Q := by
  have hxs : (#[x] : Array Operand).toList.map (evalF g) = [.agg (mcells m L D)] := by simp [hx]
  cases hpl : ([.agg (mcells m L D)] : List AV).all plainV with
  | false => exact ro_call rfl hxs rfl hpl (encode_calls lim d0 hf hL hD hlim) hd h2
  | true =>
    have hpl' := hpl
    rw [plain_msg hL hD, Bool.and_eq_true] at hpl'
    have hLo := (row_plain hL).1 hpl'.1
    have hDo := (row_plain hD).1 hpl'.2
    refine ro_add hxs rfl hpl (encode_calls lim d0 hf (row_any hL hLo) (row_any hD hDo) hlim) hd ?_
    rintro v0 h' ⟨ha, hres⟩
    obtain ⟨bs, e1, e2, e3, e4, e5, e6⟩ := add_all (ha.2.2 tidy_nil) hp nb
    have haf : After hp nb (.pv .nilSlice) (addHp hp nb bs) (nb + bs.length) := ⟨by omega, fun id hid _ => e3 id hid, e4⟩
    cases hE : enc m with
    | ok r =>
      rw [hE] at hres
      obtain ⟨b', rfl, hgb, _⟩ := hres
      obtain ⟨b2, f1, f2, f3⟩ := e6 _ _ hgb
      refine ⟨.tuple [b2, .pv (.int .i64 0)], bs, ?_, e1, h2 _ _ _ ⟨haf, ?_⟩⟩
      · have : shV nb h'.length b' = some b2 := by
          cases b' with
          | agg cs => simp [shA] at f1
          | _ => exact f1
        simp only [shR, List.mapM_cons, List.mapM_nil, this, shV_pv]
        rfl
      · rw [hE]; exact ⟨b2, rfl, f2, f3⟩
    | error e =>
      rw [hE] at hres
      subst hres
      refine ⟨.tuple [.pv .nilSlice, .pv (.int .i64 e)], bs, by simp [shR, List.mapM_cons, shV, shA], e1, h2 _ _ _ ⟨haf, ?_⟩⟩
      rw [hE]
/-- A call of 'good' by a message of the caller's. -/
theorem ro_good (d0 : Nat) {d : Nat} {x : Operand} {ats : Array TypeId} {ty : TypeId} {pos : String} {aft : Array Edge} {m : M} {L D : AV} (hf : Fit m) (hL : Row hp nb L (ints m.list)) (hD : Row hp nb D (u8s m.data)) (hLo : ownOf L = none) (hDo : ownOf D = none) (hln : m.list.length < 1000) (hdn : m.data.length < 100000) (hlim : 1000 ≤ lim)
    (hx : evalF g x = .agg (mcells m L D)) (hd : d < n)
    (h2 : ∀ L' D' hp' nb', Row hp' nb' L' (ints (goodM m).list) → Row hp' nb' D' (u8s (goodM m).data) → ownOf D' = none → (∀ id, ownOf L' = some id → nb ≤ id) → After hp nb (.pv .nilSlice) hp' nb' →
      RO Try.prog plains (callA Try.prog facts plains lim (d0 + 1)) (orS facts (pureOf (callA Try.prog facts plains lim (d0 + 1)))) n ops rest (upd g d (.agg (mcells (goodM m) L' D'))) hp' nb' Q) :
    RO Try.prog plains (callA Try.prog facts plains lim (d0 + 1)) (orS facts (pureOf (callA Try.prog facts plains lim (d0 + 1)))) n ops ({ dst := some d, op := .call { callee := .value (.func 13), args := #[x], argTypes := ats }, type := ty, pos := pos, after := aft, guard := none } :: rest) g hp nb Q := by
  have hxs : (#[x] : Array Operand).toList.map (evalF g) = [.agg (mcells m L D)] := by simp [hx]
  have hpl : ([.agg (mcells m L D)] : List AV).all plainV = true := by
    rw [plain_msg hL hD, (row_plain hL).2 hLo, (row_plain hD).2 hDo]
    rfl
  refine ro_add hxs rfl hpl (good_calls lim d0 hf (row_any (hp' := hp) (nb' := nb) hL hLo) (row_any (hp' := hp) (nb' := nb) hD hDo) hLo hDo (by omega) hln hdn) hd ?_
  rintro v0 h' ⟨L', D', rfl, r1, r2, ho, ht⟩
  obtain ⟨bs, e1, e2, e3, e4, e5, e6⟩ := add_all ht hp nb
  obtain ⟨L2, f1, f2, f3, _⟩ := e5 _ _ r1
  obtain ⟨D2, g1, g2, g3, g4⟩ := e5 _ _ r2
  have hD2 := g4 ho
  subst hD2
  refine ⟨.agg (mcells (goodM m) L2 D2), bs, ?_, e1, h2 L2 D2 _ _ f2 g2 ho f3 ⟨by omega, fun id hid _ => e3 id hid, e4⟩⟩
  have happ : ∀ {a b a' b' : List AV}, a.mapM (shA nb h'.length) = some a' → b.mapM (shA nb h'.length) = some b' → (a ++ b).mapM (shA nb h'.length) = some (a' ++ b') := by
    intro a
    induction a with
    | nil => intro b a' b' h1 h2; simp at h1; subst h1; simpa using h2
    | cons y a ih =>
      intro b a' b' h1 h2
      simp only [List.mapM_cons, Option.bind_eq_bind, Option.bind_eq_some_iff, Option.pure_def, Option.some.injEq] at h1
      obtain ⟨z, hz, r, hr, rfl⟩ := h1
      simp only [List.cons_append, List.mapM_cons, hz, ih hr h2]
      rfl
  have hcs : (mcells (goodM m) L' D2).mapM (shA nb h'.length) = some (mcells (goodM m) L2 D2) := by
    unfold mcells
    refine happ ?_ (happ (sh_pvs _ _ _) ?_)
    · simp only [List.mapM_cons, List.mapM_nil, f1, shA_pv]
      rfl
    · simp only [List.mapM_cons, List.mapM_nil, g1, shA_pv]
      rfl
  show Option.map AV.agg _ = _
  rw [hcs]
  rfl
end
end Go.Proofs.Ytlinbbjobjnipaa

set_option linter.unusedVariables false
set_option linter.unusedSimpArgs false
set_option linter.unusedSectionVars false
namespace Go.Proofs.Ytlinbbjobjnipaa
open Go AI
set_option maxHeartbeats 4000000
set_option maxRecDepth 10000
theorem fa58_0 (id ver off : Nat) : fieldAddrA Try.prog 58 (.ptr id ver off) 0 = some (.ptr id ver off) := by kernel_rfl
theorem fa58_1 (id ver off : Nat) : fieldAddrA Try.prog 58 (.ptr id ver off) 1 = some (.ptr id ver (off + 1)) := by kernel_rfl
/-- A reader: what is left of the bytes, what was wrong first. -/
structure Rd (hp : Hp) (nb idr q : Nat) (b : List Int) (e : Int) : Prop where
  lt : idr < nb
  le : q ≤ idr
  ex : ∃ v, AI.look hp idr 1 = some [v, .pv (.int .i64 e)] ∧ Row hp nb v (u8s b) ∧ ∀ id, ownOf v = some id → id < q
/-- Nothing but the reader has changed. -/
def KeepR (hp : Hp) (nb idr : Nat) (hp' : Hp) (nb' : Nat) : Prop := nb' = nb ∧ (∀ id, id ≠ idr → hp' id = hp id) ∧ (Tidy hp nb → Tidy hp' nb')
theorem keepR_refl (hp : Hp) (nb idr : Nat) : KeepR hp nb idr hp nb := ⟨rfl, fun _ _ => rfl, fun h => h⟩
theorem keepR_trans {hp hp1 hp2 : Hp} {nb nb1 nb2 idr : Nat} (a : KeepR hp nb idr hp1 nb1) (b : KeepR hp1 nb1 idr hp2 nb2) : KeepR hp nb idr hp2 nb2 :=
  ⟨b.1.trans a.1, fun id h => (b.2.1 id h).trans (a.2.1 id h), fun h => b.2.2 (a.2.2 h)⟩
/-- A reader's cells are set. -/
theorem rd_put {hp : Hp} {nb idr q : Nat} {v : AV} {b : List Int} {e : Int} (hlt : idr < nb) (hle : q ≤ idr) (hr : Row hp nb v (u8s b)) (ho : ∀ id, ownOf v = some id → id < q) : Rd (setHp hp idr (.cells 1 [v, .pv (.int .i64 e)])) nb idr q b e ∧ KeepR hp nb idr (setHp hp idr (.cells 1 [v, .pv (.int .i64 e)])) nb := by
  refine ⟨⟨hlt, hle, v, look_same _ _ _ _, hr.keep (Nat.le_refl _) (fun id hid hown => ?_), ho⟩, rfl, fun id hne => by simp [setHp, hne], fun ht => tidy_put ht (fun c hc => ?_)⟩
  · have : id ≠ idr := fun h => by subst h; have := ho _ hown; omega
    simp [setHp, this]
  · simp at hc
    rcases hc with rfl | rfl
    · exact row_ok' hr
    · exact okC_pv _ _
/-- The first thing that was wrong. -/
def firstE (e x : Int) : Int := if e = 0 then x else e
theorem fail_calls (S : CallG) (pure : Nat → Bool) (lim d : Nat) {hp : Hp} {nb idr q : Nat} {b : List Int} {e : Int} (x : Int) (h : Rd hp nb idr q b e) :
    CA (callA Try.prog S pure lim (d + 1)) 27 [.ptr idr 1 0, .pv (.int .i64 x)] hp nb fun v hp' nb' => v = .tuple [] ∧ Rd hp' nb idr q b (firstE e x) ∧ KeepR hp nb idr hp' nb' := by
  obtain ⟨v, hl, hr, ho⟩ := h.ex
  refine ca_body (fn := Try.f27) (c := bodyOf Try.f27) Try.func27 rfl (by show 2 ≤ 13; omega) ?_
  show EX _ _ _ _ _ 13 _ _ _ _ _
  unfold bodyOf Try.f27
  refine ex_seq (ex_region ?_)
  refine ro_move (by simp only [evalF, upd, arg0, argS, ofConst, ofCell, Nat.reduceEqDiff, reduceIte] <;> rfl) (by decide) ?_
  refine ro_nilCheck (by simp only [evalF, upd, arg0, argS, ofConst, ofCell, Nat.reduceEqDiff, reduceIte] <;> rfl) (by decide) ?_
  refine ro_fieldAddr (by simp only [evalF, upd, arg0, argS, ofConst, ofCell, Nat.reduceEqDiff, reduceIte] <;> rfl) (by exact (fa58_1 _ _ _)) (by decide) ?_
  refine ro_load (by simp only [evalF, upd, arg0, argS, ofConst, ofCell, Nat.reduceEqDiff, reduceIte] <;> rfl) (by exact (load1 ag28 hl rfl)) (by decide) ?_
  refine ro_bin (by simp only [evalF, upd, arg0, argS, ofConst, ofCell, Nat.reduceEqDiff, reduceIte] <;> rfl) (by simp only [evalF, upd, arg0, argS, ofConst, ofCell, Nat.reduceEqDiff, reduceIte] <;> rfl) (by exact (show binOpA Try.prog .eql 28 (.pv (.int .i64 e)) (.pv (.int .i64 0)) = _ from eql_v)) (by decide) ?_
  refine ro_nil ?_
  try simp only
  refine ex_cond (t := e == 0) (by simp only [evalF, upd, arg0, argS, ofConst, ofCell, Nat.reduceEqDiff, reduceIte] <;> rfl) (fun he => ?_) (fun he => ?_)
  · have he0 : e = 0 := by simpa using he
    refine ex_region ?_
    refine ro_move (by simp only [evalF, upd, arg0, argS, ofConst, ofCell, Nat.reduceEqDiff, reduceIte] <;> rfl) (by decide) ?_
    refine ro_move (by simp only [evalF, upd, arg0, argS, ofConst, ofCell, Nat.reduceEqDiff, reduceIte] <;> rfl) (by decide) ?_
    refine ro_nilCheck (by simp only [evalF, upd, arg0, argS, ofConst, ofCell, Nat.reduceEqDiff, reduceIte] <;> rfl) (by decide) ?_
    refine ro_fieldAddr (by simp only [evalF, upd, arg0, argS, ofConst, ofCell, Nat.reduceEqDiff, reduceIte] <;> rfl) (by exact (fa58_1 _ _ _)) (by decide) ?_
    refine ro_store (by simp only [evalF, upd, arg0, argS, ofConst, ofCell, Nat.reduceEqDiff, reduceIte] <;> rfl) (by simp only [evalF, upd, arg0, argS, ofConst, ofCell, Nat.reduceEqDiff, reduceIte] <;> rfl) (store1 sz28 hl rfl rfl (by show 0 + 1 + 1 ≤ 2; omega)) ?_
    refine ro_nil ?_
    try simp only
    have hx := rd_put (e := x) h.lt h.le hr ho
    refine ⟨.tuple [], rfl, rfl, ?_, hx.2⟩
    rw [firstE, if_pos he0]
    exact hx.1
  · have he0 : e ≠ 0 := by simpa using he
    refine ex_skip ?_
    try simp only
    refine ⟨.tuple [], rfl, rfl, ?_, keepR_refl _ _ _⟩
    rw [firstE, if_neg he0]
    exact h
/-- What is taken: bytes, or none. -/
def takeR (b : List Int) (e : Int) (n : Nat) : List Int × List Int × Int :=
  if e ≠ 0 ∨ b.length < n then ([], b, firstE e 8) else (b.take n, b.drop n, 0)
theorem take_calls (S : CallG) (pure : Nat → Bool) (lim d : Nat) (hpu : pure 27 = false) {hp : Hp} {nb idr q : Nat} {b : List Int} {e : Int} (n : Nat) (h : Rd hp nb idr q b e) :
    CA (callA Try.prog S pure lim (d + 2)) 44 [.ptr idr 1 0, .pv (.int .i64 n)] hp nb fun v hp' nb' => Row hp' nb v (u8s (takeR b e n).1) ∧ (∀ id, ownOf v = some id → id < q) ∧ Rd hp' nb idr q (takeR b e n).2.1 (takeR b e n).2.2 ∧ KeepR hp nb idr hp' nb' := by
  obtain ⟨v, hl, hr, ho⟩ := h.ex
  have hlen : (u8s b).length = b.length := by simp [u8s]
  refine ca_body (fn := Try.f44) (c := bodyOf Try.f44) Try.func44 rfl (by show 2 ≤ 38; omega) ?_
  show EX _ _ _ _ _ 38 _ _ _ _ _
  unfold bodyOf Try.f44
  refine ex_seq (ex_region ?_)
  refine ro_assign (by simp only [evalF, upd, arg0, argS, ofConst, ofCell, Nat.reduceEqDiff, reduceIte] <;> rfl) (by decide) ?_
  refine ro_nil ?_
  try simp only
  refine ex_seq (ex_seq (ex_weaken (K := fun xa g' hp' nb' => xa = .normal ∧ g' 0 = .ptr idr 1 0 ∧ g' 1 = .pv (.int .i64 n) ∧ g' 19 = .pv (.bool (decide (e ≠ 0 ∨ b.length < n))) ∧ hp' = hp ∧ nb' = nb) ?_ ?_))
  · by_cases he : e = 0
    · refine ex_region ?_
      refine ro_move (by simp only [evalF, upd, arg0, argS, ofConst, ofCell, Nat.reduceEqDiff, reduceIte] <;> rfl) (by decide) ?_
      refine ro_nilCheck (by simp only [evalF, upd, arg0, argS, ofConst, ofCell, Nat.reduceEqDiff, reduceIte] <;> rfl) (by decide) ?_
      refine ro_fieldAddr (by simp only [evalF, upd, arg0, argS, ofConst, ofCell, Nat.reduceEqDiff, reduceIte] <;> rfl) (by exact (fa58_1 _ _ _)) (by decide) ?_
      refine ro_load (by simp only [evalF, upd, arg0, argS, ofConst, ofCell, Nat.reduceEqDiff, reduceIte] <;> rfl) (by exact (load1 ag28 hl rfl)) (by decide) ?_
      refine ro_bin (by simp only [evalF, upd, arg0, argS, ofConst, ofCell, Nat.reduceEqDiff, reduceIte] <;> rfl) (by simp only [evalF, upd, arg0, argS, ofConst, ofCell, Nat.reduceEqDiff, reduceIte] <;> rfl) (by exact (show binOpA Try.prog .neq 28 (.pv (.int .i64 e)) (.pv (.int .i64 0)) = _ from neq_f he)) (by decide) ?_
      refine ro_move (by simp only [evalF, upd, arg0, argS, ofConst, ofCell, Nat.reduceEqDiff, reduceIte] <;> rfl) (by decide) ?_
      refine ro_guard rfl (by simp only [evalF, upd, arg0, argS, ofConst, ofCell, Nat.reduceEqDiff, reduceIte] <;> rfl) rfl ?_
      refine ro_move (by simp only [evalF, upd, arg0, argS, ofConst, ofCell, Nat.reduceEqDiff, reduceIte] <;> rfl) (by decide) ?_
      refine ro_guard rfl (by simp only [evalF, upd, arg0, argS, ofConst, ofCell, Nat.reduceEqDiff, reduceIte] <;> rfl) rfl ?_
      refine ro_nilCheck (by simp only [evalF, upd, arg0, argS, ofConst, ofCell, Nat.reduceEqDiff, reduceIte] <;> rfl) (by decide) ?_
      refine ro_guard rfl (by simp only [evalF, upd, arg0, argS, ofConst, ofCell, Nat.reduceEqDiff, reduceIte] <;> rfl) rfl ?_
      refine ro_fieldAddr (by simp only [evalF, upd, arg0, argS, ofConst, ofCell, Nat.reduceEqDiff, reduceIte] <;> rfl) (by exact (fa58_0 _ _ _)) (by decide) ?_
      refine ro_guard rfl (by simp only [evalF, upd, arg0, argS, ofConst, ofCell, Nat.reduceEqDiff, reduceIte] <;> rfl) rfl ?_
      refine ro_load (by simp only [evalF, upd, arg0, argS, ofConst, ofCell, Nat.reduceEqDiff, reduceIte] <;> rfl) (by exact (load1 ag27 hl rfl)) (by decide) ?_
      refine ro_guard rfl (by simp only [evalF, upd, arg0, argS, ofConst, ofCell, Nat.reduceEqDiff, reduceIte] <;> rfl) rfl ?_
      refine ro_builtin rfl (by simp only [List.map_cons, List.map_nil, evalF, upd, arg0, argS, ofConst, ofCell, Nat.reduceEqDiff, reduceIte] <;> rfl) (by exact (row_len st27 hr)) (by decide) ?_
      refine ro_guard rfl (by simp only [evalF, upd, arg0, argS, ofConst, ofCell, Nat.reduceEqDiff, reduceIte] <;> rfl) rfl ?_
      refine ro_move (by simp only [evalF, upd, arg0, argS, ofConst, ofCell, Nat.reduceEqDiff, reduceIte] <;> rfl) (by decide) ?_
      refine ro_guard rfl (by simp only [evalF, upd, arg0, argS, ofConst, ofCell, Nat.reduceEqDiff, reduceIte] <;> rfl) rfl ?_
      refine ro_bin (by simp only [evalF, upd, arg0, argS, ofConst, ofCell, Nat.reduceEqDiff, reduceIte] <;> rfl) (by simp only [evalF, upd, arg0, argS, ofConst, ofCell, Nat.reduceEqDiff, reduceIte] <;> rfl) (by exact (lss_v)) (by decide) ?_
      refine ro_pick (by simp only [evalF, upd, arg0, argS, ofConst, ofCell, Nat.reduceEqDiff, reduceIte] <;> rfl) (by simp only [evalF, upd, arg0, argS, ofConst, ofCell, Nat.reduceEqDiff, reduceIte] <;> rfl) (by simp only [evalF, upd, arg0, argS, ofConst, ofCell, Nat.reduceEqDiff, reduceIte] <;> rfl) (by decide) ?_
      refine ro_nil ?_
      refine ⟨by first | rfl | trivial, by simp [upd, argsF], by simp [upd, argsF], ?_, by first | rfl | trivial, by first | rfl | trivial⟩
      simp only [upd, Nat.reduceEqDiff, reduceIte, AV.pv.injEq, PV.bool.injEq, decide_eq_decide, hlen, Bool.false_eq_true, if_false]
      omega
    · refine ex_region ?_
      refine ro_move (by simp only [evalF, upd, arg0, argS, ofConst, ofCell, Nat.reduceEqDiff, reduceIte] <;> rfl) (by decide) ?_
      refine ro_nilCheck (by simp only [evalF, upd, arg0, argS, ofConst, ofCell, Nat.reduceEqDiff, reduceIte] <;> rfl) (by decide) ?_
      refine ro_fieldAddr (by simp only [evalF, upd, arg0, argS, ofConst, ofCell, Nat.reduceEqDiff, reduceIte] <;> rfl) (by exact (fa58_1 _ _ _)) (by decide) ?_
      refine ro_load (by simp only [evalF, upd, arg0, argS, ofConst, ofCell, Nat.reduceEqDiff, reduceIte] <;> rfl) (by exact (load1 ag28 hl rfl)) (by decide) ?_
      refine ro_bin (by simp only [evalF, upd, arg0, argS, ofConst, ofCell, Nat.reduceEqDiff, reduceIte] <;> rfl) (by simp only [evalF, upd, arg0, argS, ofConst, ofCell, Nat.reduceEqDiff, reduceIte] <;> rfl) (by exact (show binOpA Try.prog .neq 28 (.pv (.int .i64 e)) (.pv (.int .i64 0)) = _ from neq_t he)) (by decide) ?_
      refine ro_move (by simp only [evalF, upd, arg0, argS, ofConst, ofCell, Nat.reduceEqDiff, reduceIte] <;> rfl) (by decide) ?_
      refine ro_skip rfl (by simp only [evalF, upd, arg0, argS, ofConst, ofCell, Nat.reduceEqDiff, reduceIte] <;> rfl) rfl (fun e he => by cases he; decide) ?_
      simp only [putF]
      refine ro_skip rfl (by simp only [evalF, upd, arg0, argS, ofConst, ofCell, Nat.reduceEqDiff, reduceIte] <;> rfl) rfl (fun e he => by cases he; decide) ?_
      simp only [putF]
      refine ro_skip rfl (by simp only [evalF, upd, arg0, argS, ofConst, ofCell, Nat.reduceEqDiff, reduceIte] <;> rfl) rfl (fun e he => by cases he; decide) ?_
      simp only [putF]
      refine ro_skip rfl (by simp only [evalF, upd, arg0, argS, ofConst, ofCell, Nat.reduceEqDiff, reduceIte] <;> rfl) rfl (fun e he => by cases he; decide) ?_
      simp only [putF]
      refine ro_skip rfl (by simp only [evalF, upd, arg0, argS, ofConst, ofCell, Nat.reduceEqDiff, reduceIte] <;> rfl) rfl (fun e he => by cases he; decide) ?_
      simp only [putF]
      refine ro_skip rfl (by simp only [evalF, upd, arg0, argS, ofConst, ofCell, Nat.reduceEqDiff, reduceIte] <;> rfl) rfl (fun e he => by cases he; decide) ?_
      simp only [putF]
      refine ro_skip rfl (by simp only [evalF, upd, arg0, argS, ofConst, ofCell, Nat.reduceEqDiff, reduceIte] <;> rfl) rfl (fun e he => by cases he; decide) ?_
      simp only [putF]
      refine ro_pick (by simp only [evalF, upd, arg0, argS, ofConst, ofCell, Nat.reduceEqDiff, reduceIte] <;> rfl) (by simp only [evalF, upd, arg0, argS, ofConst, ofCell, Nat.reduceEqDiff, reduceIte] <;> rfl) (by simp only [evalF, upd, arg0, argS, ofConst, ofCell, Nat.reduceEqDiff, reduceIte] <;> rfl) (by decide) ?_
      refine ro_nil ?_
      refine ⟨by first | rfl | trivial, by simp [upd, argsF], by simp [upd, argsF], ?_, by first | rfl | trivial, by first | rfl | trivial⟩
      simp [upd, he]
  rintro xa g1 hpx nbx ⟨rfl, h0, h1, h19, e1, e2⟩
  rw [e1, e2]
  clear e1 e2 hpx nbx
  try simp only
  refine ex_cond (t := decide (e ≠ 0 ∨ b.length < n)) (by simp only [evalF, upd, arg0, argS, ofConst, ofCell, Nat.reduceEqDiff, reduceIte, h0, h1, h19] <;> rfl) (fun ht => ?_) (fun ht => ?_)
  · have hc := of_decide_eq_true ht
    refine ex_seq (ex_region ?_)
    refine ro_move (by simp only [evalF, upd, arg0, argS, ofConst, ofCell, Nat.reduceEqDiff, reduceIte, h0, h1, h19] <;> rfl) (by decide) ?_
    refine ro_call (f := 27) («as» := [.ptr idr 1 0, .pv (.int .i64 8)]) rfl (by simp [evalF, upd, h0, ofConst, ofCell]) hpu rfl (fail_calls S pure lim d 8 h) (by decide) ?_
    rintro v2 hp2 nb2 ⟨_, hr2, hk2⟩
    refine ro_nil ?_
    try simp only
    refine ex_seq (ex_region ?_)
    refine ro_assign (by simp only [evalF, upd, arg0, argS, ofConst, ofCell, Nat.reduceEqDiff, reduceIte, h0, h1, h19] <;> rfl) (by decide) ?_
    refine ro_nil ?_
    try simp only
    refine ex_ret ?_
    have htk : takeR b e n = ([], b, firstE e 8) := by rw [takeR, if_pos hc]
    refine ⟨_, rfl, ?_⟩
    rw [htk]
    simp only [upd, Nat.reduceEqDiff, reduceIte]
    exact ⟨.nil, by simp [ownOf], hr2, hk2⟩
  · have hc := of_decide_eq_false ht
    simp only [not_or, Classical.not_not] at hc
    refine ex_skip ?_
    try simp only
    have htk : takeR b e n = (b.take n, b.drop n, 0) := by rw [takeR, if_neg (by simp only [not_or, Classical.not_not]; exact hc)]
    obtain ⟨v1, s1, r1, o1⟩ := row_slice st27 hr (lo := 0) (hi := n) (lv := none) (hv := some (.pv (.int .i64 n))) (.inr ⟨rfl, rfl⟩) (.inl rfl) (Nat.zero_le _) (by omega)
    obtain ⟨v2, s2, r2, o2⟩ := row_slice st27 hr (lo := n) (hi := b.length) (lv := some (.pv (.int .i64 n))) (hv := none) (.inl rfl) (.inr ⟨rfl, by omega⟩) (by omega) (by omega)
    refine ex_seq (ex_region ?_)
    refine ro_move (by simp only [evalF, upd, arg0, argS, ofConst, ofCell, Nat.reduceEqDiff, reduceIte, h0, h1, h19] <;> rfl) (by decide) ?_
    refine ro_nilCheck (by simp only [evalF, upd, arg0, argS, ofConst, ofCell, Nat.reduceEqDiff, reduceIte, h0, h1, h19] <;> rfl) (by decide) ?_
    refine ro_fieldAddr (by simp only [evalF, upd, arg0, argS, ofConst, ofCell, Nat.reduceEqDiff, reduceIte, h0, h1, h19] <;> rfl) (by exact (fa58_0 _ _ _)) (by decide) ?_
    refine ro_load (by simp only [evalF, upd, arg0, argS, ofConst, ofCell, Nat.reduceEqDiff, reduceIte, h0, h1, h19] <;> rfl) (by exact (load1 ag27 hl rfl)) (by decide) ?_
    refine ro_move (by simp only [evalF, upd, arg0, argS, ofConst, ofCell, Nat.reduceEqDiff, reduceIte, h0, h1, h19] <;> rfl) (by decide) ?_
    refine ro_slice (by simp only [evalF, upd, arg0, argS, ofConst, ofCell, Nat.reduceEqDiff, reduceIte, h0, h1, h19] <;> rfl) rfl (by simp only [Option.map_some, evalF, upd, Nat.reduceEqDiff, reduceIte]) rfl s1 (by decide) ?_
    refine ro_assign (by simp only [evalF, upd, arg0, argS, ofConst, ofCell, Nat.reduceEqDiff, reduceIte, h0, h1, h19] <;> rfl) (by decide) ?_
    refine ro_nil ?_
    try simp only
    refine ex_seq (ex_region ?_)
    refine ro_move (by simp only [evalF, upd, arg0, argS, ofConst, ofCell, Nat.reduceEqDiff, reduceIte, h0, h1, h19] <;> rfl) (by decide) ?_
    refine ro_move (by simp only [evalF, upd, arg0, argS, ofConst, ofCell, Nat.reduceEqDiff, reduceIte, h0, h1, h19] <;> rfl) (by decide) ?_
    refine ro_nilCheck (by simp only [evalF, upd, arg0, argS, ofConst, ofCell, Nat.reduceEqDiff, reduceIte, h0, h1, h19] <;> rfl) (by decide) ?_
    refine ro_fieldAddr (by simp only [evalF, upd, arg0, argS, ofConst, ofCell, Nat.reduceEqDiff, reduceIte, h0, h1, h19] <;> rfl) (by exact (fa58_0 _ _ _)) (by decide) ?_
    refine ro_load (by simp only [evalF, upd, arg0, argS, ofConst, ofCell, Nat.reduceEqDiff, reduceIte, h0, h1, h19] <;> rfl) (by exact (load1 ag27 hl rfl)) (by decide) ?_
    refine ro_move (by simp only [evalF, upd, arg0, argS, ofConst, ofCell, Nat.reduceEqDiff, reduceIte, h0, h1, h19] <;> rfl) (by decide) ?_
    refine ro_slice (by simp only [evalF, upd, arg0, argS, ofConst, ofCell, Nat.reduceEqDiff, reduceIte, h0, h1, h19] <;> rfl) (by simp only [Option.map_some, evalF, upd, Nat.reduceEqDiff, reduceIte]) rfl rfl s2 (by decide) ?_
    refine ro_nilCheck (by simp only [evalF, upd, arg0, argS, ofConst, ofCell, Nat.reduceEqDiff, reduceIte, h0, h1, h19] <;> rfl) (by decide) ?_
    refine ro_fieldAddr (by simp only [evalF, upd, arg0, argS, ofConst, ofCell, Nat.reduceEqDiff, reduceIte, h0, h1, h19] <;> rfl) (by exact (fa58_0 _ _ _)) (by decide) ?_
    refine ro_store (by simp only [evalF, upd, arg0, argS, ofConst, ofCell, Nat.reduceEqDiff, reduceIte, h0, h1, h19] <;> rfl) (by simp only [evalF, upd, arg0, argS, ofConst, ofCell, Nat.reduceEqDiff, reduceIte, h0, h1, h19] <;> rfl) (store1 sz27 hl (row_cell r2).2 (row_cell r2).1 (by show 0 + 1 ≤ 2; omega)) ?_
    refine ro_nil ?_
    try simp only
    refine ex_seq (ex_region ?_)
    refine ro_move (by simp only [evalF, upd, arg0, argS, ofConst, ofCell, Nat.reduceEqDiff, reduceIte, h0, h1, h19] <;> rfl) (by decide) ?_
    refine ro_assign (by simp only [evalF, upd, arg0, argS, ofConst, ofCell, Nat.reduceEqDiff, reduceIte, h0, h1, h19] <;> rfl) (by decide) ?_
    refine ro_nil ?_
    try simp only
    refine ex_ret ?_
    have e1 : ((u8s b).drop 0).take (n - 0) = u8s (b.take n) := by simp [u8s, List.map_take]
    have e2 : ((u8s b).drop n).take (b.length - n) = u8s (b.drop n) := by
      rw [List.take_of_length_le (by simp [u8s])]
      simp [u8s, List.map_drop]
    rw [e1] at r1
    rw [e2] at r2
    have ho1 : ∀ id, ownOf v1 = some id → id < q := fun id h => ho id (o1 _ h)
    have ho2 : ∀ id, ownOf v2 = some id → id < q := fun id h => ho id (o2 _ h)
    have hx := rd_put (e := 0) h.lt h.le r2 ho2
    have hcell : splice [v, .pv (.int .i64 e)] 0 [v2] = [v2, .pv (.int .i64 0)] := by rw [hc.1]; rfl
    refine ⟨_, rfl, ?_⟩
    rw [htk, hcell]
    simp only [upd, Nat.reduceEqDiff, reduceIte]
    exact ⟨r1.keep (Nat.le_refl _) (fun id hid hown => hx.2.2.1 id (fun h1 => by have := ho1 id hown; have := h.le; omega)), ho1, hx.1, hx.2⟩
/-- One byte that is at most so much. -/
def byteR (b : List Int) (e most : Int) : Int × List Int × Int :=
  match takeR b e 1 with
  | ([], b', e') => (0, b', e')
  | (x :: _, b', e') => if x > most then (0, b', firstE e' 11) else (x, b', e')
theorem conv53 (z : Int) (h : 0 ≤ z ∧ z ≤ 255) (hp : Hp) (nb : Nat) : convertA Try.prog hp nb 5 3 (.pv (.int .u8 z)) = some (.val (.pv (.int .i64 z))) := by
  have e : convertA Try.prog hp nb 5 3 (.pv (.int .u8 z)) = some (.val (.pv (.int .i64 (IntKind.i64.wrap z)))) := by kernel_rfl
  rw [e, IntWalk.i64_in _ (by omega)]
theorem byte_calls (S : CallG) (pure : Nat → Bool) (lim d : Nat) (hpu : pure 27 = false) (hpu2 : pure 44 = false) (hlim : 2 ≤ lim) {hp : Hp} {nb idr q : Nat} {b : List Int} {e : Int} (most : Int) (hb : ∀ x ∈ b, 0 ≤ x ∧ x ≤ 255) (h : Rd hp nb idr q b e) :
    CA (callA Try.prog S pure lim (d + 3)) 43 [.ptr idr 1 0, .pv (.int .i64 most)] hp nb fun v hp' nb' => v = .pv (.int .i64 (byteR b e most).1) ∧ Rd hp' nb idr q (byteR b e most).2.1 (byteR b e most).2.2 ∧ KeepR hp nb idr hp' nb' := by
  refine ca_body (fn := Try.f43) (c := bodyOf Try.f43) Try.func43 rfl (by show 2 ≤ 23; omega) ?_
  show EX _ _ _ _ _ 23 _ _ _ _ _
  unfold bodyOf Try.f43
  refine ex_seq (ex_region ?_)
  refine ro_assign (by simp only [evalF, upd, arg0, argS, ofConst, ofCell, Nat.reduceEqDiff, reduceIte] <;> rfl) (by decide) ?_
  refine ro_nil ?_
  try simp only
  refine ex_seq ?_
  refine ex_seq (ex_region ?_)
  refine ro_move (by simp only [evalF, upd, arg0, argS, ofConst, ofCell, Nat.reduceEqDiff, reduceIte] <;> rfl) (by decide) ?_
  refine ro_call (f := 44) («as» := [.ptr idr 1 0, .pv (.int .i64 (1 : Nat))]) rfl (by simp [evalF, upd, argsF, ofConst, ofCell]) hpu2 rfl (take_calls S pure lim d hpu 1 h) (by decide) ?_
  rintro v1 hp1 nb1 ⟨hr1, ho1, hrd1, hk1⟩
  obtain rfl := hk1.1
  refine ro_builtin rfl (by simp only [List.map_cons, List.map_nil, evalF, upd, arg0, argS, ofConst, ofCell, Nat.reduceEqDiff, reduceIte] <;> rfl) (by exact (row_len st27 hr1)) (by decide) ?_
  refine ro_move (by simp only [evalF, upd, arg0, argS, ofConst, ofCell, Nat.reduceEqDiff, reduceIte] <;> rfl) (by decide) ?_
  refine ro_nil ?_
  try simp only
  cases htk : takeR b e 1 with
  | mk t rest =>
    obtain ⟨b', e'⟩ := rest
    rw [htk] at hr1 hrd1
    simp only at hr1 hrd1
    have htl : t.length ≤ 1 ∧ ∀ x ∈ t, 0 ≤ x ∧ x ≤ 255 := by
      unfold takeR at htk
      split at htk
      · cases htk; simp
      · cases htk
        refine ⟨by simp; omega, fun x hx => hb x (List.mem_of_mem_take hx)⟩
    cases t with
    | nil =>
      have hby : byteR b e most = (0, b', e') := by rw [byteR, htk]
      refine ex_block (ex_loop (I := fun k g hpx nbx => g 9 = .pv (.int .i64 0) ∧ g 10 = .pv (.int .i64 0) ∧ hpx = hp1 ∧ nbx = nb1) (m := 0) ⟨by simp [upd, u8s], by simp [upd], rfl, rfl⟩ (by omega) ?_)
      rintro k g hpx nbx ⟨h9, h10, e1, e2⟩
      rw [e1, e2]
      refine ex_seq (ex_region ?_)
      refine ro_bin (by simp only [evalF, upd, arg0, argS, ofConst, ofCell, Nat.reduceEqDiff, reduceIte, h9, h10] <;> rfl) (by simp only [evalF, upd, arg0, argS, ofConst, ofCell, Nat.reduceEqDiff, reduceIte, h9, h10] <;> rfl) (by exact (lss_f (by omega))) (by decide) ?_
      refine ro_nil ?_
      try simp only
      refine ex_seq (ex_cond (t := false) (by simp only [evalF, upd, arg0, argS, ofConst, ofCell, Nat.reduceEqDiff, reduceIte, h9, h10] <;> rfl) (fun h => by simp at h) (fun _ => ?_))
      refine ex_exit ?_
      simp only [if_true]
      refine ex_seq (ex_region ?_)
      refine ro_assign (by simp only [evalF, upd, arg0, argS, ofConst, ofCell, Nat.reduceEqDiff, reduceIte, h9, h10] <;> rfl) (by decide) ?_
      refine ro_nil ?_
      try simp only
      refine ex_ret ?_
      refine ⟨_, rfl, ?_⟩
      rw [hby]
      simp only [upd, Nat.reduceEqDiff, reduceIte]
      exact ⟨by first | rfl | trivial, hrd1, hk1⟩
    | cons x t =>
      have hx := htl.2 x List.mem_cons_self
      have hby : byteR b e most = if x > most then (0, b', firstE e' 11) else (x, b', e') := by rw [byteR, htk]
      have ht0 : t = [] := by
        have := htl.1
        simp at this
        exact this
      subst ht0
      obtain ⟨a, ha, hla⟩ := row_at st27 hr1 (i := 0) (x := .int .u8 x) rfl
      refine ex_block (ex_loop (I := fun k g hpx nbx => g 0 = .ptr idr 1 0 ∧ g 1 = .pv (.int .i64 most) ∧ g 8 = v1 ∧ g 9 = .pv (.int .i64 1) ∧ g 10 = .pv (.int .i64 0) ∧ hpx = hp1 ∧ nbx = nb1) (m := 0) ⟨by simp [upd, argsF], by simp [upd, argsF], by simp [upd], by simp [upd, u8s], by simp [upd], rfl, rfl⟩ (by omega) ?_)
      rintro k g hpx nbx ⟨h0, h1, h8, h9, h10, e1, e2⟩
      rw [e1, e2]
      refine ex_seq (ex_region ?_)
      refine ro_bin (by simp only [evalF, upd, arg0, argS, ofConst, ofCell, Nat.reduceEqDiff, reduceIte, h0, h1, h8, h9, h10] <;> rfl) (by simp only [evalF, upd, arg0, argS, ofConst, ofCell, Nat.reduceEqDiff, reduceIte, h0, h1, h8, h9, h10] <;> rfl) (by exact (lss_t (by omega))) (by decide) ?_
      refine ro_nil ?_
      try simp only
      refine ex_seq (ex_cond (t := true) (by simp only [evalF, upd, arg0, argS, ofConst, ofCell, Nat.reduceEqDiff, reduceIte, h0, h1, h8, h9, h10] <;> rfl) (fun _ => ex_skip ?_) (fun h => by simp at h))
      try simp only
      refine ex_seq (ex_block ?_)
      refine ex_seq (ex_region ?_)
      refine ro_indexAddr (by simp only [evalF, upd, arg0, argS, ofConst, ofCell, Nat.reduceEqDiff, reduceIte, h0, h1, h8, h9, h10] <;> rfl) (by simp only [evalF, upd, arg0, argS, ofConst, ofCell, Nat.reduceEqDiff, reduceIte, h0, h1, h8, h9, h10] <;> rfl) (by exact (show indexAddrA Try.prog 27 v1 (.pv (.int .i64 0)) = some a from ha)) (by decide) ?_
      refine ro_load (by simp only [evalF, upd, arg0, argS, ofConst, ofCell, Nat.reduceEqDiff, reduceIte, h0, h1, h8, h9, h10] <;> rfl) (by exact (hla)) (by decide) ?_
      refine ro_assign (by simp only [evalF, upd, arg0, argS, ofConst, ofCell, Nat.reduceEqDiff, reduceIte, h0, h1, h8, h9, h10] <;> rfl) (by decide) ?_
      refine ro_nil ?_
      try simp only
      refine ex_seq (ex_seq (ex_region ?_))
      refine ro_move (by simp only [evalF, upd, arg0, argS, ofConst, ofCell, Nat.reduceEqDiff, reduceIte, h0, h1, h8, h9, h10] <;> rfl) (by decide) ?_
      refine ro_conv (by simp only [evalF, upd, arg0, argS, ofConst, ofCell, Nat.reduceEqDiff, reduceIte, h0, h1, h8, h9, h10] <;> rfl) (by exact (conv53 x hx _ _)) (by decide) ?_
      refine ro_move (by simp only [evalF, upd, arg0, argS, ofConst, ofCell, Nat.reduceEqDiff, reduceIte, h0, h1, h8, h9, h10] <;> rfl) (by decide) ?_
      refine ro_bin (by simp only [evalF, upd, arg0, argS, ofConst, ofCell, Nat.reduceEqDiff, reduceIte, h0, h1, h8, h9, h10] <;> rfl) (by simp only [evalF, upd, arg0, argS, ofConst, ofCell, Nat.reduceEqDiff, reduceIte, h0, h1, h8, h9, h10] <;> rfl) (by exact (gtr_v)) (by decide) ?_
      refine ro_nil ?_
      try simp only
      refine ex_cond (t := decide (x > most)) (by simp only [evalF, upd, arg0, argS, ofConst, ofCell, Nat.reduceEqDiff, reduceIte, h0, h1, h8, h9, h10] <;> rfl) (fun hm => ?_) (fun hm => ?_)
      · refine ex_seq (ex_region ?_)
        refine ro_move (by simp only [evalF, upd, arg0, argS, ofConst, ofCell, Nat.reduceEqDiff, reduceIte, h0, h1, h8, h9, h10] <;> rfl) (by decide) ?_
        refine ro_call (f := 27) («as» := [.ptr idr 1 0, .pv (.int .i64 11)]) rfl (by simp [evalF, upd, h0, ofConst, ofCell]) hpu rfl (fail_calls S pure lim (d + 1) 11 hrd1) (by decide) ?_
        rintro v2 hp2 nb2 ⟨_, hr2, hk2⟩
        refine ro_nil ?_
        try simp only
        refine ex_seq (ex_region ?_)
        refine ro_assign (by simp only [evalF, upd, arg0, argS, ofConst, ofCell, Nat.reduceEqDiff, reduceIte, h0, h1, h8, h9, h10] <;> rfl) (by decide) ?_
        refine ro_nil ?_
        try simp only
        refine ex_ret ?_
        refine ⟨_, rfl, ?_⟩
        rw [hby, if_pos (of_decide_eq_true hm)]
        simp only [upd, Nat.reduceEqDiff, reduceIte]
        exact ⟨by first | rfl | trivial, hr2, keepR_trans hk1 hk2⟩
      · refine ex_skip ?_
        try simp only
        refine ex_seq (ex_region ?_)
        refine ro_move (by simp only [evalF, upd, arg0, argS, ofConst, ofCell, Nat.reduceEqDiff, reduceIte, h0, h1, h8, h9, h10] <;> rfl) (by decide) ?_
        refine ro_conv (by simp only [evalF, upd, arg0, argS, ofConst, ofCell, Nat.reduceEqDiff, reduceIte, h0, h1, h8, h9, h10] <;> rfl) (by exact (conv53 x hx _ _)) (by decide) ?_
        refine ro_assign (by simp only [evalF, upd, arg0, argS, ofConst, ofCell, Nat.reduceEqDiff, reduceIte, h0, h1, h8, h9, h10] <;> rfl) (by decide) ?_
        refine ro_nil ?_
        try simp only
        refine ex_ret ?_
        refine ⟨_, rfl, ?_⟩
        rw [hby, if_neg (of_decide_eq_false hm)]
        simp only [upd, Nat.reduceEqDiff, reduceIte]
        exact ⟨by first | rfl | trivial, hrd1, hk1⟩
end Go.Proofs.Ytlinbbjobjnipaa
