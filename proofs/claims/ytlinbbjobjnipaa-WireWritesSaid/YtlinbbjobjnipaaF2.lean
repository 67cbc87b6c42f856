/- Messages: 'good' makes one such as may be written. -/
import Derived.Test.YtlinbbjobjnipaaF1
set_option linter.unusedVariables false
set_option linter.unusedSimpArgs false
set_option linter.unusedSectionVars false
namespace Go.Proofs.Ytlinbbjobjnipaa
open Go AI

set_option maxHeartbeats 4000000
set_option maxRecDepth 10000

/-- Which functions are called by value. -/
def plains (f : Nat) : Bool := [9, 10, 12, 19, 39].contains f

/-- What is known ahead: the chapter's example holds, the number within. -/
def facts : CallG := fun _ f aa =>
  match f, aa with
  | 9, [] => some (.pv (.bool true))
  | 10, [.pv (.int .i64 a), .pv (.int .i64 m)] => if (Lit.int .i64 a).wf = true ∧ 0 < m ∧ m ≤ 100000 then some (.pv (.int .i64 (a % m))) else none
  | _, _ => none

theorem facts_within {G : CallG} {hp : Hp} {a m : Int} (ha : (Lit.int .i64 a).wf = true) (hm : 0 < m ∧ m ≤ 100000) : orS facts G hp 10 [.pv (.int .i64 a), .pv (.int .i64 m)] = some (.pv (.int .i64 (a % m))) := by
  unfold orS facts
  simp [ha, hm.1, hm.2]

theorem wf_range {a : Int} (h : (Lit.int .i64 a).wf = true) : -9223372036854775808 ≤ a ∧ a ≤ 9223372036854775807 := by
  have hx : IntKind.i64.min ≤ a ∧ a ≤ IntKind.i64.max := by simpa [Lit.wf] using h
  simpa [IntKind.min, IntKind.max, IntKind.signed, IntKind.bits] using hx

/-- All numbers of a message fit. -/
structure Fit (m : M) : Prop where
  key : m.key.length = 32
  kind : (Lit.int .i64 m.kind).wf = true
  node : (Lit.int .i64 m.node).wf = true
  pred : (Lit.int .i64 m.pred).wf = true
  lease : (Lit.int .i64 m.lease).wf = true
  err : (Lit.int .i64 m.err).wf = true
  list : ∀ x ∈ m.list, (Lit.int .i64 x).wf = true

theorem splice_lo {α : Type} {pre : List α} {a b : α} {r : List α} {n : Nat} (hn : pre.length = n) : splice (pre ++ a :: r) n [b] = pre ++ b :: r := by
  subst hn
  simp [splice]

section
variable {m : M} {L D : AV}
theorem spl0 (z : Int) : splice (mcells m L D) 0 [.pv (.int .i64 z)] = mcells { m with kind := z } L D := rfl
theorem spl1 (z : Int) : splice (mcells m L D) 1 [.pv (.int .i64 z)] = mcells { m with node := z } L D := rfl
theorem spl2 (z : Int) : splice (mcells m L D) 2 [.pv (.int .i64 z)] = mcells { m with pred := z } L D := rfl
theorem spl3 (v : AV) (l : List Int) : splice (mcells m L D) 3 [v] = mcells { m with list := l } v D := rfl
theorem spl37 (hk : m.key.length = 32) (v : AV) (l : List Int) : splice (mcells m L D) 37 [v] = mcells { m with data := l } L v := by
  have h := splice_lo (n := 37) (pre := [.pv (.int .i64 m.kind), .pv (.int .i64 m.node), .pv (.int .i64 m.pred), L, .pv (.bool m.done)] ++ (u8s m.key).map AV.pv) (a := D) (b := v) (r := [.pv (.int .i64 m.lease), .pv (.int .i64 m.err)]) (by simp [u8s, hk])
  simpa [mcells] using h
theorem spl38 (hk : m.key.length = 32) (z : Int) : splice (mcells m L D) 38 [.pv (.int .i64 z)] = mcells { m with lease := z } L D := by
  have h := splice_lo (n := 38) (pre := [.pv (.int .i64 m.kind), .pv (.int .i64 m.node), .pv (.int .i64 m.pred), L, .pv (.bool m.done)] ++ ((u8s m.key).map AV.pv ++ [D])) (a := .pv (.int .i64 m.lease)) (b := .pv (.int .i64 z)) (r := [.pv (.int .i64 m.err)]) (by simp [u8s, hk])
  simpa [mcells] using h
theorem spl39 (hk : m.key.length = 32) (z : Int) : splice (mcells m L D) 39 [.pv (.int .i64 z)] = mcells { m with err := z } L D := by
  have h := splice_lo (n := 39) (pre := [.pv (.int .i64 m.kind), .pv (.int .i64 m.node), .pv (.int .i64 m.pred), L, .pv (.bool m.done)] ++ ((u8s m.key).map AV.pv ++ [D, .pv (.int .i64 m.lease)])) (a := .pv (.int .i64 m.err)) (b := .pv (.int .i64 z)) (r := []) (by simp [u8s, hk])
  simpa [mcells] using h
end

/-- A store into a field of a message. -/
theorem put_field {hp : Hp} {t id off : Nat} {m m' : M} {L D L' D' v : AV} (hk : m.key.length = 32) (ht : szA Try.prog t = some 1) (hl : AI.look hp id 1 = some (mcells m L D)) (hv : v.cells = [v] ∧ v.isCell = true) (ho : off < 40)
    (hs : splice (mcells m L D) off [v] = mcells m' L' D') : storeA Try.prog hp t (.ptr id 1 off) v = some (.upd undefA id (.cells 1 (mcells m' L' D'))) := by
  rw [store1 ht hl hv.1 hv.2 (by rw [mc_length hk]; omega), hs]

theorem zero30 : zeroA Try.prog 30 = some (mcells zeroM (.pv .nilSlice) (.pv .nilSlice)) := by kernel_rfl

theorem bs24_1 (nb : Nat) (z : Int) : buildSliceA Try.prog nb 24 1 [(0, .pv (.int .i64 z))] = some (.new (.slice nb 1 0 1 1 1 true) (.cells 1 [.pv (.int .i64 z)])) := by kernel_rfl
theorem bs27_1 (nb : Nat) (z : Int) : buildSliceA Try.prog nb 27 1 [(0, .pv (.int .u8 z))] = some (.new (.slice nb 1 0 1 1 1 true) (.cells 1 [.pv (.int .u8 z)])) := by kernel_rfl
theorem bs27_2 (nb : Nat) (z y : Int) : buildSliceA Try.prog nb 27 2 [(0, .pv (.int .u8 z)), (1, .pv (.int .u8 y))] = some (.new (.slice nb 1 0 2 2 1 true) (.cells 1 [.pv (.int .u8 z), .pv (.int .u8 y)])) := by kernel_rfl
theorem bs27_4 (nb : Nat) (z y x w : Int) : buildSliceA Try.prog nb 27 4 [(0, .pv (.int .u8 z)), (1, .pv (.int .u8 y)), (2, .pv (.int .u8 x)), (3, .pv (.int .u8 w))] = some (.new (.slice nb 1 0 4 4 1 true) (.cells 1 [.pv (.int .u8 z), .pv (.int .u8 y), .pv (.int .u8 x), .pv (.int .u8 w)])) := by kernel_rfl

/-- What was just built is read as it is. -/
theorem src_built {hp : Hp} {id n : Nat} {l : List PV} (hn : l.length = n) (h : hp id = .cells 1 (l.map .pv)) : srcA hp 1 (.slice id 1 0 n n 1 true) = some (l.length, l.map .pv) := by
  have r : Row hp (id + 1) (.slice id 1 0 n n 1 true) l := .own _ _ _ _ _ _ _ _ hn (by omega) h (by simp [hn]) (Nat.le_refl _) (by simp [← hn, ← List.map_take])
  exact row_src r

theorem row_okC {hp : Hp} {nb nb' : Nat} {v : AV} {l : List PV} (r : Row hp nb v l) (ho : ownOf v = none) : okC nb' v := by
  cases r with
  | own => simp [ownOf] at ho
  | _ => exact okC_pv _ _

theorem grow_okC {hp : Hp} {nb : Nat} {v : AV} {l : List PV} (g : Grow hp nb v l) : okC nb v := by
  cases g with
  | nil => exact okC_pv _ _
  | own id ver n xc l h hi hc => exact okC_slice hi

theorem min64 {hp : Hp} {nb : Nat} {ts : Array TypeId} {a b : Int} : builtinA Try.prog hp nb .min ts [.pv (.int .i64 a), .pv (.int .i64 b)] = some (.val (.pv (.int .i64 (if b < a then b else a)))) := rfl

theorem goodNeeds : needs (regOf Try.f13 2) = [(2, 4)] := by kernel_rfl
theorem goodStat : statOk (regOf Try.f13 2) = true := by kernel_rfl

theorem good_calls (lim d : Nat) {m : M} {L D : AV} (hf : Fit m) {hp0 : Hp} {nb0 : Nat} (hL : Row hp0 nb0 L (ints m.list)) (hD : Row hp0 nb0 D (u8s m.data)) (hLp : ownOf L = none) (hDp : ownOf D = none) (hlim : m.list.length < lim) (hln : m.list.length < 1000) (hdn : m.data.length < 100000) :
    CA (callA Try.prog facts plains lim (d + 1)) 13 [.agg (mcells m L D)] (AI.hf []) 0 fun v hp' nb' => ∃ L' D', v = .agg (mcells (goodM m) L' D') ∧ Row hp' nb' L' (ints (goodM m).list) ∧ Row hp' nb' D' (u8s (goodM m).data) ∧ ownOf D' = none ∧ Tidy hp' nb' := by
  have hk := hf.key
  have rowAny : ∀ {v : AV} {l : List PV}, Row hp0 nb0 v l → ownOf v = none → ∀ hp nb, Row hp nb v l := by
    intro v l r ho hp nb
    cases r with
    | nil => exact .nil
    | zcap => exact .zcap
    | ros n l h => exact .ros n l h
    | own => simp [ownOf] at ho
  have okPlain : ∀ {v : AV} {l : List PV}, Row hp0 nb0 v l → ownOf v = none → ∀ nb, okC nb v := by
    intro v l r ho nb
    cases r <;> first | exact okC_pv _ _ | simp [ownOf] at ho
  have okM : ∀ {nb : Nat} {m : M} {L D : AV}, okC nb L → okC nb D → ∀ c ∈ mcells m L D, okC nb c := by
    intro nb m L D hL hD c hc
    simp only [mcells, List.mem_append, List.mem_cons, List.not_mem_nil, or_false, List.mem_map] at hc
    rcases hc with (rfl | rfl | rfl | rfl | rfl) | (⟨q, _, rfl⟩ | rfl | rfl | rfl) <;> first | exact okC_pv _ _ | assumption
  refine ca_body (fn := Try.f13) (c := bodyOf Try.f13) Try.func13 rfl (by show 1 ≤ 59; omega) ?_
  show EX _ _ _ _ _ 59 _ _ _ _ _
  unfold bodyOf Try.f13
  refine ex_seq (ex_region ?_)
  refine ro_box (v := .agg (mcells m L D)) (by simp [evalF, argsF]) (mc_all (row_cell hL).1 (row_cell hD).1) (by decide) ?_
  refine ro_alloc zero30 (by kernel_rfl) (by decide) ?_
  refine ro_nil ?_
  try simp only
  generalize hh1 : setHp (setHp (AI.hf []) 0 _) _ _ = hp1
  have hl1 : AI.look hp1 0 1 = some (mcells m L D) := by rw [← hh1, look_ne _ _ _ (by omega)]; exact look_same _ _ _ _
  have hz1 : AI.look hp1 1 1 = some (mcells zeroM (.pv .nilSlice) (.pv .nilSlice)) := by rw [← hh1]; exact look_same _ _ _ _
  have ht1 : Tidy hp1 2 := by
    rw [← hh1]
    exact tidy_new (tidy_new tidy_nil (okM (okPlain hL hLp _) (okPlain hD hDp _))) (okM (okC_pv _ _) (okC_pv _ _))
  clear hh1
  have w12 := Int.emod_nonneg m.kind (show (12 : Int) ≠ 0 by omega)
  have w12' := Int.emod_lt_of_pos m.kind (show (0 : Int) < 12 by omega)
  have w11 := Int.emod_nonneg m.pred (show (11 : Int) ≠ 0 by omega)
  have w11' := Int.emod_lt_of_pos m.pred (show (0 : Int) < 11 by omega)
  have w1000 := Int.emod_nonneg m.lease (show (1000 : Int) ≠ 0 by omega)
  have w1000' := Int.emod_lt_of_pos m.lease (show (0 : Int) < 1000 by omega)
  -- Kind
  refine ex_seq (ex_region ?_)
  refine ro_fieldAddr (by simp only [evalF, upd, arg0, argS, ofConst, ofCell, Nat.reduceEqDiff, reduceIte] <;> rfl) (by exact (fa30_0 _ _ _)) (by decide) ?_
  refine ro_load (by simp only [evalF, upd, arg0, argS, ofConst, ofCell, Nat.reduceEqDiff, reduceIte] <;> rfl) (by exact (load1 ag3 hl1 mc0)) (by decide) ?_
  refine ro_pure (f := 10) («as» := [.pv (.int .i64 m.kind), .pv (.int .i64 12)]) rfl (by simp [evalF, upd, ofConst, ofCell]) rfl (facts_within hf.kind (by omega)) (by decide) ?_
  refine ro_bin (by simp only [evalF, upd, arg0, argS, ofConst, ofCell, Nat.reduceEqDiff, reduceIte] <;> rfl) (by simp only [evalF, upd, arg0, argS, ofConst, ofCell, Nat.reduceEqDiff, reduceIte] <;> rfl) (by exact (add_v (by omega))) (by decide) ?_
  refine ro_fieldAddr (by simp only [evalF, upd, arg0, argS, ofConst, ofCell, Nat.reduceEqDiff, reduceIte] <;> rfl) (by exact (fa30_0 _ _ _)) (by decide) ?_
  refine ro_store (by simp only [evalF, upd, arg0, argS, ofConst, ofCell, Nat.reduceEqDiff, reduceIte] <;> rfl) (by simp only [evalF, upd, arg0, argS, ofConst, ofCell, Nat.reduceEqDiff, reduceIte] <;> rfl) (put_field hk sz3 hl1 ⟨rfl, rfl⟩ (by omega) (spl0 _)) ?_
  refine ro_nil ?_
  try simp only
  generalize hh2 : setHp hp1 0 _ = hp2
  have hl2 : AI.look hp2 0 1 = some (mcells { m with kind := 1 + m.kind % 12 } L D) := by rw [← hh2]; exact look_same _ _ _ _
  have hz2 : AI.look hp2 1 1 = some (mcells zeroM (.pv .nilSlice) (.pv .nilSlice)) := by rw [← hh2, look_ne _ _ _ (by omega)]; exact hz1
  have ht2 : Tidy hp2 2 := by rw [← hh2]; exact tidy_put ht1 (okM (okPlain hL hLp _) (okPlain hD hDp _))
  clear hh2 hl1 hz1 ht1
  -- Node, Pred
  refine ex_seq (ex_draw goodStat ?_)
  refine rd_val (v := .ptr 0 1 1) rfl (by simp [primA, evalF, upd, fa30_1]) (by decide) ?_
  refine rd_val (v := .pv (.int .i64 m.node)) rfl (by simp only [primA, evalF, upd, Nat.reduceEqDiff, reduceIte, load1 ag3 hl2 mc1, Option.map_some]) (by decide) ?_
  refine rd_pure («as» := [.pv (.int .i64 m.node), .pv (.int .i64 10)]) (by simp [evalF, upd, ofConst, ofCell]) rfl (facts_within hf.node (by omega)) (by decide) ?_
  refine rd_val (v := .ptr 0 1 2) rfl (by simp [primA, evalF, upd, fa30_2]) (by decide) ?_
  refine rd_val (v := .pv (.int .i64 m.pred)) rfl (by simp only [primA, evalF, upd, Nat.reduceEqDiff, reduceIte, load1 ag3 hl2 mc2, Option.map_some]) (by decide) ?_
  refine rd_pure («as» := [.pv (.int .i64 m.pred), .pv (.int .i64 11)]) (by simp [evalF, upd, ofConst, ofCell]) rfl (facts_within hf.pred (by omega)) (by decide) ?_
  refine rd_val (v := .pv (.int .i64 (m.pred % 11 - 1))) rfl (by simp only [primA, evalF, upd, ofConst, ofCell, Nat.reduceEqDiff, reduceIte, sub_v (show -9223372036854775808 ≤ m.pred % 11 - 1 ∧ m.pred % 11 - 1 ≤ 9223372036854775807 by omega), Option.map_some]) (by decide) ?_
  refine rd_val (v := .ptr 0 1 1) rfl (by simp [primA, evalF, upd, fa30_1]) (by decide) ?_
  refine rd_upd (dst := none) (v := undefA) (id := 0) (b := .cells 1 (mcells { m with kind := 1 + m.kind % 12, node := m.node % 10 } L D)) rfl (by
    simp only [primA, evalF, upd, Nat.reduceEqDiff, reduceIte]
    exact put_field (m := { m with kind := 1 + m.kind % 12 }) hk sz3 hl2 ⟨rfl, rfl⟩ (by omega) (spl1 _)) (look_live hl2) (by simp) ?_
  simp only [putF]
  refine rd_val (v := .ptr 0 1 2) rfl (by simp [primA, evalF, upd, fa30_2]) (by decide) ?_
  refine rd_upd (dst := none) (v := undefA) (id := 0) (b := .cells 1 (mcells { m with kind := 1 + m.kind % 12, node := m.node % 10, pred := m.pred % 11 - 1 } L D)) rfl (by
    simp only [primA, evalF, upd, Nat.reduceEqDiff, reduceIte]
    exact put_field (m := { m with kind := 1 + m.kind % 12, node := m.node % 10 }) hk sz3 (look_same _ _ _ _) ⟨rfl, rfl⟩ (by omega) (spl2 _)) (look_live (look_same _ _ _ _)) (by simp) ?_
  simp only [putF]
  refine rd_nil ⟨dyn_of rfl (fun p hp => ?_), ?_⟩
  · have hp' : p ∈ needs (regOf Try.f13 2) := hp
    rw [goodNeeds] at hp'
    simp only [List.mem_cons, List.not_mem_nil, or_false] at hp'
    subst hp'
    intro a b ha hb
    cases ha; cases hb
    exact heapPart_no rfl rfl
  try simp only
  generalize hh3 : setHp (setHp hp2 0 _) 0 _ = hp3
  have hl3 : AI.look hp3 0 1 = some (mcells { m with kind := 1 + m.kind % 12, node := m.node % 10, pred := m.pred % 11 - 1 } L D) := by rw [← hh3]; exact look_same _ _ _ _
  have hz3 : AI.look hp3 1 1 = some (mcells zeroM (.pv .nilSlice) (.pv .nilSlice)) := by rw [← hh3, look_ne _ _ _ (by omega), look_ne _ _ _ (by omega)]; exact hz2
  have ht3 : Tidy hp3 2 := by rw [← hh3]; exact tidy_put (tidy_put ht2 (okM (okPlain hL hLp _) (okPlain hD hDp _))) (okM (okPlain hL hLp _) (okPlain hD hDp _))
  clear hh3 hl2 hz2 ht2
  -- Lease
  refine ex_seq (ex_region ?_)
  refine ro_fieldAddr (by simp only [evalF, upd, arg0, argS, ofConst, ofCell, Nat.reduceEqDiff, reduceIte] <;> rfl) (by exact (fa30_7 _ _ _)) (by decide) ?_
  refine ro_load (by simp only [evalF, upd, arg0, argS, ofConst, ofCell, Nat.reduceEqDiff, reduceIte] <;> rfl) (by exact (load1 ag3 hl3 (mc38 (m := { m with kind := 1 + m.kind % 12, node := m.node % 10, pred := m.pred % 11 - 1 }) hk))) (by decide) ?_
  refine ro_pure (f := 10) («as» := [.pv (.int .i64 m.lease), .pv (.int .i64 1000)]) rfl (by simp [evalF, upd, ofConst, ofCell]) rfl (facts_within hf.lease (by omega)) (by decide) ?_
  refine ro_bin (by simp only [evalF, upd, arg0, argS, ofConst, ofCell, Nat.reduceEqDiff, reduceIte] <;> rfl) (by simp only [evalF, upd, arg0, argS, ofConst, ofCell, Nat.reduceEqDiff, reduceIte] <;> rfl) (by exact (add_v (by omega))) (by decide) ?_
  refine ro_fieldAddr (by simp only [evalF, upd, arg0, argS, ofConst, ofCell, Nat.reduceEqDiff, reduceIte] <;> rfl) (by exact (fa30_7 _ _ _)) (by decide) ?_
  refine ro_store (by simp only [evalF, upd, arg0, argS, ofConst, ofCell, Nat.reduceEqDiff, reduceIte] <;> rfl) (by simp only [evalF, upd, arg0, argS, ofConst, ofCell, Nat.reduceEqDiff, reduceIte] <;> rfl) (put_field (m := { m with kind := 1 + m.kind % 12, node := m.node % 10, pred := m.pred % 11 - 1 }) hk sz3 hl3 ⟨rfl, rfl⟩ (by omega) (spl38 (m := { m with kind := 1 + m.kind % 12, node := m.node % 10, pred := m.pred % 11 - 1 }) hk _)) ?_
  refine ro_nil ?_
  try simp only
  generalize hh4 : setHp hp3 0 _ = hp4
  have hl4 : AI.look hp4 0 1 = some (mcells { m with kind := 1 + m.kind % 12, node := m.node % 10, pred := m.pred % 11 - 1, lease := 1 + m.lease % 1000 } L D) := by rw [← hh4]; exact look_same _ _ _ _
  have hz4 : AI.look hp4 1 1 = some (mcells zeroM (.pv .nilSlice) (.pv .nilSlice)) := by rw [← hh4, look_ne _ _ _ (by omega)]; exact hz3
  have ht4 : Tidy hp4 2 := by rw [← hh4]; exact tidy_put ht3 (okM (okPlain hL hLp _) (okPlain hD hDp _))
  clear hh4 hl3 hz3 ht3
  -- Err
  refine ex_seq (ex_region ?_)
  refine ro_fieldAddr (by simp only [evalF, upd, arg0, argS, ofConst, ofCell, Nat.reduceEqDiff, reduceIte] <;> rfl) (by exact (fa30_8 _ _ _)) (by decide) ?_
  refine ro_load (by simp only [evalF, upd, arg0, argS, ofConst, ofCell, Nat.reduceEqDiff, reduceIte] <;> rfl) (by exact (load1 ag28 hl4 (mc39 (m := { m with kind := 1 + m.kind % 12, node := m.node % 10, pred := m.pred % 11 - 1, lease := 1 + m.lease % 1000 }) hk))) (by decide) ?_
  refine ro_pure (f := 10) («as» := [.pv (.int .i64 m.err), .pv (.int .i64 21)]) rfl (by simp [evalF, upd, ofConst, ofCell]) rfl (facts_within hf.err (by omega)) (by decide) ?_
  refine ro_fieldAddr (by simp only [evalF, upd, arg0, argS, ofConst, ofCell, Nat.reduceEqDiff, reduceIte] <;> rfl) (by exact (fa30_8 _ _ _)) (by decide) ?_
  refine ro_store (by simp only [evalF, upd, arg0, argS, ofConst, ofCell, Nat.reduceEqDiff, reduceIte] <;> rfl) (by simp only [evalF, upd, arg0, argS, ofConst, ofCell, Nat.reduceEqDiff, reduceIte] <;> rfl) (put_field (m := { m with kind := 1 + m.kind % 12, node := m.node % 10, pred := m.pred % 11 - 1, lease := 1 + m.lease % 1000 }) hk sz28 hl4 ⟨rfl, rfl⟩ (by omega) (spl39 (m := { m with kind := 1 + m.kind % 12, node := m.node % 10, pred := m.pred % 11 - 1, lease := 1 + m.lease % 1000 }) hk _)) ?_
  refine ro_nil ?_
  try simp only
  generalize hh5 : setHp hp4 0 _ = hp5
  generalize hm5 : ({ m with kind := 1 + m.kind % 12, node := m.node % 10, pred := m.pred % 11 - 1, lease := 1 + m.lease % 1000, err := m.err % 21 } : M) = m5
  have hk5 : m5.key.length = 32 := by rw [← hm5]; exact hk
  have hml : m5.list = m.list := by rw [← hm5]
  have hmd : m5.data = m.data := by rw [← hm5]
  have hl5 : AI.look hp5 0 1 = some (mcells m5 L D) := by rw [← hh5, ← hm5]; exact look_same _ _ _ _
  have hz5 : AI.look hp5 1 1 = some (mcells zeroM (.pv .nilSlice) (.pv .nilSlice)) := by rw [← hh5, look_ne _ _ _ (by omega)]; exact hz4
  have ht5 : Tidy hp5 2 := by rw [← hh5]; exact tidy_put ht4 (okM (okPlain hL hLp _) (okPlain hD hDp _))
  clear hh5 hl4 hz4 ht4
  refine ex_seq (ex_region ?_)
  refine ro_assign (by simp only [evalF, upd, arg0, argS, ofConst, ofCell, Nat.reduceEqDiff, reduceIte] <;> rfl) (by decide) ?_
  refine ro_nil ?_
  try simp only
  -- List
  refine ex_seq ?_
  refine ex_seq (ex_region ?_)
  refine ro_assign (by simp only [evalF, upd, arg0, argS, ofConst, ofCell, Nat.reduceEqDiff, reduceIte] <;> rfl) (by decide) ?_
  refine ro_nil ?_
  try simp only
  refine ex_block (ex_loop (I := fun k g hpx nbx => ∃ (i : Nat) (v : AV), k = m.list.length - i ∧ i ≤ m.list.length ∧ i ≤ 10 ∧ g 1 = .ptr 0 1 0 ∧ g 2 = .ptr 1 1 0 ∧ g 3 = v ∧ g 4 = .pv (.int .i64 i) ∧ Grow hpx nbx v (ints ((m.list.take i).map (· % 10))) ∧
    (∀ id, ownOf v = some id → 2 ≤ id) ∧ AI.look hpx 0 1 = some (mcells m5 L D) ∧ AI.look hpx 1 1 = some (mcells zeroM (.pv .nilSlice) (.pv .nilSlice)) ∧ Tidy hpx nbx ∧ 2 ≤ nbx)
    (m := m.list.length) ⟨0, .pv .nilSlice, rfl, Nat.zero_le _, by omega, by simp [upd], by simp [upd], by simp [upd], by simp [upd], .nil, by simp [ownOf], hl5, hz5, ht5, Nat.le_refl _⟩ hlim ?_)
  rintro k g hpx nbx ⟨i, v, hkk, hi, hi10, h1, h2, h3, h4, hg, hown, hlx, hzx, htx, hnb⟩
  have hgo : ∀ b, b = (decide ((i : Int) < m.list.length) && decide ((i : Int) < 10)) → True := fun _ _ => trivial
  refine ex_seq (ex_seq (ex_weaken (K := fun xa g' hp' nb' => xa = .normal ∧ g' 36 = .pv (.bool (decide (i < m.list.length) && decide (i < 10))) ∧ g' 1 = .ptr 0 1 0 ∧ g' 2 = .ptr 1 1 0 ∧ g' 3 = v ∧ g' 4 = .pv (.int .i64 i) ∧ hp' = hpx ∧ nb' = nbx) ?_ ?_))
  · by_cases hc : i < m.list.length
    · refine ex_region ?_
      refine ro_move (by simp only [evalF, upd, arg0, argS, ofConst, ofCell, Nat.reduceEqDiff, reduceIte, h1, h2, h3, h4] <;> rfl) (by decide) ?_
      refine ro_fieldAddr (by simp only [evalF, upd, arg0, argS, ofConst, ofCell, Nat.reduceEqDiff, reduceIte, h1, h2, h3, h4] <;> rfl) (by exact (fa30_3 _ _ _)) (by decide) ?_
      refine ro_load (by simp only [evalF, upd, arg0, argS, ofConst, ofCell, Nat.reduceEqDiff, reduceIte, h1, h2, h3, h4] <;> rfl) (by exact (load1 ag24 hlx mc3)) (by decide) ?_
      refine ro_builtin rfl (by simp only [List.map_cons, List.map_nil, evalF, upd, arg0, argS, ofConst, ofCell, Nat.reduceEqDiff, reduceIte, h1, h2, h3, h4] <;> rfl) (by exact (row_len st24 hL)) (by decide) ?_
      refine ro_bin (by simp only [evalF, upd, arg0, argS, ofConst, ofCell, Nat.reduceEqDiff, reduceIte, h1, h2, h3, h4] <;> rfl) (by simp only [evalF, upd, arg0, argS, ofConst, ofCell, Nat.reduceEqDiff, reduceIte, h1, h2, h3, h4] <;> rfl) (by exact (lss_t (by simp [ints]; omega))) (by decide) ?_
      refine ro_move (by simp only [evalF, upd, arg0, argS, ofConst, ofCell, Nat.reduceEqDiff, reduceIte, h1, h2, h3, h4] <;> rfl) (by decide) ?_
      refine ro_guard rfl (by simp only [evalF, upd, arg0, argS, ofConst, ofCell, Nat.reduceEqDiff, reduceIte, h1, h2, h3, h4] <;> rfl) rfl ?_
      refine ro_move (by simp only [evalF, upd, arg0, argS, ofConst, ofCell, Nat.reduceEqDiff, reduceIte, h1, h2, h3, h4] <;> rfl) (by decide) ?_
      refine ro_guard rfl (by simp only [evalF, upd, arg0, argS, ofConst, ofCell, Nat.reduceEqDiff, reduceIte, h1, h2, h3, h4] <;> rfl) rfl ?_
      refine ro_bin (by simp only [evalF, upd, arg0, argS, ofConst, ofCell, Nat.reduceEqDiff, reduceIte, h1, h2, h3, h4] <;> rfl) (by simp only [evalF, upd, arg0, argS, ofConst, ofCell, Nat.reduceEqDiff, reduceIte, h1, h2, h3, h4] <;> rfl) (by exact (lss_v)) (by decide) ?_
      refine ro_pick (by simp only [evalF, upd, arg0, argS, ofConst, ofCell, Nat.reduceEqDiff, reduceIte, h1, h2, h3, h4] <;> rfl) (by simp only [evalF, upd, arg0, argS, ofConst, ofCell, Nat.reduceEqDiff, reduceIte, h1, h2, h3, h4] <;> rfl) (by simp only [evalF, upd, arg0, argS, ofConst, ofCell, Nat.reduceEqDiff, reduceIte, h1, h2, h3, h4] <;> rfl) (by decide) ?_
      refine ro_nil ?_
      refine ⟨by first | rfl | trivial, ?_, by simp [upd, h1], by simp [upd, h2], by simp [upd, h3], by simp [upd, h4], by first | rfl | trivial, by first | rfl | trivial⟩
      simp only [upd, Nat.reduceEqDiff, reduceIte, decide_eq_true hc, Bool.true_and, AV.pv.injEq, PV.bool.injEq, decide_eq_decide]
      omega
    · refine ex_region ?_
      refine ro_move (by simp only [evalF, upd, arg0, argS, ofConst, ofCell, Nat.reduceEqDiff, reduceIte, h1, h2, h3, h4] <;> rfl) (by decide) ?_
      refine ro_fieldAddr (by simp only [evalF, upd, arg0, argS, ofConst, ofCell, Nat.reduceEqDiff, reduceIte, h1, h2, h3, h4] <;> rfl) (by exact (fa30_3 _ _ _)) (by decide) ?_
      refine ro_load (by simp only [evalF, upd, arg0, argS, ofConst, ofCell, Nat.reduceEqDiff, reduceIte, h1, h2, h3, h4] <;> rfl) (by exact (load1 ag24 hlx mc3)) (by decide) ?_
      refine ro_builtin rfl (by simp only [List.map_cons, List.map_nil, evalF, upd, arg0, argS, ofConst, ofCell, Nat.reduceEqDiff, reduceIte, h1, h2, h3, h4] <;> rfl) (by exact (row_len st24 hL)) (by decide) ?_
      refine ro_bin (by simp only [evalF, upd, arg0, argS, ofConst, ofCell, Nat.reduceEqDiff, reduceIte, h1, h2, h3, h4] <;> rfl) (by simp only [evalF, upd, arg0, argS, ofConst, ofCell, Nat.reduceEqDiff, reduceIte, h1, h2, h3, h4] <;> rfl) (by exact (lss_f (by simp [ints]; omega))) (by decide) ?_
      refine ro_move (by simp only [evalF, upd, arg0, argS, ofConst, ofCell, Nat.reduceEqDiff, reduceIte, h1, h2, h3, h4] <;> rfl) (by decide) ?_
      refine ro_skip rfl (by simp only [evalF, upd, arg0, argS, ofConst, ofCell, Nat.reduceEqDiff, reduceIte, h1, h2, h3, h4] <;> rfl) rfl (fun e he => by cases he; decide) ?_
      simp only [putF]
      refine ro_skip rfl (by simp only [evalF, upd, arg0, argS, ofConst, ofCell, Nat.reduceEqDiff, reduceIte, h1, h2, h3, h4] <;> rfl) rfl (fun e he => by cases he; decide) ?_
      simp only [putF]
      refine ro_pick (by simp only [evalF, upd, arg0, argS, ofConst, ofCell, Nat.reduceEqDiff, reduceIte, h1, h2, h3, h4] <;> rfl) (by simp only [evalF, upd, arg0, argS, ofConst, ofCell, Nat.reduceEqDiff, reduceIte, h1, h2, h3, h4] <;> rfl) (by simp only [evalF, upd, arg0, argS, ofConst, ofCell, Nat.reduceEqDiff, reduceIte, h1, h2, h3, h4] <;> rfl) (by decide) ?_
      refine ro_nil ?_
      refine ⟨by first | rfl | trivial, ?_, by simp [upd, h1], by simp [upd, h2], by simp [upd, h3], by simp [upd, h4], by first | rfl | trivial, by first | rfl | trivial⟩
      simp only [upd, Nat.reduceEqDiff, reduceIte, decide_eq_false hc, Bool.false_and, Bool.false_eq_true]
  rintro xa g2 hpy nby ⟨rfl, h36, h1, h2, h3, h4, e1, e2⟩
  rw [e1, e2]
  clear e1 e2 hpy nby
  try simp only
  refine ex_cond (t := decide (i < m.list.length) && decide (i < 10)) (by simp only [evalF, upd, arg0, argS, ofConst, ofCell, Nat.reduceEqDiff, reduceIte, h1, h2, h3, h4, h36] <;> rfl) (fun ht => ?_) (fun ht => ?_)
  rotate_left
  · refine ex_exit ?_
    simp only [if_true]
    have hie : m.list.take i = m.list.take 10 := by
      simp only [Bool.and_eq_false_iff, decide_eq_false_iff_not] at ht
      rcases ht with ht | ht
      · rw [List.take_of_length_le (by omega), List.take_of_length_le (by omega)]
      · rw [show i = 10 by omega]
    rw [hie] at hg
    have hrow := hg.row
    refine ex_seq (ex_region ?_)
    refine ro_move (by simp only [evalF, upd, arg0, argS, ofConst, ofCell, Nat.reduceEqDiff, reduceIte, h1, h2, h3, h4, h36] <;> rfl) (by decide) ?_
    refine ro_fieldAddr (by simp only [evalF, upd, arg0, argS, ofConst, ofCell, Nat.reduceEqDiff, reduceIte, h1, h2, h3, h4, h36] <;> rfl) (by exact (fa30_3 _ _ _)) (by decide) ?_
    refine ro_store (by simp only [evalF, upd, arg0, argS, ofConst, ofCell, Nat.reduceEqDiff, reduceIte, h1, h2, h3, h4, h36] <;> rfl) (by simp only [evalF, upd, arg0, argS, ofConst, ofCell, Nat.reduceEqDiff, reduceIte, h1, h2, h3, h4, h36] <;> rfl) (put_field hk5 sz24 hlx ⟨(row_cell hrow).2, (row_cell hrow).1⟩ (by omega) (spl3 _ ((m.list.take 10).map (· % 10)))) ?_
    refine ro_nil ?_
    try simp only
    generalize hh6 : setHp hpx 0 _ = hp6
    have hl6 : AI.look hp6 0 1 = some (mcells { m5 with list := (m.list.take 10).map (· % 10) } v D) := by rw [← hh6]; exact look_same _ _ _ _
    have hz6 : AI.look hp6 1 1 = some (mcells zeroM (.pv .nilSlice) (.pv .nilSlice)) := by rw [← hh6, look_ne _ _ _ (by omega)]; exact hzx
    have hokv : okC nbx v := grow_okC hg
    have ht6 : Tidy hp6 nbx := by rw [← hh6]; exact tidy_put htx (okM hokv (okPlain hD hDp _))
    have hrow6 : Row hp6 nbx v (ints ((m.list.take 10).map (· % 10))) := hrow.keep (Nat.le_refl _) (fun id hid ho => by
      rw [← hh6]
      have := hown id ho
      simp [setHp, show id ≠ 0 by omega])
    clear hh6
    refine ex_seq (ex_region ?_)
    refine ro_fieldAddr (by simp only [evalF, upd, arg0, argS, ofConst, ofCell, Nat.reduceEqDiff, reduceIte, h1, h2, h3, h4, h36] <;> rfl) (by exact (fa30_6 _ _ _)) (by decide) ?_
    refine ro_load (by simp only [evalF, upd, arg0, argS, ofConst, ofCell, Nat.reduceEqDiff, reduceIte, h1, h2, h3, h4, h36] <;> rfl) (by exact (load1 ag27 hl6 (mc37 (m := { m5 with list := (m.list.take 10).map (· % 10) }) hk5))) (by decide) ?_
    refine ro_fieldAddr (by simp only [evalF, upd, arg0, argS, ofConst, ofCell, Nat.reduceEqDiff, reduceIte, h1, h2, h3, h4, h36] <;> rfl) (by exact (fa30_6 _ _ _)) (by decide) ?_
    refine ro_load (by simp only [evalF, upd, arg0, argS, ofConst, ofCell, Nat.reduceEqDiff, reduceIte, h1, h2, h3, h4, h36] <;> rfl) (by exact (load1 ag27 hl6 (mc37 (m := { m5 with list := (m.list.take 10).map (· % 10) }) hk5))) (by decide) ?_
    refine ro_builtin rfl (by simp only [List.map_cons, List.map_nil, evalF, upd, arg0, argS, ofConst, ofCell, Nat.reduceEqDiff, reduceIte, h1, h2, h3, h4, h36] <;> rfl) (by exact (row_len st27 hD)) (by decide) ?_
    refine ro_builtin rfl (by simp only [List.map_cons, List.map_nil, evalF, upd, arg0, argS, ofConst, ofCell, Nat.reduceEqDiff, reduceIte, h1, h2, h3, h4, h36] <;> rfl) (by exact (min64)) (by decide) ?_
    have hmin : (if (6000 : Int) < ((u8s m.data).length : Int) then (6000 : Int) else ((u8s m.data).length : Int)) = ((min m.data.length 6000 : Nat) : Int) := by
      simp only [u8s, List.length_map]
      split <;> omega
    rw [hmin]
    obtain ⟨D', hs1, hs2, hs3⟩ := row_slice st27 (rowAny hD hDp hp6 nbx) (lo := 0) (hi := min m.data.length 6000) (lv := none) (hv := some (.pv (.int .i64 ((min m.data.length 6000 : Nat) : Int)))) (.inr ⟨rfl, rfl⟩) (.inl rfl) (Nat.zero_le _) (by simp [u8s]; omega)
    refine ro_slice (by simp only [evalF, upd, arg0, argS, ofConst, ofCell, Nat.reduceEqDiff, reduceIte, h1, h2, h3, h4, h36] <;> rfl) rfl (by simp only [Option.map_some, evalF, upd, Nat.reduceEqDiff, reduceIte]) rfl hs1 (by decide) ?_
    refine ro_fieldAddr (by simp only [evalF, upd, arg0, argS, ofConst, ofCell, Nat.reduceEqDiff, reduceIte, h1, h2, h3, h4, h36] <;> rfl) (by exact (fa30_6 _ _ _)) (by decide) ?_
    have hDo : ownOf D' = none := by
      cases ho : ownOf D' with
      | none => rfl
      | some id => rw [hs3 id ho] at hDp; simp at hDp
    have hdat : ((u8s m.data).drop 0).take (min m.data.length 6000 - 0) = u8s (m.data.take 6000) := by
      simp only [List.drop_zero, Nat.sub_zero, u8s, ← List.map_take]
      congr 1
      by_cases h6 : 6000 ≤ m.data.length
      · rw [show min m.data.length 6000 = 6000 by omega]
      · rw [List.take_of_length_le (by omega), List.take_of_length_le (by omega)]
    rw [hdat] at hs2
    refine ro_store (by simp only [evalF, upd, arg0, argS, ofConst, ofCell, Nat.reduceEqDiff, reduceIte, h1, h2, h3, h4, h36] <;> rfl) (by simp only [evalF, upd, arg0, argS, ofConst, ofCell, Nat.reduceEqDiff, reduceIte, h1, h2, h3, h4, h36] <;> rfl) (put_field (m := { m5 with list := (m.list.take 10).map (· % 10) }) hk5 sz27 hl6 ⟨(row_cell hs2).2, (row_cell hs2).1⟩ (by omega) (spl37 (m := { m5 with list := (m.list.take 10).map (· % 10) }) hk5 _ (m.data.take 6000))) ?_
    refine ro_nil ?_
    try simp only
    have hgm : ({ m5 with list := (m.list.take 10).map (· % 10), data := m.data.take 6000 } : M) = goodM m := by rw [← hm5]; rfl
    generalize hh7 : setHp hp6 0 _ = hp7
    have hl7 : AI.look hp7 0 1 = some (mcells (goodM m) v D') := by rw [← hh7, ← hgm]; exact look_same _ _ _ _
    have hz7 : AI.look hp7 1 1 = some (mcells zeroM (.pv .nilSlice) (.pv .nilSlice)) := by rw [← hh7, look_ne _ _ _ (by omega)]; exact hz6
    have hokD : okC nbx D' := row_okC hs2 hDo
    have ht7 : Tidy hp7 nbx := by rw [← hh7]; exact tidy_put ht6 (okM hokv hokD)
    have hrow7 : Row hp7 nbx v (ints ((m.list.take 10).map (· % 10))) := hrow6.keep (Nat.le_refl _) (fun id hid ho => by
      rw [← hh7]
      have := hown id ho
      simp [setHp, show id ≠ 0 by omega])
    have hgk : (goodM m).key.length = 32 := hk
    clear hh7
    refine ex_seq (ex_region ?_)
    refine ro_load (by simp only [evalF, upd, arg0, argS, ofConst, ofCell, Nat.reduceEqDiff, reduceIte, h1, h2, h3, h4, h36] <;> rfl) (by exact (loadN ag30 sz30 hl7 (by rw [mc_length hgk]; omega))) (by decide) ?_
    refine ro_store (v := .agg (mcells (goodM m) v D')) (by simp only [evalF, upd, arg0, argS, ofConst, ofCell, Nat.reduceEqDiff, reduceIte, h1, h2, h3, h4, h36] <;> rfl) (by simp only [evalF, upd, Nat.reduceEqDiff, reduceIte, List.drop_zero]; rw [List.take_of_length_le (by rw [mc_length hgk]; omega)]) (storeN sz30 hz7 (mc_all (row_cell hrow7).1 (row_cell hs2).1) (mc_length hgk) (by rw [mc_length (by rfl)]; omega)) ?_
    refine ro_nil ?_
    try simp only
    have hsp : splice (mcells zeroM (.pv .nilSlice) (.pv .nilSlice)) 0 (mcells (goodM m) v D') = mcells (goodM m) v D' := by
      unfold splice
      rw [mc_length hgk]
      rw [List.drop_of_length_le (by rw [mc_length (by rfl)]; omega)]
      simp
    rw [hsp]
    refine ex_ret ?_
    have hfin : AI.look (setHp hp7 1 (.cells 1 (mcells (goodM m) v D'))) 1 1 = some (mcells (goodM m) v D') := look_same _ _ _ _
    refine ⟨.agg (mcells (goodM m) v D'), ?_, v, D', rfl, ?_, ?_, hDo, tidy_put ht7 (okM hokv hokD)⟩
    · show resOneF Try.prog _ _ (.cell 2 30) = _
      simp only [resOneF, upd, Nat.reduceEqDiff, reduceIte, h2]
      rw [loadN ag30 sz30 hfin (by rw [mc_length hgk]; omega), List.drop_zero, List.take_of_length_le (by rw [mc_length hgk]; omega)]
    · exact hrow7.keep (Nat.le_refl _) (fun id hid ho => by
        have := hown id ho
        simp [setHp, show id ≠ 1 by omega])
    · exact hs2.keep (Nat.le_refl _) (fun id hid ho => by rw [hDo] at ho; simp at ho)
  · refine ex_skip ?_
    try simp only
    simp only [Bool.and_eq_true, decide_eq_true_eq] at ht
    obtain ⟨hil, hi10'⟩ := ht
    have hgi : (ints m.list)[i]? = some (.int .i64 m.list[i]) := by
      unfold ints
      rw [List.getElem?_map, List.getElem?_eq_getElem hil]
      rfl
    obtain ⟨a, ha, hla⟩ := row_at st24 (rowAny hL hLp hpx nbx) hgi
    refine ex_seq (ex_block ?_)
    refine ex_region ?_
    refine ro_move (by simp only [evalF, upd, arg0, argS, ofConst, ofCell, Nat.reduceEqDiff, reduceIte, h1, h2, h3, h4, h36] <;> rfl) (by decide) ?_
    refine ro_fieldAddr (by simp only [evalF, upd, arg0, argS, ofConst, ofCell, Nat.reduceEqDiff, reduceIte, h1, h2, h3, h4, h36] <;> rfl) (by exact (fa30_3 _ _ _)) (by decide) ?_
    refine ro_load (by simp only [evalF, upd, arg0, argS, ofConst, ofCell, Nat.reduceEqDiff, reduceIte, h1, h2, h3, h4, h36] <;> rfl) (by exact (load1 ag24 hlx mc3)) (by decide) ?_
    refine ro_move (by simp only [evalF, upd, arg0, argS, ofConst, ofCell, Nat.reduceEqDiff, reduceIte, h1, h2, h3, h4, h36] <;> rfl) (by decide) ?_
    refine ro_indexAddr (by simp only [evalF, upd, arg0, argS, ofConst, ofCell, Nat.reduceEqDiff, reduceIte, h1, h2, h3, h4, h36] <;> rfl) (by simp only [evalF, upd, arg0, argS, ofConst, ofCell, Nat.reduceEqDiff, reduceIte, h1, h2, h3, h4, h36] <;> rfl) (by exact (ha)) (by decide) ?_
    refine ro_load (by simp only [evalF, upd, arg0, argS, ofConst, ofCell, Nat.reduceEqDiff, reduceIte, h1, h2, h3, h4, h36] <;> rfl) (by exact (hla)) (by decide) ?_
    refine ro_pure (f := 10) («as» := [.pv (.int .i64 m.list[i]), .pv (.int .i64 10)]) rfl (by simp [evalF, upd, ofConst, ofCell]) rfl (facts_within (hf.list _ (List.getElem_mem hil)) (by omega)) (by decide) ?_
    refine ro_buildSlice rfl (by simp only [List.map_cons, List.map_nil, evalF, upd, Nat.reduceEqDiff, reduceIte]; exact bs24_1 _ _) (by decide) ?_
    refine ro_append (r := [.int .i64 (m.list[i] % 10)]) st24 Try.underlying24 (by simp only [evalF, upd, arg0, argS, ofConst, ofCell, Nat.reduceEqDiff, reduceIte, h1, h2, h3, h4, h36] <;> rfl) (by simp only [evalF, upd, arg0, argS, ofConst, ofCell, Nat.reduceEqDiff, reduceIte, h1, h2, h3, h4, h36] <;> rfl) (hg.keep (Nat.le_succ _) (fun id hid _ => by simp [setHp, show id ≠ nbx by omega])) (src_built rfl (by simp [setHp])) (by simp [ints]; omega) (by decide) ?_
    intro v' hp' nb' hg' haft hown'
    refine ro_assign (by simp only [evalF, upd, arg0, argS, ofConst, ofCell, Nat.reduceEqDiff, reduceIte, h1, h2, h3, h4, h36] <;> rfl) (by decide) ?_
    refine ro_nil ?_
    try simp only
    refine ex_region ?_
    refine ro_move (by simp only [evalF, upd, arg0, argS, ofConst, ofCell, Nat.reduceEqDiff, reduceIte, h1, h2, h3, h4, h36] <;> rfl) (by decide) ?_
    refine ro_bin (by simp only [evalF, upd, arg0, argS, ofConst, ofCell, Nat.reduceEqDiff, reduceIte, h1, h2, h3, h4, h36] <;> rfl) (by simp only [evalF, upd, arg0, argS, ofConst, ofCell, Nat.reduceEqDiff, reduceIte, h1, h2, h3, h4, h36] <;> rfl) (by exact (add_v (by omega))) (by decide) ?_
    refine ro_assign (by simp only [evalF, upd, arg0, argS, ofConst, ofCell, Nat.reduceEqDiff, reduceIte, h1, h2, h3, h4, h36] <;> rfl) (by decide) ?_
    refine ro_nil ?_
    obtain ⟨a1, a2, a3⟩ := haft
    have k0 : ∀ id, id < 2 → hp' id = hpx id := fun id hid => by
      rw [a2 id (by omega) (fun ho => by have := hown id ho; omega)]
      simp [setHp, show id ≠ nbx by omega]
    refine ⟨m.list.length - (i + 1), by omega, i + 1, v', rfl, by omega, by omega, by simp [upd, h1], by simp [upd, h2], by simp [upd], by simp [upd], ?_, ?_, ?_, ?_, ?_, by omega⟩
    · have e : ints ((m.list.take (i + 1)).map (· % 10)) = ints ((m.list.take i).map (· % 10)) ++ [.int .i64 (m.list[i] % 10)] := by
        have e0 : m.list.take (i + 1) = m.list.take i ++ [m.list[i]] := by
          rw [List.take_add_one, List.getElem?_eq_getElem hil]
          rfl
        rw [e0]
        unfold ints
        rw [List.map_append, List.map_append]
        rfl
      rw [e]; exact hg'
    · intro id hid
      rcases hown' id hid with h | h
      · exact hown id h
      · omega
    · rw [look_at 1 (k0 0 (by omega))]; exact hlx
    · rw [look_at 1 (k0 1 (by omega))]; exact hzx
    · exact a3 (tidy_new htx (by intro c hc; simp at hc; subst hc; exact okC_pv _ _))
end Go.Proofs.Ytlinbbjobjnipaa
