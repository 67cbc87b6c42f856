/- The law of cuts, by the plain interpreter. Printed by gen_cuts.py. -/
import Derived.Test.YtlinbbjobjnipaaP10
import Derived.Test.YtlinbbjobjnipaaK3
set_option linter.unusedVariables false
set_option linter.unusedSimpArgs false
set_option linter.unusedSectionVars false
namespace Go.Proofs.Ytlinbbjobjnipaa
open Go AI

set_option maxHeartbeats 4000000
set_option maxRecDepth 10000

theorem min20 {hp : Hp} {nb : Nat} {ts : Array TypeId} (n : Nat) : builtinA Try.prog hp nb .min ts [.pv (.int .i64 n), .pv (.int .i64 20)] = some (.val (.pv (.int .i64 (min n 20 : Nat)))) := by
  have h : (if (20 : Int) < n then (20 : Int) else n) = ((min n 20 : Nat) : Int) := by split <;> omega
  rw [min64, h]

theorem len_small {m : M} (h1 : m.list.length ≤ 10) (h2 : m.data.length ≤ 20) : lenOf m ≤ 100 := by
  unfold lenOf
  repeat' split
  all_goals omega

theorem fit_cut {m : M} (hf : Fit m) (n : Nat) : Fit { m with data := m.data.take n } := ⟨hf.key, hf.kind, hf.node, hf.pred, hf.lease, hf.err, hf.list⟩

theorem cut_good (m : M) : { goodM m with data := (goodM m).data.take 20 } = goodM { m with data := m.data.take 20 } := by
  simp only [goodM, List.take_take]
  congr 1

theorem cuts_run {m : M} {L D : AV} (hf : Fit m) (hL : Row (AI.hf []) 0 L (ints m.list)) (hD : Row (AI.hf []) 0 D (u8s m.data)) (hk8 : ∀ z ∈ m.key, 0 ≤ z ∧ z ≤ 255) (hd8' : ∀ z ∈ m.data, 0 ≤ z ∧ z ≤ 255) (hLo : ownOf L = none) (hDo : ownOf D = none) :
    CA (callA Try.prog facts plains 10000 20) 6 [.agg (mcells m L D)] (AI.hf []) 0 fun v hp' nb' => v = .pv (.bool true) := by
  have hk := hf.key
  refine ca_body (d := 19) (fn := Try.f6) (c := bodyOf Try.f6) Try.func6 rfl (by show 1 ≤ 60; omega) ?_
  show EX _ _ _ _ _ 60 _ _ _ _ _
  unfold bodyOf Try.f6
  refine ex_seq (ex_region ?_)
  refine ro_box (v := .agg (mcells m L D)) (by simp [evalF, argsF]) (mc_all (row_cell hL).1 (row_cell hD).1) (by decide) ?_
  refine ro_assign (by simp only [evalF, upd, argsF, ofConst, ofCell, Nat.reduceEqDiff, reduceIte, List.getD_cons_zero, List.getD_cons_succ, List.getD_nil] <;> rfl) (by decide) ?_
  refine ro_nil ?_
  try simp only
  have hl1 : AI.look (setHp (AI.hf []) 0 (.cells 1 (mcells m L D))) 0 1 = some (mcells m L D) := look_same _ _ _ _
  show EX _ _ _ _ _ 60 _ _ (setHp (AI.hf []) 0 (.cells 1 (mcells m L D))) _ _
  generalize setHp (AI.hf []) 0 (.cells 1 (mcells m L D)) = hp1 at hl1 ⊢
  have hwhole : ∀ {hp : Hp} {m : M} {L D : AV}, m.key.length = 32 → AI.look hp 0 1 = some (mcells m L D) → loadA Try.prog hp 30 (.ptr 0 1 0) = some (.agg (mcells m L D)) := fun {hp m L D} hk hl => by
    rw [loadN ag30 sz30 hl (by rw [mc_length hk]; omega), List.drop_zero, List.take_of_length_le (by rw [mc_length hk]; omega)]
  refine ex_seq (ex_seq (ex_region ?_))
  refine ro_pure (f := 9) («as» := []) rfl rfl rfl (show orS facts _ _ 9 [] = some (.pv (.bool true)) from rfl) (by decide) ?_
  refine ro_un (by simp only [evalF, upd, argsF, ofConst, ofCell, Nat.reduceEqDiff, reduceIte, List.getD_cons_zero, List.getD_cons_succ, List.getD_nil] <;> rfl) (by exact (show unOpA .not (.pv (.bool true)) = some (.pv (.bool false)) from rfl)) (by decide) ?_
  refine ro_nil ?_
  try simp only
  refine ex_cond (t := false) (by simp only [evalF, upd, argsF, ofConst, ofCell, Nat.reduceEqDiff, reduceIte, List.getD_cons_zero, List.getD_cons_succ, List.getD_nil] <;> rfl) (fun h => by simp at h) (fun _ => ex_skip ?_)
  try simp only
  refine ex_seq (ex_seq (ex_region ?_))
  refine ro_load (by simp only [evalF, upd, argsF, ofConst, ofCell, Nat.reduceEqDiff, reduceIte, List.getD_cons_zero, List.getD_cons_succ, List.getD_nil] <;> rfl) (by exact (hwhole hk hl1)) (by decide) ?_
  refine ro_pure (f := 12) («as» := [.agg (mcells m L D)]) rfl (by simp [evalF, upd]) rfl (show orS facts _ _ 12 _ = _ from by unfold orS facts; exact few_calls facts plains 10000 18 hk hL hD hLo hDo _) (by decide) ?_
  refine ro_un (by simp only [evalF, upd, argsF, ofConst, ofCell, Nat.reduceEqDiff, reduceIte, List.getD_cons_zero, List.getD_cons_succ, List.getD_nil] <;> rfl) (by exact (show unOpA .not (.pv (.bool (fewM m))) = some (.pv (.bool (!fewM m))) from rfl)) (by decide) ?_
  refine ro_nil ?_
  try simp only
  refine ex_cond (t := !fewM m) (by simp only [evalF, upd, argsF, ofConst, ofCell, Nat.reduceEqDiff, reduceIte, List.getD_cons_zero, List.getD_cons_succ, List.getD_nil] <;> rfl) (fun hfw => ?_) (fun hfw => ?_)
  · refine ex_seq (ex_region ?_)
    refine ro_assign (by simp only [evalF, upd, argsF, ofConst, ofCell, Nat.reduceEqDiff, reduceIte, List.getD_cons_zero, List.getD_cons_succ, List.getD_nil] <;> rfl) (by decide) ?_
    refine ro_nil ?_
    try simp only
    refine ex_ret ?_
    exact ⟨_, rfl, by simp [upd]⟩
  refine ex_skip ?_
  try simp only
  obtain ⟨hd8, hl50⟩ := few_data (show fewM m = true by simpa using hfw)
  have hgf := fit_good hf
  have hgk := hgf.key
  refine ex_seq (ex_region ?_)
  refine ro_load (by simp only [evalF, upd, argsF, ofConst, ofCell, Nat.reduceEqDiff, reduceIte, List.getD_cons_zero, List.getD_cons_succ, List.getD_nil] <;> rfl) (by exact (hwhole hk hl1)) (by decide) ?_
  refine ro_good 18 hf (row_any hL hLo) (row_any hD hDo) hLo hDo (by omega) (by omega) (by omega) (by simp only [evalF, upd, argsF, ofConst, ofCell, Nat.reduceEqDiff, reduceIte, List.getD_cons_zero, List.getD_cons_succ, List.getD_nil] <;> rfl) (by decide) ?_
  intro L' D' hp2 nb2 hL2 hD2 hDo2 hLo2 ha2
  have hl2 : AI.look hp2 0 1 = some (mcells m L D) := by rw [look_at 1 (ha2.2.1 0 (by omega) (by simp [ownOf]))]; exact hl1
  refine ro_store (v := .agg (mcells (goodM m) L' D')) (by simp only [evalF, upd, argsF, ofConst, ofCell, Nat.reduceEqDiff, reduceIte, List.getD_cons_zero, List.getD_cons_succ, List.getD_nil] <;> rfl) (by simp only [evalF, upd, argsF, ofConst, ofCell, Nat.reduceEqDiff, reduceIte, List.getD_cons_zero, List.getD_cons_succ, List.getD_nil] <;> rfl) (storeN sz30 hl2 (mc_all (row_cell hL2).1 (row_cell hD2).1) (mc_length hgk) (by rw [mc_length hk]; omega)) ?_
  rw [splice_all hk hgk]
  refine ro_nil ?_
  try simp only
  have hl3 : AI.look (setHp hp2 0 (.cells 1 (mcells (goodM m) L' D'))) 0 1 = some (mcells (goodM m) L' D') := look_same _ _ _ _
  have hL3 : Row (setHp hp2 0 (.cells 1 (mcells (goodM m) L' D'))) nb2 L' (ints (goodM m).list) := hL2.keep (Nat.le_refl _) (fun id hid ho => by have := hLo2 id ho; simp [setHp, show id ≠ 0 by omega])
  have hD3 : Row (setHp hp2 0 (.cells 1 (mcells (goodM m) L' D'))) nb2 D' (u8s (goodM m).data) := row_any hD2 hDo2
  generalize setHp hp2 0 (.cells 1 (mcells (goodM m) L' D')) = hp3 at hl3 hL3 hD3 ⊢
  have hnb2 := ha2.1
  have hd20 : ∀ z ∈ (goodM m).data.take 20, 0 ≤ z ∧ z ≤ 255 := fun z hz => hd8' z (List.mem_of_mem_take (List.mem_of_mem_take hz))
  have hdl : (u8s (goodM m).data).length = (goodM m).data.length := by simp [u8s]
  obtain ⟨D5, s5, r5, o5⟩ := row_slice st27 hD3 (lo := 0) (hi := min (u8s (goodM m).data).length 20) (lv := none) (hv := some (.pv (.int .i64 (min (u8s (goodM m).data).length 20 : Nat)))) (.inr ⟨rfl, rfl⟩) (.inl rfl) (Nat.zero_le _) (by omega)
  have e5 : ((u8s (goodM m).data).drop 0).take (min (u8s (goodM m).data).length 20 - 0) = u8s ((goodM m).data.take 20) := by
    rw [hdl, List.drop_zero, Nat.sub_zero]
    unfold u8s
    rw [List.map_take]
    rcases Nat.le_total (goodM m).data.length 20 with h | h
    · rw [Nat.min_eq_left h, List.take_of_length_le (by simp), List.take_of_length_le (by simpa using h)]
    · rw [Nat.min_eq_right h]
  rw [e5] at r5
  have hDo5 : ownOf D5 = none := by
    cases h : ownOf D5 with
    | none => rfl
    | some id => have := o5 _ h; rw [hDo2] at this; simp at this
  refine ex_seq (ex_region ?_)
  refine ro_fieldAddr (by simp only [evalF, upd, argsF, ofConst, ofCell, Nat.reduceEqDiff, reduceIte, List.getD_cons_zero, List.getD_cons_succ, List.getD_nil] <;> rfl) (by exact (fa30_6 _ _ _)) (by decide) ?_
  refine ro_load (by simp only [evalF, upd, argsF, ofConst, ofCell, Nat.reduceEqDiff, reduceIte, List.getD_cons_zero, List.getD_cons_succ, List.getD_nil] <;> rfl) (by exact (load1 ag27 hl3 (mc37 hgk))) (by decide) ?_
  refine ro_fieldAddr (by simp only [evalF, upd, argsF, ofConst, ofCell, Nat.reduceEqDiff, reduceIte, List.getD_cons_zero, List.getD_cons_succ, List.getD_nil] <;> rfl) (by exact (fa30_6 _ _ _)) (by decide) ?_
  refine ro_load (by simp only [evalF, upd, argsF, ofConst, ofCell, Nat.reduceEqDiff, reduceIte, List.getD_cons_zero, List.getD_cons_succ, List.getD_nil] <;> rfl) (by exact (load1 ag27 hl3 (mc37 hgk))) (by decide) ?_
  refine ro_builtin rfl (by simp only [List.map_cons, List.map_nil, evalF, upd, argsF, ofConst, ofCell, Nat.reduceEqDiff, reduceIte, List.getD_cons_zero, List.getD_cons_succ, List.getD_nil] <;> rfl) (by exact (row_len st27 hD3)) (by decide) ?_
  refine ro_builtin rfl (by simp only [List.map_cons, List.map_nil, evalF, upd, argsF, ofConst, ofCell, Nat.reduceEqDiff, reduceIte, List.getD_cons_zero, List.getD_cons_succ, List.getD_nil] <;> rfl) (by exact (min20 _)) (by decide) ?_
  refine ro_slice (by simp only [evalF, upd, argsF, ofConst, ofCell, Nat.reduceEqDiff, reduceIte, List.getD_cons_zero, List.getD_cons_succ, List.getD_nil] <;> rfl) rfl (by simp only [Option.map_some, evalF, upd, Nat.reduceEqDiff, reduceIte]) rfl s5 (by decide) ?_
  refine ro_fieldAddr (by simp only [evalF, upd, argsF, ofConst, ofCell, Nat.reduceEqDiff, reduceIte, List.getD_cons_zero, List.getD_cons_succ, List.getD_nil] <;> rfl) (by exact (fa30_6 _ _ _)) (by decide) ?_
  refine ro_store (by simp only [evalF, upd, argsF, ofConst, ofCell, Nat.reduceEqDiff, reduceIte, List.getD_cons_zero, List.getD_cons_succ, List.getD_nil] <;> rfl) (by simp only [evalF, upd, argsF, ofConst, ofCell, Nat.reduceEqDiff, reduceIte, List.getD_cons_zero, List.getD_cons_succ, List.getD_nil] <;> rfl) (put_field hgk sz27 hl3 ⟨(row_cell r5).2, (row_cell r5).1⟩ (by omega) (spl37 hgk _ ((goodM m).data.take 20))) ?_
  refine ro_nil ?_
  try simp only
  have hf5 := fit_cut hgf 20
  have hk5 : ({ goodM m with data := (goodM m).data.take 20 } : M).key.length = 32 := hgk
  obtain ⟨r, hE, hlen⟩ := enc_good { m with data := m.data.take 20 } hk
  rw [← cut_good] at hE hlen
  have hsm := len_small (m := { goodM m with data := (goodM m).data.take 20 }) (by simp [goodM]; omega) (by simp; omega)
  have hxb := enc_bytes (m := { goodM m with data := (goodM m).data.take 20 }) hk8 hd20 hE
  have hcut := dec_cut hk5 hE
  have hmore := dec_more hk5 hE 7
  have hxl : (({ goodM m with data := (goodM m).data.take 20 } : M).kind :: r).length ≤ 100 := by simp; omega
  generalize ({ goodM m with data := (goodM m).data.take 20 } : M).kind :: r = x at hE hxb hcut hmore hxl
  have hl5 : AI.look (setHp hp3 0 (.cells 1 (mcells { goodM m with data := (goodM m).data.take 20 } L' D5))) 0 1 = some (mcells { goodM m with data := (goodM m).data.take 20 } L' D5) := look_same _ _ _ _
  have hL5 : Row (setHp hp3 0 (.cells 1 (mcells { goodM m with data := (goodM m).data.take 20 } L' D5))) nb2 L' (ints ({ goodM m with data := (goodM m).data.take 20 } : M).list) := hL3.keep (Nat.le_refl _) (fun id hid ho => by have := hLo2 id ho; simp [setHp, show id ≠ 0 by omega])
  have hD5 : Row (setHp hp3 0 (.cells 1 (mcells { goodM m with data := (goodM m).data.take 20 } L' D5))) nb2 D5 (u8s ({ goodM m with data := (goodM m).data.take 20 } : M).data) := row_any r5 hDo5
  generalize setHp hp3 0 (.cells 1 (mcells { goodM m with data := (goodM m).data.take 20 } L' D5)) = hp5 at hl5 hL5 hD5 ⊢
  generalize ({ goodM m with data := (goodM m).data.take 20 } : M) = m5 at *
  refine ex_seq (ex_region ?_)
  refine ro_load (by simp only [evalF, upd, argsF, ofConst, ofCell, Nat.reduceEqDiff, reduceIte, List.getD_cons_zero, List.getD_cons_succ, List.getD_nil] <;> rfl) (by exact (hwhole hk5 hl5)) (by decide) ?_
  refine ro_encode 15 hf5 hL5 hD5 (by omega) (by simp only [evalF, upd, argsF, ofConst, ofCell, Nat.reduceEqDiff, reduceIte, List.getD_cons_zero, List.getD_cons_succ, List.getD_nil] <;> rfl) (by decide) ?_
  rintro v hp6 nb6 ⟨ha6, hres⟩
  rw [hE] at hres
  obtain ⟨b', rfl, hgb, hob⟩ := hres
  refine ro_move (by simp only [evalF, upd, argsF, ofConst, ofCell, Nat.reduceEqDiff, reduceIte, List.getD_cons_zero, List.getD_cons_succ, List.getD_nil] <;> rfl) (by decide) ?_
  refine ro_extract (by simp only [evalF, upd, argsF, ofConst, ofCell, Nat.reduceEqDiff, reduceIte, List.getD_cons_zero, List.getD_cons_succ, List.getD_nil] <;> rfl) (by exact (rfl)) (by decide) ?_
  refine ro_extract (by simp only [evalF, upd, argsF, ofConst, ofCell, Nat.reduceEqDiff, reduceIte, List.getD_cons_zero, List.getD_cons_succ, List.getD_nil] <;> rfl) (by exact (rfl)) (by decide) ?_
  refine ro_assign (by simp only [evalF, upd, argsF, ofConst, ofCell, Nat.reduceEqDiff, reduceIte, List.getD_cons_zero, List.getD_cons_succ, List.getD_nil] <;> rfl) (by decide) ?_
  refine ro_assign (by simp only [evalF, upd, argsF, ofConst, ofCell, Nat.reduceEqDiff, reduceIte, List.getD_cons_zero, List.getD_cons_succ, List.getD_nil] <;> rfl) (by decide) ?_
  refine ro_nil ?_
  try simp only
  have hxu : (u8s x).length = x.length := by simp [u8s]
  refine ex_seq (ex_seq (ex_region ?_))
  refine ro_assign (by simp only [evalF, upd, argsF, ofConst, ofCell, Nat.reduceEqDiff, reduceIte, List.getD_cons_zero, List.getD_cons_succ, List.getD_nil] <;> rfl) (by decide) ?_
  refine ro_nil ?_
  try simp only
  refine ex_block (ex_loop (I := fun j g hpx nbx => ∃ k : Nat, j = x.length - k ∧ k ≤ x.length ∧ g 3 = b' ∧ g 4 = .pv (.int .i64 0) ∧ g 5 = .pv (.int .i64 k) ∧ After hp6 nb6 (.pv .nilSlice) hpx nbx)
    (m := x.length) ⟨0, rfl, Nat.zero_le _, by simp [upd], by simp [upd], by simp [upd, ofConst, ofCell, evalF], after_refl _ _ _⟩ (by omega) ?_)
  rintro j g hpx nbx ⟨k, hjj, hk, h3, h4, h5, hax⟩
  have hgx : Grow hpx nbx b' (u8s x) := hgb.keep hax.1 (fun id hid ho => hax.2.1 id hid (by simp [ownOf]))
  refine ex_seq (ex_seq (ex_region ?_))
  refine ro_move (by simp only [evalF, upd, argsF, ofConst, ofCell, Nat.reduceEqDiff, reduceIte, List.getD_cons_zero, List.getD_cons_succ, List.getD_nil, h3, h4, h5] <;> rfl) (by decide) ?_
  refine ro_move (by simp only [evalF, upd, argsF, ofConst, ofCell, Nat.reduceEqDiff, reduceIte, List.getD_cons_zero, List.getD_cons_succ, List.getD_nil, h3, h4, h5] <;> rfl) (by decide) ?_
  refine ro_builtin rfl (by simp only [List.map_cons, List.map_nil, evalF, upd, argsF, ofConst, ofCell, Nat.reduceEqDiff, reduceIte, List.getD_cons_zero, List.getD_cons_succ, List.getD_nil, h3, h4, h5] <;> rfl) (by exact (row_len st27 hgx.row)) (by decide) ?_
  refine ro_bin (by simp only [evalF, upd, argsF, ofConst, ofCell, Nat.reduceEqDiff, reduceIte, List.getD_cons_zero, List.getD_cons_succ, List.getD_nil, h3, h4, h5] <;> rfl) (by simp only [evalF, upd, argsF, ofConst, ofCell, Nat.reduceEqDiff, reduceIte, List.getD_cons_zero, List.getD_cons_succ, List.getD_nil, h3, h4, h5] <;> rfl) (by exact (lss_v)) (by decide) ?_
  refine ro_nil ?_
  try simp only
  refine ex_cond (t := decide ((k : Int) < x.length)) (by simp only [evalF, upd, Nat.reduceEqDiff, reduceIte, hxu]) (fun ht => ?_) (fun ht => ?_)
  rotate_left
  · refine ex_exit ?_
    simp only [if_true]
    refine ex_seq (ex_region ?_)
    refine ro_buildSlice rfl (bs27_0 _) (by decide) ?_
    refine ro_move (by simp only [evalF, upd, argsF, ofConst, ofCell, Nat.reduceEqDiff, reduceIte, List.getD_cons_zero, List.getD_cons_succ, List.getD_nil, h3, h4, h5] <;> rfl) (by decide) ?_
    have hg7 : Grow (setHp hpx nbx (.cells 1 [])) (nbx + 1) b' (u8s x) := hgx.keep (Nat.le_succ _) (fun id hid _ => by simp [setHp, show id ≠ nbx by omega])
    refine ro_append (r := u8s x) (l := []) st27 Try.underlying27 (by simp only [evalF, upd, argsF, ofConst, ofCell, Nat.reduceEqDiff, reduceIte, List.getD_cons_zero, List.getD_cons_succ, List.getD_nil, h3, h4, h5] <;> rfl) (by simp only [evalF, upd, argsF, ofConst, ofCell, Nat.reduceEqDiff, reduceIte, List.getD_cons_zero, List.getD_cons_succ, List.getD_nil, h3, h4, h5] <;> rfl) (.own nbx 1 0 true [] rfl (by omega) (by simp [setHp])) (row_src hg7.row) (by simp [u8s]; omega) (by decide) ?_
    intro v8 hp8 nb8 hg8 ha8 ho8
    refine ro_buildSlice rfl (by simp only [List.map_cons, List.map_nil, evalF, ofConst, ofCell]; exact bs27_1 _ 7) (by decide) ?_
    refine ro_append (r := [.int .u8 7]) st27 Try.underlying27 (by simp only [evalF, upd, argsF, ofConst, ofCell, Nat.reduceEqDiff, reduceIte, List.getD_cons_zero, List.getD_cons_succ, List.getD_nil, h3, h4, h5] <;> rfl) (by simp only [evalF, upd, argsF, ofConst, ofCell, Nat.reduceEqDiff, reduceIte, List.getD_cons_zero, List.getD_cons_succ, List.getD_nil, h3, h4, h5] <;> rfl) (hg8.keep (Nat.le_succ _) (fun id hid _ => by simp [setHp, show id ≠ nb8 by omega])) (src_built rfl (by simp [setHp])) (by simp [u8s]; omega) (by decide) ?_
    intro v9 hp9 nb9 hg9 ha9 ho9
    have hr9 : Row hp9 nb9 v9 (u8s (x ++ [7])) := by
      have e : u8s (x ++ [7]) = [] ++ u8s x ++ [.int .u8 7] := by simp [u8s]
      rw [e]; exact hg9.row
    refine ro_parse 13 (fun z hz => by
      rcases List.mem_append.1 hz with h | h
      · exact hxb z h
      · simp at h; omega) hr9 (by simp only [evalF, upd, argsF, ofConst, ofCell, Nat.reduceEqDiff, reduceIte, List.getD_cons_zero, List.getD_cons_succ, List.getD_nil, h3, h4, h5] <;> rfl) (by decide) ?_
    rintro v10 hp10 nb10 ⟨_, hres⟩
    rw [hmore] at hres
    subst hres
    refine ro_move (by simp only [evalF, upd, argsF, ofConst, ofCell, Nat.reduceEqDiff, reduceIte, List.getD_cons_zero, List.getD_cons_succ, List.getD_nil, h3, h4, h5] <;> rfl) (by decide) ?_
    refine ro_extract (by simp only [evalF, upd, argsF, ofConst, ofCell, Nat.reduceEqDiff, reduceIte, List.getD_cons_zero, List.getD_cons_succ, List.getD_nil, h3, h4, h5] <;> rfl) (by exact (rfl)) (by decide) ?_
    refine ro_extract (by simp only [evalF, upd, argsF, ofConst, ofCell, Nat.reduceEqDiff, reduceIte, List.getD_cons_zero, List.getD_cons_succ, List.getD_nil, h3, h4, h5] <;> rfl) (by exact (rfl)) (by decide) ?_
    refine ro_alloc zero30 (by kernel_rfl) (by decide) ?_
    refine ro_store (by simp only [evalF, upd, argsF, ofConst, ofCell, Nat.reduceEqDiff, reduceIte, List.getD_cons_zero, List.getD_cons_succ, List.getD_nil, h3, h4, h5] <;> rfl) (by simp only [evalF, upd, argsF, ofConst, ofCell, Nat.reduceEqDiff, reduceIte, List.getD_cons_zero, List.getD_cons_succ, List.getD_nil, h3, h4, h5] <;> rfl) (storeZ (look_same _ _ _ _) z_all z_len rfl) ?_
    refine ro_assign (by simp only [evalF, upd, argsF, ofConst, ofCell, Nat.reduceEqDiff, reduceIte, List.getD_cons_zero, List.getD_cons_succ, List.getD_nil, h3, h4, h5] <;> rfl) (by decide) ?_
    refine ro_nil ?_
    try simp only
    refine ex_seq (ex_region ?_)
    refine ro_move (by simp only [evalF, upd, argsF, ofConst, ofCell, Nat.reduceEqDiff, reduceIte, List.getD_cons_zero, List.getD_cons_succ, List.getD_nil, h3, h4, h5] <;> rfl) (by decide) ?_
    refine ro_bin (by simp only [evalF, upd, argsF, ofConst, ofCell, Nat.reduceEqDiff, reduceIte, List.getD_cons_zero, List.getD_cons_succ, List.getD_nil, h3, h4, h5] <;> rfl) (by simp only [evalF, upd, argsF, ofConst, ofCell, Nat.reduceEqDiff, reduceIte, List.getD_cons_zero, List.getD_cons_succ, List.getD_nil, h3, h4, h5] <;> rfl) (by exact (show binOpA Try.prog .eql 28 (.pv (.int .i64 0)) (.pv (.int .i64 0)) = some (.pv (.bool true)) from eql_t rfl)) (by decide) ?_
    refine ro_move (by simp only [evalF, upd, argsF, ofConst, ofCell, Nat.reduceEqDiff, reduceIte, List.getD_cons_zero, List.getD_cons_succ, List.getD_nil, h3, h4, h5] <;> rfl) (by decide) ?_
    refine ro_guard rfl (by simp only [evalF, upd, argsF, ofConst, ofCell, Nat.reduceEqDiff, reduceIte, List.getD_cons_zero, List.getD_cons_succ, List.getD_nil, h3, h4, h5] <;> rfl) rfl ?_
    refine ro_move (by simp only [evalF, upd, argsF, ofConst, ofCell, Nat.reduceEqDiff, reduceIte, List.getD_cons_zero, List.getD_cons_succ, List.getD_nil, h3, h4, h5] <;> rfl) (by decide) ?_
    refine ro_guard rfl (by simp only [evalF, upd, argsF, ofConst, ofCell, Nat.reduceEqDiff, reduceIte, List.getD_cons_zero, List.getD_cons_succ, List.getD_nil, h3, h4, h5] <;> rfl) rfl ?_
    refine ro_bin (by simp only [evalF, upd, argsF, ofConst, ofCell, Nat.reduceEqDiff, reduceIte, List.getD_cons_zero, List.getD_cons_succ, List.getD_nil, h3, h4, h5] <;> rfl) (by simp only [evalF, upd, argsF, ofConst, ofCell, Nat.reduceEqDiff, reduceIte, List.getD_cons_zero, List.getD_cons_succ, List.getD_nil, h3, h4, h5] <;> rfl) (by exact (show binOpA Try.prog .eql 28 (.pv (.int .i64 9)) (.pv (.int .i64 9)) = some (.pv (.bool true)) from eql_t rfl)) (by decide) ?_
    refine ro_pick (by simp only [evalF, upd, argsF, ofConst, ofCell, Nat.reduceEqDiff, reduceIte, List.getD_cons_zero, List.getD_cons_succ, List.getD_nil, h3, h4, h5] <;> rfl) (by simp only [evalF, upd, argsF, ofConst, ofCell, Nat.reduceEqDiff, reduceIte, List.getD_cons_zero, List.getD_cons_succ, List.getD_nil, h3, h4, h5] <;> rfl) (by simp only [evalF, upd, argsF, ofConst, ofCell, Nat.reduceEqDiff, reduceIte, List.getD_cons_zero, List.getD_cons_succ, List.getD_nil, h3, h4, h5] <;> rfl) (by decide) ?_
    refine ro_assign (by simp only [evalF, upd, argsF, ofConst, ofCell, Nat.reduceEqDiff, reduceIte, List.getD_cons_zero, List.getD_cons_succ, List.getD_nil, h3, h4, h5] <;> rfl) (by decide) ?_
    refine ro_nil ?_
    try simp only
    refine ex_ret ?_
    exact ⟨_, rfl, by simp [upd]⟩
  · have hkl : k < x.length := by
      have := of_decide_eq_true ht
      omega
    refine ex_skip ?_
    try simp only
    obtain ⟨v7, s7, r7, o7⟩ := row_slice st27 hgx.row (lo := 0) (hi := k) (lv := none) (hv := some (.pv (.int .i64 k))) (.inr ⟨rfl, rfl⟩) (.inl rfl) (Nat.zero_le _) (by omega)
    have e7 : ((u8s x).drop 0).take (k - 0) = u8s (x.take k) := by simp [u8s, List.map_take]
    rw [e7] at r7
    refine ex_seq (ex_block ?_)
    refine ex_seq (ex_region ?_)
    refine ro_move (by simp only [evalF, upd, argsF, ofConst, ofCell, Nat.reduceEqDiff, reduceIte, List.getD_cons_zero, List.getD_cons_succ, List.getD_nil, h3, h4, h5] <;> rfl) (by decide) ?_
    refine ro_move (by simp only [evalF, upd, argsF, ofConst, ofCell, Nat.reduceEqDiff, reduceIte, List.getD_cons_zero, List.getD_cons_succ, List.getD_nil, h3, h4, h5] <;> rfl) (by decide) ?_
    refine ro_slice (by simp only [evalF, upd, argsF, ofConst, ofCell, Nat.reduceEqDiff, reduceIte, List.getD_cons_zero, List.getD_cons_succ, List.getD_nil, h3, h4, h5] <;> rfl) rfl (by simp only [Option.map_some, evalF, upd, Nat.reduceEqDiff, reduceIte, h5]) rfl s7 (by decide) ?_
    refine ro_parse 13 (fun z hz => hxb z (List.mem_of_mem_take hz)) r7 (by simp only [evalF, upd, argsF, ofConst, ofCell, Nat.reduceEqDiff, reduceIte, List.getD_cons_zero, List.getD_cons_succ, List.getD_nil, h3, h4, h5] <;> rfl) (by decide) ?_
    rintro v8 hp8 nb8 ⟨ha8, hres⟩
    rw [hcut k hkl] at hres
    subst hres
    refine ro_move (by simp only [evalF, upd, argsF, ofConst, ofCell, Nat.reduceEqDiff, reduceIte, List.getD_cons_zero, List.getD_cons_succ, List.getD_nil, h3, h4, h5] <;> rfl) (by decide) ?_
    refine ro_extract (by simp only [evalF, upd, argsF, ofConst, ofCell, Nat.reduceEqDiff, reduceIte, List.getD_cons_zero, List.getD_cons_succ, List.getD_nil, h3, h4, h5] <;> rfl) (by exact (rfl)) (by decide) ?_
    refine ro_extract (by simp only [evalF, upd, argsF, ofConst, ofCell, Nat.reduceEqDiff, reduceIte, List.getD_cons_zero, List.getD_cons_succ, List.getD_nil, h3, h4, h5] <;> rfl) (by exact (rfl)) (by decide) ?_
    refine ro_alloc zero30 (by kernel_rfl) (by decide) ?_
    refine ro_store (by simp only [evalF, upd, argsF, ofConst, ofCell, Nat.reduceEqDiff, reduceIte, List.getD_cons_zero, List.getD_cons_succ, List.getD_nil, h3, h4, h5] <;> rfl) (by simp only [evalF, upd, argsF, ofConst, ofCell, Nat.reduceEqDiff, reduceIte, List.getD_cons_zero, List.getD_cons_succ, List.getD_nil, h3, h4, h5] <;> rfl) (storeZ (look_same _ _ _ _) z_all z_len rfl) ?_
    refine ro_assign (by simp only [evalF, upd, argsF, ofConst, ofCell, Nat.reduceEqDiff, reduceIte, List.getD_cons_zero, List.getD_cons_succ, List.getD_nil, h3, h4, h5] <;> rfl) (by decide) ?_
    refine ro_nil ?_
    try simp only
    refine ex_seq (ex_region ?_)
    refine ro_move (by simp only [evalF, upd, argsF, ofConst, ofCell, Nat.reduceEqDiff, reduceIte, List.getD_cons_zero, List.getD_cons_succ, List.getD_nil, h3, h4, h5] <;> rfl) (by decide) ?_
    refine ro_bin (by simp only [evalF, upd, argsF, ofConst, ofCell, Nat.reduceEqDiff, reduceIte, List.getD_cons_zero, List.getD_cons_succ, List.getD_nil, h3, h4, h5] <;> rfl) (by simp only [evalF, upd, argsF, ofConst, ofCell, Nat.reduceEqDiff, reduceIte, List.getD_cons_zero, List.getD_cons_succ, List.getD_nil, h3, h4, h5] <;> rfl) (by exact (show binOpA Try.prog .neq 28 (.pv (.int .i64 8)) (.pv (.int .i64 8)) = some (.pv (.bool false)) from neq_f rfl)) (by decide) ?_
    refine ro_nil ?_
    try simp only
    refine ex_cond (t := false) (by simp only [evalF, upd, argsF, ofConst, ofCell, Nat.reduceEqDiff, reduceIte, List.getD_cons_zero, List.getD_cons_succ, List.getD_nil, h3, h4, h5] <;> rfl) (fun h => by simp at h) (fun _ => ex_skip ?_)
    try simp only
    refine ex_region ?_
    refine ro_move (by simp only [evalF, upd, argsF, ofConst, ofCell, Nat.reduceEqDiff, reduceIte, List.getD_cons_zero, List.getD_cons_succ, List.getD_nil, h3, h4, h5] <;> rfl) (by decide) ?_
    refine ro_bin (by simp only [evalF, upd, argsF, ofConst, ofCell, Nat.reduceEqDiff, reduceIte, List.getD_cons_zero, List.getD_cons_succ, List.getD_nil, h3, h4, h5] <;> rfl) (by simp only [evalF, upd, argsF, ofConst, ofCell, Nat.reduceEqDiff, reduceIte, List.getD_cons_zero, List.getD_cons_succ, List.getD_nil, h3, h4, h5] <;> rfl) (by exact (add_v (by omega))) (by decide) ?_
    refine ro_assign (by simp only [evalF, upd, argsF, ofConst, ofCell, Nat.reduceEqDiff, reduceIte, List.getD_cons_zero, List.getD_cons_succ, List.getD_nil, h3, h4, h5] <;> rfl) (by decide) ?_
    refine ro_nil ?_
    have ha9 := after_put (after_box (after_nil hax ha8 (fun id h => by simp [ownOf] at h)) (z_ok nb8)) (id := nb8) (by have := hax.1; have := ha8.1; omega) (z_ok (nb8 + 1))
    exact ⟨x.length - (k + 1), by omega, k + 1, rfl, by omega, by simp [upd, h3], by simp [upd, h4], by simp [upd], ha9⟩
end Go.Proofs.Ytlinbbjobjnipaa
