/- The law of writing, by the plain interpreter. -/
import Derived.Test.YtlinbbjobjnipaaG5
import Derived.Test.YtlinbbjobjnipaaG6
import Derived.Test.YtlinbbjobjnipaaK3
import Derived.Test.YtlinbbjobjnipaaK1
set_option linter.unusedVariables false
set_option linter.unusedSimpArgs false
set_option linter.unusedSectionVars false
namespace Go.Proofs.Ytlinbbjobjnipaa
open Go AI

set_option maxHeartbeats 4000000
set_option maxRecDepth 10000

theorem sameF_refl (m : M) (f : Nat) : sameF m m f = true := by
  unfold sameF
  split <;> simp

theorem sameM_refl (m : M) : sameM m m = true := by
  unfold sameM
  simp [sameF_refl]

theorem sameF_set (m x : M) (f g : Nat) (h : f < 8) (hg : g < 8) : sameF (setF g m x) m f = if f = g then true else sameF x m f := by
  have f8 : f = 0 ∨ f = 1 ∨ f = 2 ∨ f = 3 ∨ f = 4 ∨ f = 5 ∨ f = 6 ∨ f = 7 := by omega
  have g8 : g = 0 ∨ g = 1 ∨ g = 2 ∨ g = 3 ∨ g = 4 ∨ g = 5 ∨ g = 6 ∨ g = 7 := by omega
  rcases f8 with rfl | rfl | rfl | rfl | rfl | rfl | rfl | rfl <;> rcases g8 with rfl | rfl | rfl | rfl | rfl | rfl | rfl | rfl <;> simp [sameF, setF]

theorem sameF_sets (m : M) (f : Nat) (h : f < 8) : ∀ (fs : List Nat) (x : M), (∀ g ∈ fs, g < 8) → (f ∈ fs ∨ sameF x m f = true) → sameF (setsF m fs x) m f = true
  | [], x, _, hm => by
    rcases hm with hm | hm
    · simp at hm
    · exact hm
  | g :: fs, x, hg, hm => by
    rw [setsF]
    refine sameF_sets m f h fs _ (fun g' hg' => hg g' (List.mem_cons_of_mem _ hg')) ?_
    rw [sameF_set m x f g h (hg g List.mem_cons_self)]
    by_cases e : f = g
    · rw [if_pos e]; exact .inr rfl
    · rw [if_neg e]
      rcases hm with hm | hm
      · rcases List.mem_cons.1 hm with hm | hm
        · exact absurd hm e
        · exact .inl hm
      · exact .inr hm

theorem sets_kind (m : M) : ∀ (fs : List Nat) (x : M), (setsF m fs x).kind = x.kind
  | [], x => rfl
  | f :: fs, x => by
    rw [setsF, sets_kind m fs]
    unfold setF
    split <;> rfl

/-- What was read is the same as what was written. -/
theorem same_read {m : M} {fs : List Nat} (h : rowOf m.kind = some fs) : sameM (setsF m fs { zeroM with kind := m.kind }) m = true := by
  have hk := sets_kind m fs { zeroM with kind := m.kind }
  unfold sameM
  rw [hk]
  simp only [h, Option.getD_some, beq_self_eq_true, Bool.true_and]
  rw [List.all_eq_true]
  intro f hf
  exact sameF_sets m f ((row_small h).1 f hf) fs _ (row_small h).1 (.inl hf)

def encX (m : M) : List Int := match enc m with | .ok x => x | .error _ => []
def encN (m : M) : Int := match enc m with | .ok _ => 0 | .error e => e

theorem enc_ne {m : M} {e : Int} (h : enc m = .error e) : e ≠ 0 := by
  unfold enc at h
  split at h
  · simp at h; omega
  · rename_i fs hfs
    have := fieldsW_ok m fs [u8 m.kind]
    rw [h] at this
    exact this.2

theorem enc_split {m : M} {hp hp' : Hp} {nb nb' : Nat} {v : AV} (h : EncOk m hp nb v hp' nb') : ∃ a, v = .tuple [a, .pv (.int .i64 (encN m))] ∧ Row hp' nb' a (u8s (encX m)) ∧ (∀ id, ownOf a = some id → nb ≤ id) := by
  obtain ⟨_, h⟩ := h
  unfold encN encX
  cases hE : enc m with
  | ok x =>
    rw [hE] at h
    obtain ⟨b, e, hg, ho⟩ := h
    exact ⟨b, e, hg.row, ho⟩
  | error e =>
    rw [hE] at h
    exact ⟨_, h, .nil, fun id h => by simp [ownOf] at h⟩

theorem encN_0 {m : M} (h : encN m = 0) : enc m = .ok (encX m) := by
  unfold encN at h
  unfold encX
  cases hE : enc m with
  | ok x => rfl
  | error e => rw [hE] at h; exact absurd h (enc_ne hE)

theorem encX_bytes {m : M} (hk : ∀ z ∈ m.key, 0 ≤ z ∧ z ≤ 255) (hd : ∀ z ∈ m.data, 0 ≤ z ∧ z ≤ 255) : ∀ z ∈ encX m, 0 ≤ z ∧ z ≤ 255 := by
  unfold encX
  cases hE : enc m with
  | ok x => exact enc_bytes hk hd hE
  | error e => simp

section
variable {n : Nat} {ops rest : List Oper} {g : Gm} {hp : Hp} {nb : Nat} {Q : Gm → Hp → Nat → Prop}

/-- A call of the document's Encode. -/
theorem ro_refenc (d0 : Nat) {d : Nat} {x : Operand} {ats : Array TypeId} {ty : TypeId} {pos : String} {aft : Array Edge} {m : M} {L D : AV} (hk : m.key.length = 32) (hL : Row hp nb L (ints m.list)) (hD : Row hp nb D (u8s m.data)) (hsl : m.list.length < 9000) (hsd : m.data.length < 9999)
    (hx : evalF g x = .agg (mcells m L D)) (hd : d < n)
    (h2 : ∀ v hp' nb', EncOk m hp nb v hp' nb' → RO Try.prog plains (callA Try.prog facts plains 10000 (d0 + 4)) (orS facts (pureOf (callA Try.prog facts plains 10000 (d0 + 4)))) n ops rest (upd g d v) hp' nb' Q) :
    RO Try.prog plains (callA Try.prog facts plains 10000 (d0 + 4)) (orS facts (pureOf (callA Try.prog facts plains 10000 (d0 + 4)))) n ops ({ dst := some d, op := .call { callee := .value (.func 14), args := #[x], argTypes := ats }, type := ty, pos := pos, after := aft, guard := none } :: rest) g hp nb Q := by
  have hxs : (#[x] : Array Operand).toList.map (evalF g) = [.agg (mcells m L D)] := by simp [hx]
  cases hpl : ([.agg (mcells m L D)] : List AV).all plainV with
  | false => exact ro_call rfl hxs rfl hpl (refenc14 d0 hk hL hD hsl hsd) hd h2
  | true =>
    have hpl' := hpl
    rw [plain_msg hL hD, Bool.and_eq_true] at hpl'
    have hLo := (row_plain hL).1 hpl'.1
    have hDo := (row_plain hD).1 hpl'.2
    refine ro_add hxs rfl hpl (refenc14 d0 hk (row_any hL hLo) (row_any hD hDo) hsl hsd) hd ?_
    rintro v0 h' ⟨ha, hres⟩
    obtain ⟨bs, e1, e2, e3, e4, e5, e6⟩ := add_all (ha.2.2 tidy_nil) hp nb
    have haf : After hp nb (.pv .nilSlice) (addHp hp nb bs) (nb + bs.length) := ⟨by omega, fun id hid _ => e3 id hid, e4⟩
    cases hE : enc m with
    | ok r =>
      rw [hE] at hres
      obtain ⟨b', rfl, hgb, _⟩ := hres
      obtain ⟨b2, f1, f2, f3⟩ := e6 _ _ hgb
      refine ⟨.tuple [b2, .pv (.int .i64 0)], bs, ?_, e1, h2 _ _ _ ⟨haf, ?_⟩⟩
      · have : shV nb h'.length b' = some b2 := by
          cases b' with
          | agg cs => simp [shA] at f1
          | _ => exact f1
        simp only [shR, List.mapM_cons, List.mapM_nil, this, shV_pv]
        rfl
      · rw [hE]; exact ⟨b2, rfl, f2, f3⟩
    | error e =>
      rw [hE] at hres
      subst hres
      refine ⟨.tuple [.pv .nilSlice, .pv (.int .i64 e)], bs, by simp [shR, List.mapM_cons, shV, shA], e1, h2 _ _ _ ⟨haf, ?_⟩⟩
      rw [hE]
end

theorem writesNeeds : needs (regOf Try.f8 10) = [(1, 3), (13, 14), (13, 15)] := by kernel_rfl
theorem writesStat : statOk (regOf Try.f8 10) = true := by kernel_rfl

theorem neq_same {x : List Nat} : binOpA Try.prog .neq 9 (.pv (.str x)) (.pv (.str x)) = some (.pv (.bool false)) := by rw [neq_str]; simp
theorem neq4_same {b : Bool} : binOpA Try.prog .neq 4 (.pv (.bool b)) (.pv (.bool b)) = some (.pv (.bool false)) := by rw [neq4_v]; simp

/-- What holds of the law's memory at the head of its loop. -/
structure WI (hp : Hp) (nb : Nat) (m o : M) (L D Lo Do : AV) : Prop where
  lm : AI.look hp 0 1 = some (mcells m L D)
  lo : AI.look hp 1 1 = some (mcells o Lo Do)
  rl : Row hp nb L (ints m.list)
  rd : Row hp nb D (u8s m.data)
  pd : ownOf D = none
  pl : ∀ id, ownOf L = some id → 2 ≤ id
  ft : Fit m
  sl : m.list.length < 50
  sd : m.data.length < 8000
  kb : ∀ z ∈ m.key, 0 ≤ z ∧ z ≤ 255
  mb : ∀ z ∈ m.data, 0 ≤ z ∧ z ≤ 255
  td : Tidy hp nb
  n2 : 2 ≤ nb

theorem WI.keep {hp hp' : Hp} {nb nb' : Nat} {m o : M} {L D Lo Do : AV} (h : WI hp nb m o L D Lo Do) (ha : After hp nb (.pv .nilSlice) hp' nb') : WI hp' nb' m o L D Lo Do :=
  have k : ∀ id, id < nb → hp' id = hp id := fun id hid => ha.2.1 id hid (by simp [ownOf])
  ⟨by rw [look_at 1 (k 0 (by have := h.n2; omega))]; exact h.lm, by rw [look_at 1 (k 1 (by have := h.n2; omega))]; exact h.lo, h.rl.keep ha.1 (fun id hid _ => k id hid), h.rd.keep ha.1 (fun id hid _ => k id hid), h.pd, h.pl, h.ft, h.sl, h.sd, h.kb, h.mb, ha.2.2 h.td, by have := ha.1; have := h.n2; omega⟩

theorem writes_run {m o : M} {L D Lo Do : AV} (hf : Fit m) (hL : Row (AI.hf []) 0 L (ints m.list)) (hD : Row (AI.hf []) 0 D (u8s m.data)) (hk8 : ∀ z ∈ m.key, 0 ≤ z ∧ z ≤ 255) (hd8 : ∀ z ∈ m.data, 0 ≤ z ∧ z ≤ 255) (hL1 : ownOf L = none) (hD1 : ownOf D = none)
    (hfo : Fit o) (hLo : Row (AI.hf []) 0 Lo (ints o.list)) (hDo : Row (AI.hf []) 0 Do (u8s o.data)) (hd8o : ∀ z ∈ o.data, 0 ≤ z ∧ z ≤ 255) (hLo1 : ownOf Lo = none) (hDo1 : ownOf Do = none) :
    CA (callA Try.prog facts plains 10000 20) 8 [.agg (mcells m L D), .agg (mcells o Lo Do)] (AI.hf []) 0 fun v hp' nb' => v = .pv (.bool true) := by
  have hk := hf.key
  have hko := hfo.key
  refine ca_body (d := 19) (fn := Try.f8) (c := bodyOf Try.f8) Try.func8 rfl (by show 2 ≤ 87; omega) ?_
  show EX _ _ _ _ _ 87 _ _ _ _ _
  unfold bodyOf Try.f8
  refine ex_seq (ex_region ?_)
  refine ro_box (v := .agg (mcells m L D)) (by simp [evalF, argsF]) (mc_all (row_cell hL).1 (row_cell hD).1) (by decide) ?_
  refine ro_box (v := .agg (mcells o Lo Do)) (by simp [evalF, argsF, upd]) (mc_all (row_cell hLo).1 (row_cell hDo).1) (by decide) ?_
  refine ro_assign (by simp only [evalF, upd, arg0, argS, ofConst, ofCell, Nat.reduceEqDiff, reduceIte] <;> rfl) (by decide) ?_
  refine ro_nil ?_
  try simp only
  have ht1 : Tidy (setHp (setHp (AI.hf []) 0 (.cells 1 (mcells m L D))) 1 (.cells 1 (mcells o Lo Do))) 2 :=
    tidy_new (tidy_new tidy_nil (ok_cells (row_okC hL hL1) (row_okC hD hD1))) (ok_cells (row_okC hLo hLo1) (row_okC hDo hDo1))
  have hl1 : AI.look (setHp (setHp (AI.hf []) 0 (.cells 1 (mcells m L D))) 1 (.cells 1 (mcells o Lo Do))) 0 1 = some (mcells m L D) := by rw [look_ne _ _ _ (by omega)]; exact look_same _ _ _ _
  have hlo1 : AI.look (setHp (setHp (AI.hf []) 0 (.cells 1 (mcells m L D))) 1 (.cells 1 (mcells o Lo Do))) 1 1 = some (mcells o Lo Do) := look_same _ _ _ _
  show EX _ _ _ _ _ 87 _ _ (setHp (setHp (AI.hf []) 0 (.cells 1 (mcells m L D))) 1 (.cells 1 (mcells o Lo Do))) _ _
  generalize setHp (setHp (AI.hf []) 0 (.cells 1 (mcells m L D))) 1 (.cells 1 (mcells o Lo Do)) = hp1 at ht1 hl1 hlo1 ⊢
  refine ex_seq (ex_seq (ex_region ?_))
  refine ro_pure (f := 9) («as» := []) rfl rfl rfl (show orS facts _ _ 9 [] = some (.pv (.bool true)) from rfl) (by decide) ?_
  refine ro_un (by simp only [evalF, upd, arg0, argS, ofConst, ofCell, Nat.reduceEqDiff, reduceIte] <;> rfl) (by exact (show unOpA .not (.pv (.bool true)) = some (.pv (.bool false)) from rfl)) (by decide) ?_
  refine ro_nil ?_
  try simp only
  refine ex_cond (t := false) (by simp only [evalF, upd, arg0, argS, ofConst, ofCell, Nat.reduceEqDiff, reduceIte] <;> rfl) (fun h => by simp at h) (fun _ => ex_skip ?_)
  try simp only
  refine ex_seq (ex_seq (ex_weaken (K := fun x g' hp' nb' => x = .normal ∧ g' 23 = .pv (.bool (!fewM m || !fewM o)) ∧ g' 2 = .ptr 0 1 0 ∧ g' 3 = .ptr 1 1 0 ∧ hp' = hp1 ∧ nb' = 2) ?_ ?_))
  · refine ex_region ?_
    refine ro_load (by simp only [evalF, upd, arg0, argS, ofConst, ofCell, Nat.reduceEqDiff, reduceIte] <;> rfl) (by exact (load_whole hk hl1)) (by decide) ?_
    refine ro_pure (f := 12) («as» := [.agg (mcells m L D)]) rfl (by simp [evalF, upd]) rfl (show orS facts _ _ 12 _ = _ from by unfold orS facts; exact few_calls facts plains 10000 18 hk hL hD hL1 hD1 _) (by decide) ?_
    refine ro_un (by simp only [evalF, upd, arg0, argS, ofConst, ofCell, Nat.reduceEqDiff, reduceIte] <;> rfl) (by exact (show unOpA .not (.pv (.bool (fewM m))) = some (.pv (.bool (!fewM m))) from rfl)) (by decide) ?_
    refine ro_move (by simp only [evalF, upd, arg0, argS, ofConst, ofCell, Nat.reduceEqDiff, reduceIte] <;> rfl) (by decide) ?_
    cases hfm : fewM m with
    | false =>
      refine ro_skip rfl (by simp only [evalF, upd, arg0, argS, ofConst, ofCell, Nat.reduceEqDiff, reduceIte] <;> rfl) rfl (fun e he => by cases he; decide) ?_
      simp only [putF]
      refine ro_skip rfl (by simp only [evalF, upd, arg0, argS, ofConst, ofCell, Nat.reduceEqDiff, reduceIte] <;> rfl) rfl (fun e he => by cases he; decide) ?_
      simp only [putF]
      refine ro_skip rfl (by simp only [evalF, upd, arg0, argS, ofConst, ofCell, Nat.reduceEqDiff, reduceIte] <;> rfl) rfl (fun e he => by cases he; decide) ?_
      simp only [putF]
      refine ro_pick (by simp only [evalF, upd, arg0, argS, ofConst, ofCell, Nat.reduceEqDiff, reduceIte] <;> rfl) (by simp only [evalF, upd, arg0, argS, ofConst, ofCell, Nat.reduceEqDiff, reduceIte] <;> rfl) (by simp only [evalF, upd, arg0, argS, ofConst, ofCell, Nat.reduceEqDiff, reduceIte] <;> rfl) (by decide) ?_
      refine ro_nil ?_
      exact ⟨by first | rfl | trivial, by simp [upd, ofConst, ofCell, evalF], by simp [upd, argsF], by simp [upd, argsF], by first | rfl | trivial, by first | rfl | trivial⟩
    | true =>
      refine ro_guard rfl (by simp only [evalF, upd, arg0, argS, ofConst, ofCell, Nat.reduceEqDiff, reduceIte] <;> rfl) rfl ?_
      refine ro_load (by simp only [evalF, upd, arg0, argS, ofConst, ofCell, Nat.reduceEqDiff, reduceIte] <;> rfl) (by exact (load_whole hko hlo1)) (by decide) ?_
      refine ro_guard rfl (by simp only [evalF, upd, arg0, argS, ofConst, ofCell, Nat.reduceEqDiff, reduceIte] <;> rfl) rfl ?_
      refine ro_pure (f := 12) («as» := [.agg (mcells o Lo Do)]) rfl (by simp [evalF, upd]) rfl (show orS facts _ _ 12 _ = _ from by unfold orS facts; exact few_calls facts plains 10000 18 hko hLo hDo hLo1 hDo1 _) (by decide) ?_
      refine ro_guard rfl (by simp only [evalF, upd, arg0, argS, ofConst, ofCell, Nat.reduceEqDiff, reduceIte] <;> rfl) rfl ?_
      refine ro_un (by simp only [evalF, upd, arg0, argS, ofConst, ofCell, Nat.reduceEqDiff, reduceIte] <;> rfl) (by exact (show unOpA .not (.pv (.bool (fewM o))) = some (.pv (.bool (!fewM o))) from rfl)) (by decide) ?_
      refine ro_pick (by simp only [evalF, upd, arg0, argS, ofConst, ofCell, Nat.reduceEqDiff, reduceIte] <;> rfl) (by simp only [evalF, upd, arg0, argS, ofConst, ofCell, Nat.reduceEqDiff, reduceIte] <;> rfl) (by simp only [evalF, upd, arg0, argS, ofConst, ofCell, Nat.reduceEqDiff, reduceIte] <;> rfl) (by decide) ?_
      refine ro_nil ?_
      exact ⟨by first | rfl | trivial, by simp [upd], by simp [upd, argsF], by simp [upd, argsF], by first | rfl | trivial, by first | rfl | trivial⟩
  rintro x g1 hpx nbx ⟨rfl, h23, h2, h3, e1, e2⟩
  rw [e1, e2]
  clear e1 e2 hpx nbx
  try simp only
  refine ex_cond (t := !fewM m || !fewM o) (by simp only [evalF, upd, arg0, argS, ofConst, ofCell, Nat.reduceEqDiff, reduceIte, h23, h2, h3] <;> rfl) (fun hfw => ?_) (fun hfw => ?_)
  · refine ex_seq (ex_region ?_)
    refine ro_assign (by simp only [evalF, upd, arg0, argS, ofConst, ofCell, Nat.reduceEqDiff, reduceIte, h23, h2, h3] <;> rfl) (by decide) ?_
    refine ro_nil ?_
    try simp only
    refine ex_ret ?_
    exact ⟨_, rfl, by simp [upd, ofConst, ofCell, evalF]⟩
  refine ex_skip ?_
  try simp only
  simp only [Bool.or_eq_false_iff, Bool.not_eq_false'] at hfw
  obtain ⟨hsd, hsl⟩ := few_data hfw.1
  obtain ⟨hsdo, hslo⟩ := few_data hfw.2
  refine ex_seq ?_
  refine ex_seq (ex_region ?_)
  refine ro_assign (by simp only [evalF, upd, arg0, argS, ofConst, ofCell, Nat.reduceEqDiff, reduceIte, h23, h2, h3] <;> rfl) (by decide) ?_
  refine ro_nil ?_
  try simp only
  have hW1 : WI hp1 2 m o L D Lo Do := ⟨hl1, hlo1, row_any hL hL1, row_any hD hD1, hD1, fun id h => by rw [hL1] at h; simp at h, hf, hsl, hsd, hk8, hd8, ht1, Nat.le_refl _⟩
  refine ex_block (ex_loop (I := fun k g hpx nbx => ∃ (i : Nat) (m : M) (L D : AV), k = 2 - i ∧ i ≤ 2 ∧ g 2 = .ptr 0 1 0 ∧ g 3 = .ptr 1 1 0 ∧ g 5 = .pv (.int .i64 i) ∧ (i = 2 → ∃ m', m = goodM m' ∧ m'.key.length = 32) ∧ WI hpx nbx m o L D Lo Do)
    (m := 2) ⟨0, m, L, D, rfl, by omega, by simp [upd, h2], by simp [upd, h3], by simp [upd, ofConst, ofCell, evalF], by omega, hW1⟩ (by omega) ?_)
  clear hW1 hl1 ht1 hL hD hf hk hk8 hd8 hL1 hD1 hsd hsl hfw hlo1
  rintro k g hpx nbx ⟨i, m, L, D, hkk, hi, h2, h3, h5, hgm, hW⟩
  clear h23
  have hk := hW.ft.key
  refine ex_seq (ex_seq (ex_region ?_))
  refine ro_move (by simp only [evalF, upd, arg0, argS, ofConst, ofCell, Nat.reduceEqDiff, reduceIte, h2, h3, h5] <;> rfl) (by decide) ?_
  refine ro_bin (by simp only [evalF, upd, arg0, argS, ofConst, ofCell, Nat.reduceEqDiff, reduceIte, h2, h3, h5] <;> rfl) (by simp only [evalF, upd, arg0, argS, ofConst, ofCell, Nat.reduceEqDiff, reduceIte, h2, h3, h5] <;> rfl) (by exact (lss_v)) (by decide) ?_
  refine ro_nil ?_
  try simp only
  refine ex_cond (t := decide ((i : Int) < 2)) (by simp only [evalF, upd, arg0, argS, ofConst, ofCell, Nat.reduceEqDiff, reduceIte, h2, h3, h5] <;> rfl) (fun ht => ?_) (fun ht => ?_)
  rotate_left
  · have hie : i = 2 := by
      have := of_decide_eq_false ht
      omega
    obtain ⟨m', e1, hk'⟩ := hgm hie
    obtain ⟨r, hE, _⟩ := enc_good m' hk'
    rw [← e1] at hE
    refine ex_exit ?_
    simp only [if_true]
    refine ex_seq (ex_region ?_)
    refine ro_load (by simp only [evalF, upd, arg0, argS, ofConst, ofCell, Nat.reduceEqDiff, reduceIte, h2, h3, h5] <;> rfl) (by exact (load_whole hk hW.lm)) (by decide) ?_
    refine ro_encode 15 hW.ft hW.rl hW.rd (by omega) (by simp only [evalF, upd, arg0, argS, ofConst, ofCell, Nat.reduceEqDiff, reduceIte, h2, h3, h5] <;> rfl) (by decide) ?_
    rintro v hp4 nb4 ⟨ha4, hres⟩
    rw [hE] at hres
    obtain ⟨b', rfl, hgb, _⟩ := hres
    refine ro_move (by simp only [evalF, upd, arg0, argS, ofConst, ofCell, Nat.reduceEqDiff, reduceIte, h2, h3, h5] <;> rfl) (by decide) ?_
    refine ro_extract (by simp only [evalF, upd, arg0, argS, ofConst, ofCell, Nat.reduceEqDiff, reduceIte, h2, h3, h5] <;> rfl) (by exact (rfl)) (by decide) ?_
    refine ro_extract (by simp only [evalF, upd, arg0, argS, ofConst, ofCell, Nat.reduceEqDiff, reduceIte, h2, h3, h5] <;> rfl) (by exact (rfl)) (by decide) ?_
    refine ro_assign (by simp only [evalF, upd, arg0, argS, ofConst, ofCell, Nat.reduceEqDiff, reduceIte, h2, h3, h5] <;> rfl) (by decide) ?_
    refine ro_assign (by simp only [evalF, upd, arg0, argS, ofConst, ofCell, Nat.reduceEqDiff, reduceIte, h2, h3, h5] <;> rfl) (by decide) ?_
    refine ro_nil ?_
    try simp only
    refine ex_seq (ex_region ?_)
    refine ro_move (by simp only [evalF, upd, arg0, argS, ofConst, ofCell, Nat.reduceEqDiff, reduceIte, h2, h3, h5] <;> rfl) (by decide) ?_
    refine ro_bin (by simp only [evalF, upd, arg0, argS, ofConst, ofCell, Nat.reduceEqDiff, reduceIte, h2, h3, h5] <;> rfl) (by simp only [evalF, upd, arg0, argS, ofConst, ofCell, Nat.reduceEqDiff, reduceIte, h2, h3, h5] <;> rfl) (by exact (show binOpA Try.prog .eql 28 (.pv (.int .i64 0)) (.pv (.int .i64 0)) = some (.pv (.bool true)) from eql_t rfl)) (by decide) ?_
    refine ro_assign (by simp only [evalF, upd, arg0, argS, ofConst, ofCell, Nat.reduceEqDiff, reduceIte, h2, h3, h5] <;> rfl) (by decide) ?_
    refine ro_nil ?_
    try simp only
    refine ex_ret ?_
    exact ⟨_, rfl, by simp [upd]⟩
  refine ex_skip ?_
  try simp only
  have hil : i < 2 := by
    have := of_decide_eq_true ht
    omega
  refine ex_seq (ex_block ?_)
  -- Encode
  refine ex_seq (ex_region ?_)
  refine ro_load (by simp only [evalF, upd, arg0, argS, ofConst, ofCell, Nat.reduceEqDiff, reduceIte, h2, h3, h5] <;> rfl) (by exact (load_whole hk hW.lm)) (by decide) ?_
  refine ro_encode 15 hW.ft hW.rl hW.rd (by omega) (by simp only [evalF, upd, arg0, argS, ofConst, ofCell, Nat.reduceEqDiff, reduceIte, h2, h3, h5] <;> rfl) (by decide) ?_
  rintro v hp4 nb4 hE4
  have ha4 := hE4.1
  obtain ⟨a4, rfl, r4, o4⟩ := enc_split hE4
  have hW4 := hW.keep ha4
  refine ro_move (by simp only [evalF, upd, arg0, argS, ofConst, ofCell, Nat.reduceEqDiff, reduceIte, h2, h3, h5] <;> rfl) (by decide) ?_
  refine ro_extract (by simp only [evalF, upd, arg0, argS, ofConst, ofCell, Nat.reduceEqDiff, reduceIte, h2, h3, h5] <;> rfl) (by exact (rfl)) (by decide) ?_
  refine ro_extract (by simp only [evalF, upd, arg0, argS, ofConst, ofCell, Nat.reduceEqDiff, reduceIte, h2, h3, h5] <;> rfl) (by exact (rfl)) (by decide) ?_
  refine ro_assign (by simp only [evalF, upd, arg0, argS, ofConst, ofCell, Nat.reduceEqDiff, reduceIte, h2, h3, h5] <;> rfl) (by decide) ?_
  refine ro_assign (by simp only [evalF, upd, arg0, argS, ofConst, ofCell, Nat.reduceEqDiff, reduceIte, h2, h3, h5] <;> rfl) (by decide) ?_
  refine ro_nil ?_
  try simp only
  refine ex_seq (ex_region ?_)
  refine ro_load (by simp only [evalF, upd, arg0, argS, ofConst, ofCell, Nat.reduceEqDiff, reduceIte, h2, h3, h5] <;> rfl) (by exact (load_whole hk hW4.lm)) (by decide) ?_
  refine ro_refenc 15 hk hW4.rl hW4.rd (by have := hW.sl; omega) (by have := hW.sd; omega) (by simp only [evalF, upd, arg0, argS, ofConst, ofCell, Nat.reduceEqDiff, reduceIte, h2, h3, h5] <;> rfl) (by decide) ?_
  rintro v hp5 nb5 hE5
  have ha5 := hE5.1
  obtain ⟨a5, rfl, r5, o5⟩ := enc_split hE5
  have hW5 := hW4.keep ha5
  have r45 : Row hp5 nb5 a4 (u8s (encX m)) := r4.keep ha5.1 (fun id hid _ => ha5.2.1 id hid (by simp [ownOf]))
  refine ro_move (by simp only [evalF, upd, arg0, argS, ofConst, ofCell, Nat.reduceEqDiff, reduceIte, h2, h3, h5] <;> rfl) (by decide) ?_
  refine ro_extract (by simp only [evalF, upd, arg0, argS, ofConst, ofCell, Nat.reduceEqDiff, reduceIte, h2, h3, h5] <;> rfl) (by exact (rfl)) (by decide) ?_
  refine ro_extract (by simp only [evalF, upd, arg0, argS, ofConst, ofCell, Nat.reduceEqDiff, reduceIte, h2, h3, h5] <;> rfl) (by exact (rfl)) (by decide) ?_
  refine ro_assign (by simp only [evalF, upd, arg0, argS, ofConst, ofCell, Nat.reduceEqDiff, reduceIte, h2, h3, h5] <;> rfl) (by decide) ?_
  refine ro_assign (by simp only [evalF, upd, arg0, argS, ofConst, ofCell, Nat.reduceEqDiff, reduceIte, h2, h3, h5] <;> rfl) (by decide) ?_
  refine ro_nil ?_
  try simp only
  have hxb := encX_bytes hW.kb hW.mb
  have two5 : Two hp5 nb5 m o L D Lo Do := ⟨hk, hko, hW5.rl, hW5.rd, row_any hLo hLo1, row_any hDo hDo1, by have := hW.sl; omega, by have := hW.sd; omega, hW.mb, hd8o⟩
  refine ex_seq (ex_seq (ex_draw writesStat ?_))
  refine rdw_move rfl (by simp only [evalF, upd, arg0, argS, ofConst, ofCell, Nat.reduceEqDiff, reduceIte, h2, h3, h5] <;> rfl) (by decide) ?_
  refine rdw_conv rfl (by simp only [evalF, upd, arg0, argS, ofConst, ofCell, Nat.reduceEqDiff, reduceIte, h2, h3, h5] <;> rfl) (by exact (conv_str r45 hxb (fun _ _ => rfl))) (by decide) ?_
  refine rdw_move rfl (by simp only [evalF, upd, arg0, argS, ofConst, ofCell, Nat.reduceEqDiff, reduceIte, h2, h3, h5] <;> rfl) (by decide) ?_
  refine rdw_conv rfl (by simp only [evalF, upd, arg0, argS, ofConst, ofCell, Nat.reduceEqDiff, reduceIte, h2, h3, h5] <;> rfl) (by exact (conv_str r5 hxb (fun _ _ => rfl))) (by decide) ?_
  refine rdw_bin rfl (by simp only [evalF, upd, arg0, argS, ofConst, ofCell, Nat.reduceEqDiff, reduceIte, h2, h3, h5] <;> rfl) (by simp only [evalF, upd, arg0, argS, ofConst, ofCell, Nat.reduceEqDiff, reduceIte, h2, h3, h5] <;> rfl) (by exact (neq_same)) (by decide) ?_
  refine rdw_move rfl (by simp only [evalF, upd, arg0, argS, ofConst, ofCell, Nat.reduceEqDiff, reduceIte, h2, h3, h5] <;> rfl) (by decide) ?_
  refine rdw_move (want_of rfl (by simp only [evalF, upd, arg0, argS, ofConst, ofCell, Nat.reduceEqDiff, reduceIte, h2, h3, h5] <;> rfl) rfl) (by simp only [evalF, upd, arg0, argS, ofConst, ofCell, Nat.reduceEqDiff, reduceIte, h2, h3, h5] <;> rfl) (by decide) ?_
  refine rdw_move (want_of rfl (by simp only [evalF, upd, arg0, argS, ofConst, ofCell, Nat.reduceEqDiff, reduceIte, h2, h3, h5] <;> rfl) rfl) (by simp only [evalF, upd, arg0, argS, ofConst, ofCell, Nat.reduceEqDiff, reduceIte, h2, h3, h5] <;> rfl) (by decide) ?_
  refine rdw_bin (want_of rfl (by simp only [evalF, upd, arg0, argS, ofConst, ofCell, Nat.reduceEqDiff, reduceIte, h2, h3, h5] <;> rfl) rfl) (by simp only [evalF, upd, arg0, argS, ofConst, ofCell, Nat.reduceEqDiff, reduceIte, h2, h3, h5] <;> rfl) (by simp only [evalF, upd, arg0, argS, ofConst, ofCell, Nat.reduceEqDiff, reduceIte, h2, h3, h5] <;> rfl) (by exact (neq_f rfl)) (by decide) ?_
  refine rdw_pick rfl (by simp only [evalF, upd, arg0, argS, ofConst, ofCell, Nat.reduceEqDiff, reduceIte, h2, h3, h5] <;> rfl) (by simp only [evalF, upd, arg0, argS, ofConst, ofCell, Nat.reduceEqDiff, reduceIte, h2, h3, h5] <;> rfl) (by simp only [evalF, upd, arg0, argS, ofConst, ofCell, Nat.reduceEqDiff, reduceIte, h2, h3, h5] <;> rfl) (by decide) ?_
  refine rdw_move rfl (by simp only [evalF, upd, arg0, argS, ofConst, ofCell, Nat.reduceEqDiff, reduceIte, h2, h3, h5] <;> rfl) (by decide) ?_
  refine rdw_load (want_of rfl (by simp only [evalF, upd, arg0, argS, ofConst, ofCell, Nat.reduceEqDiff, reduceIte, h2, h3, h5] <;> rfl) rfl) (by simp only [evalF, upd, arg0, argS, ofConst, ofCell, Nat.reduceEqDiff, reduceIte, h2, h3, h5] <;> rfl) (by exact (load_whole hk hW5.lm)) (by decide) ?_
  refine rdw_load (want_of rfl (by simp only [evalF, upd, arg0, argS, ofConst, ofCell, Nat.reduceEqDiff, reduceIte, h2, h3, h5] <;> rfl) rfl) (by simp only [evalF, upd, arg0, argS, ofConst, ofCell, Nat.reduceEqDiff, reduceIte, h2, h3, h5] <;> rfl) (by exact (load_whole hko hW5.lo)) (by decide) ?_
  refine rdw_bool (f := 18) (xs := [.agg (mcells m L D), .agg (mcells o Lo Do)]) (r := sameM m o) (want_of rfl (by simp only [evalF, upd, arg0, argS, ofConst, ofCell, Nat.reduceEqDiff, reduceIte, h2, h3, h5] <;> rfl) rfl) (by simp [calleeA, evalF, upd]) rfl hW5.td (both18 13 two5).1 (both18 13 two5).2 (by decide) ?_
  intro c6 hp6 nb6 ha6 hc6
  have hW6 := hW5.keep ha6
  have two6 := two5.keep ha6
  refine rdw_load (want_of rfl (by simp only [evalF, upd, arg0, argS, ofConst, ofCell, Nat.reduceEqDiff, reduceIte, h2, h3, h5] <;> rfl) rfl) (by simp only [evalF, upd, arg0, argS, ofConst, ofCell, Nat.reduceEqDiff, reduceIte, h2, h3, h5] <;> rfl) (by exact (load_whole hk hW6.lm)) (by decide) ?_
  refine rdw_load (want_of rfl (by simp only [evalF, upd, arg0, argS, ofConst, ofCell, Nat.reduceEqDiff, reduceIte, h2, h3, h5] <;> rfl) rfl) (by simp only [evalF, upd, arg0, argS, ofConst, ofCell, Nat.reduceEqDiff, reduceIte, h2, h3, h5] <;> rfl) (by exact (load_whole hko hW6.lo)) (by decide) ?_
  refine rdw_bool (f := 17) (xs := [.agg (mcells m L D), .agg (mcells o Lo Do)]) (r := sameM m o) (want_of rfl (by simp only [evalF, upd, arg0, argS, ofConst, ofCell, Nat.reduceEqDiff, reduceIte, h2, h3, h5] <;> rfl) rfl) (by simp [calleeA, evalF, upd]) rfl hW6.td (both17 17 hW6.td two6).1 (both17 17 hW6.td two6).2 (by decide) ?_
  intro c7 hp7 nb7 ha7 hc7
  have hW7 := hW6.keep ha7
  refine rdw_bin (want_of rfl (by simp only [evalF, upd, arg0, argS, ofConst, ofCell, Nat.reduceEqDiff, reduceIte, h2, h3, h5] <;> rfl) rfl) (by simp only [evalF, upd, arg0, argS, ofConst, ofCell, Nat.reduceEqDiff, reduceIte, h2, h3, h5] <;> rfl) (by simp only [evalF, upd, arg0, argS, ofConst, ofCell, Nat.reduceEqDiff, reduceIte, h2, h3, h5] <;> rfl) (by exact (neq4_same)) (by decide) ?_
  refine rdw_pick rfl (by simp only [evalF, upd, arg0, argS, ofConst, ofCell, Nat.reduceEqDiff, reduceIte, h2, h3, h5] <;> rfl) (by simp only [evalF, upd, arg0, argS, ofConst, ofCell, Nat.reduceEqDiff, reduceIte, h2, h3, h5] <;> rfl) (by simp only [evalF, upd, arg0, argS, ofConst, ofCell, Nat.reduceEqDiff, reduceIte, h2, h3, h5] <;> rfl) (by decide) ?_
  refine rdw_move rfl (by simp only [evalF, upd, arg0, argS, ofConst, ofCell, Nat.reduceEqDiff, reduceIte, h2, h3, h5] <;> rfl) (by decide) ?_
  have two7 : Two hp7 nb7 m m L D L D := ⟨hk, hk, hW7.rl, hW7.rd, hW7.rl, hW7.rd, by have := hW.sl; omega, by have := hW.sd; omega, hW.mb, hW.mb⟩
  refine rdw_load (want_of rfl (by simp only [evalF, upd, arg0, argS, ofConst, ofCell, Nat.reduceEqDiff, reduceIte, h2, h3, h5] <;> rfl) rfl) (by simp only [evalF, upd, arg0, argS, ofConst, ofCell, Nat.reduceEqDiff, reduceIte, h2, h3, h5] <;> rfl) (by exact (load_whole hk hW7.lm)) (by decide) ?_
  refine rdw_load (want_of rfl (by simp only [evalF, upd, arg0, argS, ofConst, ofCell, Nat.reduceEqDiff, reduceIte, h2, h3, h5] <;> rfl) rfl) (by simp only [evalF, upd, arg0, argS, ofConst, ofCell, Nat.reduceEqDiff, reduceIte, h2, h3, h5] <;> rfl) (by exact (load_whole hk hW7.lm)) (by decide) ?_
  refine rdw_bool (f := 18) (xs := [.agg (mcells m L D), .agg (mcells m L D)]) (r := sameM m m) (want_of rfl (by simp only [evalF, upd, arg0, argS, ofConst, ofCell, Nat.reduceEqDiff, reduceIte, h2, h3, h5] <;> rfl) rfl) (by simp [calleeA, evalF, upd]) rfl hW7.td (both18 13 two7).1 (both18 13 two7).2 (by decide) ?_
  intro c8 hp8 nb8 ha8 hc8
  have hW8 := hW7.keep ha8
  rw [sameM_refl]
  refine rdw_un (want_of rfl (by simp only [evalF, upd, arg0, argS, ofConst, ofCell, Nat.reduceEqDiff, reduceIte, h2, h3, h5] <;> rfl) rfl) (by simp only [evalF, upd, arg0, argS, ofConst, ofCell, Nat.reduceEqDiff, reduceIte, h2, h3, h5] <;> rfl) (by exact (show unOpA .not (.pv (.bool true)) = some (.pv (.bool false)) from rfl)) (by decide) ?_
  refine rdw_pick rfl (by simp only [evalF, upd, arg0, argS, ofConst, ofCell, Nat.reduceEqDiff, reduceIte, h2, h3, h5] <;> rfl) (by simp only [evalF, upd, arg0, argS, ofConst, ofCell, Nat.reduceEqDiff, reduceIte, h2, h3, h5] <;> rfl) (by simp only [evalF, upd, arg0, argS, ofConst, ofCell, Nat.reduceEqDiff, reduceIte, h2, h3, h5] <;> rfl) (by decide) ?_
  refine rd_nil ⟨dyn_of rfl (fun p hp' => ?_), ?_⟩
  · have hp'' : p ∈ needs (regOf Try.f8 10) := hp'
    rw [writesNeeds] at hp''
    simp only [List.mem_cons, List.not_mem_nil, or_false] at hp''
    have hn5 := hW5.n2
    rcases hp'' with rfl | rfl | rfl <;> intro x y hx hy <;> cases hx <;> cases hy
    · exact heapPart_no rfl rfl
    · refine heapPart_quiet (m := nb5) hc6 rfl (fun id hid => ?_)
      simp [footF, looksIn, Op.operands, evalF, upd, idOf, h2] at hid
      omega
    · refine heapPart_quiet (m := nb5) hc6 rfl (fun id hid => ?_)
      simp [footF, looksIn, Op.operands, evalF, upd, idOf, h3] at hid
      omega
  try simp only
  have r48 : Row hp8 nb8 a4 (u8s (encX m)) := by
    have k : ∀ {hp hp' : Hp} {nb nb' : Nat}, Row hp nb a4 (u8s (encX m)) → After hp nb (.pv .nilSlice) hp' nb' → Row hp' nb' a4 (u8s (encX m)) := fun r ha => r.keep ha.1 (fun id hid _ => ha.2.1 id hid (by simp [ownOf]))
    exact k (k (k r45 ha6) ha7) ha8
  refine ex_cond (t := false) (by simp only [evalF, upd, arg0, argS, ofConst, ofCell, Nat.reduceEqDiff, reduceIte, h2, h3, h5] <;> rfl) (fun h => by simp at h) (fun _ => ex_skip ?_)
  try simp only
  refine ex_seq (ex_weaken (K := fun x g' hp' nb' => x = .normal ∧ g' 2 = .ptr 0 1 0 ∧ g' 3 = .ptr 1 1 0 ∧ g' 5 = .pv (.int .i64 i) ∧ WI hp' nb' m o L D Lo Do) ?_ ?_)
  · refine ex_seq (ex_region ?_)
    refine ro_move (by simp only [evalF, upd, arg0, argS, ofConst, ofCell, Nat.reduceEqDiff, reduceIte, h2, h3, h5] <;> rfl) (by decide) ?_
    refine ro_bin (by simp only [evalF, upd, arg0, argS, ofConst, ofCell, Nat.reduceEqDiff, reduceIte, h2, h3, h5] <;> rfl) (by simp only [evalF, upd, arg0, argS, ofConst, ofCell, Nat.reduceEqDiff, reduceIte, h2, h3, h5] <;> rfl) (by exact (eql_v)) (by decide) ?_
    refine ro_nil ?_
    try simp only
    refine ex_cond (t := (encN m == 0)) (by simp only [evalF, upd, arg0, argS, ofConst, ofCell, Nat.reduceEqDiff, reduceIte, h2, h3, h5] <;> rfl) (fun he => ?_) (fun he => ?_)
    rotate_left
    · refine ex_skip ?_
      exact ⟨by first | rfl | trivial, by simp [upd, h2], by simp [upd, h3], by simp [upd, h5], hW8⟩
    have hE := encN_0 (by simpa using he)
    obtain ⟨fs, hfs, hdec⟩ := dec_enc hk hE
    refine ex_seq (ex_region ?_)
    refine ro_move (by simp only [evalF, upd, arg0, argS, ofConst, ofCell, Nat.reduceEqDiff, reduceIte, h2, h3, h5] <;> rfl) (by decide) ?_
    refine ro_parse 13 hxb r48 (by simp only [evalF, upd, arg0, argS, ofConst, ofCell, Nat.reduceEqDiff, reduceIte, h2, h3, h5] <;> rfl) (by decide) ?_
    rintro v9 hp9 nb9 ⟨ha9, hres⟩
    rw [hdec] at hres
    obtain ⟨hkx, Lx, Dx, rfl, hLx, hDx, _, _⟩ := hres
    have hsame := same_read hfs
    have hxl : (setsF m fs { zeroM with kind := m.kind }).list.length < 9999 ∧ (setsF m fs { zeroM with kind := m.kind }).data.length < 9999 ∧ ∀ z ∈ (setsF m fs { zeroM with kind := m.kind }).data, 0 ≤ z ∧ z ≤ 255 := by
      have key : ∀ (fs : List Nat) (x : M), (x.list.length < 9999 ∧ x.data.length < 9999 ∧ ∀ z ∈ x.data, 0 ≤ z ∧ z ≤ 255) → ((setsF m fs x).list.length < 9999 ∧ (setsF m fs x).data.length < 9999 ∧ ∀ z ∈ (setsF m fs x).data, 0 ≤ z ∧ z ≤ 255) := by
        intro fs
        induction fs with
        | nil => intro x h; exact h
        | cons f fs ih =>
          intro x h
          rw [setsF]
          refine ih _ ?_
          have s1 := hW.sl
          have s2 := hW.sd
          unfold setF
          split <;> first | exact h | exact ⟨by show m.list.length < 9999; omega, h.2⟩ | exact ⟨h.1, by show m.data.length < 9999; omega, hW.mb⟩
      exact key fs _ ⟨by simp [zeroM], by simp [zeroM], by simp [zeroM]⟩
    generalize setsF m fs { zeroM with kind := m.kind } = x at *
    have hW9 := hW8.keep ha9
    refine ro_move (by simp only [evalF, upd, arg0, argS, ofConst, ofCell, Nat.reduceEqDiff, reduceIte, h2, h3, h5] <;> rfl) (by decide) ?_
    refine ro_extract (by simp only [evalF, upd, arg0, argS, ofConst, ofCell, Nat.reduceEqDiff, reduceIte, h2, h3, h5] <;> rfl) (by exact (rfl)) (by decide) ?_
    refine ro_extract (by simp only [evalF, upd, arg0, argS, ofConst, ofCell, Nat.reduceEqDiff, reduceIte, h2, h3, h5] <;> rfl) (by exact (rfl)) (by decide) ?_
    refine ro_alloc zero30 (by kernel_rfl) (by decide) ?_
    refine ro_store (by simp only [evalF, upd, arg0, argS, ofConst, ofCell, Nat.reduceEqDiff, reduceIte, h2, h3, h5] <;> rfl) (by simp only [evalF, upd, arg0, argS, ofConst, ofCell, Nat.reduceEqDiff, reduceIte, h2, h3, h5] <;> rfl) (storeZ (look_same _ _ _ _) (mc_all (row_cell hLx).1 (row_cell hDx).1) (mc_length hkx) z_len) ?_
    refine ro_assign (by simp only [evalF, upd, arg0, argS, ofConst, ofCell, Nat.reduceEqDiff, reduceIte, h2, h3, h5] <;> rfl) (by decide) ?_
    refine ro_nil ?_
    try simp only
    have ha10 : After hp9 nb9 (.pv .nilSlice) (setHp (setHp hp9 nb9 (.cells 1 zcells)) nb9 (.cells 1 (mcells x Lx Dx))) (nb9 + 1) :=
      after_put (after_new hp9 nb9 _ _ (z_ok _)) (Nat.le_refl _) (ok_cells (okC_mono (Nat.le_succ _) (row_ok' hLx)) (okC_mono (Nat.le_succ _) (row_ok' hDx)))
    have hlx : AI.look (setHp (setHp hp9 nb9 (.cells 1 zcells)) nb9 (.cells 1 (mcells x Lx Dx))) nb9 1 = some (mcells x Lx Dx) := look_same _ _ _ _
    have hW10 := hW9.keep ha10
    have rx1 : Row (setHp (setHp hp9 nb9 (.cells 1 zcells)) nb9 (.cells 1 (mcells x Lx Dx))) (nb9 + 1) Lx (ints x.list) := hLx.keep ha10.1 (fun id hid _ => ha10.2.1 id hid (by simp [ownOf]))
    have rx2 : Row (setHp (setHp hp9 nb9 (.cells 1 zcells)) nb9 (.cells 1 (mcells x Lx Dx))) (nb9 + 1) Dx (u8s x.data) := hDx.keep ha10.1 (fun id hid _ => ha10.2.1 id hid (by simp [ownOf]))
    show EX _ _ _ _ _ 87 _ _ (setHp (setHp hp9 nb9 (.cells 1 zcells)) nb9 (.cells 1 (mcells x Lx Dx))) _ _
    generalize setHp (setHp hp9 nb9 (.cells 1 zcells)) nb9 (.cells 1 (mcells x Lx Dx)) = hp10 at hlx hW10 rx1 rx2 ⊢
    have two10 : Two hp10 (nb9 + 1) x m Lx Dx L D := ⟨hkx, hk, rx1, rx2, hW10.rl, hW10.rd, hxl.1, hxl.2.1, hxl.2.2, hW.mb⟩
    refine ex_seq (ex_region ?_)
    refine ro_move (by simp only [evalF, upd, arg0, argS, ofConst, ofCell, Nat.reduceEqDiff, reduceIte, h2, h3, h5] <;> rfl) (by decide) ?_
    refine ro_bin (by simp only [evalF, upd, arg0, argS, ofConst, ofCell, Nat.reduceEqDiff, reduceIte, h2, h3, h5] <;> rfl) (by simp only [evalF, upd, arg0, argS, ofConst, ofCell, Nat.reduceEqDiff, reduceIte, h2, h3, h5] <;> rfl) (by exact (show binOpA Try.prog .neq 28 (.pv (.int .i64 0)) (.pv (.int .i64 0)) = some (.pv (.bool false)) from neq_f rfl)) (by decide) ?_
    refine ro_move (by simp only [evalF, upd, arg0, argS, ofConst, ofCell, Nat.reduceEqDiff, reduceIte, h2, h3, h5] <;> rfl) (by decide) ?_
    refine ro_guard rfl (by simp only [evalF, upd, arg0, argS, ofConst, ofCell, Nat.reduceEqDiff, reduceIte, h2, h3, h5] <;> rfl) rfl ?_
    refine ro_load (by simp only [evalF, upd, arg0, argS, ofConst, ofCell, Nat.reduceEqDiff, reduceIte, h2, h3, h5] <;> rfl) (by exact (load_whole hkx hlx)) (by decide) ?_
    refine ro_guard rfl (by simp only [evalF, upd, arg0, argS, ofConst, ofCell, Nat.reduceEqDiff, reduceIte, h2, h3, h5] <;> rfl) rfl ?_
    refine ro_load (by simp only [evalF, upd, arg0, argS, ofConst, ofCell, Nat.reduceEqDiff, reduceIte, h2, h3, h5] <;> rfl) (by exact (load_whole hk hW10.lm)) (by decide) ?_
    refine ro_guard rfl (by simp only [evalF, upd, arg0, argS, ofConst, ofCell, Nat.reduceEqDiff, reduceIte, h2, h3, h5] <;> rfl) rfl ?_
    refine ro_bool (f := 17) (xs := [.agg (mcells x Lx Dx), .agg (mcells m L D)]) (r := sameM x m) (by simp [calleeA, evalF, upd]) rfl (both17 17 hW10.td two10).1 (both17 17 hW10.td two10).2 (by decide) ?_
    intro hp11 nb11 ha11
    have hW11 := hW10.keep ha11
    rw [hsame]
    refine ro_guard rfl (by simp only [evalF, upd, arg0, argS, ofConst, ofCell, Nat.reduceEqDiff, reduceIte, h2, h3, h5] <;> rfl) rfl ?_
    refine ro_un (by simp only [evalF, upd, arg0, argS, ofConst, ofCell, Nat.reduceEqDiff, reduceIte, h2, h3, h5] <;> rfl) (by exact (show unOpA .not (.pv (.bool true)) = some (.pv (.bool false)) from rfl)) (by decide) ?_
    refine ro_pick (by simp only [evalF, upd, arg0, argS, ofConst, ofCell, Nat.reduceEqDiff, reduceIte, h2, h3, h5] <;> rfl) (by simp only [evalF, upd, arg0, argS, ofConst, ofCell, Nat.reduceEqDiff, reduceIte, h2, h3, h5] <;> rfl) (by simp only [evalF, upd, arg0, argS, ofConst, ofCell, Nat.reduceEqDiff, reduceIte, h2, h3, h5] <;> rfl) (by decide) ?_
    refine ro_nil ?_
    try simp only
    refine ex_cond (t := false) (by simp only [evalF, upd, arg0, argS, ofConst, ofCell, Nat.reduceEqDiff, reduceIte, h2, h3, h5] <;> rfl) (fun h => by simp at h) (fun _ => ex_skip ?_)
    exact ⟨by first | rfl | trivial, by simp [upd, h2], by simp [upd, h3], by simp [upd, h5], hW11⟩
  rintro x g9 hp9 nb9 ⟨rfl, h2', h3', h5', hW9⟩
  try simp only
  refine ex_region ?_
  refine ro_load (by simp only [evalF, upd, arg0, argS, ofConst, ofCell, Nat.reduceEqDiff, reduceIte, h2', h3', h5'] <;> rfl) (by exact (load_whole hk hW9.lm)) (by decide) ?_
  refine ro_good2 18 hW9.ft hW9.rl hW9.rd hW9.pd (by have := hW.sl; omega) (by have := hW.sd; omega) (by omega) (by simp only [evalF, upd, arg0, argS, ofConst, ofCell, Nat.reduceEqDiff, reduceIte, h2', h3', h5'] <;> rfl) (by decide) ?_
  intro L' D' hp12 nb12 hL2 hD2 hDo2 hLo2 ha12
  have hW12 := hW9.keep ha12
  have hfg := fit_good hW9.ft
  have hgk := hfg.key
  refine ro_store (v := .agg (mcells (goodM m) L' D')) (by simp only [evalF, upd, arg0, argS, ofConst, ofCell, Nat.reduceEqDiff, reduceIte, h2', h3', h5'] <;> rfl) (by simp only [evalF, upd, arg0, argS, ofConst, ofCell, Nat.reduceEqDiff, reduceIte, h2', h3', h5'] <;> rfl) (storeN sz30 hW12.lm (mc_all (row_cell hL2).1 (row_cell hD2).1) (mc_length hgk) (by rw [mc_length hk]; omega)) ?_
  rw [splice_all hk hgk]
  refine ro_nil ?_
  try simp only
  have hn9 := hW9.n2
  have hn12 := ha12.1
  refine ex_region ?_
  refine ro_move (by simp only [evalF, upd, arg0, argS, ofConst, ofCell, Nat.reduceEqDiff, reduceIte, h2', h3', h5'] <;> rfl) (by decide) ?_
  refine ro_bin (by simp only [evalF, upd, arg0, argS, ofConst, ofCell, Nat.reduceEqDiff, reduceIte, h2', h3', h5'] <;> rfl) (by simp only [evalF, upd, arg0, argS, ofConst, ofCell, Nat.reduceEqDiff, reduceIte, h2', h3', h5'] <;> rfl) (by exact (add_v (by omega))) (by decide) ?_
  refine ro_assign (by simp only [evalF, upd, arg0, argS, ofConst, ofCell, Nat.reduceEqDiff, reduceIte, h2', h3', h5'] <;> rfl) (by decide) ?_
  refine ro_nil ?_
  refine ⟨2 - (i + 1), by omega, i + 1, goodM m, L', D', rfl, by omega, by simp [upd, h2'], by simp [upd, h3'], by simp [upd], fun _ => ⟨m, rfl, hk⟩, ?_⟩
  refine ⟨look_same _ _ _ _, by rw [look_ne _ _ _ (by omega)]; exact hW12.lo, ?_, row_any hD2 hDo2, hDo2, fun id h => by have := hLo2 id h; omega, hfg, ?_, ?_, hW.kb, fun z hz => hW.mb z (List.mem_of_mem_take hz), tidy_put hW12.td (ok_cells (row_ok' hL2) (row_okC hD2 hDo2)), hW12.n2⟩
  · exact hL2.keep (Nat.le_refl _) (fun id hid ho => by have := hLo2 id ho; simp [setHp, show id ≠ 0 by omega])
  · have := hW.sl
    simp [goodM]; omega
  · have := hW.sd
    simp [goodM]; omega
end Go.Proofs.Ytlinbbjobjnipaa
