/- Rows of cells; types; loads and stores: the plain ones against the machine's. -/
import Derived.Test.YtabpcmmkmbchnaaA2
set_option linter.unusedVariables false
set_option linter.unusedSectionVars false
set_option linter.unusedSimpArgs false
namespace Go.Proofs.Ytabpcmmkmbchnaa.AI
open Go
variable [Val]

/-- Two rows, place by place. -/
def RepL (X : Nat → Prop) (hp : Hp) (φ : Emb) (w : World) (cs : List AV) (vs : List Value) : Prop :=
  cs.length = vs.length ∧ ∀ (i : Nat) (c : AV), cs[i]? = some c → ∃ v : Value, vs[i]? = some v ∧ RepA X hp φ w c v

variable {X : Nat → Prop} {hp : Hp} {φ : Emb} {w : World} {P : Program}

theorem RepL.nil : RepL X hp φ w [] [] := ⟨rfl, by simp⟩

theorem RepL.cons {c : AV} {v : Value} {cs vs} (h : RepA X hp φ w c v) (t : RepL X hp φ w cs vs) : RepL X hp φ w (c :: cs) (v :: vs) := by
  refine ⟨by simp [t.1], fun i x hx => ?_⟩
  cases i with
  | zero => simp at hx; subst hx; exact ⟨v, by simp, h⟩
  | succ i => simpa using t.2 i x (by simpa using hx)

theorem RepL.head {c : AV} {cs vs} (h : RepL X hp φ w (c :: cs) vs) : ∃ v vs', vs = v :: vs' ∧ RepA X hp φ w c v ∧ RepL X hp φ w cs vs' := by
  obtain ⟨hl, hr⟩ := h
  cases vs with
  | nil => simp at hl
  | cons v vs =>
    obtain ⟨x, hx, hr0⟩ := hr 0 c (by simp)
    simp at hx; subst hx
    exact ⟨v, vs, rfl, hr0, by simpa using hl, fun i y hy => by simpa using hr (i + 1) y (by simpa using hy)⟩

theorem RepL.of_nil {vs} (h : RepL X hp φ w [] vs) : vs = [] := by cases vs with | nil => rfl | cons _ _ => simp [RepL] at h

theorem RepL.append {cs vs cs' vs'} (h : RepL X hp φ w cs vs) (k : RepL X hp φ w cs' vs') : RepL X hp φ w (cs ++ cs') (vs ++ vs') := by
  refine ⟨by simp [h.1, k.1], fun i c hc => ?_⟩
  rw [List.getElem?_append] at hc ⊢
  rw [← h.1]
  split at hc
  · rename_i hi; rw [if_pos hi]; exact h.2 i c hc
  · rename_i hi; rw [if_neg hi]; exact k.2 _ c hc

theorem RepL.take {cs vs} (h : RepL X hp φ w cs vs) (n : Nat) : RepL X hp φ w (cs.take n) (vs.take n) := by
  refine ⟨by simp [h.1], fun i c hc => ?_⟩
  rw [List.getElem?_take] at hc ⊢
  split at hc
  · rename_i hi; rw [if_pos hi]; exact h.2 i c hc
  · simp at hc

theorem RepL.drop {cs vs} (h : RepL X hp φ w cs vs) (n : Nat) : RepL X hp φ w (cs.drop n) (vs.drop n) := by
  refine ⟨by simp [h.1], fun i c hc => ?_⟩
  rw [List.getElem?_drop] at hc ⊢
  exact h.2 _ c hc

theorem RepL.splice {cs vs cs' vs'} (h : RepL X hp φ w cs vs) (k : RepL X hp φ w cs' vs') (off : Nat) :
    RepL X hp φ w (splice cs off cs') (AI.splice vs off vs') := by
  unfold AI.splice
  rw [k.1]
  exact ((h.take off).append k).append (h.drop _)

theorem RepL.evo {hp' φ' w' cs vs} (e : Evo hp φ w hp' φ' w') (h : RepL X hp φ w cs vs) : RepL X hp' φ' w' cs vs :=
  ⟨h.1, fun i c hc => let ⟨v, hv, hr⟩ := h.2 i c hc; ⟨v, hv, hr.evo e⟩⟩

theorem repA_agg {cs : List AV} {v : Value} (h : RepA X hp φ w (.agg cs) v) : ∃ vs, v = .agg vs ∧ RepL X hp φ w cs vs.toList := by
  cases h with
  | agg _ vs hs h =>
    refine ⟨vs, rfl, by simpa using hs.symm, fun i c hc => ?_⟩
    obtain ⟨hi, rfl⟩ := List.getElem?_eq_some_iff.1 hc
    have := h i hi
    have hi' : i < vs.size := by omega
    exact ⟨vs[i], by simp [hi'], by simpa [Array.getD, hi'] using this⟩

theorem repA_tuple {cs : List AV} {v : Value} (h : RepA X hp φ w (.tuple cs) v) : ∃ vs, v = .tuple vs ∧ RepL X hp φ w cs vs.toList := by
  cases h with
  | tuple _ vs hs h =>
    refine ⟨vs, rfl, by simpa using hs.symm, fun i c hc => ?_⟩
    obtain ⟨hi, rfl⟩ := List.getElem?_eq_some_iff.1 hc
    have := h i hi
    have hi' : i < vs.size := by omega
    exact ⟨vs[i], by simp [hi'], by simpa [Array.getD, hi'] using this⟩

theorem repA_clo {f : Nat} {cs : List AV} {v : Value} (h : RepA X hp φ w (.clo f cs) v) : ∃ vs, v = .func (.func f) #[] vs ∧ RepL X hp φ w cs vs.toList := by
  cases h with
  | clo _ _ vs hs h =>
    refine ⟨vs, rfl, by simpa using hs.symm, fun i c hc => ?_⟩
    obtain ⟨hi, rfl⟩ := List.getElem?_eq_some_iff.1 hc
    have := h i hi
    have hi' : i < vs.size := by omega
    exact ⟨vs[i], by simp [hi'], by simpa [Array.getD, hi'] using this⟩

theorem RepL.getD {cs : List AV} {vs : Array Value} (h : RepL X hp φ w cs vs.toList) (i : Nat) (hi : i < cs.length) : RepA X hp φ w cs[i] (vs.getD i undef) := by
  obtain ⟨v, hv, hr⟩ := h.2 i cs[i] (by simp [hi])
  have hi' : i < vs.size := by have := h.1; simp at this; omega
  have : vs[i] = v := by
    have h2 : vs[i]? = some v := by simpa using hv
    rw [Array.getElem?_eq_getElem hi'] at h2
    exact Option.some.inj h2
  simpa [Array.getD, hi', this] using hr

theorem RepL.agg {cs : List AV} {vs : Array Value} (h : RepL X hp φ w cs vs.toList) : RepA X hp φ w (.agg cs) (.agg vs) :=
  .agg cs vs (by simpa using h.1.symm) fun i hi => h.getD i hi

theorem RepL.tuple {cs : List AV} {vs : Array Value} (h : RepL X hp φ w cs vs.toList) : RepA X hp φ w (.tuple cs) (.tuple vs) :=
  .tuple cs vs (by simpa using h.1.symm) fun i hi => h.getD i hi

theorem RepL.clo {f : Nat} {cs : List AV} {vs : Array Value} (h : RepL X hp φ w cs vs.toList) : RepA X hp φ w (.clo f cs) (.func (.func f) #[] vs) :=
  .clo f cs vs (by simpa using h.1.symm) fun i hi => h.getD i hi

/-- The cells of a value whose cells are all cells. -/
theorem repA_cells {a : AV} {v : Value} (h : RepA X hp φ w a v) (hc : a.cells.all AV.isCell = true) :
    RepL X hp φ w a.cells v.cells.toList ∧ ∀ x ∈ v.cells.toList, x.oneCell' = true := by
  have one : ∀ {c : AV} {x : Value}, RepA X hp φ w c x → c.isCell = true → x.oneCell' = true := by
    intro c x hx hi
    cases hx with
    | pv p v h => cases h <;> first | rfl | (subst_vars; exact Val.one _)
    | ptr => rfl
    | slice => rfl
    | map => rfl
    | clo => rfl
    | agg => simp [AV.isCell] at hi
    | tuple => simp [AV.isCell] at hi
    | dead => simp [AV.isCell] at hi
  have single : ∀ {c : AV} {x : Value}, c.cells = [c] → c.isCell = true → RepA X hp φ w c x → RepL X hp φ w c.cells x.cells.toList ∧ ∀ y ∈ x.cells.toList, y.oneCell' = true := by
    intro c x h1 h2 hx
    have ho := one hx h2
    have hcx : x.cells = #[x] := by cases x <;> simp_all [Value.cells, Value.oneCell']
    rw [h1, hcx]
    exact ⟨.cons hx .nil, by simpa using ho⟩
  cases a with
  | agg cs =>
    obtain ⟨vs, rfl, hl⟩ := repA_agg h
    simp only [AV.cells, Value.cells] at hc ⊢
    refine ⟨hl, fun x hx => ?_⟩
    obtain ⟨i, hi, rfl⟩ := List.getElem_of_mem hx
    have hi' : i < cs.length := by rw [hl.1]; exact hi
    obtain ⟨v, hv, hr⟩ := hl.2 i cs[i] (by simp [hi'])
    have : vs.toList[i] = v := (List.getElem?_eq_some_iff.1 hv).2
    rw [this]
    exact one hr (List.all_eq_true.1 hc _ (List.getElem_mem hi'))
  | pv p => exact single rfl rfl h
  | ptr => exact single rfl rfl h
  | slice => exact single rfl rfl h
  | map => exact single rfl rfl h
  | clo => exact single rfl rfl h
  | tuple => simp [AV.cells, AV.isCell] at hc
  | dead => simp [AV.cells, AV.isCell] at hc

theorem repA_ofCell (v : Value) : RepA X hp φ w (ofCell v) v := by
  unfold ofCell
  split
  all_goals first
    | exact .dead _
    | exact .pv _ _ (.str _ _ rfl)
    | exact .pv _ _ (by constructor)

theorem repL_ofCell (vs : List Value) : RepL X hp φ w (vs.map ofCell) vs :=
  ⟨by simp, fun i c hc => by
    simp only [List.getElem?_map, Option.map_eq_some_iff] at hc
    obtain ⟨v, hv, rfl⟩ := hc
    exact ⟨v, hv, repA_ofCell v⟩⟩

theorem repA_ofConst (v : Value) : RepA X hp φ w (ofConst v) v := by
  unfold ofConst
  split
  · exact (repL_ofCell _).agg
  · exact repA_ofCell v

theorem repA_undef : RepA X hp φ w undefA undef := RepL.tuple (vs := #[]) .nil

/-! Types. -/

theorem run_szA {t : TypeId} {n : Nat} (h : szA P t = some n) : (sizeOf t).run P w = .ok n w := by
  unfold szA at h
  cases hi : P.info? t with
  | none => simp [hi] at h
  | some i => simp [hi] at h; subst h; simp [sizeOf, typeInfo, hi]

theorem run_info {t : TypeId} {i : TypeInfo} (h : P.info? t = some i) : (typeInfo t).run P w = .ok i w := by simp [typeInfo, h]

theorem run_und {t : TypeId} {d : TypeDesc} (h : P.underlying t = some d) : (underlying t).run P w = .ok d w := by simp [underlying, h]

theorem run_isAggA {t : TypeId} {b : Bool} (h : isAggA P t = some b) : (isAgg t).run P w = .ok b w := by
  unfold isAggA at h
  cases hu : P.underlying t with
  | none => simp [hu] at h
  | some d =>
    simp only [isAgg, Sem.run_bind, run_und hu, Result.andThen_ok]
    cases d <;> simp [hu] at h <;> subst h <;> rfl

theorem run_zeroA {t : TypeId} {z : List AV} (h : zeroA P t = some z) : ∃ zv, (zeroValue t).run P w = .ok zv w ∧ z = zv.cells.toList.map ofCell := by
  unfold zeroA at h
  cases hi : P.info? t with
  | none => simp [hi] at h
  | some i =>
    simp only [hi, Option.map_eq_some_iff] at h
    obtain ⟨zv, hz, rfl⟩ := h
    exact ⟨zv, by simp [zeroValue, run_info hi, hz], rfl⟩

theorem add_none (b o n : Nat) : (⟨b, o, none⟩ : Addr).add n = ⟨b, o + n, none⟩ := by unfold Addr.add; split <;> simp_all

/-! What an address leads to. -/

theorem look_some {id ver : Nat} {cs : List AV} (h : look hp id ver = some cs) : hp id = .cells ver cs := by
  unfold look at h
  split at h
  · rename_i v c hc
    split at h
    · rename_i hv; subst hv; simp at h; subst h; exact hc
    · simp at h
  · simp at h

/-- n cells that lie in a row. -/
def Lies (w : World) (b o : Nat) (vs : List Value) : Prop := ∀ (j : Nat) (v : Value), vs[j]? = some v → w.cell? ⟨b, o + j, none⟩ = some v

theorem RelH.row (R : RelH X hp φ w) {id ver : Nat} {cs : List AV} (h : hp id = .cells ver cs) :
    ∃ (c : Array Value) (T lo hi : Nat), w.heap[(φ id).1]? = some (.cells c T (lo, hi)) ∧ (φ id).2 + cs.length ≤ c.size ∧ Quiet c.size lo hi ∧
      RepL X hp φ w cs ((c.toList.drop (φ id).2).take cs.length) ∧ (∀ x ∈ cs, x.isCell = true) ∧ Lies w (φ id).1 (φ id).2 ((c.toList.drop (φ id).2).take cs.length) := by
  obtain ⟨c, T, lo, hi, a1, a2, a3, a4⟩ := R.cells id ver cs h
  refine ⟨c, T, lo, hi, a1, a2, a3, ⟨?_, ?_⟩, ?_, ?_⟩
  · simp; omega
  · intro i x hx
    obtain ⟨hi', rfl⟩ := List.getElem?_eq_some_iff.1 hx
    obtain ⟨v, hv, hr, _⟩ := a4 i hi'
    refine ⟨v, ?_, hr⟩
    rw [List.getElem?_take, if_pos hi', List.getElem?_drop]
    simpa using hv
  · intro x hx
    obtain ⟨i, hi', rfl⟩ := List.getElem_of_mem hx
    obtain ⟨v, _, _, hc⟩ := a4 i hi'
    exact hc
  · intro j v hv
    rw [List.getElem?_take] at hv
    split at hv
    · rw [List.getElem?_drop] at hv
      rw [cell_of_row w _ _ c T (lo, hi) a1]
      simpa using hv
    · simp at hv

theorem Lies.sub {b o : Nat} {vs : List Value} (h : Lies w b o vs) (k n : Nat) : Lies w b (o + k) ((vs.drop k).take n) := by
  intro j v hv
  rw [List.getElem?_take] at hv
  split at hv
  · rw [List.getElem?_drop] at hv
    have := h _ v hv
    rwa [show o + k + j = o + (k + j) by omega]
  · simp at hv

/-- The cells of plain memory that is only read. -/
theorem ro_row {cells : List PV} {b base : Nat} {vals : Nat → Value} (hv : ∀ i, i < cells.length → w.cell? ⟨b, base + i, none⟩ = some (vals i))
    (hr : ∀ i (hi : i < cells.length), RepP (Avoid X hp φ) w cells[i] (vals i)) :
    RepL X hp φ w (cells.map .pv) ((List.range cells.length).map vals) ∧ Lies w b base ((List.range cells.length).map vals) := by
  refine ⟨⟨by simp, fun i c hc => ?_⟩, fun j v hv' => ?_⟩
  · simp only [List.getElem?_map, Option.map_eq_some_iff] at hc
    obtain ⟨p, hp', rfl⟩ := hc
    obtain ⟨hi, rfl⟩ := List.getElem?_eq_some_iff.1 hp'
    exact ⟨vals i, by simp [hi], .pv _ _ (hr i hi)⟩
  · simp only [List.getElem?_map, Option.map_eq_some_iff] at hv'
    obtain ⟨x, hx, rfl⟩ := hv'
    obtain ⟨hx1, hx2⟩ := List.getElem?_eq_some_iff.1 hx
    simp at hx1 hx2
    subst hx2
    exact hv j hx1

/-- What lies behind an address: all of the row from there on. -/
theorem read_row (R : RelH X hp φ w) {a : AV} {v : Value} (h : RepA X hp φ w a v) {n : Nat} {cs : List AV} (hr : readAt hp a n = some cs) :
    ∃ b o vs, v = .pointer (some ⟨b, o, none⟩) ∧ cs.length = n ∧ RepL X hp φ w cs vs ∧ Lies w b o vs := by
  unfold readAt at hr
  split at hr
  · rename_i id ver off
    simp only [Option.bind_eq_some_iff] at hr
    obtain ⟨row, hrow, hr⟩ := hr
    split at hr
    · rename_i hle
      simp at hr; subst hr
      have hid := look_some hrow
      obtain ⟨c, T, lo, hi, a1, a2, a3, a4, a5, a6⟩ := R.row hid
      cases h with
      | ptr _ _ _ ad h ha =>
        have := ha (by rw [hid]; rfl) (by rw [hid]; rfl)
        subst this
        refine ⟨_, _, _, rfl, by simp; omega, (a4.drop off).take n, ?_⟩
        exact a6.sub off n
    · simp at hr
  · rename_i row off
    split at hr
    · rename_i hle
      simp at hr; subst hr
      cases h with
      | pv _ _ h =>
        cases h with
        | rop _ _ b base vals hO hv hr =>
          obtain ⟨r1, r2⟩ := ro_row hv hr
          refine ⟨b, base + off, _, rfl, by simp; omega, ?_, r2.sub off n⟩
          have := (r1.drop off).take n
          simpa using this
    · simp at hr
  · simp at hr

theorem run_loadCells_lies {b o : Nat} {vs : List Value} (h : Lies w b o vs) : (loadCells ⟨b, o, none⟩ vs.length).run P w = .ok vs.toArray w :=
  run_loadCells_list w ⟨b, o, none⟩ vs fun j v hv => by rw [add_none]; exact h j v hv

theorem load_sound (R : RelH X hp φ w) {t : TypeId} {a x : AV} {v : Value} (h : RepA X hp φ w a v) (hl : loadA P hp t a = some x) :
    ∃ y, (Instr.loadAt t v).run P w = .ok y w ∧ RepA X hp φ w x y := by
  unfold loadA at hl
  split at hl
  · rename_i hagg
    simp only [Option.bind_eq_some_iff, Option.map_eq_some_iff] at hl
    obtain ⟨n, hn, cs, hcs, rfl⟩ := hl
    obtain ⟨b, o, vs, rfl, hlen, hrl, hlies⟩ := read_row R h hcs
    have hn' : n = vs.length := by rw [← hrl.1, hlen]
    subst hn'
    refine ⟨.agg vs.toArray, ?_, RepL.agg (by simpa using hrl)⟩
    simp [Instr.loadAt, Instr.sureAddr, loadVar, run_isAggA hagg, run_szA hn, run_loadCells_lies hlies]
  · rename_i hagg
    have key : ∀ {cs : List AV}, readAt hp a 1 = some cs → ∀ c, cs[0]? = some c → ∃ y, (Instr.loadAt t v).run P w = .ok y w ∧ RepA X hp φ w c y := by
      intro cs hcs c hc
      obtain ⟨b, o, vs, rfl, hlen, hrl, hlies⟩ := read_row R h hcs
      obtain ⟨y, hy, hr⟩ := hrl.2 0 c hc
      have := hlies 0 y hy
      refine ⟨y, ?_, hr⟩
      simp [Instr.loadAt, Instr.sureAddr, loadVar, run_isAggA hagg, show w.cell? ⟨b, o, none⟩ = some y from this]
    split at hl
    · rename_i id ver off
      simp only [Option.bind_eq_some_iff] at hl
      obtain ⟨row, hrow, hx⟩ := hl
      obtain ⟨hi, rfl⟩ := List.getElem?_eq_some_iff.1 hx
      refine key (cs := [row[off]]) ?_ _ rfl
      unfold readAt
      simp only [hrow, Option.bind_some]
      rw [if_pos (by omega)]
      congr 1
      apply List.ext_getElem? ; intro j
      cases j with
      | zero => simp [List.getElem?_take, hi]
      | succ j => simp [List.getElem?_take]
    · rename_i row off
      simp only [Option.map_eq_some_iff] at hl
      obtain ⟨p, hp', rfl⟩ := hl
      obtain ⟨hi, rfl⟩ := List.getElem?_eq_some_iff.1 hp'
      refine key (cs := [.pv row[off]]) ?_ _ rfl
      unfold readAt
      simp only
      rw [if_pos (by omega)]
      congr 1
      apply List.ext_getElem? ; intro j
      cases j with
      | zero => simp [List.getElem?_take, hi]
      | succ j => simp [List.getElem?_take]
    · simp at hl
  · simp at hl

/-! Stores. -/

theorem run_storeCells_gen (g o : Nat) (t : TypeId) (lo hi : Nat) : ∀ (vs : List Value) (i : Nat) (cur : Array Value) (w : World), w.heap[g]? = some (.cells cur t (lo, hi)) →
    (∀ j, j < cur.size → ¬ (lo ≤ j ∧ j < hi)) → o + i + vs.length ≤ cur.size → (∀ v ∈ vs, v.oneCell' = true) →
    (storeCells ⟨g, o, none⟩ vs i).run P w = .ok () (w.setRow g (cur.toList.take (o + i) ++ vs ++ cur.toList.drop (o + i + vs.length)).toArray)
  | [], i, cur, w, hg, _, _, _ => by
    simp only [storeCells, List.append_nil, List.length_nil, Nat.add_zero, List.take_append_drop, Array.toArray_toList]
    rw [setRow_self w g cur t (lo, hi) hg]
    rfl
  | v :: rest, i, cur, w, hg, hfz, hl, h1 => by
    have hlt : o + i < cur.size := by simp at hl; omega
    have hcell : w.cell? ⟨g, o + i, none⟩ = some cur[o + i] := by simp [World.cell?, hg, hlt]
    have hfro : w.frozen? ⟨g, o + i, none⟩ = false := by
      have := hfz (o + i) hlt
      simp only [World.frozen?, hg, Bool.and_eq_false_iff, decide_eq_false_iff_not]
      omega
    have hst : (store ((⟨g, o, none⟩ : Addr).add i) v).run P w = .ok () (w.setRow g (cur.setIfInBounds (o + i) v)) := by
      rw [add_none, run_store P w _ v _ (h1 v (by simp)), hcell]
      simp [hfro, setCell_eq_setRow w g (o + i) cur t (lo, hi) v hg]
    have ih := run_storeCells_gen g o t lo hi rest (i + 1) (cur.setIfInBounds (o + i) v) (w.setRow g (cur.setIfInBounds (o + i) v)) (setRow_heap w g cur _ t _ hg)
      (by simpa using hfz) (by simp at hl ⊢; omega) (fun x hx => h1 x (by simp [hx]))
    simp only [storeCells, Sem.run_bind, hst, Result.andThen_ok, ih, setRow_setRow]
    congr 3
    have e := list_seg_step cur.toList (o + i) v rest (by simp at hl ⊢; omega)
    simpa [Array.toList_setIfInBounds, Nat.add_assoc] using e

theorem setRow_other (w : World) (g b : Nat) (cs : Array Value) (h : b ≠ g) : (w.setRow g cs).heap[b]? = w.heap[b]? := by
  simp only [World.setRow, Array.getElem?_modify]
  rw [if_neg (fun e => h e.symm)]

theorem setRow_size (w : World) (g : Nat) (cs : Array Value) : (w.setRow g cs).heap.size = w.heap.size := by simp [World.setRow]

/-- A row of cells written into an own block. -/
theorem RelH.store (R : RelH X hp φ w) {id ver : Nat} {row : List AV} (hid : hp id = .cells ver row) {cs : List AV} {vs : List Value} (off : Nat) (hle : off + cs.length ≤ row.length)
    (hr : RepL X hp φ w cs vs) (hc : ∀ c ∈ cs, c.isCell = true) (h1 : ∀ v ∈ vs, v.oneCell' = true) :
    ∃ w', (storeCells ⟨(φ id).1, (φ id).2 + off, none⟩ vs).run P w = .ok () w' ∧
      Evo hp φ w (setHp hp id (.cells ver (splice row off cs))) φ w' ∧ RelH X (setHp hp id (.cells ver (splice row off cs))) φ w' := by
  obtain ⟨c, T, lo, hi, a1, a2, a3, a4, a5, a6⟩ := R.row hid
  have hrun := run_storeCells_gen (P := P) (φ id).1 ((φ id).2 + off) T lo hi vs 0 c w a1 a3.not (by rw [← hr.1]; omega) h1
  refine ⟨_, hrun, ?_⟩
  simp only [Nat.add_zero]
  have hsz : (c.toList.take ((φ id).2 + off) ++ vs ++ c.toList.drop ((φ id).2 + off + vs.length)).length = c.size := by
    simp [← hr.1]; omega
  refine R.upd id ver row (AI.splice row off cs) hid (c.toList.take ((φ id).2 + off) ++ vs ++ c.toList.drop ((φ id).2 + off + vs.length)).toArray
    (fun b hb => setRow_other _ _ _ _ hb) (setRow_size _ _ _) rfl rfl rfl (fun c0 T0 fr0 h0 => ?_) ?_ ?_
  · rw [a1] at h0; cases h0
    exact ⟨setRow_heap w _ c _ T _ a1, by simpa using hsz⟩
  · have hls : (AI.splice row off cs).length = row.length := by simp [AI.splice]; omega
    rw [hls]; simp only [List.size_toArray, hsz]; exact a2
  · intro i hi'
    have hls : (AI.splice row off cs).length = row.length := by simp [AI.splice]; omega
    have hi2 : i < row.length := by omega
    have hsp := a4.splice hr off
    obtain ⟨v, hv, hrep⟩ := hsp.2 i (AI.splice row off cs)[i] (by simp [hi'])
    refine ⟨v, ?_, hrep, ?_⟩
    · simp only [List.getElem?_toArray]
      rw [← hv]
      unfold AI.splice
      simp only [List.getElem?_append, List.length_append, List.length_take, Array.length_toList, List.length_drop, ← hr.1]
      have m1 : min ((φ id).2 + off) c.size = (φ id).2 + off := by omega
      have m2 : min off (min row.length (c.size - (φ id).2)) = off := by omega
      simp only [m1, m2, List.getElem?_take, List.getElem?_drop, Array.getElem?_toList]
      by_cases q1 : i < off
      · rw [if_pos (by omega), if_pos (by omega), if_pos (by omega), if_pos (by omega), if_pos q1, if_pos hi2, if_pos q1]
      · by_cases q2 : i < off + cs.length
        · rw [if_pos (by omega), if_neg (by omega), if_pos (by omega), if_neg (by omega)]
          congr 1; omega
        · rw [if_neg (by omega), if_neg (by omega), if_pos (by omega)]
          congr 1; omega
    · have : (AI.splice row off cs)[i] ∈ AI.splice row off cs := List.getElem_mem hi'
      unfold AI.splice at this
      simp only [List.mem_append] at this
      rcases this with (h | h) | h
      · exact a5 _ (List.mem_of_mem_take h)
      · exact hc _ h
      · exact a5 _ (List.mem_of_mem_drop h)

end Go.Proofs.Ytabpcmmkmbchnaa.AI
