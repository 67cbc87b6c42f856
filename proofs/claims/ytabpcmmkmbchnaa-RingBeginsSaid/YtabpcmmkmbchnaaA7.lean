/- What makes or changes memory: the plain operations against the machine's. -/
import Derived.Test.YtabpcmmkmbchnaaA6
set_option linter.unusedVariables false
set_option linter.unusedSectionVars false
set_option linter.unusedSimpArgs false
namespace Go.Proofs.Ytabpcmmkmbchnaa.AI
open Go
variable [Val]

variable {X : Nat → Prop} {hp : Hp} {φ : Emb} {w : World} {P : Program}

/-! Building. -/

theorem fold_splice : ∀ (vs : List Value) (k off : Nat) (cs : Array Value), off + k + vs.length ≤ cs.size →
    ((vs.zipIdx k).foldl (fun cs (c, j) => cs.setIfInBounds (off + j) c) cs).toList = splice cs.toList (off + k) vs
  | [], k, off, cs, _ => by simp [splice]
  | v :: vs, k, off, cs, h => by
    simp only [List.zipIdx_cons, List.foldl_cons]
    rw [fold_splice vs (k + 1) off (cs.setIfInBounds (off + k) v) (by simp at h ⊢; omega)]
    have e := list_seg_step cs.toList (off + k) v vs (by simp at h ⊢; omega)
    simp only [splice, Array.toList_setIfInBounds, List.length_cons]
    rw [← Nat.add_assoc off k 1]
    rw [show off + k + 1 + vs.length = off + k + 1 + vs.length from rfl] at e
    exact e

theorem foldA_splice (vs : Array Value) (off : Nat) (cs : Array Value) (h : off + vs.size ≤ cs.size) :
    (vs.zipIdx.foldl (fun cs (c, j) => cs.setIfInBounds (off + j) c) cs).toList = splice cs.toList off vs.toList := by
  have := fold_splice vs.toList 0 off cs (by simpa using h)
  rw [← Array.foldl_toList, Array.toList_zipIdx]
  simpa using this

theorem fill_sound (placeA : Nat → Option (Nat × Nat)) : ∀ (parts : List (Nat × AV)) (partsV : List (Nat × Value)) (cells : List AV) (cellsV : Array Value) (r : List AV),
    parts.length = partsV.length → (∀ (j i : Nat) (a : AV), parts[j]? = some (i, a) → ∃ v, partsV[j]? = some (i, v) ∧ RepA X hp φ w a v) →
    RepL X hp φ w cells cellsV.toList → (∀ c ∈ cells, c.isCell = true) → fillA placeA cells parts = some r →
    ∃ rv, Instr.fill placeA cellsV partsV = some rv ∧ RepL X hp φ w r rv.toList ∧ (∀ c ∈ r, c.isCell = true) ∧ r.length = cells.length
  | [], partsV, cells, cellsV, r, hl, hp', hc, hcc, h => by
    cases partsV with
    | nil => simp [fillA] at h; subst h; exact ⟨cellsV, rfl, hc, hcc, rfl⟩
    | cons _ _ => simp at hl
  | (i, a) :: parts, partsV, cells, cellsV, r, hl, hp', hc, hcc, h => by
    cases partsV with
    | nil => simp at hl
    | cons pv partsV =>
      obtain ⟨v, hv, hr⟩ := hp' 0 i a (by simp)
      simp at hv; subst hv
      unfold fillA at h
      cases hpl : placeA i with
      | none => simp [hpl] at h
      | some os =>
        obtain ⟨off, size⟩ := os
        simp only [hpl] at h
        split at h
        · rename_i hcond
          obtain ⟨c1, c2, c3⟩ := hcond
          obtain ⟨k1, k2⟩ := repA_cells hr c3
          have hs : v.cells.size = a.cells.length := by have := k1.1; simpa using this.symm
          have hcs : cellsV.size = cells.length := by have := hc.1; simpa using this.symm
          have hle : off + v.cells.size ≤ cellsV.size := by omega
          have hsp := foldA_splice v.cells off cellsV hle
          obtain ⟨rv, e1, e2, e3, e4⟩ := fill_sound placeA parts partsV (AI.splice cells off a.cells)
            (v.cells.zipIdx.foldl (fun cs (c, j) => cs.setIfInBounds (off + j) c) cellsV) r (by simpa using hl)
            (fun j i' a' hj => by simpa using hp' (j + 1) i' a' (by simpa using hj))
            (by rw [hsp]; exact hc.splice k1 off)
            (fun c hc' => by
              unfold AI.splice at hc'
              simp only [List.mem_append] at hc'
              rcases hc' with (h' | h') | h'
              · exact hcc c (List.mem_of_mem_take h')
              · exact List.all_eq_true.1 c3 c h'
              · exact hcc c (List.mem_of_mem_drop h')) h
          refine ⟨rv, ?_, e2, e3, by rw [e4]; simp [AI.splice]; omega⟩
          simp only [Instr.fill, hpl]
          rw [if_neg (by simp; omega)]
          exact e1
        · simp at h

theorem mapM_opt {α β : Type} (f : α → Option β) (g : α → Sem β) (hfg : ∀ a b, f a = some b → (g a).run P w = .ok b w) : ∀ (l : List α) (r : List β), l.mapM f = some r → (l.mapM g).run P w = .ok r w
  | [], r, h => by simp at h; subst h; simp
  | a :: l, r, h => by
    simp only [List.mapM_cons, Option.bind_eq_bind, Option.bind_eq_some_iff, Option.pure_def, Option.some.injEq] at h
    obtain ⟨b, hb, l', hl', rfl⟩ := h
    have ih := mapM_opt f g hfg l l' hl'
    simp only [List.mapM_cons, Sem.run_bind, hfg a b hb, Result.andThen_ok, ih, Sem.run_pure]

theorem zero_cells {t : TypeId} {z : List AV} (h : zeroA P t = some z) : ∃ zv, (zeroValue t).run P w = .ok zv w ∧ z = zv.cells.toList.map ofCell ∧ RepL X hp φ w z zv.cells.toList := by
  obtain ⟨zv, h1, rfl⟩ := run_zeroA (w := w) h
  exact ⟨zv, h1, rfl, repL_ofCell _⟩

theorem build_sound {t : TypeId} {parts : List (Nat × AV)} {partsV : Array (Nat × Value)} {r : AV} (hl : parts.length = partsV.size)
    (hr : ∀ (j i : Nat) (a : AV), parts[j]? = some (i, a) → ∃ v, partsV.toList[j]? = some (i, v) ∧ RepA X hp φ w a v) (h : buildA P t parts = some r) : ValOk P X hp φ w (Instr.build t partsV) r := by
  unfold buildA at h
  simp only [Option.bind_eq_some_iff] at h
  obtain ⟨zero, hz, h⟩ := h
  obtain ⟨zv, hzr, hze, hzl⟩ := zero_cells (hp := hp) (φ := φ) (w := w) hz
  split at h
  · simp at h
  · rename_i hok
    simp only [Bool.not_eq_false] at hok
    have hok' : ∀ c ∈ zero, c.isCell = true := by
      have : okZero zero = true := by simpa using hok
      exact List.all_eq_true.1 this
    split at h
    · rename_i fields hu
      simp only [Option.bind_eq_some_iff, Option.map_eq_some_iff] at h
      obtain ⟨places, hpl, cells, hf, rfl⟩ := h
      obtain ⟨rv, e1, e2, e3, e4⟩ := fill_sound (places[·]?) parts partsV.toList zero zv.cells cells (by simpa using hl) hr hzl hok' hf
      have hm := mapM_opt (P := P) (w := w) (fun f : Field => (szA P f.type).map fun s => (f.offset, s)) (fun f => do pure (f.offset, ← sizeOf f.type)) (fun f b hb => by
        simp only [Option.map_eq_some_iff] at hb
        obtain ⟨s, hs, rfl⟩ := hb
        simp only [Sem.run_bind, run_szA hs, Result.andThen_ok, Sem.run_pure]) fields.toList places hpl
      refine ⟨.agg rv, ?_, e2.agg⟩
      have e1' : Instr.fill (places.toArray[·]?) zv.cells partsV.toList = some rv := by simpa using e1
      simp only [Instr.build, Sem.run_bind, hzr, Result.andThen_ok, run_und hu, Array.mapM_eq_mapM_toList, Sem.run_map, hm, e1', Sem.run_pure]
    · rename_i n elem hu
      simp only [Option.bind_eq_some_iff, Option.map_eq_some_iff] at h
      obtain ⟨size, hs, cells, hf, rfl⟩ := h
      obtain ⟨rv, e1, e2, e3, e4⟩ := fill_sound _ parts partsV.toList zero zv.cells cells (by simpa using hl) hr hzl hok' hf
      exact ⟨.agg rv, by simp only [Instr.build, Sem.run_bind, hzr, Result.andThen_ok, run_und hu, run_szA hs, e1, Sem.run_pure], e2.agg⟩
    · simp at h

/-! New blocks. -/

theorem new_sound (R : RelH X hp φ w) {nb : Nat} (hg : hp nb = .gone 0) {cs : List AV} {vs : Array Value} (T : TypeId) (hl : RepL X hp φ w cs vs.toList) (hc : ∀ c ∈ cs, c.isCell = true) :
    ∃ φ', (newRow T vs).run P w = .ok ⟨w.heap.size, 0, none⟩ { w with heap := w.heap.push (.cells vs T) } ∧
      φ' nb = (w.heap.size, 0) ∧
      RelH X (setHp hp nb (.cells 1 cs)) φ' { w with heap := w.heap.push (.cells vs T) } ∧ Evo hp φ w (setHp hp nb (.cells 1 cs)) φ' { w with heap := w.heap.push (.cells vs T) } := by
  obtain ⟨e, R'⟩ := R.new (w' := { w with heap := w.heap.push (.cells vs T) }) nb hg cs vs T 0 0 rfl rfl rfl rfl (by have := hl.1; simp at this; omega) (.inl rfl) (fun i hi => by
    obtain ⟨v, hv, hr⟩ := hl.2 i cs[i] (by simp [hi])
    exact ⟨v, by simpa using hv, hr, hc _ (List.getElem_mem hi)⟩)
  exact ⟨_, by simp [newRow], by simp, R', e⟩

theorem repA_newptr (hp : Hp) (φ : Emb) (w : World) (nb : Nat) (cs : List AV) (b : Nat) (h : φ nb = (b, 0)) : RepA X (setHp hp nb (.cells 1 cs)) φ w (.ptr nb 1 0) (.pointer (some ⟨b, 0, none⟩)) :=
  .ptr _ _ _ _ (by simp [setHp, Blk.ver]) fun _ _ => by simp [h]

theorem alloc_sound (R : RelH X hp φ w) {nb : Nat} (hg : hp nb = .gone 0) {t : TypeId} {z : List AV} (h : zeroA P t = some z) (hok : okZero z = true) :
    EffOk P X hp φ w nb (Instr.alloc t true (.tuple #[])) (newCells nb z (.ptr nb 1 0)) := by
  obtain ⟨zv, hzr, hze, hzl⟩ := zero_cells (hp := hp) (φ := φ) (w := w) h
  obtain ⟨φ', hn, hφ, R', e⟩ := new_sound (P := P) R hg t hzl (List.all_eq_true.1 hok)
  refine ⟨.pointer (some ⟨w.heap.size, 0, none⟩), _, φ', ?_, repA_newptr _ _ _ _ _ _ hφ, R', e⟩
  simp only [Instr.alloc, Sem.run_bind, hzr, Result.andThen_ok, newVar, hn, Sem.run_pure]

theorem box_sound (R : RelH X hp φ w) {nb : Nat} (hg : hp nb = .gone 0) {t : TypeId} {x : AV} {v : Value} (hx : RepA X hp φ w x v) (hc : x.cells.all AV.isCell = true) :
    EffOk P X hp φ w nb (Instr.box t v) (newCells nb x.cells (.ptr nb 1 0)) := by
  obtain ⟨k1, k2⟩ := repA_cells hx hc
  obtain ⟨φ', hn, hφ, R', e⟩ := new_sound (P := P) R hg t k1 (List.all_eq_true.1 hc)
  refine ⟨.pointer (some ⟨w.heap.size, 0, none⟩), _, φ', ?_, repA_newptr _ _ _ _ _ _ hφ, R', e⟩
  simp only [Instr.box, Sem.run_bind, newVar, hn, Result.andThen_ok, Sem.run_pure]

theorem repA_newslice (hp : Hp) (φ : Emb) (w : World) (nb : Nat) (cs : List AV) (b len cap mc esz : Nat) (xc : Bool) (h : φ nb = (b, 0)) (h1 : len ≤ mc) (h2 : mc ≤ cap) (h3 : xc = true → cap = mc)
    (hr : xc = false → Room w b (cap * esz)) : RepA X (setHp hp nb (.cells 1 cs)) φ w (.slice nb 1 0 len mc esz xc) (.slice (some ⟨b, 0, none⟩) len cap) :=
  .slice _ _ _ _ _ _ _ _ _ (by simp [setHp, Blk.ver]) ⟨h1, h2, h3⟩ fun _ _ => .inr ⟨by simp [h], fun hx => by simpa [h] using hr hx⟩

theorem zeros_rep {zero : List AV} {zv : Array Value} (hl : RepL X hp φ w zero zv.toList) (n : Nat) (h0 : n ≠ 0 → zero.length ≠ 0) :
    RepL X hp φ w (zerosA zero n) ((Array.range n).map (fun i => zv[i % zv.size]!)).toList := by
  have hs : zv.size = zero.length := by have := hl.1; simpa using this.symm
  refine ⟨by simp [zerosA], fun i c hc => ?_⟩
  simp only [zerosA, List.getElem?_map, Option.map_eq_some_iff] at hc
  obtain ⟨j, hj, rfl⟩ := hc
  obtain ⟨hi, hj⟩ := List.getElem?_eq_some_iff.1 hj
  simp at hi hj; subst hj
  have hpos : 0 < zero.length := Nat.pos_of_ne_zero (h0 (by omega))
  have hlt : i % zero.length < zero.length := Nat.mod_lt _ hpos
  obtain ⟨v, hv, hr⟩ := hl.2 (i % zero.length) zero[i % zero.length] (by simp [hlt])
  refine ⟨v, ?_, by simpa [List.getD, hlt] using hr⟩
  have hlt' : i % zv.size < zv.size := by rw [hs]; exact hlt
  have hv' : zv[i % zv.size]? = some v := by rw [hs]; simpa using hv
  have : zv[i % zv.size]! = v := by
    rw [getElem!_pos zv _ hlt']
    rw [Array.getElem?_eq_getElem hlt'] at hv'
    exact Option.some.inj hv'
  simp [hi, this]

theorem zeros_cell {zero : List AV} (h : okZero zero = true) (n : Nat) (h0 : n ≠ 0 → zero.length ≠ 0) : ∀ c ∈ zerosA zero n, c.isCell = true := by
  intro c hc
  simp only [zerosA, List.mem_map, List.mem_range] at hc
  obtain ⟨i, hi, rfl⟩ := hc
  have hlt : i % zero.length < zero.length := Nat.mod_lt _ (Nat.pos_of_ne_zero (h0 (by omega)))
  have := List.all_eq_true.1 h zero[i % zero.length] (List.getElem_mem hlt)
  simpa [List.getD, hlt] using this

theorem zeros_length (zero : List AV) (n : Nat) : (zerosA zero n).length = n := by simp [zerosA]

theorem buildSlice_sound (R : RelH X hp φ w) {nb : Nat} {t : TypeId} {len : Nat} {parts : List (Nat × AV)} {partsV : Array (Nat × Value)} {e : Eff} (hg : (∃ v b, e = .new v b) → hp nb = .gone 0) (hl : parts.length = partsV.size)
    (hr : ∀ (j i : Nat) (a : AV), parts[j]? = some (i, a) → ∃ v, partsV.toList[j]? = some (i, v) ∧ RepA X hp φ w a v) (h : buildSliceA P nb t len parts = some e) : EffOk P X hp φ w nb (Instr.buildSlice t len partsV) e := by
  unfold buildSliceA at h
  split at h
  · rename_i elem hu
    simp only [Option.bind_eq_some_iff] at h
    obtain ⟨size, hs, h⟩ := h
    split at h
    · rename_i hle
      simp only [Option.bind_eq_some_iff] at h
      obtain ⟨zero, hz, h⟩ := h
      have hzv : ∃ zv : Array Value, ((len * size = 0 ∧ zv = #[]) ∨ (len * size ≠ 0 ∧ ∃ z, (zeroValue elem).run P w = .ok z w ∧ zv = z.cells)) ∧ RepL X hp φ w zero zv.toList := by
        split at hz
        · rename_i h0
          simp only [Option.some.injEq] at hz; subst hz
          exact ⟨#[], .inl ⟨h0, rfl⟩, .nil⟩
        · rename_i h0
          obtain ⟨zv, hzr, hze, hzl⟩ := zero_cells (hp := hp) (φ := φ) (w := w) hz
          exact ⟨zv.cells, .inr ⟨h0, zv, hzr, rfl⟩, hzl⟩
      obtain ⟨zv, hzr, hzl⟩ := hzv
      split at h
      · rename_i hok
        obtain ⟨hok, h0⟩ := hok
        simp only [Option.map_eq_some_iff] at h
        obtain ⟨cs, hf, rfl⟩ := h
        obtain ⟨rv, e1, e2, e3, e4⟩ := fill_sound _ parts partsV.toList _ _ cs (by simpa using hl) hr (zeros_rep hzl (len * size) h0) (zeros_cell hok _ h0) hf
        obtain ⟨φ', hn, hφ, R', ev⟩ := new_sound (P := P) R (hg ⟨_, _, rfl⟩) elem e2 e3
        refine ⟨.slice (some ⟨w.heap.size, 0, none⟩) len len, _, φ', ?_, repA_newslice _ _ _ _ _ _ _ _ _ _ _ hφ (Nat.le_refl _) (Nat.le_refl _) (fun _ => rfl) (by simp), R', ev⟩
        have hbig : ¬ (len * size > 2 ^ 24) := by omega
        simp only [Instr.buildSlice, Sem.run_bind, run_und hu, Result.andThen_ok, run_szA hs, Sem.run_ite, if_neg hbig, Sem.run_pure]
        rcases hzr with ⟨q1, rfl⟩ | ⟨q1, z, q2, rfl⟩
        · rw [if_pos q1]; simp only [e1, hn, Result.andThen_ok, Sem.run_pure, Sem.run_bind]
        · rw [if_neg q1]; simp only [q2, e1, hn, Result.andThen_ok, Sem.run_pure, Sem.run_bind]
      · simp at h
    · simp at h
  · simp at h

theorem wrap_small {n : Int} (h0 : 0 ≤ n) (h1 : n ≤ 1099511627776) : IntKind.i64.wrap n = n := by
  show (if (true && decide (n % (18446744073709551616 : Int) ≥ (9223372036854775808 : Int))) = true then n % (18446744073709551616 : Int) - (18446744073709551616 : Int) else n % (18446744073709551616 : Int)) = n
  have h2 : n % (18446744073709551616 : Int) = n := Int.emod_eq_of_lt h0 (by omega)
  rw [h2, if_neg]
  simp only [Bool.true_and, decide_eq_true_eq]
  omega

theorem makeSlice_sound (R : RelH X hp φ w) {nb : Nat} {t : TypeId} {l c : AV} {lv cv : Value} {e : Eff} (hg : (∃ v b, e = .new v b) → hp nb = .gone 0) (hlr : RepA X hp φ w l lv) (hcr : RepA X hp φ w c cv)
    (h : makeSliceA P nb t l c = some e) : EffOk P X hp φ w nb (Instr.makeSlice t lv cv) e := by
  unfold makeSliceA at h
  split at h
  · rename_i elem hu
    split at h
    · rename_i info l c hi hl' hc'
      obtain ⟨kl, rfl⟩ := asInt_val hlr hl'
      obtain ⟨kc, rfl⟩ := asInt_val hcr hc'
      split at h
      · rename_i hb
        obtain ⟨b1, b2, b3, b4⟩ := hb
        simp only [Option.bind_eq_some_iff] at h
        obtain ⟨zero, hz, h⟩ := h
        have hzv : ∃ zv : Array Value, ((c.toNat * info.size = 0 ∧ zv = #[]) ∨ (c.toNat * info.size ≠ 0 ∧ ∃ z, (zeroValue elem).run P w = .ok z w ∧ zv = z.cells)) ∧ RepL X hp φ w zero zv.toList := by
          split at hz
          · rename_i h0
            simp only [Option.some.injEq] at hz; subst hz
            exact ⟨#[], .inl ⟨h0, rfl⟩, .nil⟩
          · rename_i h0
            obtain ⟨zv, hzr, hze, hzl⟩ := zero_cells (hp := hp) (φ := φ) (w := w) hz
            exact ⟨zv.cells, .inr ⟨h0, zv, hzr, rfl⟩, hzl⟩
        obtain ⟨zv, hzr, hzl⟩ := hzv
        split at h
        · rename_i hok
          obtain ⟨hok, h0⟩ := hok
          simp only [Option.some.injEq] at h; subst h
          obtain ⟨φ', hn, hφ, R', ev⟩ := new_sound (P := P) R (hg ⟨_, _, rfl⟩) elem (zeros_rep hzl (c.toNat * info.size) h0) (zeros_cell hok _ h0)
          refine ⟨.slice (some ⟨w.heap.size, 0, none⟩) l.toNat c.toNat, _, φ', ?_, repA_newslice _ _ _ _ _ _ _ _ _ _ _ hφ (by omega) (Nat.le_refl _) (fun _ => rfl) (by simp), R', ev⟩
          have wl : IntKind.i64.wrap l = l := wrap_small (by omega) (by omega)
          have wc : IntKind.i64.wrap c = c := wrap_small (by omega) (by omega)
          have hsz : (sizeOf elem).run P w = .ok info.size w := run_szA (by simp [szA, hi])
          have t1 : (decide (c < 0) || decide ((info.bytes : Int) * c > 2 ^ 48)) = false := by
            simp only [Bool.or_eq_false_iff, decide_eq_false_iff_not]; omega
          have t2 : decide (l < 0) = false := by simp; omega
          have t3 : decide (l > c) = false := by simp; omega
          simp only [Instr.makeSlice, Sem.run_bind, run_und hu, Result.andThen_ok, asInt, asIntOf, Sem.run_pure, run_info hi, wl, wc, t1, t2, t3, Bool.or_false, Bool.false_eq_true, if_false, run_askRoom, hsz, Sem.run_ite]
          rcases hzr with ⟨q1, rfl⟩ | ⟨q1, z, q2, rfl⟩
          · rw [if_pos q1]; simp only [hn, Result.andThen_ok, Sem.run_pure]
          · rw [if_neg q1]; simp only [q2, hn, Result.andThen_ok, Sem.run_pure]
        · simp at h
      · simp at h
    · simp at h
  · simp at h

theorem store_sound (R : RelH X hp φ w) {nb : Nat} {t : TypeId} {a x : AV} {av xv : Value} {e : Eff} (ha : RepA X hp φ w a av) (hx : RepA X hp φ w x xv) (h : storeA P hp t a x = some e) :
    ∃ w' φ', (Instr.storeAt t av xv).run P w = .ok () w' ∧ e.v = undefA ∧ RelH X (e.hp hp nb) φ' w' ∧ Evo hp φ w (e.hp hp nb) φ' w' := by
  unfold storeA at h
  split at h
  · rename_i id ver off
    simp only [Option.bind_eq_some_iff] at h
    obtain ⟨row, hrow, h⟩ := h
    split at h
    · rename_i hc
      simp only [Option.some.injEq] at h; subst h
      simp only [Bool.and_eq_true, beq_iff_eq, decide_eq_true_eq] at hc
      obtain ⟨⟨c1, c2⟩, c3⟩ := hc
      obtain ⟨k1, k2⟩ := repA_cells hx c1
      have hid := look_some hrow
      cases ha with
      | ptr _ _ _ ad hv had =>
        have := had (by rw [hid]; rfl) (by rw [hid]; rfl)
        subst this
        obtain ⟨w', hw, ev, R'⟩ := R.store (P := P) hid off c3 k1 (List.all_eq_true.1 c1) k2
        refine ⟨w', φ, ?_, rfl, R', ev⟩
        have hsz : xv.cells.size = x.cells.length := by have := k1.1; simpa using this.symm
        simp only [Instr.storeAt, Sem.run_bind, Instr.sureAddr, Sem.run_pure, Result.andThen_ok, storeVar, run_szA c2, hsz, ne_eq, not_true_eq_false, if_false, hw]
    · simp at h
  · simp at h

end Go.Proofs.Ytabpcmmkmbchnaa.AI
