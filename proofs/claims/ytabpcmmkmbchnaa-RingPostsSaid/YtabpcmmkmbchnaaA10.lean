/- Append, copy, the least and greatest against the machine's; all operations that enter no function. -/
import Derived.Test.YtabpcmmkmbchnaaA9
set_option linter.unusedVariables false
set_option linter.unusedSectionVars false
set_option linter.unusedSimpArgs false
namespace Go.Proofs.Ytabpcmmkmbchnaa.AI
open Go
variable [Val]

variable {X : Nat → Prop} {hp : Hp} {φ : Emb} {w : World} {P : Program}

/-- A block that goes on elsewhere, or further on in its row, with a new version. -/
theorem RelH.move (R : RelH X hp φ w) {id ver : Nat} {row : List AV} (hid : hp id = .cells ver row) (cs : List AV) (b base : Nat) {w' : World}
    (hos : w'.os = w.os) (htape : w'.tape = w.tape) (hout : w'.output = w.output) (hsize : w.heap.size ≤ w'.heap.size)
    (hb : b = (φ id).1 ∨ w.heap.size ≤ b)
    (hkeep : ∀ k : Nat, k < w.heap.size → k ≠ (φ id).1 → w'.heap[k]? = w.heap[k]?)
    (hshape : ∀ (c : Array Value) (T : TypeId) (fr : Nat × Nat), w.heap[(φ id).1]? = some (.cells c T fr) → ∃ c' : Array Value, w'.heap[(φ id).1]? = some (.cells c' T fr) ∧ c'.size = c.size)
    (hrow : ∃ (c : Array Value) (T : TypeId) (lo hi : Nat), w'.heap[b]? = some (.cells c T (lo, hi)) ∧ base + cs.length ≤ c.size ∧ Quiet c.size lo hi ∧
      ∀ i (h : i < cs.length), ∃ v, c[base + i]? = some v ∧ RepA X hp φ w cs[i] v ∧ cs[i].isCell = true) :
    Evo hp φ w (setHp hp id (.cells (ver + 1) cs)) (fun j => if j = id then (b, base) else φ j) w' ∧
    RelH X (setHp hp id (.cells (ver + 1) cs)) (fun j => if j = id then (b, base) else φ j) w' := by
  have hlive : (hp id).live = true := by rw [hid]; rfl
  have hblt : (φ id).1 < w.heap.size := Own.lt R ⟨id, hlive, rfl⟩
  have e : Evo hp φ w (setHp hp id (.cells (ver + 1) cs)) (fun j => if j = id then (b, base) else φ j) w' :=
    { ext := { os := hos, tape := htape, output := hout, size := hsize
               keep := fun k hk hO => hkeep k hk (fun h => hO ⟨id, hlive, h.symm⟩)
               shape := fun k c T fr hc => by
                 by_cases hk : k = (φ id).1
                 · subst hk; obtain ⟨c', h1, h2⟩ := hshape c T fr hc; exact ⟨c', fr, h1, h2⟩
                 · exact ⟨c, fr, by rw [hkeep k (Array.getElem?_eq_some_iff.1 hc).1 hk]; exact hc, rfl⟩ }
      mono := fun j => by
        by_cases h : j = id
        · subst h; simp [setHp, hid, Blk.ver]
        · simp [setHp, h]
      same := fun j hl hv => by
        by_cases h : j = id
        · subst h; simp [setHp, hid, Blk.ver] at hv
        · simp only [setHp, h, if_false] at hl ⊢; exact ⟨hl, trivial⟩
      own := fun k ⟨j, hl, hk⟩ => by
        by_cases h : j = id
        · subst h
          simp at hk
          rcases hb with hb | hb
          · left; exact ⟨j, hlive, by omega⟩
          · right; omega
        · left; simp only [setHp, h, if_false] at hl hk; exact ⟨j, hl, hk⟩ }
  refine ⟨e, R.put id (ver + 1) cs b base e (fun j hj hl => ?_) hrow⟩
  have hne : (φ j).1 ≠ (φ id).1 := fun h => hj (R.inj j id hl hlive h)
  have hjlt := Own.lt R ⟨j, hl, rfl⟩
  refine ⟨?_, hkeep _ hjlt hne⟩
  rcases hb with hb | hb
  · rw [hb]; exact hne
  · omega

/-- A new row at the heap's end, longer than what is known of it. -/
theorem RelH.newRow (R : RelH X hp φ w) {nb : Nat} (hg : hp nb = .gone 0) {cs : List AV} {vs : List Value} (hl : RepL X hp φ w cs vs) (hc : ∀ c ∈ cs, c.isCell = true) (rest : Array Value) (T : TypeId) {w' : World}
    (hw : w'.heap = w.heap.push (.cells (vs.toArray ++ rest) T)) (hos : w'.os = w.os) (htape : w'.tape = w.tape) (hout : w'.output = w.output) :
    Evo hp φ w (setHp hp nb (.cells 1 cs)) (fun j => if j = nb then (w.heap.size, 0) else φ j) w' ∧
    RelH X (setHp hp nb (.cells 1 cs)) (fun j => if j = nb then (w.heap.size, 0) else φ j) w' :=
  R.new nb hg cs (vs.toArray ++ rest) T 0 0 hw hos htape hout (by have := hl.1; simp; omega) (.inl rfl) (fun i hi => by
    obtain ⟨v, hv, hr⟩ := hl.2 i cs[i] (by simp [hi])
    have hi' : i < vs.length := by have := hl.1; omega
    refine ⟨v, ?_, hr, hc _ (List.getElem_mem hi)⟩
    rw [Array.getElem?_append, if_pos (by simpa using hi')]
    simpa using hv)

theorem push_at (h : Array Obj) (o : Obj) : (h.push o)[h.size]? = some o := by simp

theorem zc_size (z : Array Value) (n : Nat) : (Builtin.zeroCells z n).size = n * z.size := by simp [Builtin.zeroCells]

theorem append_sound (R : RelH X hp φ w) {nb : Nat} {ts : Array TypeId} {ty : TypeId} {s x : AV} {sv xv : Value} {e : Eff} (hg : (∃ v b, e = .new v b) → hp nb = .gone 0) (hs : RepA X hp φ w s sv) (hx : RepA X hp φ w x xv)
    (h : appendA P hp nb ts s x = some e) : EffOk P X hp φ w nb (Builtin.append_ ts ty #[sv, xv]) e := by
  unfold appendA at h
  split at h
  · rename_i st xt h0 h1
    split at h
    · rename_i elem hu
      split at h
      · rename_i info hi
        simp only [Option.bind_eq_some_iff] at h
        obtain ⟨⟨n, news⟩, hsrc, h⟩ := h
        obtain ⟨vs, hvs, hS⟩ := source_sound R hi h1 hx hsrc
        have hnl : news.length = n * info.size := by rw [hvs.1, hS.len]
        simp only at h
        split at h
        · simp at h
        · rename_i hcond
          simp only [not_or] at hcond
          obtain ⟨q1, q2, q3⟩ := hcond
          simp only [ne_eq, Decidable.not_not] at q2
          obtain ⟨zv, hzv, hzs⟩ : ∃ zv, info.zero = some zv ∧ zv.cells.size = info.size := by
            cases hz : info.zero with
            | none => simp [hz] at q2
            | some zv => simp [hz] at q2; exact ⟨zv, rfl, q2⟩
          have hcell : ∀ c ∈ news, c.isCell = true := List.all_eq_true.1 (by simpa using q3)
          have hone : ∀ v ∈ vs, v.oneCell' = true := by
            intro v hv
            obtain ⟨i, hi', rfl⟩ := List.getElem_of_mem hv
            have hi2 : i < news.length := by rw [hvs.1]; exact hi'
            have hc := hcell _ (List.getElem_mem hi2)
            obtain ⟨u, hu', hr⟩ := hvs.2 i news[i] (by simp [hi2])
            have : vs[i] = u := (List.getElem?_eq_some_iff.1 hu').2
            rw [this]
            have k := (repA_cells (a := .agg [news[i]]) (v := .agg #[u]) (RepL.agg (.cons hr .nil)) (by simpa [AV.cells] using hc)).2
            exact k u (by simp [Value.cells])
          -- the fresh row
          have fresh : hp nb = .gone 0 → ∀ {base : Option Addr} {sLen sCap : Nat} {old : List AV} {oldV : List Value}, sv = .slice base sLen sCap → sCap < sLen + n → (2 * (sLen + n) + 768) * info.bytes ≤ 281474976710656 → sLen + n ≤ 1099511627776 →
              RepL X hp φ w old oldV → (∀ c ∈ old, c.isCell = true) → old.length = sLen * info.size →
              (∀ w2 : World, w2.heap = w.heap → (Builtin.firstCells info.size sLen (.slice base sLen sCap)).run P w2 = .ok oldV.toArray w2) →
              EffOk P X hp φ w nb (Builtin.append_ ts ty #[sv, xv]) (newCells nb (old ++ news) (.slice nb 1 0 (sLen + n) (sLen + n) info.size false)) := by
            intro hg base sLen sCap old oldV hsv hlt hb h40 hold holdc holdl hfirst
            subst hsv
            obtain ⟨cap, hcap, hrun⟩ := (append_run (ty := ty) h0 hu hi hS base sLen sCap).2 hlt hb h40 oldV.toArray zv hfirst hzv
            obtain ⟨ev, R'⟩ := R.newRow (w' := { w with heap := w.heap.push (.cells (oldV.toArray ++ vs.toArray ++ Builtin.zeroCells zv.cells (cap - (sLen + n))) elem), drawn := w.drawn + 1 }) hg (hold.append hvs)
              (fun c hc => (List.mem_append.1 hc).elim (holdc c) (hcell c)) (Builtin.zeroCells zv.cells (cap - (sLen + n))) elem (by simp) rfl rfl rfl
            refine ⟨_, _, _, hrun, ?_, R', ev⟩
            refine repA_newslice _ _ _ _ _ _ _ _ _ _ _ (by simp) (Nat.le_refl _) hcap (by simp) (fun _ => ⟨_, elem, (0, 0), push_at _ _, ?_⟩)
            have : oldV.length = sLen * info.size := by rw [← hold.1, holdl]
            simp only [Array.size_append, List.size_toArray, zc_size, hzs, this, hS.len]
            have e1 : sLen * info.size + n * info.size + (cap - (sLen + n)) * info.size = cap * info.size := by
              rw [← Nat.add_mul, ← Nat.add_mul]; congr 1; omega
            omega
          have still : ∀ {base : Option Addr} {sLen sCap : Nat}, sv = .slice base sLen sCap → n = 0 → sLen ≤ sCap → EffOk P X hp φ w nb (Builtin.append_ ts ty #[sv, xv]) (.val s) := by
            intro base sLen sCap hsv hn hle
            subst hsv; subst hn
            have hrun := (append_run (ty := ty) h0 hu hi hS base sLen sCap).1 (by omega)
            have hnil : vs = [] := by have := hS.len; simp at this; exact this
            subst hnil
            refine ValOk.eff R ⟨.slice base sLen sCap, ?_, hs⟩
            rw [hrun]
            cases base <;> simp [storeCells]
          split at h
          · -- nil
            have := repA_nilSlice hs; subst this
            split at h
            · rename_i hn
              simp only [Option.some.injEq] at h; subst h
              exact still rfl hn (Nat.le_refl _)
            · rename_i hn
              split at h
              · rename_i hb
                simp only [Option.some.injEq] at h; subst h
                have := fresh (hg ⟨_, _, rfl⟩) (old := []) (oldV := []) rfl (by omega) (by simpa using hb.1) (by omega) .nil (by simp) (by simp) (fun w2 _ => by simp [Builtin.firstCells])
                simpa using this
              · simp at h
          · -- an empty one
            obtain ⟨a, rfl⟩ := repA_zcap hs
            split at h
            · rename_i hn
              simp only [Option.some.injEq] at h; subst h
              exact still rfl hn (Nat.le_refl _)
            · rename_i hn
              split at h
              · rename_i hb
                simp only [Option.some.injEq] at h; subst h
                have := fresh (hg ⟨_, _, rfl⟩) (old := []) (oldV := []) rfl (by omega) (by simpa using hb.1) (by omega) .nil (by simp) (by simp) (fun w2 _ => by simp [Builtin.firstCells, loadCells, loadCellsFrom])
                simpa using this
              · simp at h
          · -- one that is only read
            rename_i esz m cs
            split at h
            · rename_i hn
              simp only [Option.some.injEq] at h; subst h
              have hs' := repA_pv hs
              cases hs' with
              | ros _ _ _ b off cap vals hl hc hO hv hr => exact still rfl hn hc
            · simp at h
          · -- an own one
            rename_i id ver off len mc esz xc
            split at h
            · simp at h
            · rename_i hes
              simp only [ne_eq, Decidable.not_not] at hes
              subst hes
              simp only [Option.bind_eq_some_iff] at h
              obtain ⟨row, hrow, h⟩ := h
              have hid := look_some hrow
              have hlive : (hp id).live = true := by rw [hid]; rfl
              have hver : (hp id).ver = ver := by rw [hid]; rfl
              cases hs with
              | slice _ _ _ _ _ _ _ a cap hvle hln ha =>
                obtain ⟨g1, g2, g3⟩ := hln
                split at h
                · rename_i hn
                  simp only [Option.some.injEq] at h; subst h
                  exact still rfl hn (by omega)
                · rename_i hn
                  split at h
                  · rename_i hroom
                    split at h
                    · rename_i hfit
                      simp only [Option.some.injEq] at h; subst h
                      rcases ha hlive hver with h00 | ⟨had, hRoom⟩
                      · omega
                      · subst had
                        have hrun := (append_run (ty := ty) h0 hu hi hS (some ⟨(φ id).1, (φ id).2 + off, none⟩) len cap).1 (by omega)
                        have e1 : len * info.size + news.length ≤ mc * info.size := by
                          rw [hnl, ← Nat.add_mul]; exact mul_le_of hroom
                        obtain ⟨w', hw, ev, R'⟩ := R.store (P := P) hid (off + len * info.size) (by omega) hvs hcell hone
                        refine ⟨.slice (some ⟨(φ id).1, (φ id).2 + off, none⟩) (len + n) cap, w', φ, ?_, ?_, R', ev⟩
                        · rw [hrun]
                          simp only [add_none]
                          rw [show (φ id).2 + off + len * info.size = (φ id).2 + (off + len * info.size) by omega, hw]
                          rfl
                        · refine .slice _ _ _ _ _ _ _ _ _ (by simp [Eff.hp, setHp, Blk.ver]) ⟨hroom, g2, g3⟩ fun _ _ => .inr ⟨rfl, fun hxc => (hRoom hxc).ext ev.ext⟩
                    · simp at h
                  · rename_i hroom
                    split at h
                    · rename_i hb
                      split at h
                      · -- the room is known: a fresh row
                        rename_i hxc
                        split at h
                        · rename_i hle
                          simp only [Option.some.injEq] at h; subst h
                          have hcap := g3 hxc
                          obtain ⟨c, T, lo, hi', a1, a2, a3, a4, a5, a6⟩ := R.row hid
                          have hlen2 : ((row.drop off).take (len * info.size)).length = len * info.size := by simp; omega
                          refine fresh (hg ⟨_, _, rfl⟩) rfl (by omega) hb.1 hb.2 ((a4.drop off).take (len * info.size)) (fun c hc => a5 c (List.mem_of_mem_drop (List.mem_of_mem_take hc))) hlen2 (fun w2 hw2 => ?_)
                          rcases ha hlive hver with h00 | ⟨had, _⟩
                          · obtain rfl : len = 0 := by omega
                            simp [Builtin.firstCells, loadCells, loadCellsFrom]
                          · subst had
                            have hl3 : (((c.toList.drop (φ id).2).take row.length).drop off |>.take (len * info.size)).length = len * info.size := by
                              have := ((a4.drop off).take (len * info.size)).1
                              omega
                            have := first_lies (P := P) (size := info.size) (n := len) (len := len) (cap := cap) (a6.sub off (len * info.size)) (by omega) hw2
                            rw [List.take_of_length_le (by omega)] at this
                            exact this
                        · simp at h
                      · split at h
                        · -- the room is not known: in place, or elsewhere
                          rename_i hxc hend
                          simp only [Option.some.injEq] at h; subst h
                          have hxc' : xc = false := by simpa using hxc
                          obtain ⟨c, T, lo, hi', a1, a2, a3, a4, a5, a6⟩ := R.row hid
                          have hdl : (row.drop off).length = len * info.size := by simp; omega
                          have hold : RepL X hp φ w (row.drop off) (((c.toList.drop (φ id).2).take row.length).drop off) := a4.drop off
                          have hcells : ∀ x ∈ row.drop off ++ news, x.isCell = true := fun x hx => (List.mem_append.1 hx).elim (fun h => a5 x (List.mem_of_mem_drop h)) (hcell x)
                          by_cases hcap : len + n ≤ cap
                          · -- in place
                            rcases ha hlive hver with h00 | ⟨had, hRoom⟩
                            · omega
                            · subst had
                              obtain ⟨c2, T2, fr2, hc2, hsz2⟩ := hRoom hxc'
                              rw [a1] at hc2
                              simp only [Option.some.injEq, Obj.cells.injEq] at hc2
                              obtain ⟨rfl, rfl, rfl⟩ := hc2
                              have hrun := (append_run (ty := ty) h0 hu hi hS (some ⟨(φ id).1, (φ id).2 + off, none⟩) len cap).1 hcap
                              have e1 : len * info.size + vs.length ≤ cap * info.size := by
                                rw [hS.len, ← Nat.add_mul]; exact mul_le_of hcap
                              have hst := run_storeCells_gen (P := P) (φ id).1 ((φ id).2 + off + len * info.size) T lo hi' vs 0 c w a1 a3.not (by omega) hone
                              simp only [Nat.add_zero] at hst
                              have hsz : (c.toList.take ((φ id).2 + off + len * info.size) ++ vs ++ c.toList.drop ((φ id).2 + off + len * info.size + vs.length)).length = c.size := by
                                simp; omega
                              obtain ⟨ev, R'⟩ := R.move hid (row.drop off ++ news) (φ id).1 ((φ id).2 + off) (w' := w.setRow (φ id).1 (c.toList.take ((φ id).2 + off + len * info.size) ++ vs ++ c.toList.drop ((φ id).2 + off + len * info.size + vs.length)).toArray)
                                rfl rfl rfl (by rw [setRow_size]; exact Nat.le_refl _) (.inl rfl) (fun k _ hk => setRow_other _ _ _ _ hk)
                                (fun c0 T0 fr0 hc0 => by rw [a1] at hc0; cases hc0; exact ⟨_, setRow_heap w _ c _ T _ a1, by simpa using hsz⟩)
                                ⟨_, T, lo, hi', setRow_heap w _ c _ T _ a1, by
                                  simp only [List.size_toArray, hsz, List.length_append, hdl, hvs.1]; omega, by simp only [List.size_toArray, hsz]; exact a3, fun i hi2 => by
                                  obtain ⟨v, hv, hr⟩ := (hold.append hvs).2 i _ (List.getElem?_eq_getElem hi2)
                                  refine ⟨v, ?_, hr, hcells _ (List.getElem_mem hi2)⟩
                                  have hi3 : i < len * info.size + vs.length := by
                                    have := hi2; simp only [List.length_append, hdl, hvs.1] at this; exact this
                                  rw [← hv]
                                  simp only [List.getElem?_toArray]
                                  rw [List.getElem?_append_left (by simp; omega)]
                                  have ho : (((c.toList.drop (φ id).2).take row.length).drop off).length = len * info.size := by rw [← hold.1, hdl]
                                  by_cases hi4 : i < len * info.size
                                  · rw [List.getElem?_append_left (by simp; omega), List.getElem?_append_left (by omega), List.getElem?_take, if_pos (by omega), List.getElem?_drop, List.getElem?_take, if_pos (by omega), List.getElem?_drop]
                                    congr 1; omega
                                  · rw [List.getElem?_append_right (by simp; omega), List.getElem?_append_right (by omega), ho]
                                    congr 1; simp; omega⟩
                              refine ⟨.slice (some ⟨(φ id).1, (φ id).2 + off, none⟩) (len + n) cap, _, _, ?_, ?_, R', ev⟩
                              · rw [hrun]
                                simp only [add_none, hst]
                                rfl
                              · refine .slice _ _ _ _ _ _ _ _ _ (by simp [Eff.hp, setHp, Blk.ver]) ⟨Nat.le_refl _, hcap, by simp⟩ fun _ _ => .inr ⟨by simp, fun _ => ?_⟩
                                refine ⟨_, T, (lo, hi'), by simpa using setRow_heap w _ c _ T _ a1, ?_⟩
                                simp only [List.size_toArray, hsz]
                                simp; omega
                          · -- elsewhere
                            have hfirst : ∀ w2 : World, w2.heap = w.heap → (Builtin.firstCells info.size len (.slice (some a) len cap)).run P w2 = .ok (((c.toList.drop (φ id).2).take row.length).drop off).toArray w2 := by
                              intro w2 hw2
                              have ho : (((c.toList.drop (φ id).2).take row.length).drop off).length = len * info.size := by rw [← hold.1, hdl]
                              rcases ha hlive hver with h00 | ⟨had, _⟩
                              · obtain rfl : len = 0 := by omega
                                have : ((c.toList.drop (φ id).2).take row.length).drop off = [] := by
                                  apply List.eq_nil_of_length_eq_zero; simpa using ho
                                rw [this]
                                simp [Builtin.firstCells, loadCells, loadCellsFrom]
                              · subst had
                                have hs2 := a6.sub off (len * info.size)
                                rw [List.take_of_length_le (by omega)] at hs2
                                have := first_lies (P := P) (size := info.size) (n := len) (len := len) (cap := cap) hs2 (by omega) hw2
                                rw [List.take_of_length_le (by omega)] at this
                                exact this
                            obtain ⟨cap', hcap', hrun⟩ := (append_run (ty := ty) h0 hu hi hS (some a) len cap).2 (by omega) hb.1 hb.2 _ zv hfirst hzv
                            have hall := hold.append hvs
                            have hlt := Own.lt R ⟨id, hlive, rfl⟩
                            obtain ⟨ev, R'⟩ := R.move hid (row.drop off ++ news) w.heap.size 0 (w' := { w with heap := w.heap.push (.cells ((((c.toList.drop (φ id).2).take row.length).drop off).toArray ++ vs.toArray ++ Builtin.zeroCells zv.cells (cap' - (len + n))) elem), drawn := w.drawn + 1 })
                              rfl rfl rfl (by simp) (.inr (Nat.le_refl _)) (fun k hk _ => by simp only [Array.getElem?_push]; rw [if_neg (by omega)])
                              (fun c0 T0 fr0 hc0 => ⟨c0, by simp only [Array.getElem?_push]; rw [if_neg (by omega)]; exact hc0, rfl⟩)
                              ⟨_, elem, 0, 0, push_at _ _, by have := hall.1; simp only [List.length_append] at this; simp only [Array.size_append, List.size_toArray, List.length_append]; omega, .inl rfl, fun i hi2 => by
                                obtain ⟨v, hv, hr⟩ := hall.2 i _ (List.getElem?_eq_getElem hi2)
                                refine ⟨v, ?_, hr, hcells _ (List.getElem_mem hi2)⟩
                                have hi3 := hi2
                                rw [hall.1] at hi3
                                rw [Nat.zero_add, Array.getElem?_append, if_pos (by simpa using hi3)]
                                rw [← hv]; simp⟩
                            refine ⟨_, _, _, hrun, ?_, R', ev⟩
                            refine .slice _ _ _ _ _ _ _ _ _ (by simp [Eff.hp, setHp, Blk.ver]) ⟨Nat.le_refl _, hcap', by simp⟩ fun _ _ => .inr ⟨by simp, fun _ => ⟨_, elem, (0, 0), by rw [if_pos rfl]; exact push_at _ _, ?_⟩⟩
                            have ho : (((c.toList.drop (φ id).2).take row.length).drop off).length = len * info.size := by rw [← hold.1, hdl]
                            simp only [Array.size_append, List.size_toArray, zc_size, hzs, ho, hS.len]
                            have e1 : len * info.size + n * info.size + (cap' - (len + n)) * info.size = cap' * info.size := by
                              rw [← Nat.add_mul, ← Nat.add_mul]; congr 1; omega
                            simp; omega
                        · simp at h
                    · simp at h
          · simp at h
      · simp at h
    · simp at h
  · simp at h

end Go.Proofs.Ytabpcmmkmbchnaa.AI
