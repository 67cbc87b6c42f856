/- Append, copy, conversions, the least and greatest: the plain operations against the machine's. -/
import Derived.Test.YtabpcmmkmbchnaaA7
set_option linter.unusedVariables false
set_option linter.unusedSectionVars false
set_option linter.unusedSimpArgs false
namespace Go.Proofs.Ytabpcmmkmbchnaa.AI
open Go
variable [Val]

variable {X : Nat → Prop} {hp : Hp} {φ : Emb} {w : World} {P : Program}

theorem cell_heap {w2 : World} (h : w2.heap = w.heap) (a : Addr) : w2.cell? a = w.cell? a := by simp [World.cell?, h]

theorem Lies.heap {w2 : World} (h : w2.heap = w.heap) {b o : Nat} {vs : List Value} (hl : Lies w b o vs) : Lies w2 b o vs :=
  fun j v hv => by rw [cell_heap h]; exact hl j v hv

theorem first_lies {size n : Nat} {b o len cap : Nat} {vs : List Value} (hl : Lies w b o vs) (hn : n * size ≤ vs.length) {w2 : World} (h : w2.heap = w.heap) :
    (Builtin.firstCells size n (.slice (some ⟨b, o, none⟩) len cap)).run P w2 = .ok (vs.take (n * size)).toArray w2 := by
  have h1 : Lies w2 b o (vs.take (n * size)) := by
    have := (hl.heap h).sub 0 (n * size)
    simpa using this
  have h2 := run_loadCells_lies (P := P) h1
  rw [show (vs.take (n * size)).length = n * size by simp; omega] at h2
  simpa [Builtin.firstCells] using h2

theorem map_byte (l : List UInt8) : RepL X hp φ w ((l.map UInt8.toNat).map byteA) (l.map fun b => .int .u8 b.toNat) :=
  ⟨by simp, fun i c hc => by
    simp only [List.getElem?_map, Option.map_eq_some_iff] at hc
    obtain ⟨n, ⟨b, hb, rfl⟩, rfl⟩ := hc
    exact ⟨.int .u8 b.toNat, by simp [hb], mk_int _ _⟩⟩

/-- What is read of a source. -/
theorem src_sound (R : RelH X hp φ w) {size : Nat} {x : AV} {v : Value} {m : Nat} {cs : List AV} (hx : RepA X hp φ w x v) (h : srcA hp size x = some (m, cs)) :
    ∃ vs : List Value, RepL X hp φ w cs vs ∧ vs.length = m * size ∧ (∀ w2 : World, w2.heap = w.heap → (Builtin.lenOf v).run P w2 = .ok m w2) ∧
      ∀ n, n ≤ m → ∀ w2 : World, w2.heap = w.heap → (Builtin.firstCells size n v).run P w2 = .ok (vs.take (n * size)).toArray w2 := by
  unfold srcA at h
  split at h
  · simp only [Option.some.injEq, Prod.mk.injEq] at h; obtain ⟨rfl, rfl⟩ := h
    have := repA_nilSlice hx; subst this
    refine ⟨[], .nil, by simp, fun _ _ => rfl, fun n hn w2 _ => ?_⟩
    simp [Builtin.firstCells]
  · simp only [Option.some.injEq, Prod.mk.injEq] at h; obtain ⟨rfl, rfl⟩ := h
    obtain ⟨a, rfl⟩ := repA_zcap hx
    refine ⟨[], .nil, by simp, fun _ _ => rfl, fun n hn w2 _ => ?_⟩
    obtain rfl : n = 0 := by omega
    simp [Builtin.firstCells, loadCells, loadCellsFrom]
  · rename_i esz n cs'
    split at h
    · rename_i he; subst he
      simp only [Option.some.injEq, Prod.mk.injEq] at h; obtain ⟨rfl, rfl⟩ := h
      have hx := repA_pv hx
      cases hx with
      | ros _ _ _ b off cap vals hl hc hO hv hr =>
        obtain ⟨r1, r2⟩ := ro_row hv hr
        refine ⟨_, r1, by simp [hl], fun _ _ => rfl, fun k hk w2 hw2 => first_lies r2 ?_ hw2⟩
        have := mul_le_of (s := esz) hk
        simp; omega
    · simp at h
  · rename_i s
    split at h
    · rename_i he; subst he
      simp only [Option.some.injEq, Prod.mk.injEq] at h; obtain ⟨rfl, rfl⟩ := h
      obtain ⟨B, rfl, rfl⟩ := repA_str hx
      have hsz : B.data.toList.length = B.size := by rw [Array.length_toList]; rfl
      refine ⟨B.data.toList.map fun b => .int .u8 b.toNat, map_byte _, by simp, fun w2 _ => by simp [Builtin.lenOf], fun n hn w2 _ => ?_⟩
      simp only [Builtin.firstCells, Sem.run_pure, Nat.mul_one]
      congr 1
      apply Array.ext'
      simp [ByteArray.data_extract, List.map_take]
    · simp at h
  · rename_i id ver off n mc esz xc
    split at h
    · rename_i he; subst he
      simp only [sliceCells, Option.map_eq_some_iff, Option.bind_eq_some_iff, Prod.mk.injEq] at h
      obtain ⟨cs', ⟨row, hrow, hcs⟩, rfl, rfl⟩ := h
      split at hcs
      · rename_i hle
        simp only [Option.some.injEq] at hcs; subst hcs
        have hid := look_some hrow
        obtain ⟨c, T, lo, hi, a1, a2, a3, a4, a5, a6⟩ := R.row hid
        cases hx with
        | slice _ _ _ _ _ _ _ a cap hver hln ha =>
          obtain ⟨g1, g2, g3⟩ := hln
          refine ⟨_, (a4.drop off).take (n * esz), ?_, fun _ _ => rfl, fun k hk w2 hw2 => ?_⟩
          · have := a4.1
            simp only [List.length_take, List.length_drop, Array.length_toList] at this ⊢
            omega
          · rcases ha (by rw [hid]; rfl) (by rw [hid]; rfl) with g4 | ⟨g4, g5⟩
            · obtain rfl : k = 0 := by omega
              simp [Builtin.firstCells, loadCells, loadCellsFrom]
            · subst g4
              refine first_lies (a6.sub off (n * esz)) ?_ hw2
              have e1 := mul_le_of (s := esz) hk
              have := a4.1
              simp only [List.length_take, List.length_drop, Array.length_toList] at this ⊢
              omega
      · simp at hcs
    · simp at h
  · simp at h

theorem srcA_length {size : Nat} {x : AV} {m : Nat} {cs : List AV} {v : Value} (R : RelH X hp φ w) (hx : RepA X hp φ w x v) (h : srcA hp size x = some (m, cs)) : cs.length = m * size := by
  obtain ⟨vs, r1, r2, _⟩ := src_sound (P := default) R hx h
  rw [r1.1, r2]

/-! Conversions. -/

theorem mapM_bytes : ∀ (cs : List AV) (vs : List Value) (s : List Nat), RepL X hp φ w cs vs → cs.mapM byteOfA = some s →
    ∃ ns : List Int, vs = ns.map (fun n => .int .u8 n) ∧ s = ns.map fun n => n.toNat % 256
  | [], vs, s, hr, h => by simp at h; subst h; exact ⟨[], by rw [hr.of_nil]; rfl, rfl⟩
  | c :: cs, vs, s, hr, h => by
    obtain ⟨v, vs', rfl, hv, hr'⟩ := hr.head
    simp only [List.mapM_cons, Option.bind_eq_bind, Option.bind_eq_some_iff, Option.pure_def, Option.some.injEq] at h
    obtain ⟨b, hb, s', hs', rfl⟩ := h
    obtain ⟨ns, rfl, rfl⟩ := mapM_bytes cs vs' s' hr' hs'
    unfold byteOfA at hb
    split at hb
    · rename_i n
      simp only [Option.some.injEq] at hb; subst hb
      exact ⟨n :: ns, by rw [repA_int hv]; rfl, rfl⟩
    · simp at hb

theorem fold_bytes (ns : List Int) (f : Value → ByteArray → Sem (ForInStep ByteArray)) (hf : ∀ n r, f (.int .u8 n) r = pure (ForInStep.yield (r.push (UInt8.ofNat n.toNat)))) :
    ∀ (acc : ByteArray), (forIn (m := Sem) (ns.map (fun n => Value.int .u8 n)).toArray acc f).run P w = .ok (ns.foldl (fun r n => r.push (UInt8.ofNat n.toNat)) acc) w := by
  intro acc
  rw [← Array.forIn_toList]
  simp only
  induction ns generalizing acc with
  | nil => simp
  | cons n ns ih =>
    simp only [List.map_cons, List.forIn_cons, Sem.run_bind, hf, Sem.run_pure, Result.andThen_ok, List.foldl_cons]
    exact ih _

theorem foldl_push_data (ns : List Int) (acc : ByteArray) : (ns.foldl (fun r n => r.push (UInt8.ofNat n.toNat)) acc).data.toList.map UInt8.toNat = acc.data.toList.map UInt8.toNat ++ ns.map fun n => n.toNat % 256 := by
  induction ns generalizing acc with
  | nil => simp
  | cons n ns ih =>
    rw [List.foldl_cons, ih]
    simp [ByteArray.push]

theorem bytesToString_sound (R : RelH X hp φ w) {x : AV} {v : Value} {m : Nat} {cs : List AV} {s : List Nat} (hx : RepA X hp φ w x v) (hc : srcA hp 1 x = some (m, cs)) (hne : ∀ s, x ≠ .pv (.str s)) (hs : cs.mapM byteOfA = some s) : ValOk P X hp φ w (Conv.bytesToString v) (.pv (.str s)) := by
  have key : ∀ {b o len : Nat} {vs : List Value} {cap : Nat}, vs.length = len → RepL X hp φ w cs vs → Lies w b o vs → v = .slice (some ⟨b, o, none⟩) len cap → ValOk P X hp φ w (Conv.bytesToString v) (.pv (.str s)) := by
    intro b o len vs cap hlen hr hl hv
    subst hv; subst hlen
    obtain ⟨ns, rfl, rfl⟩ := mapM_bytes cs vs s hr hs
    refine ⟨.string (ns.foldl (fun r n => r.push (UInt8.ofNat n.toNat)) .empty), ?_, mk_str _ (by rw [foldl_push_data]; simp)⟩
    have := run_loadCells_lies (P := P) hl
    simp only [Conv.bytesToString, Sem.run_bind, this, Result.andThen_ok]
    rw [fold_bytes ns _ (fun _ _ => rfl) .empty]
    rfl
  unfold srcA at hc
  split at hc
  · simp only [Option.some.injEq, Prod.mk.injEq] at hc; obtain ⟨rfl, rfl⟩ := hc
    simp at hs; subst hs
    have := repA_nilSlice hx; subst this
    exact ⟨.string .empty, rfl, mk_str _ rfl⟩
  · simp only [Option.some.injEq, Prod.mk.injEq] at hc; obtain ⟨rfl, rfl⟩ := hc
    simp at hs; subst hs
    obtain ⟨a, rfl⟩ := repA_zcap hx
    exact ⟨.string .empty, by simp [Conv.bytesToString, loadCells, loadCellsFrom], mk_str _ rfl⟩
  · rename_i esz n l
    split at hc
    · rename_i he; subst he
      simp only [Option.some.injEq, Prod.mk.injEq] at hc; obtain ⟨rfl, rfl⟩ := hc
      have hx := repA_pv hx
      cases hx with
      | ros _ _ _ b off cap vals hl hcap hO hv hr =>
        obtain ⟨r1, r2⟩ := ro_row hv hr
        exact key (by simp [hl]) r1 r2 rfl
    · simp at hc
  · rename_i s; exact absurd rfl (hne s)
  · rename_i id ver off n mc esz xc
    split at hc
    · rename_i he; subst he
      simp only [sliceCells, Option.map_eq_some_iff, Option.bind_eq_some_iff, Prod.mk.injEq] at hc
      obtain ⟨cs', ⟨row, hrow, hc⟩, rfl, rfl⟩ := hc
      split at hc
      · rename_i hle
        simp only [Option.some.injEq] at hc; subst hc
        have hid := look_some hrow
        obtain ⟨c, T, lo, hi, a1, a2, a3, a4, a5, a6⟩ := R.row hid
        cases hx with
        | slice _ _ _ _ _ _ _ a cap hver hln ha =>
          obtain ⟨g1, g2, g3⟩ := hln
          rcases ha (by rw [hid]; rfl) (by rw [hid]; rfl) with g4 | ⟨g4, g5⟩
          · obtain rfl : n = 0 := by omega
            simp at hs; subst hs
            exact ⟨.string .empty, by simp [Conv.bytesToString, loadCells, loadCellsFrom], mk_str _ rfl⟩
          · refine key ?_ ((a4.drop off).take (n * 1)) (a6.sub off (n * 1)) (by rw [g4])
            have := a4.1
            simp only [List.length_take, List.length_drop, Array.length_toList] at this ⊢
            omega
      · simp at hc
    · simp at hc
  · simp at hc

theorem freeze_self (w : World) (n : Nat) (c : Array Value) (T : TypeId) : ({ w with heap := w.heap.push (.cells c T) } : World).freeze ⟨w.heap.size, n, none⟩ 1 = { w with heap := w.heap.push (.cells c T (n, n + 1)) } := by
  unfold World.freeze
  simp only [Nat.one_ne_zero, if_false]
  congr 1
  apply Array.ext_getElem?
  intro i
  simp only [Array.getElem?_modify, Array.getElem?_push]
  by_cases hi : i = w.heap.size
  · subst hi; simp
  · have : ¬ (w.heap.size = i) := fun h => hi h.symm
    simp [hi, this]

/-- A mark behind a row's end. -/
theorem mark_sound (R : RelH X hp φ w) {id ver : Nat} {row : List AV} (hid : hp id = .cells ver row) (o : Nat) :
    ∃ w', (markStringish ⟨(φ id).1, o, none⟩).run P w = .ok () w' ∧ RelH X hp φ w' ∧ Evo hp φ w hp φ w' := by
  obtain ⟨c, T, lo, hi, a1, a2, a3, a4⟩ := R.cells id ver row hid
  have hsh : w.shape? (φ id).1 = some (T, c.size) := by simp [World.shape?, a1]
  refine ⟨w.freeze ⟨(φ id).1, c.size, none⟩ 1, by simp [markStringish, hsh], ?_⟩
  have hsz : (w.freeze ⟨(φ id).1, c.size, none⟩ 1).heap.size = w.heap.size := by simp [World.freeze]
  have hother : ∀ b : Nat, b ≠ (φ id).1 → (w.freeze ⟨(φ id).1, c.size, none⟩ 1).heap[b]? = w.heap[b]? := by
    intro b hb
    simp only [World.freeze, Nat.one_ne_zero, if_false, Array.getElem?_modify]
    rw [if_neg (fun h => hb h.symm)]
  obtain ⟨lo', hi', hhere, hq⟩ : ∃ lo' hi', (w.freeze ⟨(φ id).1, c.size, none⟩ 1).heap[(φ id).1]? = some (.cells c T (lo', hi')) ∧ Quiet c.size lo' hi' := by
    simp only [World.freeze, Nat.one_ne_zero, if_false, Array.getElem?_modify, if_true, a1, Option.map_some]
    by_cases h : lo = hi
    · subst h
      exact ⟨c.size, c.size + 1, by simp, .inr (Nat.le_refl _)⟩
    · have hle : c.size ≤ lo := by rcases a3 with h' | h'; exact absurd h' h; exact h'
      exact ⟨min lo c.size, max hi (c.size + 1), by simp [h], .inr (by omega)⟩
  have e : Evo hp φ w hp φ (w.freeze ⟨(φ id).1, c.size, none⟩ 1) :=
    ⟨{ os := rfl, tape := rfl, output := rfl, size := by rw [hsz]; exact Nat.le_refl _
       keep := fun b hb hO => hother b (fun h => hO ⟨id, by rw [hid]; rfl, h.symm⟩)
       shape := fun b c0 T0 fr h => by
         by_cases hb : b = (φ id).1
         · subst hb
           rw [a1] at h; cases h
           exact ⟨c, _, hhere, rfl⟩
         · exact ⟨c0, fr, by rw [hother b hb]; exact h, rfl⟩ }, fun _ => Nat.le_refl _, fun _ h _ => ⟨h, rfl⟩, fun _ h => .inl h⟩
  refine ⟨{ far := fun b hb => by rw [hsz]; exact R.far b hb, inj := R.inj, cells := fun j v cs hj => ?_ }, e⟩
  by_cases hb : (φ j).1 = (φ id).1
  · obtain rfl : j = id := R.inj j id (by rw [hj]; rfl) (by rw [hid]; rfl) hb
    rw [hid] at hj; cases hj
    refine ⟨c, T, lo', hi', hhere, a2, hq, fun i hi => ?_⟩
    obtain ⟨v, hv, hr, hc⟩ := a4 i hi
    exact ⟨v, hv, hr.evo e, hc⟩
  · obtain ⟨c1, T1, lo1, hi1, b1, b2, b3, b4⟩ := R.cells j v cs hj
    refine ⟨c1, T1, lo1, hi1, by rw [hother _ hb]; exact b1, b2, b3, fun i hi => ?_⟩
    obtain ⟨v, hv, hr, hc⟩ := b4 i hi
    exact ⟨v, hv, hr.evo e, hc⟩

theorem convert_sound (R : RelH X hp φ w) {nb : Nat} {src dst : TypeId} {x : AV} {v : Value} {e : Eff} (hg : (∃ v b, e = .new v b) → hp nb = .gone 0) (hx : RepA X hp φ w x v) (h : convertA P hp nb src dst x = some e) :
    EffOk P X hp φ w nb (convert src dst v) e := by
  unfold convertA convertB at h
  split at h
  · rename_i ds k j n hs hd
    simp only [Option.some.injEq] at h; subst h
    have := repA_int hx; subst this
    exact ValOk.eff R ⟨.int k (k.wrap n), by simp [convert, run_und hs, run_und hd, Conv.intToInt], mk_int _ _⟩
  · rename_i ds s hs hd
    simp only [Option.some.injEq] at h; subst h
    obtain ⟨B, rfl, hB⟩ := repA_str hx
    refine ValOk.eff R ⟨.string B, ?_, mk_str _ hB⟩
    simp [convert, run_und hs, run_und hd]
  · rename_i ds el s hs hd
    split at h
    · rename_i he
      simp only [Option.some.injEq] at h; subst h
      obtain ⟨B, rfl, rfl⟩ := repA_str hx
      have hsz : (B.data.toList.map UInt8.toNat).length = B.size := by rw [List.length_map, Array.length_toList]; rfl
      obtain ⟨cap, hcap, hle⟩ : ∃ cap, (Question.appendCap B.size 0 el).cut (w.tape w.drawn (.appendCap B.size 0 el)) = cap ∧ B.size ≤ cap := ⟨_, rfl, by simp [Question.cut]⟩
      let cells : Array Value := (B.data.map fun b => .int .u8 b.toNat) ++ Array.replicate (cap - B.size) (.int .u8 0)
      have hcs : cells.size = cap := by
        have : B.data.size = B.size := rfl
        simp only [cells, Array.size_append, Array.size_map, Array.size_replicate, this]; omega
      let w1 : World := { w with drawn := w.drawn + 1 }
      have R1 : RelH X hp φ w1 := R.evo ⟨⟨rfl, rfl, rfl, Nat.le_refl _, fun _ _ _ => rfl, fun _ c _ fr h => ⟨c, fr, h, rfl⟩⟩, fun _ => Nat.le_refl _, fun _ h _ => ⟨h, rfl⟩, fun _ h => .inl h⟩ (fun _ _ => rfl)
      have e1 : Evo hp φ w hp φ w1 := ⟨⟨rfl, rfl, rfl, Nat.le_refl _, fun _ _ _ => rfl, fun _ c _ fr h => ⟨c, fr, h, rfl⟩⟩, fun _ => Nat.le_refl _, fun _ h _ => ⟨h, rfl⟩, fun _ h => .inl h⟩
      have hl : RepL X hp φ w1 ((B.data.toList.map UInt8.toNat).map byteA) (B.data.toList.map fun b => .int .u8 b.toNat) := map_byte _
      obtain ⟨e2, R2⟩ := R1.new (w' := { w1 with heap := w1.heap.push (.cells cells el (cells.size, cells.size + 1)) }) nb (hg ⟨_, _, rfl⟩) ((B.data.toList.map UInt8.toNat).map byteA) cells el cells.size (cells.size + 1) rfl rfl rfl rfl
        (by rw [List.length_map, hsz, hcs]; exact hle) (.inr (Nat.le_refl _)) (fun i hi => by
          obtain ⟨v, hv, hr⟩ := hl.2 i _ (List.getElem?_eq_getElem hi)
          refine ⟨v, ?_, hr, ?_⟩
          · have hi2 : i < B.data.size := by simpa using hi
            have : cells[i]? = (B.data.map fun b => Value.int .u8 b.toNat)[i]? := by
              simp only [cells, Array.getElem?_append, Array.size_map]; rw [if_pos hi2]
            rw [this, ← hv]; simp
          · have hm : ((B.data.toList.map UInt8.toNat).map byteA)[i] ∈ (B.data.toList.map UInt8.toNat).map byteA := List.getElem_mem hi
            simp only [List.mem_map] at hm
            obtain ⟨_, _, hm⟩ := hm
            rw [← hm]; rfl)
      refine ⟨.slice (some ⟨w.heap.size, 0, none⟩) B.size cap, _, _, ?_, ?_, R2, e1.trans e2⟩
      · have hshape : ({ w1 with heap := w1.heap.push (.cells cells el) } : World).shape? w.heap.size = some (el, cells.size) := by
          simp [World.shape?, w1]
        have hfz := freeze_self w1 cells.size cells el
        simp only [convert, Sem.run_bind, run_und hs, run_und hd, Result.andThen_ok, run_und he, Conv.stringToBytes, run_choose, Question.forced, Bool.false_eq_true, if_false, hcap, newRow, run_newObj, Sem.run_pure, markStringish, run_shape]
        have hh : (B.data.map fun b => (Value.int .u8 b.toNat)) ++ Array.replicate (cap - B.size) (.int .u8 0) = cells := rfl
        simp only [hh]
        erw [hshape]
        simp only [run_freeze, Result.andThen_ok]
        congr 1
      · rw [show (B.data.toList.map UInt8.toNat).length = B.size from hsz]
        refine repA_newslice _ _ _ _ _ _ _ _ _ _ _ (by simp [w1]) (Nat.le_refl _) hle (by simp) (fun _ => ⟨cells, el, (cells.size, cells.size + 1), by simp [w1], by omega⟩)
    · simp at h
  · rename_i el id ver off len mc esz xc hs hd
    split at h
    · rename_i hcond
      simp only [Bool.and_eq_true, decide_eq_true_eq] at hcond
      obtain ⟨hsd, hlen0⟩ := hcond
      split at h
      · rename_i he
        simp only [Option.map_eq_some_iff] at h
        obtain ⟨⟨m, cs⟩, hsrc, rfl⟩ := h
        have hrow : ∃ row, hp id = .cells ver row := by
          simp only [srcA] at hsrc
          split at hsrc
          · simp only [sliceCells, Option.map_eq_some_iff, Option.bind_eq_some_iff] at hsrc
            obtain ⟨_, ⟨row, hrow, _⟩, _⟩ := hsrc
            exact ⟨row, look_some hrow⟩
          · simp at hsrc
        obtain ⟨row, hid⟩ := hrow
        have hx0 := hx
        cases hx with
        | slice _ _ _ _ _ _ _ a cap hver hln ha =>
          obtain ⟨g1, g2, g3⟩ := hln
          obtain ⟨rfl, _⟩ := (ha (by rw [hid]; rfl) (by rw [hid]; rfl)).resolve_left (by omega)
          obtain ⟨w', hrun, R', e'⟩ := mark_sound (P := P) R hid ((φ id).2 + off)
          refine ⟨_, w', φ, ?_, hx0.evo e', R', e'⟩
          simp only [convert, Sem.run_bind, run_und hs, run_und hd, Result.andThen_ok, run_und he, hsd, hrun, Sem.run_pure]
      · simp at h
    · simp at h
  · rename_i ds el hs hd hne
    split at h
    · rename_i he
      simp only [Option.bind_eq_some_iff, Option.map_eq_some_iff] at h
      obtain ⟨⟨m, cs⟩, hc, h⟩ := h
      obtain ⟨s, hs', rfl⟩ := h
      obtain ⟨y, hy, hr⟩ := bytesToString_sound (P := P) R hx hc (fun s hxs => by subst hxs; simp at hne) hs'
      refine ValOk.eff R ⟨y, ?_, hr⟩
      have hv : ∀ B, v ≠ .string B := by
        intro B hB; subst hB
        cases hx with
        | pv p _ hx => cases hx <;> first | (simp at hne; done) | simp [srcA] at hc
        | dead => simp [srcA] at hc
      have hv2 : ∀ k n, v ≠ .int k n := by
        intro k n hB; subst hB
        cases hx with
        | pv p _ hx => cases hx <;> simp [srcA] at hc
        | dead => simp [srcA] at hc
      simp only [convert, Sem.run_bind, run_und hs, run_und hd, Result.andThen_ok, run_und he, hy]
    · simp at h
  · simp at h

end Go.Proofs.Ytabpcmmkmbchnaa.AI
