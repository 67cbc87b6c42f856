/- How a plain value stands for a value of the machine, a plain heap for blocks of the world; how both go on. -/
import Derived.Test.YtabpcmmkmbchnaaA1
set_option linter.unusedVariables false
set_option linter.unusedSectionVars false
namespace Go.Proofs.Ytabpcmmkmbchnaa.AI
open Go

/-- What the values stand for that are known by a number alone. -/
class Val where
  V : Nat → Value
  one : ∀ i, (V i).oneCell' = true

variable [Val]

inductive RepP (O : Nat → Prop) (w : World) : PV → Value → Prop
  | bool (b : Bool) : RepP O w (.bool b) (.bool b)
  | int (k : IntKind) (n : Int) : RepP O w (.int k n) (.int k n)
  | str (s : List Nat) (B : ByteArray) (h : B.data.toList.map UInt8.toNat = s) : RepP O w (.str s) (.string B)
  | nilPtr : RepP O w .nilPtr (.pointer none)
  | nilSlice : RepP O w .nilSlice (.slice none 0 0)
  | nilMap : RepP O w .nilMap (.map none)
  | nilFunc : RepP O w .nilFunc .nilFunc
  | nilIface : RepP O w .nilIface .nilIface
  | zcap (a : Addr) : RepP O w .zcap (.slice (some a) 0 0)
  | ros (esz len : Nat) (cells : List PV) (b off cap : Nat) (vals : Nat → Value) (hl : cells.length = len * esz) (hc : len ≤ cap)
      (hO : 0 < cells.length → ¬ O b) (hv : ∀ i, i < cells.length → w.cell? ⟨b, off + i, none⟩ = some (vals i))
      (hr : ∀ i (hi : i < cells.length), RepP O w cells[i] (vals i)) : RepP O w (.ros esz len cells) (.slice (some ⟨b, off, none⟩) len cap)
  | rop (cells : List PV) (o b base : Nat) (vals : Nat → Value)
      (hO : 0 < cells.length → ¬ O b) (hv : ∀ i, i < cells.length → w.cell? ⟨b, base + i, none⟩ = some (vals i))
      (hr : ∀ i (hi : i < cells.length), RepP O w cells[i] (vals i)) : RepP O w (.rop cells o) (.pointer (some ⟨b, base + o, none⟩))
  | fn (f : Nat) : RepP O w (.fn f) (.func (.func f) #[] #[])
  | sym (i : Nat) (v : Value) (h : v = Val.V i) : RepP O w (.sym i) v

abbrev Emb := Nat → Nat × Nat

/-- The blocks of the world that are the plain heap's own. -/
def Own (hp : Hp) (φ : Emb) (b : Nat) : Prop := ∃ id, (hp id).live = true ∧ (φ id).1 = b

/-- What plain memory keeps away from: the own blocks, and a fixed set of others. -/
def Avoid (X : Nat → Prop) (hp : Hp) (φ : Emb) (b : Nat) : Prop := Own hp φ b ∨ X b

/-- No cell of a row is frozen. -/
def Quiet (n lo hi : Nat) : Prop := lo = hi ∨ n ≤ lo

theorem Quiet.not {n lo hi : Nat} (h : Quiet n lo hi) : ∀ i, i < n → ¬ (lo ≤ i ∧ i < hi) := by
  intro i hi; rcases h with h | h <;> omega

def Room (w : World) (b n : Nat) : Prop := ∃ (c : Array Value) (T : TypeId) (fr : Nat × Nat), w.heap[b]? = some (.cells c T fr) ∧ n ≤ c.size

inductive RepA (X : Nat → Prop) (hp : Hp) (φ : Emb) (w : World) : AV → Value → Prop
  | pv (p : PV) (v : Value) (h : RepP (Avoid X hp φ) w p v) : RepA X hp φ w (.pv p) v
  | ptr (id ver off : Nat) (a : Addr) (h : ver ≤ (hp id).ver) (ha : (hp id).live = true → (hp id).ver = ver → a = ⟨(φ id).1, (φ id).2 + off, none⟩) :
      RepA X hp φ w (.ptr id ver off) (.pointer (some a))
  | slice (id ver off len mc esz : Nat) (xc : Bool) (a : Addr) (cap : Nat) (h : ver ≤ (hp id).ver) (hlen : len ≤ mc ∧ mc ≤ cap ∧ (xc = true → cap = mc))
      (ha : (hp id).live = true → (hp id).ver = ver → cap = 0 ∨ (a = ⟨(φ id).1, (φ id).2 + off, none⟩ ∧ (xc = false → Room w (φ id).1 ((φ id).2 + off + cap * esz)))) :
      RepA X hp φ w (.slice id ver off len mc esz xc) (.slice (some a) len cap)
  | map (id ver r : Nat) (h : ver ≤ (hp id).ver) (ha : (hp id).live = true → (hp id).ver = ver → r = (φ id).1) : RepA X hp φ w (.map id ver) (.map (some r))
  | clo (f : Nat) (caps : List AV) (vs : Array Value) (hs : vs.size = caps.length) (h : ∀ i (hi : i < caps.length), RepA X hp φ w caps[i] (vs.getD i undef)) :
      RepA X hp φ w (.clo f caps) (.func (.func f) #[] vs)
  | agg (cs : List AV) (vs : Array Value) (hs : vs.size = cs.length) (h : ∀ i (hi : i < cs.length), RepA X hp φ w cs[i] (vs.getD i undef)) :
      RepA X hp φ w (.agg cs) (.agg vs)
  | tuple (cs : List AV) (vs : Array Value) (hs : vs.size = cs.length) (h : ∀ i (hi : i < cs.length), RepA X hp φ w cs[i] (vs.getD i undef)) :
      RepA X hp φ w (.tuple cs) (.tuple vs)
  | dead (v : Value) : RepA X hp φ w .dead v

structure RelH (X : Nat → Prop) (hp : Hp) (φ : Emb) (w : World) : Prop where
  far : ∀ b, X b → b < w.heap.size
  inj : ∀ i j, (hp i).live = true → (hp j).live = true → (φ i).1 = (φ j).1 → i = j
  cells : ∀ id ver cs, hp id = .cells ver cs → ∃ (c : Array Value) (T : TypeId) (lo hi : Nat), w.heap[(φ id).1]? = some (.cells c T (lo, hi)) ∧ (φ id).2 + cs.length ≤ c.size ∧
    Quiet c.size lo hi ∧ ∀ i (h : i < cs.length), ∃ v, c[(φ id).2 + i]? = some v ∧ RepA X hp φ w cs[i] v ∧ cs[i].isCell = true

structure Ext (O : Nat → Prop) (w w' : World) : Prop where
  os : w'.os = w.os
  tape : w'.tape = w.tape
  output : w'.output = w.output
  size : w.heap.size ≤ w'.heap.size
  keep : ∀ b : Nat, b < w.heap.size → ¬ O b → w'.heap[b]? = w.heap[b]?
  shape : ∀ (b : Nat) (c : Array Value) (T : TypeId) (fr : Nat × Nat), w.heap[b]? = some (.cells c T fr) → ∃ (c' : Array Value) (fr' : Nat × Nat), w'.heap[b]? = some (.cells c' T fr') ∧ c'.size = c.size

structure Evo (hp : Hp) (φ : Emb) (w : World) (hp' : Hp) (φ' : Emb) (w' : World) : Prop where
  ext : Ext (Own hp φ) w w'
  mono : ∀ id, (hp id).ver ≤ (hp' id).ver
  same : ∀ id, (hp' id).live = true → (hp' id).ver = (hp id).ver → (hp id).live = true ∧ φ' id = φ id
  own : ∀ b, Own hp' φ' b → Own hp φ b ∨ w.heap.size ≤ b

theorem Ext.refl (O : Nat → Prop) (w : World) : Ext O w w := ⟨rfl, rfl, rfl, Nat.le_refl _, fun _ _ _ => rfl, fun _ c _ fr h => ⟨c, fr, h, rfl⟩⟩

theorem Evo.refl (hp : Hp) (φ : Emb) (w : World) : Evo hp φ w hp φ w :=
  ⟨Ext.refl _ _, fun _ => Nat.le_refl _, fun _ h _ => ⟨h, rfl⟩, fun _ h => .inl h⟩

theorem Evo.trans {hp φ w hp' φ' w' hp'' φ'' w''} (h : Evo hp φ w hp' φ' w') (k : Evo hp' φ' w' hp'' φ'' w'') : Evo hp φ w hp'' φ'' w'' where
  ext :=
    { os := k.ext.os.trans h.ext.os, tape := k.ext.tape.trans h.ext.tape, output := k.ext.output.trans h.ext.output
      size := Nat.le_trans h.ext.size k.ext.size
      keep := fun b hb hO => (k.ext.keep b (Nat.lt_of_lt_of_le hb h.ext.size) (fun ho => (h.own b ho).elim hO (fun hs => absurd hb (Nat.not_lt.2 hs)))).trans (h.ext.keep b hb hO)
      shape := fun b c T fr hc => by
        obtain ⟨c1, fr1, h1, s1⟩ := h.ext.shape b c T fr hc
        obtain ⟨c2, fr2, h2, s2⟩ := k.ext.shape b c1 T fr1 h1
        exact ⟨c2, fr2, h2, s2.trans s1⟩ }
  mono := fun id => Nat.le_trans (h.mono id) (k.mono id)
  same := fun id hl hv => by
    have h1 := h.mono id
    have h2 := k.mono id
    obtain ⟨l1, e1⟩ := k.same id hl (by omega)
    obtain ⟨l2, e2⟩ := h.same id l1 (by omega)
    exact ⟨l2, e1.trans e2⟩
  own := fun b hb => by
    rcases k.own b hb with h1 | h1
    · exact h.own b h1
    · exact .inr (Nat.le_trans h.ext.size h1)

theorem cell_lt {w : World} {a : Addr} {v : Value} (h : w.cell? a = some v) : a.block < w.heap.size := World.block_lt_of_cell? w a h

theorem Room.ext {O : Nat → Prop} {w w' : World} (h : Ext O w w') {b n : Nat} (hr : Room w b n) : Room w' b n := by
  obtain ⟨c, T, fr, hc, hn⟩ := hr
  obtain ⟨c', fr', hc', hs⟩ := h.shape b c T fr hc
  exact ⟨c', T, fr', hc', by omega⟩

variable {X : Nat → Prop}

theorem RepP.evo {hp φ w hp' φ' w'} (e : Evo hp φ w hp' φ' w') {p : PV} {v : Value} (h : RepP (Avoid X hp φ) w p v) : RepP (Avoid X hp' φ') w' p v := by
  have keepO : ∀ {b o : Nat} {x : Value}, ¬ Avoid X hp φ b → w.cell? ⟨b, o, none⟩ = some x → w'.cell? ⟨b, o, none⟩ = some x ∧ ¬ Avoid X hp' φ' b := by
    intro b o x hO hc
    have hlt : b < w.heap.size := cell_lt hc
    refine ⟨?_, fun ho => ho.elim (fun ho => (e.own b ho).elim (fun h => hO (.inl h)) (fun hs => by omega)) (fun h => hO (.inr h))⟩
    rw [World.cell?_of_block (w := w) (w' := w') (a := ⟨b, o, none⟩) (e.ext.keep b hlt (fun h => hO (.inl h)))]
    exact hc
  induction h with
  | bool b => exact .bool b
  | int k n => exact .int k n
  | str s B h => exact .str s B h
  | nilPtr => exact .nilPtr
  | nilSlice => exact .nilSlice
  | nilMap => exact .nilMap
  | nilFunc => exact .nilFunc
  | nilIface => exact .nilIface
  | zcap a => exact .zcap a
  | fn f => exact .fn f
  | sym i v h => exact .sym i v h
  | ros esz len cells b off cap vals hl hc hO hv hr ih =>
    refine .ros esz len cells b off cap vals hl hc (fun h0 => ?_) (fun i hi => ?_) ih
    · have := hv 0 h0
      exact (keepO (hO h0) this).2
    · exact (keepO (hO (by omega)) (hv i hi)).1
  | rop cells o b base vals hO hv hr ih =>
    refine .rop cells o b base vals (fun h0 => ?_) (fun i hi => ?_) ih
    · have := hv 0 h0
      exact (keepO (hO h0) this).2
    · exact (keepO (hO (by omega)) (hv i hi)).1

theorem RepA.evo {hp φ w hp' φ' w'} (e : Evo hp φ w hp' φ' w') {p : AV} {v : Value} (h : RepA X hp φ w p v) : RepA X hp' φ' w' p v := by
  induction h with
  | pv p v h => exact .pv p v (h.evo e)
  | ptr id ver off a h ha =>
    have hm := e.mono id
    refine .ptr id ver off a (by omega) (fun hl hv => ?_)
    obtain ⟨l, ef⟩ := e.same id hl (by omega)
    rw [ef]; exact ha l (by omega)
  | slice id ver off len mc esz xc a cap h hlen ha =>
    have hm := e.mono id
    refine .slice id ver off len mc esz xc a cap (by omega) hlen (fun hl hv => ?_)
    obtain ⟨l, ef⟩ := e.same id hl (by omega)
    rw [ef]
    exact (ha l (by omega)).imp (fun x => x) (fun ⟨x, y⟩ => ⟨x, fun hx => (y hx).ext e.ext⟩)
  | map id ver r h ha =>
    have hm := e.mono id
    refine .map id ver r (by omega) (fun hl hv => ?_)
    obtain ⟨l, ef⟩ := e.same id hl (by omega)
    rw [ef]; exact ha l (by omega)
  | clo f caps vs hs h ih => exact .clo f caps vs hs ih
  | agg cs vs hs h ih => exact .agg cs vs hs ih
  | tuple cs vs hs h ih => exact .tuple cs vs hs ih
  | dead v => exact .dead v

/-- The heap behind a step that lays one block anew (in place, moved, or new). -/
theorem RelH.put {hp φ w w'} (R : RelH X hp φ w) (id ver : Nat) (cs : List AV) (b base : Nat)
    (e : Evo hp φ w (setHp hp id (.cells ver cs)) (fun j => if j = id then (b, base) else φ j) w')
    (hother : ∀ j, j ≠ id → (hp j).live = true → (φ j).1 ≠ b ∧ w'.heap[(φ j).1]? = w.heap[(φ j).1]?)
    (hb : ∃ (c : Array Value) (T : TypeId) (lo hi : Nat), w'.heap[b]? = some (.cells c T (lo, hi)) ∧ base + cs.length ≤ c.size ∧ Quiet c.size lo hi ∧
      ∀ i (h : i < cs.length), ∃ v, c[base + i]? = some v ∧ RepA X hp φ w cs[i] v ∧ cs[i].isCell = true) :
    RelH X (setHp hp id (.cells ver cs)) (fun j => if j = id then (b, base) else φ j) w' where
  far := fun b hb => Nat.lt_of_lt_of_le (R.far b hb) e.ext.size
  inj := fun i j hi hj hij => by
    by_cases h1 : i = id <;> by_cases h2 : j = id
    · rw [h1, h2]
    · exfalso
      simp only [h1, h2, if_true, if_false] at hij
      exact (hother j h2 (by simpa [setHp, h2] using hj)).1 hij.symm
    · exfalso
      simp only [h1, h2, if_true, if_false] at hij
      exact (hother i h1 (by simpa [setHp, h1] using hi)).1 hij
    · simp only [h1, h2, if_false] at hij
      exact R.inj i j (by simpa [setHp, h1] using hi) (by simpa [setHp, h2] using hj) hij
  cells := fun j ver' cs' hj => by
    by_cases h1 : j = id
    · subst h1
      simp only [setHp, if_true] at hj
      cases hj
      obtain ⟨c, T, lo, hi, h1, h2, h3, h4⟩ := hb
      refine ⟨c, T, lo, hi, by simpa using h1, by simpa using h2, h3, fun i hi => ?_⟩
      obtain ⟨v, hv, hr, hc⟩ := h4 i hi
      exact ⟨v, by simpa using hv, hr.evo e, hc⟩
    · have hj' : hp j = .cells ver' cs' := by simpa [setHp, h1] using hj
      obtain ⟨c, T, lo, hi, a1, a2, a3, a4⟩ := R.cells j ver' cs' hj'
      have ho := hother j h1 (by rw [hj']; rfl)
      refine ⟨c, T, lo, hi, by simpa [h1, ho.2] using a1, by simpa [h1] using a2, a3, fun i hi => ?_⟩
      obtain ⟨v, hv, hr, hc⟩ := a4 i hi
      exact ⟨v, by simpa [h1] using hv, hr.evo e, hc⟩

/-- The heap where nothing of it is touched. -/
theorem RelH.evo {hp φ w w'} (R : RelH X hp φ w) (e : Evo hp φ w hp φ w') (hsame : ∀ j, (hp j).live = true → w'.heap[(φ j).1]? = w.heap[(φ j).1]?) : RelH X hp φ w' where
  far := fun b hb => Nat.lt_of_lt_of_le (R.far b hb) e.ext.size
  inj := R.inj
  cells := fun j ver cs hj => by
    obtain ⟨c, T, lo, hi, a1, a2, a3, a4⟩ := R.cells j ver cs hj
    refine ⟨c, T, lo, hi, by rw [hsame j (by rw [hj]; rfl)]; exact a1, a2, a3, fun i hi => ?_⟩
    obtain ⟨v, hv, hr, hc⟩ := a4 i hi
    exact ⟨v, hv, hr.evo e, hc⟩

theorem Own.lt {hp φ w} (R : RelH X hp φ w) {b : Nat} (h : Own hp φ b) : b < w.heap.size := by
  obtain ⟨id, hl, rfl⟩ := h
  cases hb : hp id with
  | gone v => simp [hb, Blk.live] at hl
  | cells ver cs =>
    obtain ⟨c, T, lo, hi, a1, _⟩ := R.cells id ver cs hb
    exact (Array.getElem?_eq_some_iff.1 a1).1

/-- A new block at the heap's end. -/
theorem RelH.new {hp φ w w'} (R : RelH X hp φ w) (nb : Nat) (hg : hp nb = .gone 0) (cs : List AV) (c : Array Value) (T : TypeId) (lo hi : Nat)
    (hw : w'.heap = w.heap.push (.cells c T (lo, hi))) (hos : w'.os = w.os) (htape : w'.tape = w.tape) (hout : w'.output = w.output)
    (hsz : cs.length ≤ c.size) (hfz : Quiet c.size lo hi)
    (hcs : ∀ i (h : i < cs.length), ∃ v, c[i]? = some v ∧ RepA X hp φ w cs[i] v ∧ cs[i].isCell = true) :
    Evo hp φ w (setHp hp nb (.cells 1 cs)) (fun j => if j = nb then (w.heap.size, 0) else φ j) w' ∧
    RelH X (setHp hp nb (.cells 1 cs)) (fun j => if j = nb then (w.heap.size, 0) else φ j) w' := by
  have hold : ∀ b, b < w.heap.size → w'.heap[b]? = w.heap[b]? := fun b hb => by
    rw [hw, Array.getElem?_push, if_neg (by omega)]
  have e : Evo hp φ w (setHp hp nb (.cells 1 cs)) (fun j => if j = nb then (w.heap.size, 0) else φ j) w' :=
    { ext := { os := hos, tape := htape, output := hout, size := by rw [hw]; simp
               keep := fun b hb _ => hold b hb
               shape := fun b c T fr h => ⟨c, fr, by rw [hold b (Array.getElem?_eq_some_iff.1 h).1]; exact h, rfl⟩ }
      mono := fun id => by
        by_cases h : id = nb
        · subst h; simp [hg, Blk.ver]
        · simp [setHp, h]
      same := fun id hl hv => by
        by_cases h : id = nb
        · subst h; simp [setHp, hg, Blk.ver] at hv
        · simp only [setHp, h, if_false] at hl ⊢; exact ⟨hl, trivial⟩
      own := fun b ⟨id, hl, hb⟩ => by
        by_cases h : id = nb
        · subst h; simp at hb; right; omega
        · left; simp only [setHp, h, if_false] at hl hb; exact ⟨id, hl, hb⟩ }
  refine ⟨e, R.put nb 1 cs w.heap.size 0 e (fun j hj hl => ?_) ⟨c, T, lo, hi, by rw [hw]; simp, by simpa using hsz, hfz, fun i hi => by simpa using hcs i hi⟩⟩
  have := Own.lt R ⟨j, hl, rfl⟩
  exact ⟨by omega, hold _ this⟩

/-- A block written in place. -/
theorem RelH.upd {hp φ w w'} (R : RelH X hp φ w) (id ver : Nat) (cs0 cs : List AV) (hid : hp id = .cells ver cs0) (c' : Array Value)
    (hothers : ∀ b : Nat, b ≠ (φ id).1 → w'.heap[b]? = w.heap[b]?) (hsize : w'.heap.size = w.heap.size)
    (hos : w'.os = w.os) (htape : w'.tape = w.tape) (hout : w'.output = w.output)
    (hb : ∀ (c : Array Value) (T : TypeId) (fr : Nat × Nat), w.heap[(φ id).1]? = some (.cells c T fr) → w'.heap[(φ id).1]? = some (.cells c' T fr) ∧ c'.size = c.size)
    (hlen : (φ id).2 + cs.length ≤ c'.size)
    (hcs : ∀ i (h : i < cs.length), ∃ v, c'[(φ id).2 + i]? = some v ∧ RepA X hp φ w cs[i] v ∧ cs[i].isCell = true) :
    Evo hp φ w (setHp hp id (.cells ver cs)) φ w' ∧ RelH X (setHp hp id (.cells ver cs)) φ w' := by
  have hφ : (fun j => if j = id then ((φ id).1, (φ id).2) else φ j) = φ := by
    funext j; by_cases h : j = id <;> simp [h]
  have e : Evo hp φ w (setHp hp id (.cells ver cs)) φ w' :=
    { ext := { os := hos, tape := htape, output := hout, size := by omega
               keep := fun b hb' hO => hothers b (fun h => hO ⟨id, by rw [hid]; rfl, h.symm⟩)
               shape := fun b c T fr h => by
                 by_cases hbb : b = (φ id).1
                 · subst hbb; exact ⟨c', fr, hb c T fr h⟩
                 · exact ⟨c, fr, by rw [hothers b hbb]; exact h, rfl⟩ }
      mono := fun j => by
        by_cases h : j = id
        · subst h; simp [setHp, hid, Blk.ver]
        · simp [setHp, h]
      same := fun j hl hv => by
        by_cases h : j = id
        · subst h; exact ⟨by rw [hid]; rfl, rfl⟩
        · simp only [setHp, h, if_false] at hl; exact ⟨hl, rfl⟩
      own := fun b ⟨j, hl, hbb⟩ => by
        left
        by_cases h : j = id
        · subst h; exact ⟨j, by rw [hid]; rfl, hbb⟩
        · simp only [setHp, h, if_false] at hl; exact ⟨j, hl, hbb⟩ }
  refine ⟨e, ?_⟩
  have := R.put (w' := w') id ver cs (φ id).1 (φ id).2 (by rw [hφ]; exact e) (fun j hj hl => ?_) ?_
  · rwa [hφ] at this
  · have hne : (φ j).1 ≠ (φ id).1 := fun h => hj (R.inj j id hl (by rw [hid]; rfl) h)
    exact ⟨hne, hothers _ hne⟩
  · obtain ⟨c, T, lo, hi, a1, a2, a3, a4⟩ := R.cells id ver cs0 hid
    obtain ⟨h1, h2⟩ := hb c T (lo, hi) a1
    exact ⟨c', T, lo, hi, h1, hlen, by rw [h2]; exact a3, hcs⟩

end Go.Proofs.Ytabpcmmkmbchnaa.AI
