/- Rows of cells that are read, parted, and grow: rules for slices of values that are not known. -/
import Derived.Test.YtlinbbjobjnipaaA18
set_option linter.unusedVariables false
set_option linter.unusedSimpArgs false
set_option linter.unusedSectionVars false
namespace Go.Proofs.Ytlinbbjobjnipaa.AI
open Go

/-- A slice type of which each element is one cell. -/
structure ST (P : Program) (t e : TypeId) : Prop where
  und : P.underlying t = some (.slice e)
  info : ∃ i, P.info? e = some i ∧ i.size = 1 ∧ i.bytes ≤ 64 ∧ i.zero.map (·.cells.size) = some 1
  agg : isAggA P e = some false

theorem ST.sz {P : Program} {t e : TypeId} (h : ST P t e) : szA P e = some 1 := by
  obtain ⟨i, h1, h2, _⟩ := h.info
  unfold szA
  rw [h1]
  simp [h2]

/-- A slice that reads as a row of plain values. -/
inductive Row (hp : Hp) (nb : Nat) : AV → List PV → Prop
  | nil : Row hp nb (.pv .nilSlice) []
  | zcap : Row hp nb (.pv .zcap) []
  | ros (n : Nat) (l : List PV) (h : l.length = n) : Row hp nb (.pv (.ros 1 n l)) l
  | own (id ver off n mc : Nat) (xc : Bool) (cs : List AV) (l : List PV) (h : l.length = n) (hi : id < nb) (hc : hp id = .cells ver cs) (ho : off + n ≤ cs.length) (hm : n ≤ mc)
      (hl : (cs.drop off).take n = l.map .pv) : Row hp nb (.slice id ver off n mc 1 xc) l

def ownOf : AV → Option Nat
  | .slice id .. => some id
  | _ => none

theorem Row.keep {hp hp' : Hp} {nb nb' : Nat} {v : AV} {l : List PV} (h : Row hp nb v l) (hn : nb ≤ nb') (hk : ∀ id, id < nb → ownOf v = some id → hp' id = hp id) : Row hp' nb' v l := by
  cases h with
  | nil => exact .nil
  | zcap => exact .zcap
  | ros n l h => exact .ros n l h
  | own id ver off n mc xc cs l h hi hc ho hm hl => exact .own id ver off n mc xc cs l h (by omega) (by rw [hk id hi rfl]; exact hc) ho hm hl

section
variable {P : Program} {t e : TypeId} {hp : Hp} {nb : Nat} {v : AV} {l : List PV}

theorem row_lenA (h : ST P t e) (r : Row hp nb v l) : lenA P t v = some (l.length : Int) := by
  unfold lenA
  rw [h.und]
  cases r with
  | nil => rfl
  | zcap => rfl
  | ros n l h => simp [h]
  | own id ver off n mc xc cs l h => simp [h]

theorem row_len (h : ST P t e) (r : Row hp nb v l) {hp' : Hp} {nb' : Nat} : builtinA P hp' nb' .len #[t] [v] = some (.val (.pv (.int .i64 l.length))) := by
  unfold builtinA
  show Option.map _ (lenA P t v) = _
  rw [row_lenA h r]
  rfl

theorem row_at (h : ST P t e) (r : Row hp nb v l) {i : Nat} {x : PV} (hx : l[i]? = some x) : ∃ a, indexAddrA P t v (.pv (.int .i64 i)) = some a ∧ loadA P hp e a = some (.pv x) := by
  have hi : i < l.length := (List.getElem?_eq_some_iff.1 hx).1
  cases r with
  | nil => simp at hi
  | zcap => simp at hi
  | ros n l hn =>
    refine ⟨.pv (.rop l (i * 1)), ?_, ?_⟩
    · unfold indexAddrA
      simp only [asIntA, Option.bind_some, h.und, h.sz]
      rw [if_pos (by omega)]
      simp
    · unfold loadA
      simp only [h.agg, Nat.mul_one, hx]
      rfl
  | own id ver off n mc xc cs l hn hid hc ho hm hl =>
    refine ⟨.ptr id ver (off + i * 1), ?_, ?_⟩
    · unfold indexAddrA
      simp only [asIntA, Option.bind_some, h.und, h.sz]
      rw [if_pos (by omega)]
      simp
    · unfold loadA
      have : ((cs.drop off).take n)[i]? = some (.pv x) := by rw [hl, List.getElem?_map, hx]; rfl
      rw [List.getElem?_take, if_pos (by omega), List.getElem?_drop] at this
      simp only [h.agg, Nat.mul_one, look, hc, if_true, Option.bind_some, this]

theorem row_src (r : Row hp nb v l) : srcA hp 1 v = some (l.length, l.map .pv) := by
  cases r with
  | nil => rfl
  | zcap => rfl
  | ros n l h => simp [srcA, h]
  | own id ver off n mc xc cs l h hi hc ho hm hl => simp [srcA, sliceCells, look, hc, ho, hl, h]

theorem row_slice (h : ST P t e) (r : Row hp nb v l) {lo hi : Nat} {lv hv : Option AV} (hlo : (lv = some (.pv (.int .i64 lo))) ∨ (lv = none ∧ lo = 0)) (hhi : (hv = some (.pv (.int .i64 hi))) ∨ (hv = none ∧ hi = l.length))
    (h1 : lo ≤ hi) (h2 : hi ≤ l.length) : ∃ v', sliceOpA P t v lv hv none = some v' ∧ Row hp nb v' ((l.drop lo).take (hi - lo)) ∧ (∀ id, ownOf v' = some id → ownOf v = some id) := by
  have bnd : ∀ mc, l.length ≤ mc → boundsA l.length mc lv hv none = some (lo, hi, mc) := by
    intro mc hmc
    unfold boundsA
    have e1 : boundA hv l.length mc = some hi := by
      rcases hhi with rfl | ⟨rfl, rfl⟩
      · simp only [boundA]; rw [if_pos (by omega)]; simp
      · rfl
    have e2 : boundA lv 0 hi = some lo := by
      rcases hlo with rfl | ⟨rfl, rfl⟩
      · simp only [boundA]; rw [if_pos (by omega)]; simp
      · rfl
    simp [e1, e2]
  unfold sliceOpA
  simp only [h.und, h.sz, Option.bind_some]
  cases r with
  | nil =>
    have hb := bnd 0 (by simp)
    simp only [List.length_nil] at hb
    exact ⟨.pv .nilSlice, by simp only [hb]; rfl, by simp; exact .nil, fun id h => by simp [ownOf] at h⟩
  | zcap =>
    have hb := bnd 0 (by simp)
    simp only [List.length_nil] at hb
    exact ⟨.pv .zcap, by simp only [hb]; rfl, by simp; exact .zcap, fun id h => by simp [ownOf] at h⟩
  | ros n l hn =>
    have hb := bnd n (by omega)
    rw [hn] at hb
    refine ⟨.pv (.ros 1 (hi - lo) ((l.drop lo).take (hi - lo))), by simp [hb], .ros _ _ (by simp; omega), fun id h => by simp [ownOf] at h⟩
  | own id ver off n mc xc cs l hn hid hc ho hm hl =>
    have hb := bnd mc (by omega)
    rw [hn] at hb
    refine ⟨.slice id ver (off + lo) (hi - lo) (mc - lo) 1 xc, by simp [hb], .own _ _ _ _ _ _ cs _ (by simp; omega) hid hc (by omega) (by omega) ?_, fun id h => h⟩
    have : ((cs.drop off).take n).drop lo = (l.map AV.pv).drop lo := by rw [hl]
    rw [List.drop_take, List.drop_drop] at this
    have h3 := congrArg (List.take (hi - lo)) this
    rw [List.take_take, show min (hi - lo) (n - lo) = hi - lo by omega] at h3
    rw [h3, ← List.map_drop, ← List.map_take]

/-- A row that grows: all of its room is used. -/
inductive Grow (hp : Hp) (nb : Nat) : AV → List PV → Prop
  | nil : Grow hp nb (.pv .nilSlice) []
  | own (id ver n : Nat) (xc : Bool) (l : List PV) (h : l.length = n) (hi : id < nb) (hc : hp id = .cells ver (l.map .pv)) : Grow hp nb (.slice id ver 0 n n 1 xc) l

theorem Grow.row (g : Grow hp nb v l) : Row hp nb v l := by
  cases g with
  | nil => exact .nil
  | own id ver n xc l h hi hc => exact .own id ver 0 n n xc _ l h hi hc (by simp [h]) (Nat.le_refl _) (by simp [← h, ← List.map_take])

theorem Grow.keep {hp' : Hp} {nb' : Nat} (g : Grow hp nb v l) (hn : nb ≤ nb') (hk : ∀ id, id < nb → ownOf v = some id → hp' id = hp id) : Grow hp' nb' v l := by
  cases g with
  | nil => exact .nil
  | own id ver n xc l h hi hc => exact .own id ver n xc l h (by omega) (by rw [hk id hi rfl]; exact hc)

theorem grow_app (h : ST P t e) (g : Grow hp nb v l) {xt e' : TypeId} (hxt : P.underlying xt = some (.slice e')) {s : AV} {r : List PV} (hs : srcA hp 1 s = some (r.length, r.map .pv)) (hl : l.length + r.length ≤ 1000000) :
    (builtinA P hp nb .append #[t, xt] [v, s] = some (.val v) ∧ r = []) ∨
    (∃ v' b, builtinA P hp nb .append #[t, xt] [v, s] = some (.new v' b) ∧ ownOf v' = some nb ∧ Grow (setHp hp nb b) (nb + 1) v' (l ++ r) ∧ ∃ cs : List PV, b = .cells 1 (cs.map .pv)) ∨
    (∃ v' id b, builtinA P hp nb .append #[t, xt] [v, s] = some (.upd v' id b) ∧ (hp id).live = true ∧ ownOf v = some id ∧ ownOf v' = some id ∧ id < nb ∧ Grow (setHp hp id b) nb v' (l ++ r) ∧ ∃ (ver : Nat) (cs : List PV), b = .cells ver (cs.map .pv)) := by
  obtain ⟨i, hi1, hi2, hi3, hi4⟩ := h.info
  have hcells : ∀ l : List PV, (l.map AV.pv).all AV.isCell = true := by
    intro l
    induction l with
    | nil => rfl
    | cons a l ih => rw [List.map_cons, List.all_cons, ih]; rfl
  have big : ∀ n, n ≤ 1000000 → (2 * n + 768) * i.bytes ≤ 281474976710656 ∧ n ≤ 1099511627776 := by
    intro n hn
    refine ⟨?_, by omega⟩
    calc (2 * n + 768) * i.bytes ≤ (2 * n + 768) * 64 := Nat.mul_le_mul_left _ hi3
      _ ≤ _ := by omega
  have hb : builtinA P hp nb .append #[t, xt] [v, s] = appendA P hp nb #[t, xt] v s := rfl
  rw [hb]
  unfold appendA
  simp only [show (#[t, xt] : Array TypeId)[0]? = some t from rfl, show (#[t, xt] : Array TypeId)[1]? = some xt from rfl, h.und, hi1, sourceA, hxt, hi2, hs, Option.bind_some]
  rw [if_neg (by simp only [hi4, hcells]; simp)]
  cases g with
  | nil =>
    cases r with
    | nil => left; simp
    | cons a r =>
      right; left
      simp only [List.length_nil, Nat.zero_add] at hl
      refine ⟨.slice nb 1 0 (a :: r).length (a :: r).length 1 false, .cells 1 ((a :: r).map .pv), ?_, rfl, ?_, _, rfl⟩
      · simp only
        rw [if_neg (by simp), if_pos (big _ hl)]
        rfl
      · exact .own _ _ _ _ _ rfl (by omega) (by simp [setHp])
  | own id ver n xc l hn hid hc =>
    simp only [ne_eq, not_true, if_false, look, hc, if_true, Option.bind_some]
    cases r with
    | nil => left; simp
    | cons a r =>
      right
      rw [if_neg (by simp), if_neg (by simp), if_pos (big _ (by omega))]
      cases xc with
      | true =>
        left
        refine ⟨.slice nb 1 0 (n + (a :: r).length) (n + (a :: r).length) 1 false, .cells 1 ((l ++ (a :: r)).map .pv), ?_, rfl, .own _ _ _ _ _ (by simp [hn]) (by omega) (by simp [setHp]), _, rfl⟩
        rw [if_pos rfl, if_pos (by simp [hn])]
        simp [newCells, ← hn, List.take_of_length_le]
      | false =>
        right
        refine ⟨.slice id (ver + 1) 0 (n + (a :: r).length) (n + (a :: r).length) 1 false, id, .cells (ver + 1) ((l ++ (a :: r)).map .pv), ?_, by rw [hc]; rfl, rfl, rfl, hid, .own _ _ _ _ _ (by simp [hn]) hid (by simp [setHp]), _, _, rfl⟩
        rw [if_neg (by simp), if_pos (by simp [hn])]
        simp
end

section
variable {P : Program} {pure : Nat → Bool} {F : CallF} {G : CallG} {lim n : Nat} {ops rest : List Oper} {g : Gm} {hp : Hp} {nb : Nat} {Q : Gm → Hp → Nat → Prop}

theorem tidy_pvs {hp : Hp} {nb id ver : Nat} {cs : List PV} (h : Tidy hp nb) : Tidy (setHp hp id (.cells ver (cs.map .pv))) nb :=
  tidy_put h (fun c hc => by obtain ⟨q, _, rfl⟩ := List.mem_map.1 hc; exact okC_pv _ _)

/-- What is behind an append. -/
def After (hp : Hp) (nb : Nat) (v : AV) (hp' : Hp) (nb' : Nat) : Prop :=
  nb ≤ nb' ∧ (∀ id, id < nb → ownOf v ≠ some id → hp' id = hp id) ∧ (Tidy hp nb → Tidy hp' nb')

theorem ro_append {d : Nat} {ty t e xt e' : TypeId} {pos : String} {aft : Array Edge} {x y : Operand} {v s : AV} {l r : List PV} (h : ST P t e) (hxt : P.underlying xt = some (.slice e')) (hx : evalF g x = v) (hy : evalF g y = s)
    (gr : Grow hp nb v l) (hs : srcA hp 1 s = some (r.length, r.map .pv)) (hl : l.length + r.length ≤ 1000000) (hd : d < n)
    (h2 : ∀ v' hp' nb', Grow hp' nb' v' (l ++ r) → After hp nb v hp' nb' → (∀ id, ownOf v' = some id → ownOf v = some id ∨ nb ≤ id) → RO P pure F G n ops rest (upd g d v') hp' nb' Q) :
    RO P pure F G n ops ({ dst := some d, op := .call { callee := .builtin .append, args := #[x, y], argTypes := #[t, xt] }, type := ty, pos := pos, after := aft, guard := none } :: rest) g hp nb Q := by
  have hxs : (#[x, y] : Array Operand).toList.map (evalF g) = [v, s] := by simp [hx, hy]
  rcases grow_app h gr hxt hs hl with ⟨e1, rfl⟩ | ⟨v', b, e1, eo, e2, cs, e3⟩ | ⟨v', id, b, e1, e2, e3, eo, e4, e5, ver, cs, e6⟩
  · refine ro_builtin rfl hxs e1 hd (h2 v hp nb (by simpa using gr) ⟨Nat.le_refl _, fun _ _ _ => rfl, fun h => h⟩ (fun id h => .inl h))
  · subst e3
    refine ro_builtin_new rfl hxs e1 hd (h2 v' _ _ e2 ⟨Nat.le_succ _, fun id hid _ => by simp [setHp, show id ≠ nb by omega], fun ht => tidy_new ht (fun c hc => ?_)⟩ (fun id hid => ?_))
    · obtain ⟨q, _, rfl⟩ := List.mem_map.1 hc; exact okC_pv _ _
    · rw [eo] at hid; cases hid; exact .inr (Nat.le_refl _)
  · subst e6
    refine ro_builtin_upd rfl hxs e1 e2 hd (h2 v' _ _ e5 ⟨Nat.le_refl _, fun j hj hne => ?_, fun ht => tidy_pvs ht⟩ (fun j hj => ?_))
    · have : j ≠ id := by intro e; subst e; exact hne e3
      simp [setHp, this]
    · rw [eo] at hj; cases hj; exact .inl e3
end

end Go.Proofs.Ytlinbbjobjnipaa.AI
