/- Operations that give a value and touch nothing: the plain ones against the machine's. -/
import Derived.Test.YtabpcmmkmbchnaaA3
import Derived.Laws.StructEq
set_option linter.unusedVariables false
set_option linter.unusedSectionVars false
set_option linter.unusedSimpArgs false
namespace Go.Proofs.Ytabpcmmkmbchnaa.AI
open Go
variable [Val]

variable {X : Nat → Prop} {hp : Hp} {φ : Emb} {w : World} {P : Program}

def ValOk (P : Program) (X : Nat → Prop) (hp : Hp) (φ : Emb) (w : World) (s : Sem Value) (v : AV) : Prop := ∃ y, s.run P w = .ok y w ∧ RepA X hp φ w v y

theorem repA_pv {p : PV} {v : Value} (h : RepA X hp φ w (.pv p) v) : RepP (Avoid X hp φ) w p v := by
  cases h with | pv _ _ h => exact h

theorem repA_int {k : IntKind} {n : Int} {v : Value} (h : RepA X hp φ w (.pv (.int k n)) v) : v = .int k n := by
  cases h with | pv _ _ h => cases h; rfl
theorem repA_bool {b : Bool} {v : Value} (h : RepA X hp φ w (.pv (.bool b)) v) : v = .bool b := by
  cases h with | pv _ _ h => cases h; rfl
theorem repA_str {s : List Nat} {v : Value} (h : RepA X hp φ w (.pv (.str s)) v) : ∃ B : ByteArray, v = .string B ∧ B.data.toList.map UInt8.toNat = s := by
  cases h with | pv _ _ h => cases h with | str _ B h => exact ⟨B, rfl, h⟩
theorem repA_nilSlice {v : Value} (h : RepA X hp φ w (.pv .nilSlice) v) : v = .slice none 0 0 := by
  cases h with | pv _ _ h => cases h; rfl
theorem repA_zcap {v : Value} (h : RepA X hp φ w (.pv .zcap) v) : ∃ a, v = .slice (some a) 0 0 := by
  cases h with | pv _ _ h => cases h with | zcap a => exact ⟨a, rfl⟩
theorem repA_fn {f : Nat} {v : Value} (h : RepA X hp φ w (.pv (.fn f)) v) : v = .func (.func f) #[] #[] := by
  cases h with | pv _ _ h => cases h; rfl

theorem mk_int (k : IntKind) (n : Int) : RepA X hp φ w (.pv (.int k n)) (.int k n) := .pv _ _ (.int k n)
theorem mk_bool (b : Bool) : RepA X hp φ w (.pv (.bool b)) (.bool b) := .pv _ _ (.bool b)
theorem mk_str {s : List Nat} (B : ByteArray) (h : B.data.toList.map UInt8.toNat = s) : RepA X hp φ w (.pv (.str s)) (.string B) := .pv _ _ (.str s B h)

/-! ints -/

theorem intOp_sound {op : BinOp} {k : IntKind} {a b : Int} {p : PV} (t : TypeId) (h1 : op ≠ .shl) (h2 : op ≠ .shr) (h : intOpA op k a b = some p) : ValOk P X hp φ w (binOp op t (.int k a) (.int k b)) (.pv p) := by
  cases op <;> simp only [intOpA, reduceCtorEq] at h
  case quo =>
    split at h
    · simp at h
    · rename_i hb; simp only [Option.some.injEq] at h; subst h; exact ⟨_, by simp [binOp, Op.intDiv, hb], mk_int _ _⟩
  case rem =>
    split at h
    · simp at h
    · rename_i hb; simp only [Option.some.injEq] at h; subst h; exact ⟨_, by simp [binOp, Op.intDiv, hb], mk_int _ _⟩
  all_goals (simp only [Option.some.injEq] at h; subst h)
  case and => exact ⟨_, by unfold binOp; simp only [ne_eq, not_true_eq_false, if_false]; rfl, mk_int _ _⟩
  case or => exact ⟨_, by unfold binOp; simp only [ne_eq, not_true_eq_false, if_false]; rfl, mk_int _ _⟩
  case xor => exact ⟨_, by unfold binOp; simp only [ne_eq, not_true_eq_false, if_false]; rfl, mk_int _ _⟩
  case andNot => exact ⟨_, by unfold binOp; simp only [ne_eq, not_true_eq_false, if_false]; rfl, mk_int _ _⟩
  case add => exact ⟨_, by simp [binOp, Op.intArith], mk_int _ _⟩
  case sub => exact ⟨_, by simp [binOp, Op.intArith], mk_int _ _⟩
  case mul => exact ⟨_, by simp [binOp, Op.intArith], mk_int _ _⟩
  all_goals exact ⟨_, by simp [binOp, Op.intCmp], mk_bool _⟩

theorem shift_sound {op : BinOp} {k k' : IntKind} {a b : Int} {p : PV} (t : TypeId) (ho : op = .shl ∨ op = .shr) (h : shiftA op k a b = some p) : ValOk P X hp φ w (binOp op t (.int k a) (.int k' b)) (.pv p) := by
  unfold shiftA at h
  split at h
  · simp at h
  · rename_i hb
    rcases ho with rfl | rfl <;> (simp at h; subst h; exact ⟨_, by simp [binOp, Op.shift, hb], mk_int _ _⟩)

/-! rows of numbers and bools -/

def eqCell (bl : Bool) : AV → AV → Option Bool
  | .pv (.int j a), .pv (.int k b) => if j = k ∧ bl = false then some (a == b) else none
  | .pv (.bool a), .pv (.bool b) => if bl = true then some (a == b) else none
  | _, _ => none

theorem eqCells_at (bl : Bool) : ∀ (xs ys : List AV) (r : Bool), eqCells bl xs ys = some r →
    xs.length = ys.length ∧ ∃ b : Nat → Bool, (∀ i x y, xs[i]? = some x → ys[i]? = some y → eqCell bl x y = some (b i)) ∧ r = (List.range xs.length).all b
  | [], [], r, h => by simp [eqCells] at h; subst h; exact ⟨rfl, fun _ => true, by simp, by simp⟩
  | x :: xs, [], r, h => by cases x <;> (try (rename_i p; cases p)) <;> simp [eqCells] at h
  | [], y :: ys, r, h => by simp [eqCells] at h
  | x :: xs, y :: ys, r, h => by
    have hs : ∃ c r', eqCell bl x y = some c ∧ eqCells bl xs ys = some r' ∧ r = (c && r') := by
      unfold eqCells at h
      split at h
      · simp_all
      · rename_i j a x' k b y' h1 h2
        cases h1; cases h2
        split at h
        · rename_i hjk
          simp only [Option.map_eq_some_iff] at h
          obtain ⟨r', h', rfl⟩ := h
          exact ⟨a == b, r', by simp only [eqCell]; rw [if_pos hjk], h', rfl⟩
        · simp at h
      · rename_i a x' b y' h1 h2
        cases h1; cases h2
        split at h
        · rename_i hjk
          simp only [Option.map_eq_some_iff] at h
          obtain ⟨r', h', rfl⟩ := h
          exact ⟨a == b, r', by simp only [eqCell]; rw [if_pos hjk], h', rfl⟩
        · simp at h
      · simp at h
    obtain ⟨c, r', hc, hr', rfl⟩ := hs
    obtain ⟨hl, b, hb, rfl⟩ := eqCells_at bl xs ys r' hr'
    refine ⟨by simp [hl], fun i => match i with | 0 => c | i + 1 => b i, fun i x0 y0 h1 h2 => ?_, ?_⟩
    · cases i with
      | zero => simp at h1 h2; subst h1; subst h2; exact hc
      | succ i => exact hb i x0 y0 (by simpa using h1) (by simpa using h2)
    · rw [List.length_cons, List.range_succ_eq_map, List.all_cons, List.all_map]
      rfl

theorem run_equalIn_arr (d : Nat) (t e : TypeId) (n : Nat) (ht : P.underlying t = some (.array n e)) (hsz : szA P e = some 1) (xs ys : Array Value) (b : Nat → Bool)
    (h : ∀ i, i < n → ∃ x y, (part e xs i).run P w = .ok x w ∧ (part e ys i).run P w = .ok y w ∧ (Op.equalIn d e x y).run P w = .ok (b i) w) :
    (Op.equalIn (d + 1) t (.agg xs) (.agg ys)).run P w = .ok ((List.range n).all b) w := by
  rw [List.range_eq_range', Op.equalIn]
  simp only [Sem.run_bind, run_und ht, Result.andThen_ok, run_szA hsz, Std.Legacy.Range.forIn_eq_forIn_range', Std.Legacy.Range.size, Nat.sub_zero, Nat.add_sub_cancel, Nat.div_one]
  have hl : ∀ i ∈ List.range' 0 n 1, i < n := fun i hi => by simpa using (List.mem_range'_1.1 hi).2
  generalize List.range' 0 n 1 = l at hl ⊢
  induction l with
  | nil => simp
  | cons i l ih =>
    obtain ⟨x, y, px, py, pe⟩ := h i (hl i (by simp))
    have px' : (part e xs (i * 1)).run P w = .ok x w := by rw [Nat.mul_one]; exact px
    have py' : (part e ys (i * 1)).run P w = .ok y w := by rw [Nat.mul_one]; exact py
    simp only [List.forIn_cons, Sem.run_bind, px', py', pe, Result.andThen_ok, List.all_cons]
    cases hb : b i
    · simp
    · simp only [Bool.not_true, Bool.false_eq_true, if_false, Sem.run_pure, Result.andThen_ok, Bool.true_and]
      exact ih fun j hj => hl j (by simp [hj])

theorem flatArr_some {t : TypeId} {n : Nat} {bl : Bool} (h : flatArr P t = some (n, bl)) :
    ∃ e, P.underlying t = some (.array n e) ∧ ((bl = false ∧ ∃ k, P.underlying e = some (.int k)) ∨ (bl = true ∧ P.underlying e = some .bool)) ∧ szA P e = some 1 ∧ P.eqGuardType P.depth t = false := by
  unfold flatArr at h
  split at h
  · rename_i len elem hu
    split at h
    · rename_i k he
      split at h
      · rename_i hc; simp at h hc; obtain ⟨rfl, rfl⟩ := h; exact ⟨elem, hu, .inl ⟨rfl, k, he⟩, hc.1, hc.2⟩
      · simp at h
    · rename_i he
      split at h
      · rename_i hc; simp at h hc; obtain ⟨rfl, rfl⟩ := h; exact ⟨elem, hu, .inr ⟨rfl, he⟩, hc.1, hc.2⟩
      · simp at h
    · simp at h
  · simp at h

theorem eqAgg_sound {t : TypeId} {n : Nat} {bl : Bool} {xs ys : List AV} {r : Bool} {v u : Value} (hf : flatArr P t = some (n, bl)) (hx : RepA X hp φ w (.agg xs) v) (hy : RepA X hp φ w (.agg ys) u)
    (h1 : xs.length = n) (h2 : ys.length = n) (h : eqCells bl xs ys = some r) : (Op.equal t v u).run P w = .ok r w ∧ ∃ a b, v = .agg a ∧ u = .agg b := by
  obtain ⟨e, ht, he, hsz, hg⟩ := flatArr_some hf
  obtain ⟨vs, rfl, hv⟩ := repA_agg hx
  obtain ⟨us, rfl, hu⟩ := repA_agg hy
  obtain ⟨hl, b, hb, rfl⟩ := eqCells_at bl xs ys r h
  refine ⟨?_, _, _, rfl, rfl⟩
  rw [h1]
  refine run_equalIn_arr 9999 t e n ht hsz vs us b fun i hi => ?_
  obtain ⟨x, hx1, hx2⟩ := hv.2 i xs[i] (by simp [h1, hi])
  obtain ⟨y, hy1, hy2⟩ := hu.2 i ys[i] (by simp [h2, hi])
  have hag : isAggA P e = some false := by rcases he with ⟨_, k, he⟩ | ⟨_, he⟩ <;> simp [isAggA, he]
  have pp : ∀ (arr : Array Value) (z : Value), arr.toList[i]? = some z → (part e arr i).run P w = .ok z w := by
    intro arr z hz
    have : arr[i]? = some z := by simpa using hz
    simp only [part, Sem.run_bind, run_isAggA hag, Result.andThen_ok, this, Bool.false_eq_true, if_false, Sem.run_pure]
  refine ⟨x, y, pp vs x hx1, pp us y hy1, ?_⟩
  have hc := hb i xs[i] ys[i] (by simp [h1, hi]) (by simp [h2, hi])
  unfold eqCell at hc
  split at hc
  · rename_i j a k c e1 e2
    split at hc
    · rename_i hjk
      obtain ⟨rfl, rfl⟩ := hjk
      rw [e1] at hx2; rw [e2] at hy2
      rw [repA_int hx2, repA_int hy2]
      simp at hc
      rcases he with ⟨_, k, he⟩ | ⟨hh, _⟩
      · rw [run_equalIn_int w 9998 e j k a c he]; simp [hc]
      · simp at hh
    · simp at hc
  · rename_i a c e1 e2
    split at hc
    · rename_i hjk
      subst hjk
      rw [e1] at hx2; rw [e2] at hy2
      rw [repA_bool hx2, repA_bool hy2]
      simp at hc
      rcases he with ⟨hh, _⟩ | ⟨_, he⟩
      · simp at hh
      · rw [run_equalIn_bool' w 9998 e a c he]; simp [hc]
    · simp at hc
  · simp at hc

/-! strings -/

theorem map_toNat_inj {x y : List UInt8} : x.map UInt8.toNat = y.map UInt8.toNat ↔ x = y :=
  ⟨fun h => List.map_inj_right (fun a b h => UInt8.toNat_inj.1 h) |>.1 h, fun h => by rw [h]⟩

theorem bytes_beq {A B : ByteArray} {a b : List Nat} (ha : A.data.toList.map UInt8.toNat = a) (hb : B.data.toList.map UInt8.toNat = b) : (A.toList == B.toList) = (a == b) := by
  rw [ByteArray.toList_eq, ByteArray.toList_eq, Bool.eq_iff_iff]
  subst ha; subst hb
  simp only [beq_iff_eq]
  exact map_toNat_inj.symm

theorem strOp_sound {op : BinOp} {a b : List Nat} {p : PV} {A B : ByteArray} (t : TypeId) (ha : A.data.toList.map UInt8.toNat = a) (hb : B.data.toList.map UInt8.toNat = b)
    (h : strOpA op a b = some p) : ValOk P X hp φ w (binOp op t (.string A) (.string B)) (.pv p) := by
  cases op <;> simp only [strOpA, reduceCtorEq] at h
  case add =>
    split at h
    · rename_i hle
      simp only [Option.some.injEq] at h; subst h
      have h1 : A.size = a.length := by subst ha; rw [List.length_map, Array.length_toList]; rfl
      have h2 : B.size = b.length := by subst hb; rw [List.length_map, Array.length_toList]; rfl
      refine ⟨.string (A ++ B), ?_, mk_str _ (by subst ha; subst hb; simp)⟩
      have hm : IntKind.i64.max = 9223372036854775807 := by decide
      have : ¬ (((A.size + B.size : Nat) : Int) > IntKind.i64.max) := by rw [hm, h1, h2]; omega
      simp only [binOp, Op.stringOp]
      rw [Sem.run_ite, if_neg this]
      rfl
    · simp at h
  case eql =>
    simp only [Option.some.injEq] at h; subst h
    exact ⟨_, by simp only [binOp, Op.stringOp, bytes_beq ha hb, Sem.run_pure], mk_bool _⟩
  case neq =>
    simp only [Option.some.injEq] at h; subst h
    exact ⟨_, by simp only [binOp, Op.stringOp, bytes_beq ha hb, Sem.run_pure], mk_bool _⟩

/-! nil -/

section
variable (d : Nat) {t : TypeId}
theorem eq_ptr_nil {e : TypeId} (hu : P.underlying t = some (.pointer e)) (a : Option Addr) : (Op.equalIn (d + 1) t (.pointer a) (.pointer none)).run P w = .ok a.isNone w ∧ (Op.equalIn (d + 1) t (.pointer none) (.pointer a)).run P w = .ok a.isNone w := by
  cases a <;> simp [Op.equalIn, run_und hu]
theorem eq_slice_nil {e : TypeId} (hu : P.underlying t = some (.slice e)) (a : Option Addr) (l c : Nat) : (Op.equalIn (d + 1) t (.slice a l c) (.slice none 0 0)).run P w = .ok a.isNone w ∧ (Op.equalIn (d + 1) t (.slice none 0 0) (.slice a l c)).run P w = .ok a.isNone w := by
  cases a <;> simp [Op.equalIn, run_und hu]
theorem eq_map_nil {k e : TypeId} (hu : P.underlying t = some (.map k e)) (a : Option Nat) : (Op.equalIn (d + 1) t (.map a) (.map none)).run P w = .ok a.isNone w ∧ (Op.equalIn (d + 1) t (.map none) (.map a)).run P w = .ok a.isNone w := by
  cases a <;> simp [Op.equalIn, run_und hu]
theorem eq_func_nil {x y : Array TypeId} {b : Bool} (hu : P.underlying t = some (.func x y b)) (f : Fn) (l c : Array Value) : (Op.equalIn (d + 1) t (.func f l c) .nilFunc).run P w = .ok false w ∧ (Op.equalIn (d + 1) t .nilFunc (.func f l c)).run P w = .ok false w := by
  simp [Op.equalIn, run_und hu]
theorem eq_func_nil2 {x y : Array TypeId} {b : Bool} (hu : P.underlying t = some (.func x y b)) : (Op.equalIn (d + 1) t .nilFunc .nilFunc).run P w = .ok true w := by
  simp [Op.equalIn, run_und hu]
end

theorem nilEq_sound {t : TypeId} {x y : AV} {r : Bool} {v u : Value} (hx : RepA X hp φ w x v) (hy : RepA X hp φ w y u) (h1 : nilShape P t x = true) (h2 : nilKind P t y = true) (h : isNilA x = some r) :
    (Op.equal t v u).run P w = .ok r w ∧ (Op.equal t u v).run P w = .ok r w := by
  unfold Op.equal Op.maxDepth
  unfold nilKind at h2
  split at h2
  · rename_i _ _ e hu
    have hy := repA_pv hy
    cases hy
    simp only [nilShape, hu] at h1
    have key := fun a => eq_ptr_nil (P := P) (w := w) 9999 hu a
    cases hx with
    | pv p _ hx => cases hx <;> simp only [isNilA, Option.some.injEq, reduceCtorEq, Bool.false_eq_true] at h h1 <;> subst h <;> exact key _
    | ptr => simp only [isNilA, Option.some.injEq] at h; subst h; exact key _
    | _ => simp only [isNilA, reduceCtorEq, Bool.false_eq_true] at h h1
  · rename_i _ _ e hu
    have hy := repA_pv hy
    cases hy
    simp only [nilShape, hu] at h1
    have key := fun a l c => eq_slice_nil (P := P) (w := w) 9999 hu a l c
    cases hx with
    | pv p _ hx => cases hx <;> simp only [isNilA, Option.some.injEq, reduceCtorEq, Bool.false_eq_true] at h h1 <;> subst h <;> exact key _ _ _
    | slice => simp only [isNilA, Option.some.injEq] at h; subst h; exact key _ _ _
    | _ => simp only [isNilA, reduceCtorEq, Bool.false_eq_true] at h h1
  · rename_i _ _ k e hu
    have hy := repA_pv hy
    cases hy
    simp only [nilShape, hu] at h1
    have key := fun a => eq_map_nil (P := P) (w := w) 9999 hu a
    cases hx with
    | pv p _ hx => cases hx <;> simp only [isNilA, Option.some.injEq, reduceCtorEq, Bool.false_eq_true] at h h1 <;> subst h <;> exact key _
    | map => simp only [isNilA, Option.some.injEq] at h; subst h; exact key _
    | _ => simp only [isNilA, reduceCtorEq, Bool.false_eq_true] at h h1
  · rename_i _ _ a b c hu
    have hy := repA_pv hy
    cases hy
    simp only [nilShape, hu] at h1
    cases hx with
    | pv p _ hx =>
      cases hx <;> simp only [isNilA, Option.some.injEq, reduceCtorEq, Bool.false_eq_true] at h h1 <;> subst h
      · exact ⟨eq_func_nil2 9999 hu, eq_func_nil2 9999 hu⟩
      · exact eq_func_nil 9999 hu _ _ _
    | clo => simp only [isNilA, Option.some.injEq] at h; subst h; exact eq_func_nil 9999 hu _ _ _
    | _ => simp only [isNilA, reduceCtorEq, Bool.false_eq_true] at h h1
  · simp at h2

end Go.Proofs.Ytabpcmmkmbchnaa.AI
