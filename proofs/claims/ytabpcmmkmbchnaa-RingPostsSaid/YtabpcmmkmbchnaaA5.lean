/- More operations that give a value and touch nothing. -/
import Derived.Test.YtabpcmmkmbchnaaA4
set_option linter.unusedVariables false
set_option linter.unusedSectionVars false
set_option linter.unusedSimpArgs false
namespace Go.Proofs.Ytabpcmmkmbchnaa.AI
open Go
variable [Val]

variable {X : Nat → Prop} {hp : Hp} {φ : Emb} {w : World} {P : Program}

theorem guard_plain {op : BinOp} {t : TypeId} {U V : Operand} {v u : Value} (h1 : ∀ a b, ¬ (v = .agg a ∧ u = .agg b)) (h2 : ¬ (v = .nilIface ∧ u = .nilIface)) :
    (eqGuard op t U V v u).run P w = .ok () w := by
  cases op
  case eql =>
    simp only [eqGuard, Bool.not_true, Bool.false_eq_true, if_false]
    split
    · exact absurd ⟨rfl, rfl⟩ h2
    · exact absurd ⟨rfl, rfl⟩ (h1 _ _)
    · rfl
  case neq =>
    simp only [eqGuard, Bool.not_true, Bool.false_eq_true, if_false]
    split
    · exact absurd ⟨rfl, rfl⟩ h2
    · exact absurd ⟨rfl, rfl⟩ (h1 _ _)
    · rfl
  all_goals rfl

theorem guard_agg {op : BinOp} {t : TypeId} {U V : Operand} {a b : Array Value} (h : P.eqGuardType P.depth t = false) :
    (eqGuard op t U V (.agg a) (.agg b)).run P w = .ok () w := by
  cases op
  case eql => simp only [eqGuard, Bool.not_true, Bool.false_eq_true, if_false, Sem.run_bind, run_program, Result.andThen_ok, h, Bool.not_false, if_true, Sem.run_ite, Sem.run_pure]
  case neq => simp only [eqGuard, Bool.not_true, Bool.false_eq_true, if_false, Sem.run_bind, run_program, Result.andThen_ok, h, Bool.not_false, if_true, Sem.run_ite, Sem.run_pure]
  all_goals rfl

def okShape : AV → Bool
  | .pv .nilPtr | .pv .nilSlice | .pv .nilMap | .pv .nilFunc | .pv .zcap | .pv (.ros ..) | .pv (.rop ..) | .pv (.fn _) | .ptr .. | .slice .. | .map .. | .clo .. => true
  | _ => false

theorem nilShape_ok {t : TypeId} {z : AV} (h : nilShape P t z = true) : okShape z = true := by
  unfold nilShape at h
  split at h <;> first | rfl | cases h

theorem okShape_val {z : AV} {q : Value} (hz : RepA X hp φ w z q) (hs : okShape z = true) :
    (∀ a, q ≠ .agg a) ∧ q ≠ .nilIface ∧ (∀ k a, q ≠ .int k a) ∧ (∀ a, q ≠ .string a) ∧ (∀ k a, q ≠ .float k a) ∧ (∀ k a b, q ≠ .complex k a b) := by
  cases hz with
  | pv p _ hz => cases hz <;> simp_all [okShape]
  | ptr => simp
  | slice => simp
  | map => simp
  | clo => simp
  | agg => simp [okShape] at hs
  | tuple => simp
  | dead => simp [okShape] at hs

theorem binOp_sound {op : BinOp} {t : TypeId} {U V : Operand} {x y r : AV} {v u : Value} (hx : RepA X hp φ w x v) (hy : RepA X hp φ w y u) (h : binOpA P op t x y = some r) :
    ValOk P X hp φ w (do eqGuard op t U V v u; binOp op t v u) r := by
  have fin : ∀ {z : AV}, (eqGuard op t U V v u).run P w = .ok () w → ValOk P X hp φ w (binOp op t v u) z → ValOk P X hp φ w (do eqGuard op t U V v u; binOp op t v u) z := by
    intro z hg ⟨y, hy, hr⟩
    exact ⟨y, by simp only [Sem.run_bind, hg, Result.andThen_ok, hy], hr⟩
  have viaEq : ∀ {b : Bool}, (Op.equal t v u).run P w = .ok b w → (∀ k a l c, ¬ (v = .int k a ∧ u = .int l c)) → (∀ a c, ¬ (v = .string a ∧ u = .string c)) →
      (∀ k a l c, ¬ (v = .float k a ∧ u = .float l c)) → (∀ k a b l c d, ¬ (v = .complex k a b ∧ u = .complex l c d)) →
      (op = .eql → ValOk P X hp φ w (binOp op t v u) (.pv (.bool b))) ∧ (op = .neq → ValOk P X hp φ w (binOp op t v u) (.pv (.bool !b))) := by
    intro b he n1 n2 n3 n4
    constructor
    · rintro rfl
      refine ⟨.bool b, ?_, mk_bool _⟩
      unfold binOp
      split <;> first
        | (exact absurd ⟨rfl, rfl⟩ (n1 _ _ _ _))
        | (exact absurd ⟨rfl, rfl⟩ (n2 _ _))
        | (exact absurd ⟨rfl, rfl⟩ (n3 _ _ _ _))
        | (exact absurd ⟨rfl, rfl⟩ (n4 _ _ _ _ _ _))
        | (simp only [Sem.run_bind, he, Result.andThen_ok, Sem.run_pure]; done)
        | simp_all
    · rintro rfl
      refine ⟨.bool !b, ?_, mk_bool _⟩
      unfold binOp
      split <;> first
        | (exact absurd ⟨rfl, rfl⟩ (n1 _ _ _ _))
        | (exact absurd ⟨rfl, rfl⟩ (n2 _ _))
        | (exact absurd ⟨rfl, rfl⟩ (n3 _ _ _ _))
        | (exact absurd ⟨rfl, rfl⟩ (n4 _ _ _ _ _ _))
        | (simp only [Sem.run_bind, he, Result.andThen_ok, Sem.run_pure]; done)
        | simp_all
  unfold binOpA at h
  split at h
  · -- ints
    rename_i k a k' b
    have e1 := repA_int hx; have e2 := repA_int hy
    subst e1; subst e2
    refine fin (guard_plain (by simp) (by simp)) ?_
    split at h
    · simp only [Option.map_eq_some_iff] at h
      obtain ⟨p, hp', rfl⟩ := h
      exact shift_sound t (.inl rfl) hp'
    · simp only [Option.map_eq_some_iff] at h
      obtain ⟨p, hp', rfl⟩ := h
      exact shift_sound t (.inr rfl) hp'
    · rename_i n1 n2
      split at h
      · rename_i hk; subst hk
        simp only [Option.map_eq_some_iff] at h
        obtain ⟨p, hp', rfl⟩ := h
        exact intOp_sound t (fun h => n1 h) (fun h => n2 h) hp'
      · simp at h
  · -- strings
    rename_i a b
    obtain ⟨A, rfl, hA⟩ := repA_str hx
    obtain ⟨B, rfl, hB⟩ := repA_str hy
    refine fin (guard_plain (by simp) (by simp)) ?_
    simp only [Option.map_eq_some_iff] at h
    obtain ⟨p, hp', rfl⟩ := h
    exact strOp_sound t hA hB hp'
  · -- equal or not
    have heq : ∃ b, eqA P t x y = some b ∧ ((op = .eql ∧ r = .pv (.bool b)) ∨ (op = .neq ∧ r = .pv (.bool !b))) := by
      split at h
      · simp only [Option.map_eq_some_iff] at h
        obtain ⟨b, hb, rfl⟩ := h
        exact ⟨b, hb, .inl ⟨rfl, rfl⟩⟩
      · simp only [Option.map_eq_some_iff] at h
        obtain ⟨b, hb, rfl⟩ := h
        exact ⟨b, hb, .inr ⟨rfl, rfl⟩⟩
      · simp at h
    obtain ⟨b, hb, hop⟩ := heq
    have conc : (eqGuard op t U V v u).run P w = .ok () w → (Op.equal t v u).run P w = .ok b w → (∀ k a l c, ¬ (v = .int k a ∧ u = .int l c)) → (∀ a c, ¬ (v = .string a ∧ u = .string c)) →
        (∀ k a l c, ¬ (v = .float k a ∧ u = .float l c)) → (∀ k a b l c d, ¬ (v = .complex k a b ∧ u = .complex l c d)) → ValOk P X hp φ w (do eqGuard op t U V v u; binOp op t v u) r := by
      intro hg he n1 n2 n3 n4
      obtain ⟨v1, v2⟩ := viaEq he n1 n2 n3 n4
      rcases hop with ⟨ho, rfl⟩ | ⟨ho, rfl⟩
      · exact fin hg (v1 ho)
      · exact fin hg (v2 ho)
    unfold eqA at hb
    split at hb
    · have e1 := repA_bool hx; have e2 := repA_bool hy
      subst e1; subst e2
      split at hb
      · rename_i hu
        simp only [Option.some.injEq] at hb; subst hb
        exact conc (guard_plain (by simp) (by simp)) (run_equalIn_bool' w 9999 t _ _ hu) (by simp) (by simp) (by simp) (by simp)
      · simp at hb
    · rename_i xs ys
      split at hb
      · rename_i n bl hf
        split at hb
        · rename_i hl
          obtain ⟨he, a, c, rfl, rfl⟩ := eqAgg_sound hf hx hy hl.1 hl.2 hb
          obtain ⟨_, _, _, _, hg⟩ := flatArr_some hf
          exact conc (guard_agg hg) he (by simp) (by simp) (by simp) (by simp)
        · simp at hb
      · simp at hb
    · have shape : ∀ {z : AV} {q : Value}, RepA X hp φ w z q → nilShape P t z = true → (∀ a, q ≠ .agg a) ∧ q ≠ .nilIface ∧ (∀ k a, q ≠ .int k a) ∧ (∀ a, q ≠ .string a) ∧ (∀ k a, q ≠ .float k a) ∧ (∀ k a b, q ≠ .complex k a b) :=
        fun hz hs => okShape_val hz (nilShape_ok hs)
      split at hb
      · rename_i hs
        simp only [Bool.and_eq_true] at hs
        obtain ⟨s1, s2, s3, s4, s5, s6⟩ := shape hx hs.1
        exact conc (guard_plain (fun a _ h => s1 a h.1) (fun h => s2 h.1)) (nilEq_sound hx hy hs.1 hs.2 hb).1 (fun k a _ _ h => s3 k a h.1) (fun a _ h => s4 a h.1) (fun k a _ _ h => s5 k a h.1) (fun k a b _ _ _ h => s6 k a b h.1)
      · split at hb
        · rename_i hs
          simp only [Bool.and_eq_true] at hs
          obtain ⟨s1, s2, s3, s4, s5, s6⟩ := shape hy hs.2
          exact conc (guard_plain (fun _ a h => s1 a h.2) (fun h => s2 h.2)) (nilEq_sound hy hx hs.2 hs.1 hb).2 (fun _ _ k a h => s3 k a h.2) (fun _ a h => s4 a h.2) (fun _ _ k a h => s5 k a h.2) (fun _ _ _ k a b h => s6 k a b h.2)
        · simp at hb

theorem unOp_sound {op : UnOp} {x r : AV} {v : Value} (hx : RepA X hp φ w x v) (h : unOpA op x = some r) : ValOk P X hp φ w (Op.unary op v) r := by
  unfold unOpA at h
  split at h
  · rename_i b
    have e1 := repA_bool hx; subst e1
    simp only [Option.some.injEq] at h; subst h
    exact ⟨_, rfl, mk_bool _⟩
  · rename_i k n
    have e1 := repA_int hx; subst e1
    simp only [Option.some.injEq] at h; subst h
    exact ⟨_, rfl, mk_int _ _⟩
  · rename_i k n
    have e1 := repA_int hx; subst e1
    simp only [Option.map_eq_some_iff, intOpA, Option.some.injEq] at h
    obtain ⟨p, rfl, rfl⟩ := h
    exact ⟨_, rfl, mk_int _ _⟩
  · simp at h

/-! Addresses. -/

theorem addPtr_sound {x r : AV} {v : Value} {n : Nat} (hx : RepA X hp φ w x v) (h : addPtr x n = some r) : ∃ a, v = .pointer (some a) ∧ RepA X hp φ w r (.pointer (some (a.add n))) := by
  unfold addPtr at h
  split at h
  · rename_i id ver off
    simp only [Option.some.injEq] at h; subst h
    cases hx with
    | ptr _ _ _ a h ha =>
      refine ⟨a, rfl, .ptr id ver (off + n) _ h fun hl hv => ?_⟩
      rw [ha hl hv, add_none, Nat.add_assoc]
  · rename_i cs off
    simp only [Option.some.injEq] at h; subst h
    have hx := repA_pv hx
    cases hx with
    | rop _ _ b base vals hO hv hr =>
      refine ⟨_, rfl, .pv _ _ ?_⟩
      rw [add_none, Nat.add_assoc]
      exact .rop cs (off + n) b base vals hO hv hr
  · simp at h

theorem fieldAddr_sound {s : TypeId} {x r : AV} {v : Value} {f : Nat} (hx : RepA X hp φ w x v) (h : fieldAddrA P s x f = some r) : ValOk P X hp φ w (Instr.fieldAt s v f) r := by
  unfold fieldAddrA at h
  split at h
  · rename_i fields hu
    split at h
    · rename_i fd hf
      split at h
      · rename_i sz hs
        obtain ⟨a, rfl, hr⟩ := addPtr_sound hx h
        refine ⟨_, ?_, hr⟩
        simp [Instr.fieldAt, run_und hu, hf, Instr.sureAddr, fieldPlace, run_szA hs]
      · simp at h
    · simp at h
  · simp at h

theorem part_sound {t : TypeId} {cs : List AV} {vs : Array Value} {off : Nat} {r : AV} (hl : RepL X hp φ w cs vs.toList) (h : partA P t cs off = some r) : ValOk P X hp φ w (part t vs off) r := by
  unfold partA at h
  split at h
  · rename_i hag
    simp only [Option.bind_eq_some_iff] at h
    obtain ⟨n, hn, h⟩ := h
    split at h
    · simp only [Option.some.injEq] at h; subst h
      refine ⟨.agg (vs.extract off (off + n)), by simp [part, run_isAggA hag, run_szA hn], RepL.agg ?_⟩
      have := (hl.drop off).take n
      simpa [List.take_drop, Nat.add_comm] using this
    · simp at h
  · rename_i hag
    obtain ⟨v, hv, hr⟩ := hl.2 off r h
    have hv' : vs[off]? = some v := by simpa using hv
    exact ⟨v, by simp [part, run_isAggA hag, hv'], hr⟩
  · simp at h

theorem field_sound {t : TypeId} {x r : AV} {v : Value} {f : Nat} (hx : RepA X hp φ w x v) (h : fieldA P t x f = some r) : ValOk P X hp φ w (Instr.field t v f) r := by
  unfold fieldA at h
  split at h
  · rename_i fields cs hu
    split at h
    · rename_i fd hf
      obtain ⟨vs, rfl, hl⟩ := repA_agg hx
      obtain ⟨y, hy, hr⟩ := part_sound hl h
      exact ⟨y, by simp [Instr.field, run_und hu, hf, asAgg, hy], hr⟩
    · simp at h
  · simp at h

theorem asInt_val {x : AV} {v : Value} {i : Int} (hx : RepA X hp φ w x v) (h : asIntA x = some i) : ∃ k, v = .int k i := by
  unfold asIntA at h
  split at h
  · simp only [Option.some.injEq] at h; subst h; exact ⟨_, repA_int hx⟩
  · simp at h

theorem indexAddr_sound {t : TypeId} {x ix r : AV} {v u : Value} (hx : RepA X hp φ w x v) (hi : RepA X hp φ w ix u) (h : indexAddrA P t x ix = some r) : ValOk P X hp φ w (Instr.indexAt t v u) r := by
  unfold indexAddrA at h
  simp only [Option.bind_eq_some_iff] at h
  obtain ⟨i, hi', h⟩ := h
  obtain ⟨k, rfl⟩ := asInt_val hi hi'
  split at h
  · rename_i len elem hu
    simp only [Option.bind_eq_some_iff] at h
    obtain ⟨size, hs, h⟩ := h
    split at h
    · rename_i hb
      obtain ⟨a, rfl, hr⟩ := addPtr_sound hx h
      exact ⟨_, by simp [Instr.indexAt, asIntOf, run_und hu, Instr.sureAddr, hb, run_szA hs], hr⟩
    · simp at h
  · rename_i elem hu
    simp only [Option.bind_eq_some_iff] at h
    obtain ⟨size, hs, h⟩ := h
    split at h
    · rename_i id ver off len mc esz xc
      split at h
      · rename_i hb
        simp only [Option.some.injEq] at h; subst h
        cases hx with
        | slice _ _ _ _ _ _ _ a cap h0 hln ha =>
          refine ⟨.pointer (some (a.add (i.toNat * size))), by simp [Instr.indexAt, asIntOf, run_und hu, hb, run_szA hs], .ptr _ _ _ _ h0 fun hl hv => ?_⟩
          obtain ⟨h1, h2, _⟩ := hln
          rcases ha hl hv with h3 | ⟨h3, _⟩
          · omega
          · rw [h3, add_none, Nat.add_assoc]
      · simp at h
    · rename_i esz len cs
      split at h
      · rename_i hb
        simp only [Option.some.injEq] at h; subst h
        have hx := repA_pv hx
        cases hx with
        | ros _ _ _ b off cap vals hl hc hO hv hr =>
          refine ⟨.pointer (some ⟨b, off + i.toNat * size, none⟩), by simp [Instr.indexAt, asIntOf, run_und hu, hb, run_szA hs, add_none], .pv _ _ (.rop cs _ b off vals hO hv hr)⟩
      · simp at h
    · simp at h
  · simp at h

theorem bytes_at {B : ByteArray} {s : List Nat} (h : B.data.toList.map UInt8.toNat = s) {i b : Nat} (hb : s[i]? = some b) : ∃ x : UInt8, B[i]? = some x ∧ x.toNat = b := by
  subst h
  simp only [List.getElem?_map, Option.map_eq_some_iff] at hb
  obtain ⟨x, hx, rfl⟩ := hb
  refine ⟨x, ?_, rfl⟩
  obtain ⟨hlt, hx⟩ := List.getElem?_eq_some_iff.1 hx
  have hlt' : i < B.size := by simpa using hlt
  rw [getElem?_pos B i hlt']
  congr 1

theorem index_sound {t : TypeId} {x ix r : AV} {v u : Value} (hx : RepA X hp φ w x v) (hi : RepA X hp φ w ix u) (h : indexA P t x ix = some r) : ValOk P X hp φ w (Instr.index t v u) r := by
  unfold indexA at h
  simp only [Option.bind_eq_some_iff] at h
  obtain ⟨i, hi', h⟩ := h
  obtain ⟨k, rfl⟩ := asInt_val hi hi'
  split at h
  · rename_i len elem cs hu
    simp only [Option.bind_eq_some_iff] at h
    obtain ⟨size, hs, h⟩ := h
    split at h
    · rename_i hb
      obtain ⟨vs, rfl, hl⟩ := repA_agg hx
      obtain ⟨y, hy, hr⟩ := part_sound hl h
      exact ⟨y, by simp [Instr.index, asIntOf, run_und hu, hb, run_szA hs, hy], hr⟩
    · simp at h
  · rename_i s hu
    split at h
    · rename_i hb
      simp only [Option.map_eq_some_iff] at h
      obtain ⟨b, hb', rfl⟩ := h
      obtain ⟨B, rfl, hB⟩ := repA_str hx
      obtain ⟨x, hx1, rfl⟩ := bytes_at hB hb'
      exact ⟨.int .u8 x.toNat, by simp [Instr.index, asIntOf, run_und hu, hb, hx1], mk_int _ _⟩
    · simp at h
  · simp at h

theorem extract_sound {x : List AV} {ix : Nat} {r : AV} {v : Value} (hx : RepA X hp φ w (.tuple x) v) (h : x[ix]? = some r) : ValOk P X hp φ w (Instr.extract v ix) r := by
  obtain ⟨vs, rfl, hl⟩ := repA_tuple hx
  obtain ⟨y, hy, hr⟩ := hl.2 ix r h
  have : vs[ix]? = some y := by simpa using hy
  exact ⟨y, by simp [Instr.extract, this], hr⟩

theorem len_sound {t : TypeId} {x : AV} {n : Int} {v : Value} (ty : TypeId) (ts : Array TypeId) (ht : ts[0]? = some t) (args : Array Value) (ha : args[0]? = some v) (hx : RepA X hp φ w x v) (h : lenA P t x = some n) :
    ValOk P X hp φ w (Builtin.len_ ts ty args) (.pv (.int .i64 n)) := by
  refine ⟨.int .i64 n, ?_, mk_int _ _⟩
  unfold lenA at h
  split at h
  · rename_i s hu
    obtain ⟨B, rfl, hB⟩ := repA_str hx
    simp only [Option.some.injEq] at h; subst h; subst hB
    simp [Builtin.len_, ht, ha, run_und hu, goInt]
  · rename_i m e hu
    simp only [Option.some.injEq] at h; subst h
    simp [Builtin.len_, ht, ha, run_und hu, goInt]
  · rename_i arr hu
    split at h
    · rename_i m e hu2
      simp only [Option.some.injEq] at h; subst h
      simp [Builtin.len_, ht, ha, run_und hu, run_und hu2, goInt]
    · simp at h
  · rename_i e hu
    simp only [Option.some.injEq] at h; subst h
    rw [repA_nilSlice hx] at ha
    simp [Builtin.len_, ht, ha, run_und hu, goInt]
  · rename_i e hu
    simp only [Option.some.injEq] at h; subst h
    obtain ⟨a, rfl⟩ := repA_zcap hx
    simp [Builtin.len_, ht, ha, run_und hu, goInt]
  · rename_i e esz m cs hu
    simp only [Option.some.injEq] at h; subst h
    have hx := repA_pv hx
    cases hx
    simp [Builtin.len_, ht, ha, run_und hu, goInt]
  · rename_i e id ver off m mc esz xc hu
    simp only [Option.some.injEq] at h; subst h
    cases hx
    simp [Builtin.len_, ht, ha, run_und hu, goInt]
  · simp at h

end Go.Proofs.Ytabpcmmkmbchnaa.AI
