/- Append, copy, the least and greatest; all operations that enter no function. -/
import Derived.Test.YtabpcmmkmbchnaaA8
set_option linter.unusedVariables false
set_option linter.unusedSectionVars false
set_option linter.unusedSimpArgs false
namespace Go.Proofs.Ytabpcmmkmbchnaa.AI
open Go
variable [Val]

variable {X : Nat → Prop} {hp : Hp} {φ : Emb} {w : World} {P : Program}

/-- What is appended: the machine's own words for it. -/
structure Src (P : Program) (w : World) (elem : TypeId) (size : Nat) (ts : Array TypeId) (x : Value) (n : Nat) (news : List Value) : Prop where
  len : news.length = n * size
  zeros : ∃ xt d, ts[1]? = some xt ∧ P.underlying xt = some d ∧
    (((d = .string ∨ ∃ e, d = .slice e) ∧ (∀ w2 : World, w2.heap = w.heap → (Builtin.lenOf x).run P w2 = .ok n w2) ∧ (∀ w2 : World, w2.heap = w.heap → (Builtin.firstCells size n x).run P w2 = .ok news.toArray w2)) ∨
     ((∃ k, d = .int k) ∧ ∃ m : Int, x = .int .i64 m ∧ 0 ≤ m ∧ m ≤ 1099511627776 ∧ n = m.toNat ∧ m * (P.info? elem).get!.bytes ≤ 140737488355328 ∧
        ∀ w2 : World, (if n * size = 0 then pure #[] else do pure (Builtin.zeroCells (← zeroValue elem).cells n) : Sem (Array Value)).run P w2 = .ok news.toArray w2))

theorem source_sound (R : RelH X hp φ w) {elem : TypeId} {info : TypeInfo} (hi : P.info? elem = some info) {ts : Array TypeId} {xt : TypeId} (ht : ts[1]? = some xt) {x : AV} {v : Value} {n : Nat} {news : List AV}
    (hx : RepA X hp φ w x v) (h : sourceA P hp elem info xt x = some (n, news)) :
    ∃ vs, RepL X hp φ w news vs ∧ Src P w elem info.size ts v n vs := by
  unfold sourceA at h
  split at h
  · rename_i k hu
    split at h
    · rename_i m
      split at h
      · rename_i hc
        obtain ⟨c1, c2, c3⟩ := hc
        simp only [Option.bind_eq_some_iff] at h
        obtain ⟨z, hz, h⟩ := h
        split at h
        · rename_i hl
          obtain ⟨hl, hok⟩ := hl
          simp only [Option.some.injEq, Prod.mk.injEq] at h; obtain ⟨rfl, rfl⟩ := h
          have := repA_int hx; subst this
          obtain ⟨zv, hzr, hze, hzl⟩ := zero_cells (hp := hp) (φ := φ) (w := w) hz
          have hzs : zv.cells.size = info.size := by have := hzl.1; simp at this; omega
          have hrep := zeros_rep hzl (m.toNat * info.size) (fun h0 h1 => h0 (by rw [← hl, h1]; simp))
          refine ⟨_, hrep, ⟨by have := hrep.1; rw [zeros_length] at this; exact this.symm, xt, _, ht, hu, .inr ⟨⟨_, rfl⟩, m, rfl, c1, c2, rfl, by rw [hi]; exact c3, fun w2 => ?_⟩⟩⟩
          obtain ⟨zv2, hzr2, hze2⟩ := run_zeroA (w := w2) hz
          have hzz : zv2 = zv := by
            have a1 : (zeroValue elem).run P w = .ok zv w := hzr
            unfold zeroValue typeInfo at hzr hzr2
            simp only [Sem.run_bind, run_program, Result.andThen_ok, hi, Sem.run_pure] at hzr hzr2
            split at hzr2 <;> simp_all
          subst hzz
          rw [Sem.run_ite]
          split
          · rename_i h0
            simp [h0]
          · simp only [Sem.run_bind, hzr2, Result.andThen_ok, Sem.run_pure]
            congr 1
            apply Array.ext'
            simp [Builtin.zeroCells, hzs]
        · simp at h
      · simp at h
    · simp at h
  · rename_i hu
    obtain ⟨vs, r1, r2, r3, r4⟩ := src_sound (P := P) R hx h
    refine ⟨vs, r1, ⟨r2, xt, _, ht, hu, .inl ⟨.inl rfl, r3, fun w2 hw => ?_⟩⟩⟩
    have := r4 n (Nat.le_refl _) w2 hw
    rw [← r2, List.take_length] at this
    exact this
  · rename_i e hu
    obtain ⟨vs, r1, r2, r3, r4⟩ := src_sound (P := P) R hx h
    refine ⟨vs, r1, ⟨r2, xt, _, ht, hu, .inl ⟨.inr ⟨_, rfl⟩, r3, fun w2 hw => ?_⟩⟩⟩
    have := r4 n (Nat.le_refl _) w2 hw
    rw [← r2, List.take_length] at this
    exact this
  · simp at h

set_option maxHeartbeats 1600000 in
theorem append_run {elem : TypeId} {info : TypeInfo} {ts : Array TypeId} {st ty : TypeId} (h0 : ts[0]? = some st) (hu : P.underlying st = some (.slice elem)) (hi : P.info? elem = some info)
    {x : Value} {n : Nat} {news : List Value} (hs : Src P w elem info.size ts x n news) (base : Option Addr) (sLen sCap : Nat) :
    (sLen + n ≤ sCap → (Builtin.append_ ts ty #[.slice base sLen sCap, x]).run P w =
      ((match base with | some a => storeCells (a.add (sLen * info.size)) news | none => pure () : Sem Unit).run P w).andThen fun _ w' => .ok (.slice base (sLen + n) sCap) w') ∧
    (sCap < sLen + n → (2 * (sLen + n) + 768) * info.bytes ≤ 281474976710656 → sLen + n ≤ 1099511627776 → ∀ old zv, (∀ w2 : World, w2.heap = w.heap → (Builtin.firstCells info.size sLen (.slice base sLen sCap)).run P w2 = .ok old w2) → info.zero = some zv →
      ∃ cap, sLen + n ≤ cap ∧ (Builtin.append_ ts ty #[.slice base sLen sCap, x]).run P w =
        .ok (.slice (some ⟨w.heap.size, 0, none⟩) (sLen + n) cap)
          { w with heap := w.heap.push (.cells (old ++ news.toArray ++ Builtin.zeroCells zv.cells (cap - (sLen + n))) elem), drawn := w.drawn + 1 }) := by
  obtain ⟨hlen, xt, d, ht, hd, hz⟩ := hs
  have hsz : (sizeOf elem).run P w = .ok info.size w := run_szA (by simp [szA, hi])
  have hgrow : sCap < sLen + n → (2 * (sLen + n) + 768) * info.bytes ≤ 281474976710656 → ¬ (Builtin.nextslicecap (sLen + n) sCap * info.bytes > 2 ^ 48) := by
    intro h1 h2
    have : Builtin.nextslicecap (sLen + n) sCap ≤ 2 * (sLen + n) + 768 := by
      unfold Builtin.nextslicecap
      split
      · omega
      · split
        · omega
        · simp only [Builtin.growBy]
          repeat' split
          all_goals omega
    have := Nat.mul_le_mul_right info.bytes this
    omega
  have hinfo : ∀ w2 : World, (typeInfo elem).run P w2 = .ok info w2 := fun w2 => run_info hi
  have hmax : IntKind.i64.max = 9223372036854775807 := by decide
  have hforced : (Question.appendCap (sLen + n) sCap elem).forced = false := rfl
  have fin1 : ∀ (a : Array Value), (Array.map (fun x => x) a) = a := fun a => by simp
  rcases hz with ⟨hz, r1, r2⟩ | ⟨hz, m, rfl, m1, m2, rfl, m3, r2⟩
  · have l1 := r1 w rfl
    constructor
    · intro hle
      have l2 := r2 w rfl
      rcases hz with rfl | ⟨e, rfl⟩ <;> cases base <;> simp [Builtin.append_, h0, ht, run_und hu, hsz, run_und hd, l1, hle, l2]
    · intro hlt hb hs40 old zv hold hzero
      refine ⟨(Question.appendCap (sLen + n) sCap elem).cut (w.tape w.drawn (.appendCap (sLen + n) sCap elem)), by simp [Question.cut], ?_⟩
      have c0 : ¬ (sLen + n ≤ sCap) := by omega
      have c1 : ¬ ((9223372036854775807 : Int) < (sLen : Int) + (n : Int)) := by omega
      have c2 : ¬ (281474976710656 < Builtin.nextslicecap (sLen + n) sCap * info.bytes) := by have := hgrow hlt hb; omega
      have l2 := r2 w.drew rfl
      have l3 := hold w.drew rfl
      have hzv : (zeroValue elem).run P w.drew = .ok zv w.drew := by simp [zeroValue, typeInfo, hi, hzero]
      rcases hz with rfl | ⟨e, rfl⟩ <;> (simp [Builtin.append_, h0, ht, run_und hu, hsz, run_und hd, l1, hinfo, c0, c1, c2, hmax, hforced]; simp [l2, l3, hzv, newRow]; rfl)
  · obtain ⟨k, rfl⟩ := hz
    have hw := wrap_small m1 m2
    have hb0 : ¬ (281474976710656 < m * (info.bytes : Int)) := by
      have hg : (P.info? elem).get! = info := by rw [hi]; rfl
      rw [hg] at m3; omega
    have hneg : ¬ (m < 0) := by omega
    constructor
    · intro hle
      have l2 := r2 w
      rw [Sem.run_ite] at l2
      by_cases h00 : m.toNat * info.size = 0
      · rw [if_pos h00] at l2
        have l3 : news = [] := by
          simp only [Sem.run_pure, Result.ok.injEq, and_true] at l2
          have := congrArg Array.toList l2
          simpa using this.symm
        subst l3
        cases base <;> simp [Builtin.append_, h0, ht, run_und hu, hsz, run_und hd, hinfo, asInt, asIntOf, hw, hneg, hb0, hle, h00]
      · rw [if_neg h00] at l2
        cases base <;> simp [Builtin.append_, h0, ht, run_und hu, hsz, run_und hd, hinfo, asInt, asIntOf, hw, hneg, hb0, hle, h00]
        · cases hzr : (zeroValue elem).run P w with
          | ok zv w3 =>
            simp only [Sem.run_bind, hzr, Result.andThen_ok, Sem.run_pure, Result.ok.injEq] at l2
            obtain ⟨q1, rfl⟩ := l2
            simp
          | halt x w3 => simp [hzr] at l2
        · cases hzr : (zeroValue elem).run P w with
          | ok zv w3 =>
            simp only [Sem.run_bind, hzr, Result.andThen_ok, Sem.run_pure, Result.ok.injEq] at l2
            obtain ⟨q1, rfl⟩ := l2
            simp [q1]
          | halt x w3 => simp [hzr] at l2
    · intro hlt hb hs40 old zv hold hzero
      refine ⟨(Question.appendCap (sLen + m.toNat) sCap elem).cut (w.tape w.drawn (.appendCap (sLen + m.toNat) sCap elem)), by simp [Question.cut], ?_⟩
      have c0 : ¬ (sLen + m.toNat ≤ sCap) := by omega
      have c1 : ¬ ((9223372036854775807 : Int) < (sLen : Int) + (m.toNat : Int)) := by omega
      have c1' : ¬ ((9223372036854775807 : Int) < (sLen : Int) + m) := by omega
      have c2 : ¬ (281474976710656 < Builtin.nextslicecap (sLen + m.toNat) sCap * info.bytes) := by have := hgrow hlt hb; omega
      have l2 := r2 w.drew
      have l3 := hold w.drew rfl
      have hzv : (zeroValue elem).run P w.drew = .ok zv w.drew := by simp [zeroValue, typeInfo, hi, hzero]
      rw [Sem.run_ite] at l2
      have hm0 : max m 0 = m := by omega
      by_cases h00 : m.toNat * info.size = 0
      · rw [if_pos h00] at l2
        have l4 : news = [] := by
          simp only [Sem.run_pure, Result.ok.injEq, and_true] at l2
          have := congrArg Array.toList l2
          simpa using this.symm
        subst l4
        simp [Builtin.append_, h0, ht, run_und hu, hsz, run_und hd, hinfo, asInt, asIntOf, hw, hneg, hb0, c0, c1, c1', hm0, c2, hmax, hforced, h00]
        simp [l3, hzv, newRow]
        rfl
      · rw [if_neg h00] at l2
        simp only [Sem.run_bind, hzv, Result.andThen_ok, Sem.run_pure, Result.ok.injEq, and_true] at l2
        simp [Builtin.append_, h0, ht, run_und hu, hsz, run_und hd, hinfo, asInt, asIntOf, hw, hneg, hb0, c0, c1, c1', hm0, c2, hmax, hforced, h00]
        simp [l3, hzv, newRow, l2]
        rfl

end Go.Proofs.Ytabpcmmkmbchnaa.AI
