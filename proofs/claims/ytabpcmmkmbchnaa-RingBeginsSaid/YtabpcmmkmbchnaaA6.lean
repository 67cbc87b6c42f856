/- Slicing; what makes or changes memory: the plain operations against the machine's. -/
import Derived.Test.YtabpcmmkmbchnaaA5
set_option linter.unusedVariables false
set_option linter.unusedSectionVars false
set_option linter.unusedSimpArgs false
namespace Go.Proofs.Ytabpcmmkmbchnaa.AI
open Go
variable [Val]

variable {X : Nat → Prop} {hp : Hp} {φ : Emb} {w : World} {P : Program}

def EffOk (P : Program) (X : Nat → Prop) (hp : Hp) (φ : Emb) (w : World) (nb : Nat) (s : Sem Value) (e : Eff) : Prop :=
  ∃ y w' φ', s.run P w = .ok y w' ∧ RepA X (e.hp hp nb) φ' w' e.v y ∧ RelH X (e.hp hp nb) φ' w' ∧ Evo hp φ w (e.hp hp nb) φ' w'

theorem ValOk.eff (R : RelH X hp φ w) {nb : Nat} {s : Sem Value} {v : AV} (h : ValOk P X hp φ w s v) : EffOk P X hp φ w nb s (.val v) := by
  obtain ⟨y, hy, hr⟩ := h
  exact ⟨y, w, φ, hy, hr, R, Evo.refl _ _ _⟩

/-! Slicing. -/

def OptRep (X : Nat → Prop) (hp : Hp) (φ : Emb) (w : World) : Option AV → Option Value → Prop
  | none, none => True
  | some a, some v => RepA X hp φ w a v
  | _, _ => False

theorem bound_sound {a : AV} {v : Value} {d most n : Nat} {code : BoundsCode} (hr : RepA X hp φ w a v) (h : boundA (some a) d most = some n) :
    (∀ y, most ≤ y → (Instr.sliceBound v y code).run P w = .ok n w) ∧ n ≤ most := by
  unfold boundA at h
  split at h
  · simp_all
  · rename_i k i he
    simp only [Option.some.injEq] at he; subst he
    have := repA_int hr; subst this
    split at h
    · rename_i hb
      simp only [Option.some.injEq] at h; subst h
      refine ⟨fun y hy => ?_, by omega⟩
      have hc : 0 ≤ i ∧ i ≤ (y : Int) := ⟨hb.1, by omega⟩
      simp [Instr.sliceBound, asIntOf, hc]
    · simp at h
  · simp at h

theorem bounds_sound {isSlice : Bool} {len mc cap l h m : Nat} {lo hi mx : Option AV} {lo' hi' mx' : Option Value} (hlen : len ≤ mc) (hmc : mc ≤ cap)
    (h1 : OptRep X hp φ w lo lo') (h2 : OptRep X hp φ w hi hi') (h3 : OptRep X hp φ w mx mx') (hb : boundsA len mc lo hi mx = some (l, h, m)) :
    ∃ m', (Instr.sliceBounds isSlice len cap lo' hi' mx').run P w = .ok (l, h, m') w ∧ (mx.isSome = true → m' = m) ∧ (mx.isSome = false → m' = cap ∧ m = mc) ∧ l ≤ h ∧ h ≤ m ∧ m ≤ mc := by
  have low : ∀ {h : Nat} {code : BoundsCode} {l : Nat}, boundA lo 0 h = some l → (lo' = none → l = 0) ∧ (∀ v, lo' = some v → (Instr.sliceBound v h code).run P w = .ok l w) ∧ l ≤ h := by
    intro h code l hl
    cases lo with
    | none => cases lo' with
      | none => simp [boundA] at hl; subst hl; exact ⟨fun _ => rfl, by simp, by omega⟩
      | some v => simp [OptRep] at h1
    | some a => cases lo' with
      | none => simp [OptRep] at h1
      | some v =>
        obtain ⟨x, y⟩ := bound_sound (P := P) (code := code) h1 hl
        exact ⟨by simp, fun u hu => by cases hu; exact x h (Nat.le_refl _), y⟩
  unfold boundsA at hb
  cases mx with
  | none =>
    cases mx' with
    | some v => simp [OptRep] at h3
    | none =>
      simp only [Option.bind_eq_some_iff, Option.map_eq_some_iff] at hb
      obtain ⟨h', hh, l', hl, he⟩ := hb
      simp only [Prod.mk.injEq] at he
      obtain ⟨rfl, rfl, rfl⟩ := he
      obtain ⟨r0, r1, r2⟩ := low (code := .sliceB) hl
      cases hi with
      | none =>
        cases hi' with
        | some v => simp [OptRep] at h2
        | none =>
          simp [boundA] at hh; subst hh
          refine ⟨cap, ?_, by simp, by simp, r2, hlen, Nat.le_refl _⟩
          cases lo' with
          | none => rw [r0 rfl]; rfl
          | some v => simp only [Instr.sliceBounds, Option.isSome_none, Bool.false_eq_true, if_false, Sem.run_bind, Sem.run_pure, Result.andThen_ok, r1 v rfl]
      | some a =>
        cases hi' with
        | none => simp [OptRep] at h2
        | some v =>
          obtain ⟨x, y⟩ := bound_sound (P := P) (code := if isSlice then .sliceAcap else .sliceAlen) h2 hh
          refine ⟨cap, ?_, by simp, by simp, r2, y, Nat.le_refl _⟩
          cases lo' with
          | none => rw [r0 rfl]; simp only [Instr.sliceBounds, Sem.run_bind, Sem.run_pure, Result.andThen_ok, x cap hmc]
          | some v => simp only [Instr.sliceBounds, Option.isSome_none, Bool.false_eq_true, if_false, Sem.run_bind, Sem.run_pure, Result.andThen_ok, x cap hmc, r1 v rfl]
  | some am =>
    cases mx' with
    | none => simp [OptRep] at h3
    | some vm =>
      simp only [Option.bind_eq_some_iff] at hb
      obtain ⟨m0, hm0, hb⟩ := hb
      cases hi with
      | none => simp at hb
      | some ah =>
        cases hi' with
        | none => simp [OptRep] at h2
        | some vh =>
          simp only [Option.bind_eq_some_iff, Option.map_eq_some_iff] at hb
          obtain ⟨h', hh, l', hl, he⟩ := hb
          simp only [Prod.mk.injEq] at he
          obtain ⟨rfl, rfl, rfl⟩ := he
          obtain ⟨x1, y1⟩ := bound_sound (P := P) (code := if isSlice then .slice3Acap else .slice3Alen) h3 hm0
          obtain ⟨x2, y2⟩ := bound_sound (P := P) (code := .slice3B) h2 hh
          obtain ⟨r0, r1, r2⟩ := low (code := .slice3C) hl
          refine ⟨m0, ?_, by simp, by simp, r2, y2, y1⟩
          cases lo' with
          | none => rw [r0 rfl]; simp only [Instr.sliceBounds, Option.isSome_some, if_true, Sem.run_bind, Sem.run_pure, Result.andThen_ok, x1 cap hmc, x2 m0 (Nat.le_refl _)]
          | some v => simp only [Instr.sliceBounds, Option.isSome_some, if_true, Sem.run_bind, Sem.run_pure, Result.andThen_ok, x1 cap hmc, x2 m0 (Nat.le_refl _), r1 v rfl]

theorem mul_le_of {a b s : Nat} (h : a ≤ b) : a * s ≤ b * s := Nat.mul_le_mul_right s h

theorem ro_sub {cs : List PV} {b off : Nat} {vals : Nat → Value} (hO : 0 < cs.length → ¬ Avoid X hp φ b) (hv : ∀ i, i < cs.length → w.cell? ⟨b, off + i, none⟩ = some (vals i))
    (hr : ∀ i (hi : i < cs.length), RepP (Avoid X hp φ) w cs[i] (vals i)) (k n size cap : Nat) (hlen : ((cs.drop k).take (n * size)).length = n * size) (hc : n ≤ cap) :
    RepP (Avoid X hp φ) w (.ros size n ((cs.drop k).take (n * size))) (.slice (some ⟨b, off + k, none⟩) n cap) := by
  have hlt : ∀ i, i < ((cs.drop k).take (n * size)).length → k + i < cs.length := by
    intro i hi; simp at hi; omega
  refine .ros size n _ b (off + k) cap (fun i => vals (k + i)) hlen hc (fun h0 => hO (by have := hlt 0 h0; omega)) (fun i hi => ?_) (fun i hi => ?_)
  · have := hv (k + i) (hlt i hi)
    rwa [show off + k + i = off + (k + i) by omega]
  · have := hr (k + i) (hlt i hi)
    simpa using this

theorem extract_bytes (B : ByteArray) (l h : Nat) (hh : h ≤ B.size) : (B.extract l h).data.toList.map UInt8.toNat = ((B.data.toList.map UInt8.toNat).drop l).take (h - l) := by
  simp [ByteArray.data_extract, List.map_drop, List.map_take, List.drop_take]

theorem slice_sound {t : TypeId} {x r : AV} {v : Value} {lo hi mx : Option AV} {lo' hi' mx' : Option Value} (hx : RepA X hp φ w x v)
    (h1 : OptRep X hp φ w lo lo') (h2 : OptRep X hp φ w hi hi') (h3 : OptRep X hp φ w mx mx') (h : sliceOpA P t x lo hi mx = some r) :
    ValOk P X hp φ w (Instr.sliceAt t v lo' hi' mx') r := by
  unfold sliceOpA at h
  split at h
  · -- an array
    rename_i n elem hu
    simp only [Option.bind_eq_some_iff] at h
    obtain ⟨size, hs, h⟩ := h
    split at h
    · rename_i id ver off
      simp only [Option.map_eq_some_iff] at h
      obtain ⟨⟨l, h', m⟩, hb, rfl⟩ := h
      obtain ⟨m', hrun, q1, q2, q3, q4, q5⟩ := bounds_sound (P := P) (isSlice := false) (Nat.le_refl n) (Nat.le_refl n) h1 h2 h3 hb
      have hm : m' = m := by cases hmx : mx.isSome with
        | true => exact q1 hmx
        | false => obtain ⟨a, b⟩ := q2 hmx; omega
      subst hm
      cases hx with
      | ptr _ _ _ a hv ha =>
        refine ⟨.slice (some (if m' = l then a else a.add (l * size))) (h' - l) (m' - l), by simp only [Instr.sliceAt, Sem.run_bind, run_und hu, Result.andThen_ok, Instr.sureAddr, Sem.run_pure, hrun, run_szA hs], ?_⟩
        dsimp only
        split
        · rename_i hml
          rw [show h' - l = 0 by omega, show m' - l = 0 by omega]
          exact .pv _ _ (.zcap _)
        · refine .slice id ver (off + l * size) (h' - l) (m' - l) size true _ (m' - l) hv ⟨by omega, Nat.le_refl _, fun _ => rfl⟩ fun hl hver => .inr ⟨?_, by simp⟩
          rw [ha hl hver, add_none, Nat.add_assoc]
    · rename_i cs off
      simp only [Option.bind_eq_some_iff] at h
      obtain ⟨⟨l, h', m⟩, hb, h⟩ := h
      obtain ⟨m', hrun, q1, q2, q3, q4, q5⟩ := bounds_sound (P := P) (isSlice := false) (Nat.le_refl n) (Nat.le_refl n) h1 h2 h3 hb
      have hm : m' = m := by cases hmx : mx.isSome with
        | true => exact q1 hmx
        | false => obtain ⟨a, b⟩ := q2 hmx; omega
      subst hm
      have hx := repA_pv hx
      cases hx with
      | rop _ _ b base vals hO hv hr =>
        refine ⟨.slice (some (if m' = l then ⟨b, base + off, none⟩ else (⟨b, base + off, none⟩ : Addr).add (l * size))) (h' - l) (m' - l), by simp only [Instr.sliceAt, Sem.run_bind, run_und hu, Result.andThen_ok, Instr.sureAddr, Sem.run_pure, hrun, run_szA hs], ?_⟩
        simp only at h
        split at h
        · rename_i hml
          simp only [Option.some.injEq] at h; subst h
          rw [show h' - l = 0 by omega, show m' - l = 0 by omega]
          exact .pv _ _ (.zcap _)
        · rename_i hml
          split at h
          · rename_i hle
            simp only [Option.some.injEq] at h; subst h
            rw [if_neg hml, add_none, Nat.add_assoc]
            refine .pv _ _ (ro_sub hO hv hr (off + l * size) (h' - l) size (m' - l) ?_ (by omega))
            have e1 : (h' - l) * size + l * size = h' * size := by rw [← Nat.add_mul]; congr 1; omega
            have e2 := mul_le_of (s := size) (show h' ≤ n by omega)
            simp only [List.length_take, List.length_drop]
            omega
          · simp at h
    · simp at h
  · -- a slice
    rename_i elem hu
    simp only [Option.bind_eq_some_iff] at h
    obtain ⟨size, hs, h⟩ := h
    have mrun : ∀ {a : Option Addr} {len cap l h' m' : Nat}, (Instr.sliceBounds true len cap lo' hi' mx').run P w = .ok (l, h', m') w →
        (Instr.sliceAt t (.slice a len cap) lo' hi' mx').run P w = .ok (.slice (if m' = l then a else a.map (·.add (l * size))) (h' - l) (m' - l)) w := by
      intro a len cap l h' m' hrun
      have hsl : (Instr.slice t (.slice a len cap) lo' hi' mx').run P w = .ok (.slice (if m' = l then a else a.map (·.add (l * size))) (h' - l) (m' - l)) w := by
        simp only [Instr.slice, Sem.run_bind, run_und hu, Result.andThen_ok, hrun, run_szA hs, Sem.run_pure]
      simp only [Instr.sliceAt, Sem.run_bind, run_und hu, Result.andThen_ok, hsl]
    split at h
    · simp only [Option.map_eq_some_iff] at h
      obtain ⟨⟨l, h', m⟩, hb, rfl⟩ := h
      obtain ⟨m', hrun, q1, q2, q3, q4, q5⟩ := bounds_sound (P := P) (isSlice := true) (Nat.le_refl 0) (Nat.le_refl 0) h1 h2 h3 hb
      have := repA_nilSlice hx; subst this
      have hm : m' = 0 := by cases hmx : mx.isSome with
        | true => have := q1 hmx; omega
        | false => exact (q2 hmx).1
      subst hm
      refine ⟨_, mrun hrun, ?_⟩
      rw [show l = 0 by omega, show h' = 0 by omega]
      exact .pv _ _ .nilSlice
    · simp only [Option.map_eq_some_iff] at h
      obtain ⟨⟨l, h', m⟩, hb, rfl⟩ := h
      obtain ⟨m', hrun, q1, q2, q3, q4, q5⟩ := bounds_sound (P := P) (isSlice := true) (Nat.le_refl 0) (Nat.le_refl 0) h1 h2 h3 hb
      obtain ⟨a, rfl⟩ := repA_zcap hx
      have hm : m' = 0 := by cases hmx : mx.isSome with
        | true => have := q1 hmx; omega
        | false => exact (q2 hmx).1
      subst hm
      refine ⟨_, mrun hrun, ?_⟩
      rw [show l = 0 by omega, show h' = 0 by omega]
      exact .pv _ _ (.zcap a)
    · rename_i id ver off len mc esz xc
      split at h
      · rename_i hes
        subst hes
        simp only [Option.map_eq_some_iff] at h
        obtain ⟨⟨l, h', m⟩, hb, rfl⟩ := h
        cases hx with
        | slice _ _ _ _ _ _ _ a cap hv hln ha =>
          obtain ⟨g1, g2, g3⟩ := hln
          obtain ⟨m', hrun, q1, q2, q3, q4, q5⟩ := bounds_sound (P := P) (isSlice := true) g1 g2 h1 h2 h3 hb
          refine ⟨_, mrun hrun, ?_⟩
          have hmm : m ≤ m' := by cases hmx : mx.isSome with
            | true => rw [q1 hmx]; exact Nat.le_refl _
            | false => obtain ⟨x, y⟩ := q2 hmx; omega
          have hmc' : m' ≤ cap := by cases hmx : mx.isSome with
            | true => have := q1 hmx; omega
            | false => obtain ⟨x, y⟩ := q2 hmx; omega
          simp only
          split
          · rename_i hz
            simp only [Bool.and_eq_true, beq_iff_eq] at hz
            have := q1 hz.1
            rw [if_pos (by omega), show h' - l = 0 by omega, show m' - l = 0 by omega]
            exact .pv _ _ (.zcap a)
          · have hsome : (if m' = l then some a else (some a).map (·.add (l * esz))) = some (if m' = l then a else a.add (l * esz)) := by split <;> rfl
            rw [hsome]
            refine .slice id ver (off + l * esz) (h' - l) (m - l) esz _ _ (m' - l) hv ⟨by omega, by omega, fun hxc => ?_⟩ fun hl hver => ?_
            · cases hmx : mx.isSome with
              | true => rw [q1 hmx]
              | false =>
                obtain ⟨x, y⟩ := q2 hmx
                simp [hmx] at hxc
                have := g3 hxc
                omega
            · by_cases hml : m' = l
              · left; omega
              · right
                rcases ha hl hver with g4 | ⟨g4, g5⟩
                · omega
                · rw [if_neg hml, g4, add_none, Nat.add_assoc]
                  refine ⟨rfl, fun hxc => ?_⟩
                  simp only [Bool.or_eq_false_iff] at hxc
                  obtain ⟨c, T, fr, hc, hsz⟩ := g5 hxc.1
                  refine ⟨c, T, fr, hc, ?_⟩
                  have e1 : l * esz + (m' - l) * esz = m' * esz := by rw [← Nat.add_mul]; congr 1; omega
                  have e2 := mul_le_of (s := esz) hmc'
                  omega
      · simp at h
    · rename_i esz len cs
      split at h
      · rename_i hes
        subst hes
        simp only [Option.map_eq_some_iff] at h
        obtain ⟨⟨l, h', m⟩, hb, rfl⟩ := h
        have hx := repA_pv hx
        cases hx with
        | ros _ _ _ b off cap vals hl hc hO hv hr =>
          obtain ⟨m', hrun, q1, q2, q3, q4, q5⟩ := bounds_sound (P := P) (isSlice := true) (Nat.le_refl len) hc h1 h2 h3 hb
          refine ⟨_, mrun hrun, ?_⟩
          have hmm : m ≤ m' := by cases hmx : mx.isSome with
            | true => rw [q1 hmx]; exact Nat.le_refl _
            | false => obtain ⟨x, y⟩ := q2 hmx; omega
          split
          · rename_i hz
            simp only [Bool.and_eq_true, beq_iff_eq] at hz
            have := q1 hz.1
            rw [if_pos (by omega), show h' - l = 0 by omega, show m' - l = 0 by omega]
            exact .pv _ _ (.zcap _)
          · have e1 : (h' - l) * esz + l * esz = h' * esz := by rw [← Nat.add_mul]; congr 1; omega
            have e2 := mul_le_of (s := esz) (show h' ≤ len by omega)
            have hlen : ((cs.drop (l * esz)).take ((h' - l) * esz)).length = (h' - l) * esz := by
              simp only [List.length_take, List.length_drop]; omega
            by_cases hml : m' = l
            · rw [if_pos hml]
              have h0 : h' - l = 0 := by omega
              have hnil : (cs.drop (l * esz)).take ((h' - l) * esz) = [] := by rw [h0]; simp
              rw [hnil]
              exact .pv _ _ (.ros esz (h' - l) [] b off (m' - l) (fun _ => undef) (by simp [h0]) (by omega) (by simp) (by simp) (by simp))
            · rw [if_neg hml]
              simp only [Option.map_some, add_none]
              exact .pv _ _ (ro_sub hO hv hr (l * esz) (h' - l) esz (m' - l) hlen (by omega))
      · simp at h
    · simp at h
  · -- a string
    rename_i hu
    split at h
    · rename_i s
      simp only [Option.map_eq_some_iff] at h
      obtain ⟨⟨l, h', m⟩, hb, rfl⟩ := h
      cases mx' with
      | some _ => simp [OptRep] at h3
      | none =>
        obtain ⟨B, rfl, hB⟩ := repA_str hx
        have hsz : s.length = B.size := by subst hB; rw [List.length_map, Array.length_toList]; rfl
        rw [hsz] at hb
        obtain ⟨m', hrun, q1, q2, q3, q4, q5⟩ := bounds_sound (P := P) (isSlice := false) (Nat.le_refl B.size) (Nat.le_refl B.size) h1 h2 h3 hb
        refine ⟨.string (B.extract l h'), ?_, mk_str _ ?_⟩
        · have hsl : (Instr.slice t (.string B) lo' hi' none).run P w = .ok (.string (B.extract l h')) w := by
            simp only [Instr.slice, Sem.run_bind, run_und hu, Result.andThen_ok, hrun, Sem.run_pure, Option.isSome_none, Bool.false_eq_true, if_false]
          simp only [Instr.sliceAt, Sem.run_bind, run_und hu, Result.andThen_ok, hsl]
        · rw [extract_bytes B l h' (by omega), hB]
    · simp at h
  · simp at h

end Go.Proofs.Ytabpcmmkmbchnaa.AI
