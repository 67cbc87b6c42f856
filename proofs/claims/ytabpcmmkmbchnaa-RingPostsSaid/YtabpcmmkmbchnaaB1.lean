/- Blocks that a call of plain values has built, among the blocks of the one who called. -/
import Derived.Test.YtabpcmmkmbchnaaA11
set_option linter.unusedVariables false
set_option linter.unusedSectionVars false
set_option linter.unusedSimpArgs false
namespace Go.Proofs.Ytabpcmmkmbchnaa.AI
open Go
variable [Val]
variable {X : Nat → Prop} {hp : Hp} {φ : Emb} {w : World}

theorem RepP.imp {O O' : Nat → Prop} (hO : ∀ b, O' b → O b) {p : PV} {v : Value} (h : RepP O w p v) : RepP O' w p v := by
  induction h with
  | bool b => exact .bool b
  | int k n => exact .int k n
  | str s B h => exact .str s B h
  | nilPtr => exact .nilPtr
  | nilSlice => exact .nilSlice
  | nilMap => exact .nilMap
  | nilFunc => exact .nilFunc
  | nilIface => exact .nilIface
  | zcap a => exact .zcap a
  | fn f => exact .fn f
  | sym i v h => exact .sym i v h
  | ros esz len cells b off cap vals hl hc hN hv hr ih => exact .ros esz len cells b off cap vals hl hc (fun h0 h => hN h0 (hO _ h)) hv ih
  | rop cells o b base vals hN hv hr ih => exact .rop cells o b base vals (fun h0 h => hN h0 (hO _ h)) hv ih

theorem mapM_some {α β : Type} {f : α → Option β} : ∀ {l : List α} {ps : List β}, l.mapM f = some ps → ps.length = l.length ∧ ∀ (i : Nat) (b : β), ps[i]? = some b → ∃ a, l[i]? = some a ∧ f a = some b
  | [], ps, h => by simp at h; subst h; simp
  | x :: l, ps, h => by
    simp only [List.mapM_cons, Option.bind_eq_bind, Option.bind_eq_some_iff, Option.pure_def, Option.some.injEq] at h
    obtain ⟨p, hp', ps', h', rfl⟩ := h
    obtain ⟨e1, e2⟩ := mapM_some h'
    refine ⟨by simp [e1], fun i b hb => ?_⟩
    cases i with
    | zero => simp at hb; subst hb; exact ⟨x, rfl, hp'⟩
    | succ i => simpa using e2 i b (by simpa using hb)

theorem hf_nil (i : Nat) : hf [] i = .gone 0 := by simp [hf]

theorem own_nil {φ : Emb} {b : Nat} : ¬ Own (hf []) φ b := by
  rintro ⟨id, hl, _⟩
  rw [hf_nil] at hl; simp [Blk.live] at hl

theorem plain_moves {hp' : Hp} {φ' : Emb} {X' : Nat → Prop} (hO : ∀ b, Avoid X' hp' φ' b → Avoid X hp φ b) {v : AV} {y : Value} (hpl : plainV v = true) (hv : RepA X hp φ w v y) : RepA X' hp' φ' w v y := by
  cases v with
  | pv p => cases hv with | pv _ _ hv => exact .pv _ _ (hv.imp hO)
  | agg cs =>
    obtain ⟨vs, rfl, hl⟩ := repA_agg hv
    refine RepL.agg ⟨hl.1, fun i x hx => ?_⟩
    obtain ⟨u, hu, hr⟩ := hl.2 i x hx
    refine ⟨u, hu, ?_⟩
    have := List.all_eq_true.1 hpl x (List.mem_of_getElem? hx)
    cases x with
    | pv p => cases hr with | pv _ _ hr => exact .pv _ _ (hr.imp hO)
    | _ => simp [toPV] at this
  | _ => simp [plainV] at hpl

theorem shA_sound {n len : Nat} {X1 : Nat → Prop} {hp1 hp2 : Hp} {φ1 φ2 : Emb} {w' : World} (hO : ∀ b, Avoid X hp2 φ2 b → Avoid X1 hp1 φ1 b)
    (hb : ∀ id, id < len → (hp2 (id + n)).ver = (hp1 id).ver ∧ (hp2 (id + n)).live = (hp1 id).live ∧ φ2 (id + n) = φ1 id) {a a' : AV} {u : Value} (h : shA n len a = some a') (hr : RepA X1 hp1 φ1 w' a u) : RepA X hp2 φ2 w' a' u := by
  cases a with
  | pv p =>
    simp only [shA, Option.some.injEq] at h; subst h
    cases hr with | pv _ _ hr => exact .pv _ _ (hr.imp hO)
  | ptr id ver off =>
    simp only [shA] at h
    split at h
    · rename_i hlt
      simp only [Option.some.injEq] at h; subst h
      obtain ⟨e1, e2, e3⟩ := hb id hlt
      cases hr with
      | ptr _ _ _ a h1 h2 => exact .ptr _ _ _ _ (by rw [e1]; exact h1) (fun hl hv => by rw [e3]; exact h2 (by rw [← e2]; exact hl) (by rw [← e1]; exact hv))
    · simp at h
  | slice id ver off l mc esz xc =>
    simp only [shA] at h
    split at h
    · rename_i hlt
      simp only [Option.some.injEq] at h; subst h
      obtain ⟨e1, e2, e3⟩ := hb id hlt
      cases hr with
      | slice _ _ _ _ _ _ _ a cap h1 h2 h3 => exact .slice _ _ _ _ _ _ _ _ _ (by rw [e1]; exact h1) h2 (fun hl hv => by rw [e3]; exact h3 (by rw [← e2]; exact hl) (by rw [← e1]; exact hv))
    · simp at h
  | _ => simp [shA] at h

theorem shL_sound {n len : Nat} {X1 : Nat → Prop} {hp1 hp2 : Hp} {φ1 φ2 : Emb} {w' : World} (hO : ∀ b, Avoid X hp2 φ2 b → Avoid X1 hp1 φ1 b)
    (hb : ∀ id, id < len → (hp2 (id + n)).ver = (hp1 id).ver ∧ (hp2 (id + n)).live = (hp1 id).live ∧ φ2 (id + n) = φ1 id) {cs cs' : List AV} {us : List Value} (h : cs.mapM (shA n len) = some cs') (hr : RepL X1 hp1 φ1 w' cs us) : RepL X hp2 φ2 w' cs' us := by
  obtain ⟨m1, m2⟩ := mapM_some h
  refine ⟨by rw [m1]; exact hr.1, fun i x hx => ?_⟩
  obtain ⟨a, ha, hax⟩ := m2 i x hx
  obtain ⟨u, hu, hru⟩ := hr.2 i a ha
  exact ⟨u, hu, shA_sound hO hb hax hru⟩

theorem shV_sound {n len : Nat} {X1 : Nat → Prop} {hp1 hp2 : Hp} {φ1 φ2 : Emb} {w' : World} (hO : ∀ b, Avoid X hp2 φ2 b → Avoid X1 hp1 φ1 b)
    (hb : ∀ id, id < len → (hp2 (id + n)).ver = (hp1 id).ver ∧ (hp2 (id + n)).live = (hp1 id).live ∧ φ2 (id + n) = φ1 id) {a a' : AV} {u : Value} (h : shV n len a = some a') (hr : RepA X1 hp1 φ1 w' a u) : RepA X hp2 φ2 w' a' u := by
  cases a with
  | agg cs =>
    simp only [shV, Option.map_eq_some_iff] at h
    obtain ⟨cs', hcs, rfl⟩ := h
    obtain ⟨vs, rfl, hl⟩ := repA_agg hr
    exact RepL.agg (shL_sound hO hb hcs hl)
  | _ => exact shA_sound hO hb (by simpa only [shV] using h) hr

theorem shR_sound {n len : Nat} {X1 : Nat → Prop} {hp1 hp2 : Hp} {φ1 φ2 : Emb} {w' : World} (hO : ∀ b, Avoid X hp2 φ2 b → Avoid X1 hp1 φ1 b)
    (hb : ∀ id, id < len → (hp2 (id + n)).ver = (hp1 id).ver ∧ (hp2 (id + n)).live = (hp1 id).live ∧ φ2 (id + n) = φ1 id) {a a' : AV} {u : Value} (h : shR n len a = some a') (hr : RepA X1 hp1 φ1 w' a u) : RepA X hp2 φ2 w' a' u := by
  cases a with
  | tuple cs =>
    simp only [shR, Option.map_eq_some_iff] at h
    obtain ⟨cs', hcs, rfl⟩ := h
    obtain ⟨vs, rfl, hl⟩ := repA_tuple hr
    obtain ⟨m1, m2⟩ := mapM_some hcs
    refine RepL.tuple ⟨by rw [m1]; exact hl.1, fun i x hx => ?_⟩
    obtain ⟨a, ha, hax⟩ := m2 i x hx
    obtain ⟨u, hu, hru⟩ := hl.2 i a ha
    exact ⟨u, hu, shV_sound hO hb hax hru⟩
  | _ => exact shV_sound hO hb (by simpa only [shR] using h) hr

theorem shA_cell {n len : Nat} {a a' : AV} (h : shA n len a = some a') (hc : a.isCell = true) : a'.isCell = true := by
  cases a <;> simp only [shA] at h <;> (try split at h) <;> simp at h <;> subst h <;> rfl

theorem addHp_in {nb : Nat} {bs : List Blk} {id : Nat} (h : id < bs.length) : addHp hp nb bs (id + nb) = bs.getD id (.gone 0) := by
  unfold addHp
  rw [if_pos (by omega), Nat.add_sub_cancel]

theorem addHp_out {nb : Nat} {bs : List Blk} {id : Nat} (h : ¬ (nb ≤ id ∧ id < nb + bs.length)) : addHp hp nb bs id = hp id := by
  unfold addHp
  rw [if_neg h]

/-- What a call of plain values has built stands beside what was. -/
theorem add_sound (R : RelH X hp φ w) {nb : Nat} {h1 bs : List Blk} (hbs : h1.mapM (shB nb h1.length) = some bs) (hg : ∀ id, nb ≤ id → id < nb + bs.length → hp id = .gone 0) {φ1 : Emb} {w' : World} {v0 v : AV} {y : Value}
    (r1 : RepA (Avoid X hp φ) (hf h1) φ1 w' v0 y) (r2 : RelH (Avoid X hp φ) (hf h1) φ1 w') (r3 : Evo (hf []) φ w (hf h1) φ1 w') (hv : shR nb h1.length v0 = some v) :
    ∃ φ2, RepA X (addHp hp nb bs) φ2 w' v y ∧ RelH X (addHp hp nb bs) φ2 w' ∧ Evo hp φ w (addHp hp nb bs) φ2 w' := by
  obtain ⟨m1, m2⟩ := mapM_some hbs
  let φ2 : Emb := fun id => if nb ≤ id ∧ id < nb + bs.length then φ1 (id - nb) else φ id
  have hin : ∀ id, id < h1.length → ∃ b, shB nb h1.length (hf h1 id) = some b ∧ addHp hp nb bs (id + nb) = b ∧ φ2 (id + nb) = φ1 id := by
    intro id hid
    have hid' : id < bs.length := by omega
    obtain ⟨a, ha, hax⟩ := m2 id bs[id] (List.getElem?_eq_getElem hid')
    refine ⟨bs[id], ?_, ?_, ?_⟩
    · unfold hf
      rw [List.getD_eq_getElem?_getD, ha]
      exact hax
    · rw [addHp_in hid', List.getD_eq_getElem?_getD, List.getElem?_eq_getElem hid']
      rfl
    · show (if _ then _ else _) = _
      rw [if_pos (by omega), Nat.add_sub_cancel]
  have hb : ∀ id, id < h1.length → (addHp hp nb bs (id + nb)).ver = (hf h1 id).ver ∧ (addHp hp nb bs (id + nb)).live = (hf h1 id).live ∧ φ2 (id + nb) = φ1 id := by
    intro id hid
    obtain ⟨b, e1, e2, e3⟩ := hin id hid
    rw [e2]
    cases hbk : hf h1 id with
    | gone ver =>
      rw [hbk] at e1
      simp only [shB, Option.some.injEq] at e1; subst e1
      exact ⟨rfl, rfl, e3⟩
    | cells ver cs =>
      rw [hbk] at e1
      simp only [shB, Option.map_eq_some_iff] at e1
      obtain ⟨cs', _, rfl⟩ := e1
      exact ⟨rfl, rfl, e3⟩
  have hlive1 : ∀ id, (hf h1 id).live = true → id < h1.length := by
    intro id hl
    rcases Nat.lt_or_ge id h1.length with h | h
    · exact h
    · unfold hf at hl
      rw [List.getD_eq_getElem?_getD, List.getElem?_eq_none h] at hl
      simp [Blk.live] at hl
  -- a live block is an old one, or a new one
  have hcase : ∀ id, (addHp hp nb bs id).live = true → ((hp id).live = true ∧ addHp hp nb bs id = hp id ∧ φ2 id = φ id) ∨ (∃ j, j < h1.length ∧ id = j + nb ∧ (hf h1 j).live = true ∧ φ2 id = φ1 j) := by
    intro id hl
    by_cases h : nb ≤ id ∧ id < nb + bs.length
    · right
      refine ⟨id - nb, by omega, by omega, ?_, ?_⟩
      · have := (hb (id - nb) (by omega)).2.1
        rw [Nat.sub_add_cancel h.1] at this
        rw [← this]; exact hl
      · show (if _ then _ else _) = _
        rw [if_pos h]
    · left
      rw [addHp_out h] at hl ⊢
      refine ⟨hl, rfl, ?_⟩
      show (if _ then _ else _) = _
      rw [if_neg h]
  have hO : ∀ b, Avoid X (addHp hp nb bs) φ2 b → Avoid (Avoid X hp φ) (hf h1) φ1 b := by
    rintro b (⟨id, hl, rfl⟩ | hx)
    · rcases hcase id hl with ⟨h1', _, e⟩ | ⟨j, _, _, hj, e⟩
      · right; left; exact ⟨id, h1', by rw [e]⟩
      · left; exact ⟨j, hj, by rw [e]⟩
    · right; right; exact hx
  have hnew : ∀ j, (hf h1 j).live = true → w.heap.size ≤ (φ1 j).1 := by
    intro j hj
    rcases r3.own _ ⟨j, hj, rfl⟩ with h | h
    · exact absurd h own_nil
    · exact h
  have ev : Evo hp φ w (addHp hp nb bs) φ2 w' := by
    refine ⟨⟨r3.ext.os, r3.ext.tape, r3.ext.output, r3.ext.size, fun b hb' _ => r3.ext.keep b hb' own_nil, r3.ext.shape⟩, fun id => ?_, fun id hl hvr => ?_, ?_⟩
    · by_cases h : nb ≤ id ∧ id < nb + bs.length
      · rw [hg id h.1 h.2]; exact Nat.zero_le _
      · rw [addHp_out h]; exact Nat.le_refl _
    · rcases hcase id hl with ⟨h1', e1, e⟩ | ⟨j, hj, rfl, hjl, e⟩
      · exact ⟨h1', e⟩
      · exfalso
        rw [(hb j hj).1, hg (j + nb) (by omega) (by omega)] at hvr
        have := r3.same j hjl (by rw [hf_nil]; exact hvr)
        rw [hf_nil] at this
        simp [Blk.live] at this
    · rintro b ⟨id, hl, rfl⟩
      rcases hcase id hl with ⟨h1', _, e⟩ | ⟨j, _, _, hj, e⟩
      · left; exact ⟨id, h1', by rw [e]⟩
      · right; rw [e]; exact hnew j hj
  refine ⟨φ2, shR_sound hO hb hv r1, ?_, ev⟩
  refine ⟨fun b hx => r2.far b (.inr hx), fun i j hi hj he => ?_, fun id ver cs hc => ?_⟩
  · rcases hcase i hi with ⟨a1, _, a2⟩ | ⟨i', a0, rfl, a1, a2⟩ <;> rcases hcase j hj with ⟨b1, _, b2⟩ | ⟨j', b0, rfl, b1, b2⟩
    · rw [a2, b2] at he; exact R.inj i j a1 b1 he
    · rw [a2, b2] at he
      have h1' := Own.lt R ⟨i, a1, rfl⟩
      have h2' := hnew j' b1
      omega
    · rw [a2, b2] at he
      have h1' := Own.lt R ⟨j, b1, rfl⟩
      have h2' := hnew i' a1
      omega
    · rw [a2, b2] at he
      rw [r2.inj i' j' a1 b1 he]
  · have hl : (addHp hp nb bs id).live = true := by rw [hc]; rfl
    rcases hcase id hl with ⟨h1', e1, e⟩ | ⟨j, hj, rfl, hjl, e⟩
    · rw [e1] at hc
      obtain ⟨c, T, lo, hi, a1, a2, a3, a4⟩ := R.cells id ver cs hc
      refine ⟨c, T, lo, hi, ?_, by rw [e]; exact a2, a3, fun i hi' => ?_⟩
      · rw [e, r3.ext.keep _ (Own.lt R ⟨id, h1', rfl⟩) own_nil]; exact a1
      · obtain ⟨x, hx, hr, hcl⟩ := a4 i hi'
        exact ⟨x, by rw [e]; exact hx, hr.evo ev, hcl⟩
    · obtain ⟨b, e1, e2, e3⟩ := hin j hj
      rw [hc] at e2; subst e2
      cases hbk : hf h1 j with
      | gone ver' => rw [hbk] at hjl; simp [Blk.live] at hjl
      | cells ver' cs0 =>
        rw [hbk] at e1
        simp only [shB, Option.map_eq_some_iff, Blk.cells.injEq] at e1
        obtain ⟨cs', hcs, rfl, rfl⟩ := e1
        obtain ⟨c, T, lo, hi, a1, a2, a3, a4⟩ := r2.cells j ver' cs0 hbk
        obtain ⟨k1, k2⟩ := mapM_some hcs
        refine ⟨c, T, lo, hi, by rw [e]; exact a1, by rw [e, k1]; exact a2, a3, fun i hi' => ?_⟩
        obtain ⟨a, ha, hax⟩ := k2 i cs'[i] (List.getElem?_eq_getElem hi')
        obtain ⟨hlt, rfl⟩ := List.getElem?_eq_some_iff.1 ha
        obtain ⟨x, hx, hr, hcl⟩ := a4 i hlt
        exact ⟨x, by rw [e]; exact hx, shA_sound hO hb hax hr, shA_cell hax hcl⟩

end Go.Proofs.Ytabpcmmkmbchnaa.AI
