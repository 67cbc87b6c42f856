/- The posts of a ring: a new post. -/
import Derived.Test.YtabpcmmkmbchnaaR4
set_option linter.unusedVariables false
set_option linter.unusedSimpArgs false
set_option linter.unusedSectionVars false
namespace Go.Proofs.Ytabpcmmkmbchnaa
open Go AI

set_option maxHeartbeats 4000000
set_option maxRecDepth 10000

theorem sh_pvs (n len : Nat) : ∀ l : List PV, (l.map AV.pv).mapM (shA n len) = some (l.map AV.pv)
  | [] => rfl
  | a :: l => by
    rw [List.map_cons, List.mapM_cons, sh_pvs n len l]
    rfl

theorem sh_ok {n len : Nat} {c c' : AV} (h : shA n len c = some c') : okC (n + len) c' := by
  cases c with
  | pv p => simp only [shA, Option.some.injEq] at h; subst h; exact okC_pv _ _
  | ptr id ver off =>
    simp only [shA] at h
    split at h
    · simp only [Option.some.injEq] at h; subst h; exact okC_ptr (by omega)
    · simp at h
  | slice id ver off l mc esz xc =>
    simp only [shA] at h
    split at h
    · simp only [Option.some.injEq] at h; subst h; exact okC_slice (by omega)
    · simp at h
  | _ => simp [shA] at h

theorem mapM_ok {n len : Nat} : ∀ {cs cs' : List AV}, cs.mapM (shA n len) = some cs' → ∀ c ∈ cs', okC (n + len) c
  | [], cs', h => by simp at h; subst h; simp
  | a :: l, cs', h => by
    simp only [List.mapM_cons, Option.bind_eq_bind, Option.bind_eq_some_iff, Option.pure_def, Option.some.injEq] at h
    obtain ⟨b, hb, r, hr, rfl⟩ := h
    intro c hc
    rcases List.mem_cons.1 hc with rfl | hc
    · exact sh_ok hb
    · exact mapM_ok hr c hc

theorem tidy_of_add {hp : Hp} {nb : Nat} {h' bs : List Blk} (ht : Tidy (hf h') h'.length) (h0 : Tidy hp nb) (hl : bs.length = h'.length) (h1 : ∀ id, id < nb → addHp hp nb bs id = hp id)
    (h2 : ∀ id ver cs, id < h'.length → hf h' id = .cells ver cs → ∃ cs', cs.mapM (shA nb h'.length) = some cs' ∧ addHp hp nb bs (id + nb) = .cells ver cs') : Tidy (addHp hp nb bs) (nb + bs.length) := by
  intro id hid
  rcases Nat.lt_or_ge id nb with h | h
  · obtain ⟨ver, cs, e1, e2⟩ := h0 id h
    exact ⟨ver, cs, by rw [h1 id h]; exact e1, fun c hc => okC_mono (by omega) (e2 c hc)⟩
  · obtain ⟨ver, cs, e1, e2⟩ := ht (id - nb) (by omega)
    obtain ⟨cs', e3, e4⟩ := h2 (id - nb) ver cs (by omega) e1
    rw [Nat.sub_add_cancel h] at e4
    exact ⟨ver, cs', e4, fun c hc => by rw [hl]; exact mapM_ok e3 c hc⟩

theorem copied_add {cs : List (Int × PV)} {v0 : AV} {h' : List Blk} {lo : Nat} (hc : Copied cs v0 (hf h') lo h'.length) (ht : Tidy (hf h') h'.length) (hp : Hp) (nb : Nat) (h0 : Tidy hp nb) :
    ∃ v bs, shR nb h'.length v0 = some v ∧ h'.mapM (shB nb h'.length) = some bs ∧ (∀ id, id < nb → addHp hp nb bs id = hp id) ∧ Copied cs v (addHp hp nb bs) (nb + lo) (nb + bs.length) ∧ Tidy (addHp hp nb bs) (nb + bs.length) ∧
      v.isCell = true ∧ v.cells = [v] := by
  obtain ⟨bs, e1, e2, e3, e4⟩ := tidy_add ht hp nb
  have hT := tidy_of_add ht h0 e2 e3 e4
  rcases hc with ⟨rfl, rfl | ⟨id, hid, rfl⟩⟩ | ⟨id, n, hlo, hid, hn, rfl, hc⟩
  · exact ⟨.pv .nilSlice, bs, rfl, e1, e3, .inl ⟨rfl, .inl rfl⟩, hT, rfl, rfl⟩
  · exact ⟨.slice (id + nb) 1 0 0 0 2 true, bs, by simp [shR, shV, shA, hid], e1, e3, .inl ⟨rfl, .inr ⟨id + nb, by omega, rfl⟩⟩, hT, rfl, rfl⟩
  · obtain ⟨cs', e5, e6⟩ := e4 id 1 _ hid hc
    rw [sh_pvs] at e5
    cases e5
    exact ⟨.slice (id + nb) 1 0 (n + 1) (n + 1) 2 false, bs, by simp [shR, shV, shA, hid], e1, e3, .inr ⟨id + nb, n, by omega, by omega, hn, rfl, e6⟩, hT, rfl, rfl⟩

theorem copied_len {cs : List (Int × PV)} {v : AV} {hp : Hp} {lo nb : Nat} (h : Copied cs v hp lo nb) : lenA Try.prog 45 v = some (cs.length : Int) := by
  rcases h with ⟨rfl, rfl | ⟨id, hid, rfl⟩⟩ | ⟨id, n, hlo, hid, hn, rfl, hc⟩
  · kernel_rfl
  · unfold lenA; rw [Try.underlying45]; rfl
  · unfold lenA; rw [Try.underlying45, hn]

theorem ix45 (id m mc n : Nat) (xc : Bool) (i : Nat) (h : i < m) : indexAddrA Try.prog 45 (.slice id 1 0 m mc 2 xc) (.pv (.int .i64 i)) = some (.ptr id 1 (i * 2)) := by
  unfold indexAddrA
  simp only [asIntA, Option.bind_some, Try.underlying45, sz50]
  rw [if_pos (by omega)]
  simp

theorem pvs_get {cs : List (Int × PV)} {i : Nat} {p : Int × PV} (h : cs[i]? = some p) : ((flat cs).map AV.pv)[i * 2]? = some (.pv (.int .i64 p.1)) ∧ ((flat cs).map AV.pv)[i * 2 + 1]? = some (.pv p.2) := by
  obtain ⟨h1, h2⟩ := flat_get cs i p h
  rw [Nat.mul_comm] at h1 h2
  constructor
  · rw [List.getElem?_map, h1]; rfl
  · rw [List.getElem?_map, h2]; rfl

theorem take_two {α : Type} {l : List α} {i : Nat} {a b : α} (ha : l[i]? = some a) (hb : l[i + 1]? = some b) : (l.drop i).take 2 = [a, b] := by
  obtain ⟨h1, rfl⟩ := List.getElem?_eq_some_iff.1 ha
  obtain ⟨h2, rfl⟩ := List.getElem?_eq_some_iff.1 hb
  rw [List.drop_eq_getElem_cons h1, List.drop_eq_getElem_cons h2]
  rfl

theorem splice_same {l : List AV} {i : Nat} {a : AV} (ha : l[i]? = some a) : splice l i [a] = l := by
  obtain ⟨h1, rfl⟩ := List.getElem?_eq_some_iff.1 ha
  unfold splice
  simp

theorem splice_flat : ∀ (ds : List (Int × PV)) (i : Nat) (a : Int) (b c : PV), ds[i]? = some (a, b) → splice ((flat ds).map AV.pv) (i * 2 + 1) [.pv c] = (flat (ds.set i (a, c))).map AV.pv
  | [], i, a, b, c, h => by simp at h
  | q :: r, 0, a, b, c, h => by
    simp at h; subst h
    simp [flat, splice]
  | q :: r, i + 1, a, b, c, h => by
    have ih := splice_flat r i a b c (by simpa using h)
    rw [List.set_cons_succ, flat, flat, List.map_cons, List.map_cons, List.map_cons, List.map_cons, ← ih, show (i + 1) * 2 + 1 = (i * 2 + 1) + 1 + 1 by omega]
    simp [splice, Nat.add_right_comm]

/-- Where lies are copied, they can be read. -/
theorem copied_lies {cs : List (Int × PV)} {v : AV} {hp : Hp} {lo nb : Nat} (h : Copied cs v hp lo nb) : Lies hp v cs := by
  refine ⟨copied_len h, fun i p hp' => ?_⟩
  rcases h with ⟨rfl, _⟩ | ⟨id, n, hlo, hid, hn, rfl, hc⟩
  · simp at hp'
  · have hi : i < cs.length := (List.getElem?_eq_some_iff.1 hp').1
    have hl : AI.look hp id 1 = some ((flat cs).map AV.pv) := by simp [AI.look, hc]
    obtain ⟨g1, g2⟩ := pvs_get hp'
    refine ⟨.ptr id 1 (i * 2), ix45 _ _ _ n _ _ (by omega), ?_, ⟨_, fa50_0 _ _ _, load1 ag3 hl g1⟩, ⟨_, fa50_1 _ _ _, load1 ag48 hl g2⟩⟩
    rw [loadN ag50 sz50 hl (by simp [flat_length]; omega), take_two g1 g2]

theorem copied_keep {cs : List (Int × PV)} {v : AV} {hp hp' : Hp} {lo nb nb' : Nat} (h : Copied cs v hp lo nb) (hn : nb ≤ nb') (hk : ∀ id, lo ≤ id → id < nb → hp' id = hp id) : Copied cs v hp' lo nb' := by
  rcases h with ⟨rfl, rfl | ⟨id, hid, rfl⟩⟩ | ⟨id, n, hlo, hid, hn, rfl, hc⟩
  · exact .inl ⟨rfl, .inl rfl⟩
  · exact .inl ⟨rfl, .inr ⟨id, by omega, rfl⟩⟩
  · exact .inr ⟨id, n, hlo, by omega, hn, rfl, by rw [hk id hlo hid]; exact hc⟩

def nr (q : Int × PV) : Int × PV := (q.1, nrm q.2)

theorem statP5 : statOk (match bodyOf Try.f14 with
  | .seq _ (.seq _ (.seq (.seq _ (.block _ (.loop (.seq _ (.seq _ (.seq (.block _ (.seq _ (.region _ a _))) _)))))) _)) => a.toList
  | _ => []) = true := by kernel_rfl

theorem build73 (x : Int) (l : AV) (hl : l.isCell = true) : buildA Try.prog 73 [(0, .agg [.pv (.int .u64 x), l])] = some (.agg [.pv (.int .u64 x), l, .pv (.int .i64 0)]) := by
  cases l with
  | pv q => kernel_rfl
  | ptr a b c => kernel_rfl
  | slice a b c d e f g => kernel_rfl
  | map a b => kernel_rfl
  | clo f cs => kernel_rfl
  | _ => simp [AV.isCell] at hl

theorem copied_lo {cs : List (Int × PV)} {v : AV} {hp : Hp} {lo lo' nb : Nat} (h : Copied cs v hp lo nb) (hl : lo' ≤ lo) : Copied cs v hp lo' nb := by
  rcases h with ⟨rfl, rfl | ⟨id, hid, rfl⟩⟩ | ⟨id, n, hlo, hid, hn, rfl, hc⟩
  · exact .inl ⟨rfl, .inl rfl⟩
  · exact .inl ⟨rfl, .inr ⟨id, hid, rfl⟩⟩
  · exact .inr ⟨id, n, by omega, hid, hn, rfl, hc⟩

theorem post_calls (S : CallG) (pure : Nat → Bool) (lim d : Nat) (x : Int) {p : PV} {cs : List (Int × PV)} (hp0 : LiesP p cs) (hb : ∀ q ∈ cs, ∃ n, n < 100000 ∧ BytesP q.2 n) (hn : cs.length < 1000) (hlim : cs.length < lim) (hpu : pure 28 = true) (hpn : pure 27 = false)
    (hS : ∀ hp aa, S hp 28 aa = none) :
    CA (callA Try.prog S pure lim (d + 2)) 14 [.agg [.pv (.int .u64 x), .pv p]] (hf []) 0 fun v hp' nb' => ∃ idp l, v = .ptr idp 1 0 ∧ idp < nb' ∧ hp' idp = .cells 1 [.pv (.int .u64 x), l, .pv (.int .i64 0)] ∧ Copied (cs.map nr) l hp' 0 idp ∧ Tidy hp' nb' := by
  refine ca_body (fn := Try.f14) (c := bodyOf Try.f14) Try.func14 rfl (by show 1 ≤ 29; omega) ?_
  show EX _ _ _ _ _ 29 _ _ _ _ _
  have hst5 := statP5
  unfold bodyOf Try.f14 at hst5 ⊢
  simp only at hst5
  refine ex_seq (ex_region ?_)
  refine ro_box (v := .agg [.pv (.int .u64 x), .pv p]) (by simp [evalF, argsF]) rfl (by decide) ?_
  refine ro_assign (by simp only [evalF, upd, argsF, ofConst, ofCell, Nat.reduceEqDiff, reduceIte, List.getD_cons_zero, List.getD_cons_succ, List.getD_nil] <;> rfl) (by decide) ?_
  refine ro_nil ?_
  simp only
  generalize hh1 : setHp (hf []) 0 _ = hp1
  have hl1 : AI.look hp1 0 1 = some [.pv (.int .u64 x), .pv p] := by rw [← hh1]; exact look_same _ _ _ _
  have ht1 : Tidy hp1 1 := by
    rw [← hh1]
    exact tidy_new tidy_nil (by intro c hc; simp [AV.cells] at hc; rcases hc with rfl | rfl <;> exact okC_pv _ _)
  clear hh1
  refine ex_seq (ex_region ?_)
  refine ro_fieldAddr (by simp only [evalF, upd, argsF, ofConst, ofCell, Nat.reduceEqDiff, reduceIte, List.getD_cons_zero, List.getD_cons_succ, List.getD_nil] <;> rfl) (by exact (fa47_1 _ _ _)) (by decide) ?_
  refine ro_load (by simp only [evalF, upd, argsF, ofConst, ofCell, Nat.reduceEqDiff, reduceIte, List.getD_cons_zero, List.getD_cons_succ, List.getD_nil] <;> rfl) (by exact (load1 ag45 hl1 rfl)) (by decide) ?_
  refine ro_add («as» := [.pv p]) (by simp [evalF, upd]) hpn rfl (clone_lies S pure lim d hp0 (by omega)) (by decide) ?_
  rintro v0 h' ⟨hcp, htd⟩
  obtain ⟨l, bs, q1, q2, q3, q4, q5, q6, q7⟩ := copied_add hcp htd hp1 1 ht1
  refine ⟨l, bs, q1, q2, ?_⟩
  have hl2 : AI.look (addHp hp1 1 bs) 0 1 = some [.pv (.int .u64 x), .pv p] := by rw [look_at 1 (q3 0 (by omega))]; exact hl1
  refine ro_fieldAddr (by simp only [evalF, upd, argsF, ofConst, ofCell, Nat.reduceEqDiff, reduceIte, List.getD_cons_zero, List.getD_cons_succ, List.getD_nil] <;> rfl) (by exact (fa47_1 _ _ _)) (by decide) ?_
  refine ro_store (by simp only [evalF, upd, argsF, ofConst, ofCell, Nat.reduceEqDiff, reduceIte, List.getD_cons_zero, List.getD_cons_succ, List.getD_nil] <;> rfl) (by simp only [evalF, upd, argsF, ofConst, ofCell, Nat.reduceEqDiff, reduceIte, List.getD_cons_zero, List.getD_cons_succ, List.getD_nil] <;> rfl) (store1 (show szA Try.prog 45 = some 1 by kernel_rfl) hl2 q7 q6 (by show 0 + 1 + 1 ≤ 2; omega)) ?_
  refine ro_nil ?_
  simp only
  generalize hh3 : setHp (addHp hp1 1 bs) 0 _ = hp3
  have hl3 : AI.look hp3 0 1 = some [.pv (.int .u64 x), l] := by rw [← hh3]; exact look_same _ _ _ _
  have hc3 : Copied cs l hp3 1 (1 + bs.length) := copied_keep q4 (Nat.le_refl _) (fun id h1 h2 => by rw [← hh3]; simp [setHp, show id ≠ 0 by omega])
  have hlok : okC (1 + bs.length) l := by
    rcases q4 with ⟨_, rfl | ⟨id, hid, rfl⟩⟩ | ⟨id, n, hlo, hid, hn, rfl, hc⟩
    · exact okC_pv _ _
    · exact okC_slice hid
    · exact okC_slice hid
  have ht3 : Tidy hp3 (1 + bs.length) := by
    rw [← hh3]
    refine tidy_put q5 (fun c hc => ?_)
    simp only [splice, List.take, List.drop, List.cons_append, List.nil_append, List.mem_cons, List.length_cons, List.length_nil] at hc
    rcases hc with rfl | rfl | hc
    · exact okC_pv _ _
    · exact hlok
    · simp at hc
  have hpos3 : 0 < 1 + bs.length := by omega
  generalize 1 + bs.length = nb3 at hc3 ht3 hlok hpos3 ⊢
  clear hh3 q1 q2 q3 q4 q5
  refine ex_seq ?_
  refine ex_seq (ex_region ?_)
  refine ro_fieldAddr (by simp only [evalF, upd, argsF, ofConst, ofCell, Nat.reduceEqDiff, reduceIte, List.getD_cons_zero, List.getD_cons_succ, List.getD_nil] <;> rfl) (by exact (fa47_1 _ _ _)) (by decide) ?_
  refine ro_load (by simp only [evalF, upd, argsF, ofConst, ofCell, Nat.reduceEqDiff, reduceIte, List.getD_cons_zero, List.getD_cons_succ, List.getD_nil] <;> rfl) (by exact (load1 ag45 hl3 rfl)) (by decide) ?_
  refine ro_builtin rfl (by simp only [List.map_cons, List.map_nil, evalF, upd, argsF, ofConst, ofCell, Nat.reduceEqDiff, reduceIte, List.getD_cons_zero, List.getD_cons_succ, List.getD_nil] <;> rfl) (by exact (len45 (copied_len hc3))) (by decide) ?_
  refine ro_move (by simp only [evalF, upd, argsF, ofConst, ofCell, Nat.reduceEqDiff, reduceIte, List.getD_cons_zero, List.getD_cons_succ, List.getD_nil] <;> rfl) (by decide) ?_
  refine ro_nil ?_
  simp only
  refine ex_block (ex_loop (I := fun m g hpx nbx => ∃ (i : Nat) (ds : List (Int × PV)), m = cs.length - i ∧ i ≤ cs.length ∧ ds.length = cs.length ∧ (∀ (j : Nat) (q : Int × PV), j < i → cs[j]? = some q → ds[j]? = some (nr q)) ∧ (∀ j, i ≤ j → ds[j]? = cs[j]?) ∧ g 1 = .ptr 0 1 0 ∧ g 10 = l ∧ g 11 = .pv (.int .i64 cs.length) ∧ g 12 = .pv (.int .i64 i) ∧
    AI.look hpx 0 1 = some [.pv (.int .u64 x), l] ∧ Copied ds l hpx 1 nbx ∧ Tidy hpx nbx ∧ okC nbx l ∧ 0 < nbx)
    (m := cs.length) ⟨0, cs, rfl, Nat.zero_le _, rfl, fun j q h => by omega, fun j _ => rfl, by simp [upd], by simp [upd], by simp [upd], by simp [upd], hl3, hc3, ht3, hlok, hpos3⟩ hlim ?_)
  rintro m g hpx nbx ⟨i, ds, hm, hi, hdl, hd1, hd2, h1, h10, h11, h12, hlx, hcx, htx, hokx, hpos⟩
  refine ex_seq (ex_region ?_)
  refine ro_bin (by simp only [evalF, upd, argsF, ofConst, ofCell, Nat.reduceEqDiff, reduceIte, List.getD_cons_zero, List.getD_cons_succ, List.getD_nil, h1, h10, h11, h12] <;> rfl) (by simp only [evalF, upd, argsF, ofConst, ofCell, Nat.reduceEqDiff, reduceIte, List.getD_cons_zero, List.getD_cons_succ, List.getD_nil, h1, h10, h11, h12] <;> rfl) (by exact (rfl)) (by decide) ?_
  refine ro_nil ?_
  simp only
  refine ex_seq (ex_cond (t := decide ((i : Int) < cs.length)) (by simp only [evalF, upd, argsF, ofConst, ofCell, Nat.reduceEqDiff, reduceIte, List.getD_cons_zero, List.getD_cons_succ, List.getD_nil, h1, h10, h11, h12] <;> rfl) (fun ht => ?_) (fun ht => ?_))
  rotate_left
  · refine ex_exit ?_
    simp only [if_true]
    refine ex_seq (ex_region ?_)
    refine ro_load (by simp only [evalF, upd, argsF, ofConst, ofCell, Nat.reduceEqDiff, reduceIte, List.getD_cons_zero, List.getD_cons_succ, List.getD_nil, h1, h10, h11, h12] <;> rfl) (by exact (loadN (show isAggA Try.prog 47 = some true by kernel_rfl) (show szA Try.prog 47 = some 2 by kernel_rfl) hlx (by show 0 + 2 ≤ 2; omega))) (by decide) ?_
    refine ro_build (ps := [(0, .agg [.pv (.int .u64 x), l])]) (by simp [evalF, upd]) (build73 x l q6) (by decide) ?_
    refine ro_box (v := .agg [.pv (.int .u64 x), l, .pv (.int .i64 0)]) (by simp [evalF, upd]) (by simp only [AV.cells, List.all_cons, List.all_nil, q6]; rfl) (by decide) ?_
    refine ro_assign (by simp only [evalF, upd, argsF, ofConst, ofCell, Nat.reduceEqDiff, reduceIte, List.getD_cons_zero, List.getD_cons_succ, List.getD_nil, h1, h10, h11, h12] <;> rfl) (by decide) ?_
    refine ro_nil ?_
    simp only
    refine ex_ret ?_
    have hie : i = cs.length := by
      have := of_decide_eq_false ht
      omega
    have hds : ds = cs.map nr := by
      apply List.ext_getElem?
      intro j
      rw [List.getElem?_map]
      cases hq : cs[j]? with
      | none =>
        have := List.getElem?_eq_none_iff.1 hq
        rw [List.getElem?_eq_none (by omega)]
        rfl
      | some q =>
        have := (List.getElem?_eq_some_iff.1 hq).1
        exact hd1 j q (by omega) hq
    subst hds
    refine ⟨_, rfl, nbx, l, by simp [upd], by omega, by simp [setHp, AV.cells], copied_keep (copied_lo hcx (Nat.zero_le _)) (Nat.le_refl _) (fun id h1 h2 => by simp [setHp, show id ≠ nbx by omega]), tidy_new htx (fun c hc => ?_)⟩
    simp only [AV.cells, List.mem_cons, List.not_mem_nil, or_false] at hc
    rcases hc with rfl | rfl | rfl
    · exact okC_pv _ _
    · exact okC_mono (Nat.le_succ _) hokx
    · exact okC_pv _ _
  · refine ex_skip ?_
    simp only
    have hil : i < cs.length := by
      have := of_decide_eq_true ht
      omega
    have hgi : cs[i]? = some cs[i] := List.getElem?_eq_getElem hil
    have hdi : ds[i]? = some cs[i] := by rw [hd2 i (Nat.le_refl _)]; exact hgi
    rcases hcx with ⟨rfl, _⟩ | ⟨idl, n, hlo, hidl, hn', hle, hcl⟩
    · simp at hdl; omega
    have hll : AI.look hpx idl 1 = some ((flat ds).map AV.pv) := by simp [AI.look, hcl]
    obtain ⟨g1, g2⟩ := pvs_get hdi
    have hix := ix45 idl (n + 1) (n + 1) n false i (by omega)
    rw [← hle] at hix
    refine ex_seq (ex_block ?_)
    refine ex_seq (ex_region ?_)
    refine ro_move (by simp only [evalF, upd, argsF, ofConst, ofCell, Nat.reduceEqDiff, reduceIte, List.getD_cons_zero, List.getD_cons_succ, List.getD_nil, h1, h10, h11, h12] <;> rfl) (by decide) ?_
    refine ro_indexAddr (by simp only [evalF, upd, argsF, ofConst, ofCell, Nat.reduceEqDiff, reduceIte, List.getD_cons_zero, List.getD_cons_succ, List.getD_nil, h1, h10, h11, h12] <;> rfl) (by simp only [evalF, upd, argsF, ofConst, ofCell, Nat.reduceEqDiff, reduceIte, List.getD_cons_zero, List.getD_cons_succ, List.getD_nil, h1, h10, h11, h12] <;> rfl) (by exact (hix)) (by decide) ?_
    refine ro_load (v := .agg [.pv (.int .i64 cs[i].1), .pv cs[i].2]) (by simp only [evalF, upd, argsF, ofConst, ofCell, Nat.reduceEqDiff, reduceIte, List.getD_cons_zero, List.getD_cons_succ, List.getD_nil, h1, h10, h11, h12] <;> rfl) (by rw [loadN ag50 sz50 hll (by simp [flat_length]; omega), take_two g1 g2]) (by decide) ?_
    refine ro_alloc zero50 rfl (by decide) ?_
    refine ro_assign (by simp only [evalF, upd, argsF, ofConst, ofCell, Nat.reduceEqDiff, reduceIte, List.getD_cons_zero, List.getD_cons_succ, List.getD_nil, h1, h10, h11, h12] <;> rfl) (by decide) ?_
    refine ro_store (by simp only [evalF, upd, argsF, ofConst, ofCell, Nat.reduceEqDiff, reduceIte, List.getD_cons_zero, List.getD_cons_succ, List.getD_nil, h1, h10, h11, h12] <;> rfl) (by simp only [evalF, upd, argsF, ofConst, ofCell, Nat.reduceEqDiff, reduceIte, List.getD_cons_zero, List.getD_cons_succ, List.getD_nil, h1, h10, h11, h12] <;> rfl) (storeN sz50 (look_same _ _ _ _) rfl rfl (by show 0 + 2 ≤ 2; omega)) ?_
    refine ro_nil ?_
    simp only
    generalize hhp2 : setHp (setHp hpx nbx _) nbx _ = hp2
    have hl2 : AI.look hp2 nbx 1 = some [.pv (.int .i64 cs[i].1), .pv cs[i].2] := by
      rw [← hhp2]; exact look_same _ _ _ _
    have hag : ∀ id, id < nbx → hp2 id = hpx id := by
      intro id hid
      rw [← hhp2]; simp [setHp, show id ≠ nbx by omega]
    have ht2 : Tidy hp2 (nbx + 1) := by
      rw [← hhp2]
      refine tidy_put (tidy_new htx (by intro c hc; simp at hc; rcases hc with rfl | rfl <;> exact okC_pv _ _)) (by intro c hc; simp [splice] at hc; rcases hc with rfl | rfl <;> exact okC_pv _ _)
    clear hhp2
    have hlx2 : AI.look hp2 0 1 = some [.pv (.int .u64 x), l] := by rw [look_at 1 (hag 0 hpos)]; exact hlx
    have hll2 : AI.look hp2 idl 1 = some ((flat ds).map AV.pv) := by rw [look_at 1 (hag idl hidl)]; exact hll
    obtain ⟨nb', hnb', hbp⟩ := hb cs[i] (List.getElem_mem hil)
    refine ex_draw hst5 ?_
    refine rd_val (v := .ptr 0 1 1) rfl (by simp [primA, evalF, upd, h1, fa47_1]) (by decide) ?_
    refine rd_val (v := l) rfl (by simp only [primA, evalF, upd, Nat.reduceEqDiff, reduceIte, load1 ag45 hlx2 (show ([.pv (.int .u64 x), l] : List AV)[1]? = some l from rfl), Option.map_some]) (by decide) ?_
    refine rd_val (v := .pv (.int .i64 i)) rfl (by simp [primA, evalF, upd, h12]) (by decide) ?_
    refine rd_val (v := .ptr nbx 1 1) rfl (by simp [primA, evalF, upd, fa50_1]) (by decide) ?_
    refine rd_val (v := .pv cs[i].2) rfl (by simp only [primA, evalF, upd, Nat.reduceEqDiff, reduceIte, load1 ag48 hl2 (show ([.pv (.int .i64 cs[i].1), .pv cs[i].2] : List AV)[1]? = some (.pv cs[i].2) from rfl), Option.map_some]) (by decide) ?_
    refine rd_pure («as» := [.pv cs[i].2]) (v := .pv (nrm cs[i].2)) (by simp [evalF, upd]) hpu (by
      unfold orS
      rw [hS]
      exact clone_bytes S pure lim d hbp hnb' _) (by decide) ?_
    refine rd_val (v := .ptr idl 1 (i * 2)) rfl (by simp only [primA, evalF, upd, Nat.reduceEqDiff, reduceIte, hix, Option.map_some]) (by decide) ?_
    refine rd_val (v := .ptr idl 1 (i * 2 + 1)) rfl (by simp only [primA, evalF, upd, Nat.reduceEqDiff, reduceIte, fa50_1, Option.map_some]) (by decide) ?_
    refine rd_upd (dst := none) (v := undefA) (id := idl) (b := .cells 1 ((flat (ds.set i (nr cs[i]))).map AV.pv)) rfl (by
      simp only [primA, evalF, upd, Nat.reduceEqDiff, reduceIte]
      rw [store1 (show szA Try.prog 48 = some 1 by kernel_rfl) hll2 rfl rfl (by simp [flat_length]; omega), splice_flat ds i cs[i].1 cs[i].2 (nrm cs[i].2) hdi]
      rfl) (look_live hll2) (by simp) ?_
    refine rd_nil ⟨rfl, ?_⟩
    simp only [putF]
    refine ex_region ?_
    refine ro_bin (by simp only [evalF, upd, argsF, ofConst, ofCell, Nat.reduceEqDiff, reduceIte, List.getD_cons_zero, List.getD_cons_succ, List.getD_nil, h1, h10, h11, h12] <;> rfl) (by simp only [evalF, upd, argsF, ofConst, ofCell, Nat.reduceEqDiff, reduceIte, List.getD_cons_zero, List.getD_cons_succ, List.getD_nil, h1, h10, h11, h12] <;> rfl) (by exact (show _ = some (AV.pv (.int .i64 ((i : Int) + 1))) from by show some (AV.pv (.int .i64 (IntKind.i64.wrap ((i : Int) + 1)))) = _; rw [IntWalk.i64_in _ (by omega)])) (by decide) ?_
    refine ro_move (by simp only [evalF, upd, argsF, ofConst, ofCell, Nat.reduceEqDiff, reduceIte, List.getD_cons_zero, List.getD_cons_succ, List.getD_nil, h1, h10, h11, h12] <;> rfl) (by decide) ?_
    refine ro_nil ?_
    have hkeep : ∀ id, id < nbx → id ≠ idl → setHp hp2 idl (.cells 1 ((flat (ds.set i (nr cs[i]))).map AV.pv)) id = hpx id := by
      intro id hid e
      simp [setHp, e, hag id hid]
    have h0l : (0 : Nat) ≠ idl := by omega
    refine ⟨cs.length - (i + 1), by omega, i + 1, ds.set i (nr cs[i]), rfl, by omega, by simp [hdl], ?_, ?_, by simp [upd, h1], by simp [upd, h10], by simp [upd, h11], by simp [upd], ?_, ?_, ?_, okC_mono (Nat.le_succ _) hokx, by omega⟩
    · intro j q hj hq
      rw [List.getElem?_set]
      by_cases e : i = j
      · subst e
        rw [if_pos rfl, if_pos (by omega)]
        rw [hgi] at hq
        cases hq
        rfl
      · rw [if_neg e]
        exact hd1 j q (by omega) hq
    · intro j hj
      rw [List.getElem?_set, if_neg (by omega)]
      exact hd2 j (by omega)
    · rw [look_at 1 (hkeep 0 hpos h0l)]; exact hlx
    · exact .inr ⟨idl, n, hlo, by omega, by simp [hn'], hle, by simp [setHp]⟩
    · refine tidy_put ht2 (fun c hc => ?_)
      obtain ⟨q, _, rfl⟩ := List.mem_map.1 hc
      exact okC_pv _ _
end Go.Proofs.Ytabpcmmkmbchnaa
