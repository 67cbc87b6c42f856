/- Reading: a list. -/
import Derived.Test.YtlinbbjobjnipaaP6
set_option linter.unusedVariables false
set_option linter.unusedSimpArgs false
set_option linter.unusedSectionVars false
namespace Go.Proofs.Ytlinbbjobjnipaa
open Go AI

set_option maxHeartbeats 4000000
set_option maxRecDepth 10000

theorem take_sub {b : List Int} {e : Int} {n : Nat} : ∀ x ∈ (takeR b e n).2.1, x ∈ b := by
  unfold takeR
  split
  · exact fun x h => h
  · exact fun x h => List.mem_of_mem_drop h

theorem byte_rest {b : List Int} {e most : Int} (hb : ∀ x ∈ b, 0 ≤ x ∧ x ≤ 255) : ∀ x ∈ (byteR b e most).2.1, 0 ≤ x ∧ x ≤ 255 := by
  have h1 : (byteR b e most).2.1 = (takeR b e 1).2.1 := by
    unfold byteR
    split
    · rename_i h; rw [h]
    · rename_i h; rw [h]; split <;> rfl
  rw [h1]
  exact fun x h => hb x (take_sub x h)

theorem byte_val {b : List Int} {e most : Int} (hm : 0 ≤ most) (hb : ∀ x ∈ b, 0 ≤ x ∧ x ≤ 255) : 0 ≤ (byteR b e most).1 ∧ (byteR b e most).1 ≤ most := by
  obtain ⟨_, h2, _⟩ := take_len (e := e) (n := 1) hb
  unfold byteR
  split
  · exact ⟨Int.le_refl _, hm⟩
  · rename_i x _ _ _ h
    rw [h] at h2
    have := h2 x List.mem_cons_self
    split
    · exact ⟨Int.le_refl _, hm⟩
    · simp only; omega

def listN : Nat → List Int → List Int → Int → List Int × List Int × Int
  | 0, acc, b, e => (acc, b, e)
  | n + 1, acc, b, e => listN n (acc ++ [(byteR b e 9).1]) (byteR b e 9).2.1 (byteR b e 9).2.2

def listR (m : M) (b : List Int) (e : Int) : List Int × List Int × Int := listN (byteR b e 10).1.toNat m.list (byteR b e 10).2.1 (byteR b e 10).2.2

theorem listStat : statOk (regOf Try.f26 9) = true := by kernel_rfl
theorem listNeeds : needs (regOf Try.f26 9) = [(4, 6), (4, 7)] := by kernel_rfl

theorem look_blk {hp : Hp} {id ver : Nat} {cs : List AV} (h : AI.look hp id ver = some cs) : hp id = .cells ver cs := by
  unfold AI.look at h
  split at h
  · rename_i v cs' hb
    split at h
    · rename_i hv
      simp only [Option.some.injEq] at h
      subst h; rw [hb, hv]
    · simp at h
  · simp at h

theorem fld_seq {hp hp1 hp2 : Hp} {nb nb1 nb2 idm idr q : Nat} {m1 m2 : M} {b1 b2 : List Int} {e1 e2 : Int} {v1 v2 : AV} (h1 : FldOk hp nb idm idr q m1 b1 e1 v1 hp1 nb1) (h2 : FldOk hp1 nb1 idm idr q m2 b2 e2 v2 hp2 nb2) : FldOk hp nb idm idr q m2 b2 e2 v2 hp2 nb2 := by
  obtain ⟨_, _, _, a4, a5, a6⟩ := h1
  obtain ⟨c1, c2, c3, c4, c5, c6⟩ := h2
  exact ⟨c1, c2, c3, by omega, fun id hid => (c5 id hid).trans (a5 id hid), fun ht => c6 (a6 ht)⟩

theorem fld_push {hp hp2 : Hp} {nb nb2 idm idr q : Nat} {m : M} {b : List Int} {e : Int} {L D L' : AV} (x : Int) (hpm : Pm hp nb idm idr q m) (hrd : Rd hp nb idr q b e) (hD : Row hp nb D (u8s m.data)) 
    (h4 : ∀ id, ownOf L = some id → q ≤ id ∧ id ≠ idm ∧ id ≠ idr ∧ ownOf D ≠ some id) (h5 : ∀ id, ownOf D = some id → q ≤ id ∧ id ≠ idm ∧ id ≠ idr)
    (hg : Grow hp2 nb2 L' (ints (m.list ++ [x]))) (ax : After hp nb L hp2 nb2) (ho : ∀ id, ownOf L' = some id → ownOf L = some id ∨ nb ≤ id) :
    FldOk hp nb idm idr q { m with list := m.list ++ [x] } b e (.tuple []) (setHp hp2 idm (.cells 1 (mcells { m with list := m.list ++ [x] } L' D))) nb2 := by
  have hk' : ∀ id, id ≠ idm → setHp hp2 idm (.cells 1 (mcells { m with list := m.list ++ [x] } L' D)) id = hp2 id := fun id h => by simp [setHp, h]
  have hlt := hpm.lt
  have hle := hpm.le
  have hrl := hrd.lt
  have hql := hrd.le
  have hnb := ax.1
  have hD2 : Row hp2 nb2 D (u8s m.data) := hD.keep hnb (fun id hid ho => ax.2.1 id hid (fun h => (h4 id h).2.2.2 ho))
  refine ⟨rfl, ⟨by omega, hpm.le, hpm.ne, hpm.key, L', D, look_same _ _ _ _, hg.keep (Nat.le_refl _) (fun id hid h => hk' id ?_), hD2.keep (Nat.le_refl _) (fun id hid h => hk' id (h5 id h).2.1), ?_, h5⟩, ?_, hnb, ?_, ?_⟩
  · rcases ho id h with h | h
    · exact (h4 id h).2.1
    · omega
  · intro id h
    rcases ho id h with h | h
    · exact h4 id h
    · refine ⟨by omega, by omega, by omega, fun hd => ?_⟩
      have := row_own hD hd
      omega
  · refine rd_keep hrd hnb (fun id h => ?_)
    have := hpm.ne
    have hne : id ≠ idm := by rcases h with h | h <;> omega
    rw [hk' id hne]
    refine ax.2.1 id (by rcases h with h | h <;> omega) (fun hh => ?_)
    have := h4 id hh
    rcases h with h | h <;> omega
  · intro id hid
    rw [hk' id (by omega)]
    refine ax.2.1 id (by omega) (fun hh => ?_)
    have := h4 id hh
    omega
  · intro ht
    exact tidy_put (ax.2.2 ht) (ok_cells (grow_okC hg) (row_ok' hD2))

theorem read_2 (d : Nat) {hp : Hp} {nb idm idr q : Nat} {m : M} {b : List Int} {e : Int} (hb : ∀ x ∈ b, 0 ≤ x ∧ x ≤ 255) (hml : m.list.length ≤ 1000) (hpm : Pm hp nb idm idr q m) (hrd : Rd hp nb idr q b e) :
    CA (callA Try.prog facts plains 10000 (d + 5)) 26 [.ptr idr 1 0, .ptr idm 1 0, .pv (.int .i64 2)] hp nb (FldOk hp nb idm idr q { m with list := (listR m b e).1 } (listR m b e).2.1 (listR m b e).2.2) := by
  refine ca_body (fn := Try.f26) (c := bodyOf Try.f26) Try.func26 rfl (by show 3 ≤ 82; omega) ?_
  show EX _ _ _ _ _ 82 _ _ _ _ _
  unfold bodyOf Try.f26
  refine ex_seq (ex_region ?_)
  refine ro_move (by simp only [evalF, upd, arg0, argS, ofConst, ofCell, Nat.reduceEqDiff, reduceIte] <;> rfl) (by decide) ?_
  refine ro_nil ?_
  try simp only
  refine ex_block ?_
  refine ex_seq (ex_region ?_)
  refine ro_bin (by simp only [evalF, upd, arg0, argS, ofConst, ofCell, Nat.reduceEqDiff, reduceIte] <;> rfl) (by simp only [evalF, upd, arg0, argS, ofConst, ofCell, Nat.reduceEqDiff, reduceIte] <;> rfl) (by exact (eql_f (by decide))) (by decide) ?_
  refine ro_assign (by simp only [evalF, upd, arg0, argS, ofConst, ofCell, Nat.reduceEqDiff, reduceIte] <;> rfl) (by decide) ?_
  refine ro_nil ?_
  try simp only
  refine ex_cond (t := false) (by simp only [evalF, upd, arg0, argS, ofConst, ofCell, Nat.reduceEqDiff, reduceIte] <;> rfl) (fun h => by simp at h) (fun _ => ?_)
  refine ex_seq (ex_region ?_)
  refine ro_bin (by simp only [evalF, upd, arg0, argS, ofConst, ofCell, Nat.reduceEqDiff, reduceIte] <;> rfl) (by simp only [evalF, upd, arg0, argS, ofConst, ofCell, Nat.reduceEqDiff, reduceIte] <;> rfl) (by exact (eql_f (by decide))) (by decide) ?_
  refine ro_assign (by simp only [evalF, upd, arg0, argS, ofConst, ofCell, Nat.reduceEqDiff, reduceIte] <;> rfl) (by decide) ?_
  refine ro_nil ?_
  try simp only
  refine ex_cond (t := false) (by simp only [evalF, upd, arg0, argS, ofConst, ofCell, Nat.reduceEqDiff, reduceIte] <;> rfl) (fun h => by simp at h) (fun _ => ?_)
  refine ex_seq (ex_region ?_)
  refine ro_bin (by simp only [evalF, upd, arg0, argS, ofConst, ofCell, Nat.reduceEqDiff, reduceIte] <;> rfl) (by simp only [evalF, upd, arg0, argS, ofConst, ofCell, Nat.reduceEqDiff, reduceIte] <;> rfl) (by exact (eql_t rfl)) (by decide) ?_
  refine ro_assign (by simp only [evalF, upd, arg0, argS, ofConst, ofCell, Nat.reduceEqDiff, reduceIte] <;> rfl) (by decide) ?_
  refine ro_nil ?_
  try simp only
  refine ex_cond (t := true) (by simp only [evalF, upd, arg0, argS, ofConst, ofCell, Nat.reduceEqDiff, reduceIte] <;> rfl) (fun _ => ?_) (fun h => by simp at h)
  refine ex_seq (ex_region ?_)
  refine ro_move (by simp only [evalF, upd, arg0, argS, ofConst, ofCell, Nat.reduceEqDiff, reduceIte] <;> rfl) (by decide) ?_
  refine ro_call (f := 43) («as» := [.ptr idr 1 0, .pv (.int .i64 10)]) rfl (by simp [evalF, upd, argsF, ofConst, ofCell]) plains_43 rfl (byte_calls facts plains 10000 (d + 1) plains_27 plains_44 (by omega) 10 hb hrd) (by decide) ?_
  rintro v2 hp2 nb2 ⟨rfl, hr2, hk2⟩
  obtain rfl := hk2.1
  have hpm2 := pm_keepR hpm hk2
  have hb2 := byte_rest (e := e) (most := 10) hb
  have hv2 := byte_val (e := e) (most := 10) (by omega) hb
  refine ro_assign (by simp only [evalF, upd, arg0, argS, ofConst, ofCell, Nat.reduceEqDiff, reduceIte] <;> rfl) (by decide) ?_
  refine ro_nil ?_
  try simp only
  have hlr : listR m b e = listN (byteR b e 10).1.toNat m.list (byteR b e 10).2.1 (byteR b e 10).2.2 := rfl
  generalize byteR b e 10 = w at *
  obtain ⟨w1, w2, w3⟩ := w
  simp only at hr2 hb2 hv2 hlr
  rw [hlr]
  clear hlr
  have hfirst : FldOk hp nb2 idm idr q m w2 w3 (.tuple []) hp2 nb2 := ⟨rfl, hpm2, hr2, Nat.le_refl _, fun id hid => hk2.2.1 id (by have := hrd.le; omega), hk2.2.2⟩
  refine ex_block (ex_loop (I := fun k g hpx nbx => ∃ acc b' e', g 0 = .ptr idr 1 0 ∧ g 1 = .ptr idm 1 0 ∧ g 6 = .pv (.int .i64 k) ∧ k ≤ 10 ∧ acc.length + k ≤ 1010 ∧ (∀ x ∈ b', 0 ≤ x ∧ x ≤ 255) ∧ listN k acc b' e' = listN w1.toNat m.list w2 w3 ∧ FldOk hp nb2 idm idr q { m with list := acc } b' e' (.tuple []) hpx nbx) (m := w1.toNat)
    ⟨m.list, w2, w3, by simp [upd, argsF], by simp [upd, argsF], by simp [upd]; omega, by omega, by omega, hb2, rfl, hfirst⟩ (by omega) ?_)
  rintro k g hpx nbx ⟨acc, b', e', h0, h1, h6, hk10, hacc, hb', hls, hfo⟩
  refine ex_seq (ex_seq (ex_region ?_))
  refine ro_move (by simp only [evalF, upd, arg0, argS, ofConst, ofCell, Nat.reduceEqDiff, reduceIte, h0, h1, h6] <;> rfl) (by decide) ?_
  refine ro_bin (by simp only [evalF, upd, arg0, argS, ofConst, ofCell, Nat.reduceEqDiff, reduceIte, h0, h1, h6] <;> rfl) (by simp only [evalF, upd, arg0, argS, ofConst, ofCell, Nat.reduceEqDiff, reduceIte, h0, h1, h6] <;> rfl) (by exact (gtr_v)) (by decide) ?_
  refine ro_nil ?_
  try simp only
  refine ex_cond (t := decide ((k : Int) > 0)) (by simp only [evalF, upd, arg0, argS, ofConst, ofCell, Nat.reduceEqDiff, reduceIte, h0, h1, h6] <;> rfl) (fun ht => ?_) (fun ht => ?_)
  rotate_left
  · have hk0 : k = 0 := by
      have := of_decide_eq_false ht
      omega
    subst hk0
    refine ex_exit ?_
    simp only [if_true]
    refine ⟨.tuple [], rfl, ?_⟩
    rw [← hls]
    exact hfo
  · refine ex_skip ?_
    try simp only
    obtain ⟨k', rfl⟩ : ∃ k', k = k' + 1 := ⟨k - 1, by have := of_decide_eq_true ht; omega⟩
    have hfo3 := hfo
    obtain ⟨_, hpm3, hrd3, _⟩ := hfo3
    obtain ⟨L, D, g1, g2, g3, g4, g5⟩ := hpm3.ex
    refine ex_seq (ex_block (ex_draw listStat ?_))
    refine rd_val (v := .ptr idm 1 0) rfl (by simp [primA, evalF, upd, h1]) (by decide) ?_
    refine rd_val (v := .ptr idm 1 0) rfl (by simp [primA, evalF, upd, h1]) (by decide) ?_
    refine rd_val (v := .ptr idm 1 0) rfl (by simp [primA, evalF, upd]) (by decide) ?_
    refine rd_val (v := .ptr idm 1 (0 + 3)) rfl (by simp only [primA, evalF, upd, Nat.reduceEqDiff, reduceIte, fa30_3, Option.map_some]) (by decide) ?_
    refine rd_val (v := L) rfl (by simp only [primA, evalF, upd, Nat.reduceEqDiff, reduceIte, load1 ag24 g1 mc3, Option.map_some]) (by decide) ?_
    refine rd_val (v := .ptr idr 1 0) rfl (by simp [primA, evalF, upd, h0]) (by decide) ?_
    refine rd_call (f := 43) («as» := [.ptr idr 1 0, .pv (.int .i64 9)]) (by simp [evalF, upd, ofConst, ofCell]) plains_43 rfl (byte_calls facts plains 10000 (d + 1) plains_27 plains_44 (by omega) 9 hb' hrd3) (by decide) ?_
    rintro v4 h h' hh hn ⟨rfl, hr4, hk4⟩
    have hnb := hk4.1
    have hpm4 : Pm (hf h') h'.length idm idr q { m with list := acc } := pm_keepR hpm3 hk4
    have g1' : AI.look (hf h') idm 1 = some (mcells { m with list := acc } L D) := by rw [look_at 1 (hk4.2.1 idm hpm3.ne)]; exact g1
    have g2' : Grow (hf h') h'.length L (ints acc) := g2.keep (by omega) (fun id hid ho => hk4.2.1 id (g4 id ho).2.2.1)
    have g3' : Row (hf h') h'.length D (u8s m.data) := g3.keep (by omega) (fun id hid ho => hk4.2.1 id (g5 id ho).2.2)
    have hr4' : Rd (hf h') h'.length idr q (byteR b' e' 9).2.1 (byteR b' e' 9).2.2 := by rw [hnb]; exact hr4
    have hb4 := byte_rest (e := e') (most := 9) hb'
    have hln : listN k' (acc ++ [(byteR b' e' 9).1]) (byteR b' e' 9).2.1 (byteR b' e' 9).2.2 = listN w1.toNat m.list w2 w3 := hls
    have hmid : FldOk hpx nbx idm idr q { m with list := acc } (byteR b' e' 9).2.1 (byteR b' e' 9).2.2 (.tuple []) (hf h') h'.length := ⟨rfl, hpm4, hr4', by omega, fun id hid => hk4.2.1 id (by have := hrd3.le; omega), by rw [hnb]; rw [hnb] at hk4; exact hk4.2.2⟩
    generalize byteR b' e' 9 = y at *
    obtain ⟨y1, y2, y3⟩ := y
    simp only at hr4' hb4 hln hmid
    refine rd_new (v := .slice h'.length 1 0 1 1 1 true) (b := .cells 1 [.pv (.int .i64 y1)]) rfl (by simp only [primA, List.map_cons, List.map_nil, evalF, upd, Nat.reduceEqDiff, reduceIte]; exact bs24_1 _ _) (by decide) ?_
    refine rd_append (r := [.int .i64 y1]) st24 Try.underlying24 (v := L) (by simp [evalF, upd]) (by simp only [evalF, upd, Nat.reduceEqDiff, reduceIte]; rfl) (g2'.keep (Nat.le_succ _) (fun id hid _ => by simp [setHp, show id ≠ h'.length by omega])) (src_built rfl (by simp [setHp])) (by simp [ints]; omega) (by decide) ?_
    intro L2 hp5 nb5 c5 hg5 ha5 hc5 ho5
    have hax := after_trans (after_new (hf h') h'.length L [.pv (.int .i64 y1)] (pvs_ok [.int .i64 y1])) ha5 (fun id h => .inl h)
    have hLi : ∀ id, ownOf L = some id → id < h'.length := fun id h => row_own g2'.row h
    have hm5 : AI.look hp5 idm 1 = some (mcells { m with list := acc } L D) := by
      rw [look_at 1 (hax.2.1 idm (by have := hpm4.lt; omega) (fun h => (g4 idm h).2.1 rfl))]
      exact g1'
    refine rd_val (v := .ptr idm 1 0) rfl (by simp [primA, evalF, upd]) (by decide) ?_
    refine rd_val (v := .ptr idm 1 (0 + 3)) rfl (by simp only [primA, evalF, upd, Nat.reduceEqDiff, reduceIte, fa30_3, Option.map_some]) (by decide) ?_
    have hst := put_field (v := L2) (m' := { m with list := acc ++ [y1] }) (L' := L2) (D' := D) (off := 0 + 3) hpm.key sz24 hm5 ⟨(row_cell hg5.row).2, (row_cell hg5.row).1⟩ (by omega) (spl3 _ _)
    refine rd_upd (dst := none) (v := undefA) rfl (by simp only [primA, evalF, upd, Nat.reduceEqDiff, reduceIte]; exact hst) (look_live hm5) (fun e he => by cases he) ?_
    refine rd_nil ⟨dyn_of rfl (fun p hp' => ?_), ?_⟩
    · have hp'' : p ∈ needs (regOf Try.f26 9) := hp'
      rw [listNeeds] at hp''
      simp only [List.mem_cons, List.not_mem_nil, or_false] at hp''
      rcases hp'' with rfl | rfl <;> intro x y hx hy <;> cases hx <;> cases hy
      · refine heapPart_load_all rfl rfl (fun id hid => ?_)
        simp [footF, looksIn, Op.operands, evalF, upd, idOf] at hid
        subst hid
        rw [hh, look_blk g1, look_blk g1']
        exact eqBlk_refl (ok_cells (grow_okC g2) (row_ok' g3))
      · have hlt4 := hpm4.lt
        simp [heapPart, footF, Chg.isAll, Chg.ids, disjointL, looksIn, Op.operands, evalF, upd, idOf, heapful]
        omega
    try simp only
    simp only [putF]
    refine ex_region ?_
    refine ro_move (by simp only [evalF, upd, arg0, argS, ofConst, ofCell, Nat.reduceEqDiff, reduceIte, h0, h1, h6] <;> rfl) (by decide) ?_
    refine ro_bin (by simp only [evalF, upd, arg0, argS, ofConst, ofCell, Nat.reduceEqDiff, reduceIte, h0, h1, h6] <;> rfl) (by simp only [evalF, upd, arg0, argS, ofConst, ofCell, Nat.reduceEqDiff, reduceIte, h0, h1, h6] <;> rfl) (by exact (sub_v (by omega))) (by decide) ?_
    refine ro_assign (by simp only [evalF, upd, arg0, argS, ofConst, ofCell, Nat.reduceEqDiff, reduceIte, h0, h1, h6] <;> rfl) (by decide) ?_
    refine ro_nil ?_
    have hgi : Grow hp5 nb5 L2 (ints (acc ++ [y1])) := by
      have : ints (acc ++ [y1]) = ints acc ++ [.int .i64 y1] := by simp [ints]
      rw [this]; exact hg5
    have hstep := fld_push (m := { m with list := acc }) y1 hpm4 hr4' g3' g4 g5 hgi hax (fun id h => (ho5 id h).imp (fun h => h) (fun h => by omega))
    refine ⟨k', by omega, acc ++ [y1], y2, y3, by simp [putF, upd, h0], by simp [putF, upd, h1], by simp [putF, upd], by omega, by simp; omega, hb4, hln, ?_⟩
    exact fld_seq hfo (fld_seq hmid hstep)
end Go.Proofs.Ytlinbbjobjnipaa
