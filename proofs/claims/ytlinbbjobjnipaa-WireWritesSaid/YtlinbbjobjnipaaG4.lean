/- The document's writer. Printed by gen_writer.py. -/
import Derived.Test.YtlinbbjobjnipaaG0
set_option linter.unusedVariables false
set_option linter.unusedSimpArgs false
set_option linter.unusedSectionVars false
namespace Go.Proofs.Ytlinbbjobjnipaa
open Go AI

set_option maxHeartbeats 4000000
set_option maxRecDepth 10000

theorem fa50_0 (id ver off : Nat) : fieldAddrA Try.prog 50 (.ptr id ver off) 0 = some (.ptr id ver off) := by kernel_rfl
theorem fa50_1 (id ver off : Nat) : fieldAddrA Try.prog 50 (.ptr id ver off) 1 = some (.ptr id ver (off + 1)) := by kernel_rfl

/-- The writer: bytes, and the first thing that was wrong. -/
structure Wr (hp : Hp) (nb idw q : Nat) (bs : List Int) (e : Int) : Prop where
  lt : idw < nb
  le : q ≤ idw
  ex : ∃ v, AI.look hp idw 1 = some [v, .pv (.int .i64 e)] ∧ Grow hp nb v (u8s bs) ∧ ∀ id, ownOf v = some id → q ≤ id ∧ id ≠ idw

/-- What a call of a writer's method gives. -/
def WrS (hp : Hp) (nb idw q : Nat) (bs : List Int) (e : Int) (v : AV) (hp' : Hp) (nb' : Nat) : Prop :=
  v = .tuple [] ∧ Wr hp' nb' idw q bs e ∧ nb ≤ nb' ∧ (∀ id, id < q → hp' id = hp id) ∧ (Tidy hp nb → Tidy hp' nb')

def wrongE (e : Int) (is : Bool) (x : Int) : Int := if (e == 0 && is) = true then x else e

theorem wrs_trans {hp hp1 hp2 : Hp} {nb nb1 nb2 idw q : Nat} {bs1 bs2 : List Int} {e1 e2 : Int} {v1 v2 : AV} (h1 : WrS hp nb idw q bs1 e1 v1 hp1 nb1) (h2 : WrS hp1 nb1 idw q bs2 e2 v2 hp2 nb2) : WrS hp nb idw q bs2 e2 v2 hp2 nb2 := by
  obtain ⟨_, _, a1, a2, a3⟩ := h1
  obtain ⟨b0, b1, b2, b3, b4⟩ := h2
  exact ⟨b0, b1, Nat.le_trans a1 b2, fun id hid => (b3 id hid).trans (a2 id hid), fun ht => b4 (a3 ht)⟩

theorem wr_err {hp : Hp} {nb idw q : Nat} {bs : List Int} {e x : Int} (h : Wr hp nb idw q bs e) : ∃ v, AI.look hp idw 1 = some [v, .pv (.int .i64 e)] ∧ WrS hp nb idw q bs x (.tuple []) (setHp hp idw (.cells 1 [v, .pv (.int .i64 x)])) nb := by
  obtain ⟨v, h1, h2, h3⟩ := h.ex
  refine ⟨v, h1, rfl, ⟨h.lt, h.le, v, look_same _ _ _ _, h2.keep (Nat.le_refl _) (fun id hid ho => by simp [setHp, (h3 id ho).2]), h3⟩, Nat.le_refl _, fun id hid => ?_, fun ht => tidy_put ht ?_⟩
  · have := h.le
    simp [setHp, show id ≠ idw by omega]
  · intro c hc
    simp only [List.mem_cons, List.not_mem_nil, or_false] at hc
    rcases hc with rfl | rfl
    · exact grow_okC h2
    · exact okC_pv _ _

theorem wr_store {hp hp2 : Hp} {nb nb2 idw q : Nat} {bs : List Int} {e : Int} {v v' : AV} (hlt : idw < nb) (hle : q ≤ idw) (hl : AI.look hp idw 1 = some [v, .pv (.int .i64 e)]) (ho : ∀ id, ownOf v = some id → q ≤ id ∧ id ≠ idw) (hax : After hp nb v hp2 nb2) (hg : Grow hp2 nb2 v' (u8s bs)) (ho' : ∀ id, ownOf v' = some id → ownOf v = some id ∨ nb ≤ id) :
    storeA Try.prog hp2 27 (.ptr idw 1 0) v' = some (.upd undefA idw (.cells 1 [v', .pv (.int .i64 e)])) ∧ WrS hp nb idw q bs e (.tuple []) (setHp hp2 idw (.cells 1 [v', .pv (.int .i64 e)])) nb2 := by
  have hne : ownOf v ≠ some idw := fun h => (ho idw h).2 rfl
  have hl2 : AI.look hp2 idw 1 = some [v, .pv (.int .i64 e)] := by rw [look_at 1 (hax.2.1 idw hlt hne)]; exact hl
  have hne' : ∀ id, ownOf v' = some id → q ≤ id ∧ id ≠ idw := fun id h => by
    rcases ho' id h with h | h
    · exact ho id h
    · exact ⟨by omega, by omega⟩
  have hc := row_cell hg.row
  refine ⟨store1 sz27 hl2 hc.2 hc.1 (by simp), rfl, ⟨by have := hax.1; omega, hle, v', look_same _ _ _ _, hg.keep (Nat.le_refl _) (fun id hid h => by simp [setHp, (hne' id h).2]), hne'⟩, hax.1, fun id hid => ?_, fun ht => tidy_put (hax.2.2 ht) ?_⟩
  · rw [show setHp hp2 idw (.cells 1 [v', .pv (.int .i64 e)]) id = hp2 id by simp [setHp, show id ≠ idw by omega]]
    exact hax.2.1 id (by omega) (fun h => by have := (ho id h).1; omega)
  · intro c hc
    simp only [List.mem_cons, List.not_mem_nil, or_false] at hc
    rcases hc with rfl | rfl
    · exact grow_okC hg
    · exact okC_pv _ _

theorem plains_41 : plains 41 = false := rfl
theorem plains_21 : plains 21 = false := rfl

theorem wrong41 (d : Nat) {hp : Hp} {nb idw q : Nat} {bs : List Int} {e : Int} (is : Bool) (x : Int) (h : Wr hp nb idw q bs e) :
    CA (callA Try.prog facts plains 10000 (d + 1)) 41 [.ptr idw 1 0, .pv (.bool is), .pv (.int .i64 x)] hp nb (WrS hp nb idw q bs (wrongE e is x)) := by
  refine ca_body (fn := Try.f41) (c := bodyOf Try.f41) Try.func41 rfl (by show 3 ≤ 18; omega) ?_
  show EX _ _ _ _ _ 18 _ _ _ _ _
  unfold bodyOf Try.f41
  obtain ⟨v, h1, hs⟩ := wr_err (x := x) h
  refine ex_seq (ex_region ?_)
  refine ro_move (by simp only [evalF, upd, arg0, argS, ofConst, ofCell, Nat.reduceEqDiff, reduceIte] <;> rfl) (by decide) ?_
  refine ro_nilCheck (by simp only [evalF, upd, arg0, argS, ofConst, ofCell, Nat.reduceEqDiff, reduceIte] <;> rfl) (by decide) ?_
  refine ro_fieldAddr (by simp only [evalF, upd, arg0, argS, ofConst, ofCell, Nat.reduceEqDiff, reduceIte] <;> rfl) (by exact (fa50_1 _ _ _)) (by decide) ?_
  refine ro_load (by simp only [evalF, upd, arg0, argS, ofConst, ofCell, Nat.reduceEqDiff, reduceIte] <;> rfl) (by exact (load1 ag3 h1 rfl)) (by decide) ?_
  refine ro_bin (by simp only [evalF, upd, arg0, argS, ofConst, ofCell, Nat.reduceEqDiff, reduceIte] <;> rfl) (by simp only [evalF, upd, arg0, argS, ofConst, ofCell, Nat.reduceEqDiff, reduceIte] <;> rfl) (by exact (eql_v)) (by decide) ?_
  refine ro_move (by simp only [evalF, upd, arg0, argS, ofConst, ofCell, Nat.reduceEqDiff, reduceIte] <;> rfl) (by decide) ?_
  refine ro_gsel (b := e == 0) (want := true) (v := .pv (.bool is)) rfl (by simp only [evalF, upd, arg0, argS, ofConst, ofCell, Nat.reduceEqDiff, reduceIte] <;> rfl) rfl (fun hb => by simp only [primA, evalF, upd, arg0, argS, ofConst, ofCell, Nat.reduceEqDiff, reduceIte, selV_hit hb] <;> rfl) (by decide) ?_
  refine ro_pand (b := e == 0) (z := is) (by simp only [evalF, upd, arg0, argS, ofConst, ofCell, Nat.reduceEqDiff, reduceIte] <;> rfl) (by simp only [evalF, upd, arg0, argS, ofConst, ofCell, Nat.reduceEqDiff, reduceIte] <;> rfl) (by decide) ?_
  refine ro_nil ?_
  try simp only
  refine ex_cond (t := e == 0 && is) (by simp only [evalF, upd, arg0, argS, ofConst, ofCell, Nat.reduceEqDiff, reduceIte] <;> rfl) (fun hc => ?_) (fun hc => ?_)
  · refine ex_region ?_
    refine ro_move (by simp only [evalF, upd, arg0, argS, ofConst, ofCell, Nat.reduceEqDiff, reduceIte] <;> rfl) (by decide) ?_
    refine ro_move (by simp only [evalF, upd, arg0, argS, ofConst, ofCell, Nat.reduceEqDiff, reduceIte] <;> rfl) (by decide) ?_
    refine ro_nilCheck (by simp only [evalF, upd, arg0, argS, ofConst, ofCell, Nat.reduceEqDiff, reduceIte] <;> rfl) (by decide) ?_
    refine ro_fieldAddr (by simp only [evalF, upd, arg0, argS, ofConst, ofCell, Nat.reduceEqDiff, reduceIte] <;> rfl) (by exact (fa50_1 _ _ _)) (by decide) ?_
    refine ro_store (by simp only [evalF, upd, arg0, argS, ofConst, ofCell, Nat.reduceEqDiff, reduceIte] <;> rfl) (by simp only [evalF, upd, arg0, argS, ofConst, ofCell, Nat.reduceEqDiff, reduceIte] <;> rfl) (store1 sz3 h1 rfl rfl (by simp)) ?_
    refine ro_nil ?_
    try simp only
    refine ⟨.tuple [], rfl, ?_⟩
    unfold wrongE
    rw [if_pos hc]
    exact hs
  · refine ex_skip ?_
    try simp only
    refine ⟨.tuple [], rfl, rfl, ?_, Nat.le_refl _, fun _ _ => rfl, fun ht => ht⟩
    unfold wrongE
    rw [if_neg (by simp [hc])]
    exact h

def nodeBad (n least : Int) : Bool := decide (n < least) || decide (n ≥ 10)


theorem node21 (d : Nat) {hp : Hp} {nb idw q : Nat} {bs : List Int} {e : Int} (n least : Int) (h : Wr hp nb idw q bs e) (hsz : bs.length < 200000) :
    CA (callA Try.prog facts plains 10000 (d + 2)) 21 [.ptr idw 1 0, .pv (.int .i64 n), .pv (.int .i64 least)] hp nb (WrS hp nb idw q (bs ++ [u8 n]) (wrongE e (nodeBad n least) 1)) := by
  refine ca_body (fn := Try.f21) (c := bodyOf Try.f21) Try.func21 rfl (by show 3 ≤ 26; omega) ?_
  show EX _ _ _ _ _ 26 _ _ _ _ _
  unfold bodyOf Try.f21
  refine ex_seq (ex_region ?_)
  refine ro_move (by simp only [evalF, upd, arg0, argS, ofConst, ofCell, Nat.reduceEqDiff, reduceIte] <;> rfl) (by decide) ?_
  refine ro_move (by simp only [evalF, upd, arg0, argS, ofConst, ofCell, Nat.reduceEqDiff, reduceIte] <;> rfl) (by decide) ?_
  refine ro_move (by simp only [evalF, upd, arg0, argS, ofConst, ofCell, Nat.reduceEqDiff, reduceIte] <;> rfl) (by decide) ?_
  refine ro_bin (by simp only [evalF, upd, arg0, argS, ofConst, ofCell, Nat.reduceEqDiff, reduceIte] <;> rfl) (by simp only [evalF, upd, arg0, argS, ofConst, ofCell, Nat.reduceEqDiff, reduceIte] <;> rfl) (by exact (lss_v)) (by decide) ?_
  refine ro_move (by simp only [evalF, upd, arg0, argS, ofConst, ofCell, Nat.reduceEqDiff, reduceIte] <;> rfl) (by decide) ?_
  refine ro_gsel (b := decide (n < least)) (want := false) (v := .pv (.int .i64 n)) rfl (by simp only [evalF, upd, arg0, argS, ofConst, ofCell, Nat.reduceEqDiff, reduceIte] <;> rfl) rfl (fun hb => by simp only [primA, evalF, upd, arg0, argS, ofConst, ofCell, Nat.reduceEqDiff, reduceIte, selV_hit hb] <;> rfl) (by decide) ?_
  refine ro_gsel (b := decide (n < least)) (want := false) (v := .pv (.bool (decide (n ≥ 10)))) rfl (by simp only [evalF, upd, arg0, argS, ofConst, ofCell, Nat.reduceEqDiff, reduceIte] <;> rfl) rfl (fun hb => by simp only [primA, evalF, upd, arg0, argS, ofConst, ofCell, Nat.reduceEqDiff, reduceIte, selV_hit hb, geq_v, Option.map_some] <;> rfl) (by decide) ?_
  refine ro_por (b := decide (n < least)) (z := decide (n ≥ 10)) (by simp only [evalF, upd, arg0, argS, ofConst, ofCell, Nat.reduceEqDiff, reduceIte] <;> rfl) (by simp only [evalF, upd, arg0, argS, ofConst, ofCell, Nat.reduceEqDiff, reduceIte] <;> rfl) (by decide) ?_
  refine ro_call (f := 41) («as» := [.ptr idw 1 0, .pv (.bool (nodeBad n least)), .pv (.int .i64 1)]) rfl (by simp [nodeBad, evalF, upd, arg0, argS, ofConst, ofCell, Nat.reduceEqDiff, reduceIte]) plains_41 rfl (wrong41 _ (nodeBad n least) 1 h) (by decide) ?_
  rintro v2 hp2 nb2 hS1
  obtain ⟨rfl, hw2, _, _, _⟩ := id hS1
  refine ro_nil ?_
  try simp only
  obtain ⟨vb, hl2, hg2, ho2⟩ := hw2.ex
  refine ex_region ?_
  refine ro_move (by simp only [evalF, upd, arg0, argS, ofConst, ofCell, Nat.reduceEqDiff, reduceIte] <;> rfl) (by decide) ?_
  refine ro_move (by simp only [evalF, upd, arg0, argS, ofConst, ofCell, Nat.reduceEqDiff, reduceIte] <;> rfl) (by decide) ?_
  refine ro_nilCheck (by simp only [evalF, upd, arg0, argS, ofConst, ofCell, Nat.reduceEqDiff, reduceIte] <;> rfl) (by decide) ?_
  refine ro_fieldAddr (by simp only [evalF, upd, arg0, argS, ofConst, ofCell, Nat.reduceEqDiff, reduceIte] <;> rfl) (by exact (fa50_0 _ _ _)) (by decide) ?_
  refine ro_load (by simp only [evalF, upd, arg0, argS, ofConst, ofCell, Nat.reduceEqDiff, reduceIte] <;> rfl) (by exact (load1 ag27 hl2 rfl)) (by decide) ?_
  refine ro_move (by simp only [evalF, upd, arg0, argS, ofConst, ofCell, Nat.reduceEqDiff, reduceIte] <;> rfl) (by decide) ?_
  refine ro_conv (by simp only [evalF, upd, arg0, argS, ofConst, ofCell, Nat.reduceEqDiff, reduceIte] <;> rfl) (by exact (conv_u8 _ _)) (by decide) ?_
  refine ro_buildSlice rfl (by simp only [List.map_cons, List.map_nil, evalF, upd, arg0, argS, ofConst, ofCell, Nat.reduceEqDiff, reduceIte]; exact bs27_1 _ _) (by decide) ?_
  refine ro_append (r := [.int .u8 (u8 n)]) st27 Try.underlying27 (by simp only [evalF, upd, arg0, argS, ofConst, ofCell, Nat.reduceEqDiff, reduceIte] <;> rfl) (by simp only [evalF, upd, arg0, argS, ofConst, ofCell, Nat.reduceEqDiff, reduceIte] <;> rfl) (hg2.keep (Nat.le_succ _) (fun id hid _ => by simp [setHp, show id ≠ nb2 by omega])) (src_built rfl (by simp [setHp])) (by simp [u8s]; omega) (by decide) ?_
  intro v3 hp3 nb3 hg3 ha3 ho3
  have hax := after_trans (after_new hp2 nb2 vb [.pv (.int .u8 (u8 n))] (pvs_ok [.int .u8 (u8 n)])) ha3 (fun id h => .inl h)
  obtain ⟨hst, hS⟩ := wr_store (bs := bs ++ [u8 n]) hw2.lt hw2.le hl2 ho2 hax (by simpa [u8s] using hg3) (fun id h => (ho3 id h).imp (fun h => h) (fun h => by omega))
  refine ro_nilCheck (by simp only [evalF, upd, arg0, argS, ofConst, ofCell, Nat.reduceEqDiff, reduceIte] <;> rfl) (by decide) ?_
  refine ro_fieldAddr (by simp only [evalF, upd, arg0, argS, ofConst, ofCell, Nat.reduceEqDiff, reduceIte] <;> rfl) (by exact (fa50_0 _ _ _)) (by decide) ?_
  refine ro_store (by simp only [evalF, upd, arg0, argS, ofConst, ofCell, Nat.reduceEqDiff, reduceIte] <;> rfl) (by simp only [evalF, upd, arg0, argS, ofConst, ofCell, Nat.reduceEqDiff, reduceIte] <;> rfl) hst ?_
  refine ro_nil ?_
  try simp only
  exact ⟨.tuple [], rfl, wrs_trans hS1 hS⟩

theorem err23 (d : Nat) {hp : Hp} {nb idw q : Nat} {bs : List Int} {e : Int} (n : Int) (h : Wr hp nb idw q bs e) (hsz : bs.length < 100000) :
    CA (callA Try.prog facts plains 10000 (d + 2)) 23 [.ptr idw 1 0, .pv (.int .i64 n)] hp nb (WrS hp nb idw q (bs ++ [u8 n]) (wrongE e (decide (n < 0) || decide (n > 20)) 1)) := by
  refine ca_body (fn := Try.f23) (c := bodyOf Try.f23) Try.func23 rfl (by show 2 ≤ 23; omega) ?_
  show EX _ _ _ _ _ 23 _ _ _ _ _
  unfold bodyOf Try.f23
  refine ex_seq (ex_region ?_)
  refine ro_move (by simp only [evalF, upd, arg0, argS, ofConst, ofCell, Nat.reduceEqDiff, reduceIte] <;> rfl) (by decide) ?_
  refine ro_move (by simp only [evalF, upd, arg0, argS, ofConst, ofCell, Nat.reduceEqDiff, reduceIte] <;> rfl) (by decide) ?_
  refine ro_bin (by simp only [evalF, upd, arg0, argS, ofConst, ofCell, Nat.reduceEqDiff, reduceIte] <;> rfl) (by simp only [evalF, upd, arg0, argS, ofConst, ofCell, Nat.reduceEqDiff, reduceIte] <;> rfl) (by exact (lss_v)) (by decide) ?_
  refine ro_move (by simp only [evalF, upd, arg0, argS, ofConst, ofCell, Nat.reduceEqDiff, reduceIte] <;> rfl) (by decide) ?_
  refine ro_gsel (b := decide (n < 0)) (want := false) (v := .pv (.int .i64 n)) rfl (by simp only [evalF, upd, arg0, argS, ofConst, ofCell, Nat.reduceEqDiff, reduceIte] <;> rfl) rfl (fun hb => by simp only [primA, evalF, upd, arg0, argS, ofConst, ofCell, Nat.reduceEqDiff, reduceIte, selV_hit hb] <;> rfl) (by decide) ?_
  refine ro_gsel (b := decide (n < 0)) (want := false) (v := .pv (.bool (decide (n > 20)))) rfl (by simp only [evalF, upd, arg0, argS, ofConst, ofCell, Nat.reduceEqDiff, reduceIte] <;> rfl) rfl (fun hb => by simp only [primA, evalF, upd, arg0, argS, ofConst, ofCell, Nat.reduceEqDiff, reduceIte, selV_hit hb, gtr_v, Option.map_some] <;> rfl) (by decide) ?_
  refine ro_por (b := decide (n < 0)) (z := decide (n > 20)) (by simp only [evalF, upd, arg0, argS, ofConst, ofCell, Nat.reduceEqDiff, reduceIte] <;> rfl) (by simp only [evalF, upd, arg0, argS, ofConst, ofCell, Nat.reduceEqDiff, reduceIte] <;> rfl) (by decide) ?_
  refine ro_call (f := 41) («as» := [.ptr idw 1 0, .pv (.bool (decide (n < 0) || decide (n > 20))), .pv (.int .i64 1)]) rfl (by simp [nodeBad, evalF, upd, arg0, argS, ofConst, ofCell, Nat.reduceEqDiff, reduceIte]) plains_41 rfl (wrong41 _ (decide (n < 0) || decide (n > 20)) 1 h) (by decide) ?_
  rintro v2 hp2 nb2 hS1
  obtain ⟨rfl, hw2, _, _, _⟩ := id hS1
  refine ro_nil ?_
  try simp only
  obtain ⟨vb, hl2, hg2, ho2⟩ := hw2.ex
  refine ex_region ?_
  refine ro_move (by simp only [evalF, upd, arg0, argS, ofConst, ofCell, Nat.reduceEqDiff, reduceIte] <;> rfl) (by decide) ?_
  refine ro_move (by simp only [evalF, upd, arg0, argS, ofConst, ofCell, Nat.reduceEqDiff, reduceIte] <;> rfl) (by decide) ?_
  refine ro_nilCheck (by simp only [evalF, upd, arg0, argS, ofConst, ofCell, Nat.reduceEqDiff, reduceIte] <;> rfl) (by decide) ?_
  refine ro_fieldAddr (by simp only [evalF, upd, arg0, argS, ofConst, ofCell, Nat.reduceEqDiff, reduceIte] <;> rfl) (by exact (fa50_0 _ _ _)) (by decide) ?_
  refine ro_load (by simp only [evalF, upd, arg0, argS, ofConst, ofCell, Nat.reduceEqDiff, reduceIte] <;> rfl) (by exact (load1 ag27 hl2 rfl)) (by decide) ?_
  refine ro_move (by simp only [evalF, upd, arg0, argS, ofConst, ofCell, Nat.reduceEqDiff, reduceIte] <;> rfl) (by decide) ?_
  refine ro_conv (by simp only [evalF, upd, arg0, argS, ofConst, ofCell, Nat.reduceEqDiff, reduceIte] <;> rfl) (by exact (conv_u8e _ _)) (by decide) ?_
  refine ro_buildSlice rfl (by simp only [List.map_cons, List.map_nil, evalF, upd, arg0, argS, ofConst, ofCell, Nat.reduceEqDiff, reduceIte]; exact bs27_1 _ _) (by decide) ?_
  refine ro_append (r := [.int .u8 (u8 n)]) st27 Try.underlying27 (by simp only [evalF, upd, arg0, argS, ofConst, ofCell, Nat.reduceEqDiff, reduceIte] <;> rfl) (by simp only [evalF, upd, arg0, argS, ofConst, ofCell, Nat.reduceEqDiff, reduceIte] <;> rfl) (hg2.keep (Nat.le_succ _) (fun id hid _ => by simp [setHp, show id ≠ nb2 by omega])) (src_built rfl (by simp [setHp])) (by simp [u8s]; omega) (by decide) ?_
  intro v3 hp3 nb3 hg3 ha3 ho3
  have hax := after_trans (after_new hp2 nb2 vb [.pv (.int .u8 (u8 n))] (pvs_ok [.int .u8 (u8 n)])) ha3 (fun id h => .inl h)
  obtain ⟨hst, hS⟩ := wr_store (bs := bs ++ [u8 n]) hw2.lt hw2.le hl2 ho2 hax (by simpa [u8s] using hg3) (fun id h => (ho3 id h).imp (fun h => h) (fun h => by omega))
  refine ro_nilCheck (by simp only [evalF, upd, arg0, argS, ofConst, ofCell, Nat.reduceEqDiff, reduceIte] <;> rfl) (by decide) ?_
  refine ro_fieldAddr (by simp only [evalF, upd, arg0, argS, ofConst, ofCell, Nat.reduceEqDiff, reduceIte] <;> rfl) (by exact (fa50_0 _ _ _)) (by decide) ?_
  refine ro_store (by simp only [evalF, upd, arg0, argS, ofConst, ofCell, Nat.reduceEqDiff, reduceIte] <;> rfl) (by simp only [evalF, upd, arg0, argS, ofConst, ofCell, Nat.reduceEqDiff, reduceIte] <;> rfl) hst ?_
  refine ro_nil ?_
  try simp only
  exact ⟨.tuple [], rfl, wrs_trans hS1 hS⟩

theorem time25 (d : Nat) {hp : Hp} {nb idw q : Nat} {bs : List Int} {e : Int} (n : Int) (h : Wr hp nb idw q bs e) (hsz : bs.length < 100000) :
    CA (callA Try.prog facts plains 10000 (d + 2)) 25 [.ptr idw 1 0, .pv (.int .i64 n)] hp nb (WrS hp nb idw q (bs ++ [u8 (n / 16777216), u8 (n / 65536), u8 (n / 256), u8 n]) (wrongE e (decide (n < 1) || decide (n > 1000)) 1)) := by
  refine ca_body (fn := Try.f25) (c := bodyOf Try.f25) Try.func25 rfl (by show 2 ≤ 32; omega) ?_
  show EX _ _ _ _ _ 32 _ _ _ _ _
  unfold bodyOf Try.f25
  refine ex_seq (ex_region ?_)
  refine ro_move (by simp only [evalF, upd, arg0, argS, ofConst, ofCell, Nat.reduceEqDiff, reduceIte] <;> rfl) (by decide) ?_
  refine ro_move (by simp only [evalF, upd, arg0, argS, ofConst, ofCell, Nat.reduceEqDiff, reduceIte] <;> rfl) (by decide) ?_
  refine ro_bin (by simp only [evalF, upd, arg0, argS, ofConst, ofCell, Nat.reduceEqDiff, reduceIte] <;> rfl) (by simp only [evalF, upd, arg0, argS, ofConst, ofCell, Nat.reduceEqDiff, reduceIte] <;> rfl) (by exact (lss_v)) (by decide) ?_
  refine ro_move (by simp only [evalF, upd, arg0, argS, ofConst, ofCell, Nat.reduceEqDiff, reduceIte] <;> rfl) (by decide) ?_
  refine ro_gsel (b := decide (n < 1)) (want := false) (v := .pv (.int .i64 n)) rfl (by simp only [evalF, upd, arg0, argS, ofConst, ofCell, Nat.reduceEqDiff, reduceIte] <;> rfl) rfl (fun hb => by simp only [primA, evalF, upd, arg0, argS, ofConst, ofCell, Nat.reduceEqDiff, reduceIte, selV_hit hb] <;> rfl) (by decide) ?_
  refine ro_gsel (b := decide (n < 1)) (want := false) (v := .pv (.bool (decide (n > 1000)))) rfl (by simp only [evalF, upd, arg0, argS, ofConst, ofCell, Nat.reduceEqDiff, reduceIte] <;> rfl) rfl (fun hb => by simp only [primA, evalF, upd, arg0, argS, ofConst, ofCell, Nat.reduceEqDiff, reduceIte, selV_hit hb, gtr_v, Option.map_some] <;> rfl) (by decide) ?_
  refine ro_por (b := decide (n < 1)) (z := decide (n > 1000)) (by simp only [evalF, upd, arg0, argS, ofConst, ofCell, Nat.reduceEqDiff, reduceIte] <;> rfl) (by simp only [evalF, upd, arg0, argS, ofConst, ofCell, Nat.reduceEqDiff, reduceIte] <;> rfl) (by decide) ?_
  refine ro_call (f := 41) («as» := [.ptr idw 1 0, .pv (.bool (decide (n < 1) || decide (n > 1000))), .pv (.int .i64 1)]) rfl (by simp [nodeBad, evalF, upd, arg0, argS, ofConst, ofCell, Nat.reduceEqDiff, reduceIte]) plains_41 rfl (wrong41 _ (decide (n < 1) || decide (n > 1000)) 1 h) (by decide) ?_
  rintro v2 hp2 nb2 hS1
  obtain ⟨rfl, hw2, _, _, _⟩ := id hS1
  refine ro_nil ?_
  try simp only
  obtain ⟨vb, hl2, hg2, ho2⟩ := hw2.ex
  refine ex_region ?_
  refine ro_move (by simp only [evalF, upd, arg0, argS, ofConst, ofCell, Nat.reduceEqDiff, reduceIte] <;> rfl) (by decide) ?_
  refine ro_move (by simp only [evalF, upd, arg0, argS, ofConst, ofCell, Nat.reduceEqDiff, reduceIte] <;> rfl) (by decide) ?_
  refine ro_nilCheck (by simp only [evalF, upd, arg0, argS, ofConst, ofCell, Nat.reduceEqDiff, reduceIte] <;> rfl) (by decide) ?_
  refine ro_fieldAddr (by simp only [evalF, upd, arg0, argS, ofConst, ofCell, Nat.reduceEqDiff, reduceIte] <;> rfl) (by exact (fa50_0 _ _ _)) (by decide) ?_
  refine ro_load (by simp only [evalF, upd, arg0, argS, ofConst, ofCell, Nat.reduceEqDiff, reduceIte] <;> rfl) (by exact (load1 ag27 hl2 rfl)) (by decide) ?_
  refine ro_move (by simp only [evalF, upd, arg0, argS, ofConst, ofCell, Nat.reduceEqDiff, reduceIte] <;> rfl) (by decide) ?_
  refine ro_bin (by simp only [evalF, upd, arg0, argS, ofConst, ofCell, Nat.reduceEqDiff, reduceIte] <;> rfl) (by simp only [evalF, upd, arg0, argS, ofConst, ofCell, Nat.reduceEqDiff, reduceIte] <;> rfl) (by exact (shr_v 24 (by omega))) (by decide) ?_
  refine ro_conv (by simp only [evalF, upd, arg0, argS, ofConst, ofCell, Nat.reduceEqDiff, reduceIte] <;> rfl) (by exact (conv_u8 _ _)) (by decide) ?_
  refine ro_move (by simp only [evalF, upd, arg0, argS, ofConst, ofCell, Nat.reduceEqDiff, reduceIte] <;> rfl) (by decide) ?_
  refine ro_bin (by simp only [evalF, upd, arg0, argS, ofConst, ofCell, Nat.reduceEqDiff, reduceIte] <;> rfl) (by simp only [evalF, upd, arg0, argS, ofConst, ofCell, Nat.reduceEqDiff, reduceIte] <;> rfl) (by exact (shr_v 16 (by omega))) (by decide) ?_
  refine ro_conv (by simp only [evalF, upd, arg0, argS, ofConst, ofCell, Nat.reduceEqDiff, reduceIte] <;> rfl) (by exact (conv_u8 _ _)) (by decide) ?_
  refine ro_move (by simp only [evalF, upd, arg0, argS, ofConst, ofCell, Nat.reduceEqDiff, reduceIte] <;> rfl) (by decide) ?_
  refine ro_bin (by simp only [evalF, upd, arg0, argS, ofConst, ofCell, Nat.reduceEqDiff, reduceIte] <;> rfl) (by simp only [evalF, upd, arg0, argS, ofConst, ofCell, Nat.reduceEqDiff, reduceIte] <;> rfl) (by exact (shr_v 8 (by omega))) (by decide) ?_
  refine ro_conv (by simp only [evalF, upd, arg0, argS, ofConst, ofCell, Nat.reduceEqDiff, reduceIte] <;> rfl) (by exact (conv_u8 _ _)) (by decide) ?_
  refine ro_move (by simp only [evalF, upd, arg0, argS, ofConst, ofCell, Nat.reduceEqDiff, reduceIte] <;> rfl) (by decide) ?_
  refine ro_conv (by simp only [evalF, upd, arg0, argS, ofConst, ofCell, Nat.reduceEqDiff, reduceIte] <;> rfl) (by exact (conv_u8 _ _)) (by decide) ?_
  refine ro_buildSlice rfl (by simp only [List.map_cons, List.map_nil, evalF, upd, arg0, argS, ofConst, ofCell, Nat.reduceEqDiff, reduceIte]; exact bs27_4 _ _ _ _ _) (by decide) ?_
  refine ro_append (r := [.int .u8 (u8 (n / 2 ^ 24)), .int .u8 (u8 (n / 2 ^ 16)), .int .u8 (u8 (n / 2 ^ 8)), .int .u8 (u8 n)]) st27 Try.underlying27 (by simp only [evalF, upd, arg0, argS, ofConst, ofCell, Nat.reduceEqDiff, reduceIte] <;> rfl) (by simp only [evalF, upd, arg0, argS, ofConst, ofCell, Nat.reduceEqDiff, reduceIte] <;> rfl) (hg2.keep (Nat.le_succ _) (fun id hid _ => by simp [setHp, show id ≠ nb2 by omega])) (src_built rfl (by simp [setHp])) (by simp [u8s]; omega) (by decide) ?_
  intro v3 hp3 nb3 hg3 ha3 ho3
  have hax := after_trans (after_new hp2 nb2 vb [.pv (.int .u8 (u8 (n / 2 ^ 24))), .pv (.int .u8 (u8 (n / 2 ^ 16))), .pv (.int .u8 (u8 (n / 2 ^ 8))), .pv (.int .u8 (u8 n))] (pvs_ok [.int .u8 (u8 (n / 2 ^ 24)), .int .u8 (u8 (n / 2 ^ 16)), .int .u8 (u8 (n / 2 ^ 8)), .int .u8 (u8 n)])) ha3 (fun id h => .inl h)
  obtain ⟨hst, hS⟩ := wr_store (bs := bs ++ [u8 (n / 16777216), u8 (n / 65536), u8 (n / 256), u8 n]) hw2.lt hw2.le hl2 ho2 hax (by simpa [u8s] using hg3) (fun id h => (ho3 id h).imp (fun h => h) (fun h => by omega))
  refine ro_nilCheck (by simp only [evalF, upd, arg0, argS, ofConst, ofCell, Nat.reduceEqDiff, reduceIte] <;> rfl) (by decide) ?_
  refine ro_fieldAddr (by simp only [evalF, upd, arg0, argS, ofConst, ofCell, Nat.reduceEqDiff, reduceIte] <;> rfl) (by exact (fa50_0 _ _ _)) (by decide) ?_
  refine ro_store (by simp only [evalF, upd, arg0, argS, ofConst, ofCell, Nat.reduceEqDiff, reduceIte] <;> rfl) (by simp only [evalF, upd, arg0, argS, ofConst, ofCell, Nat.reduceEqDiff, reduceIte] <;> rfl) hst ?_
  refine ro_nil ?_
  try simp only
  exact ⟨.tuple [], rfl, wrs_trans hS1 hS⟩

theorem data24 (d : Nat) {hp : Hp} {nb idw q : Nat} {bs : List Int} {e : Int} {D : AV} {b : List Int} (hD : Row hp nb D (u8s b)) (hq : ∀ id, ownOf D = some id → id < q) (hbl : b.length < 100000) (h : Wr hp nb idw q bs e) (hsz : bs.length < 100000) :
    CA (callA Try.prog facts plains 10000 (d + 2)) 24 [.ptr idw 1 0, D] hp nb (WrS hp nb idw q (bs ++ (u8 ((b.length : Int) / 256) :: u8 b.length :: b)) (wrongE e (decide ((b.length : Int) > 6000)) 5)) := by
  refine ca_body (fn := Try.f24) (c := bodyOf Try.f24) Try.func24 rfl (by show 2 ≤ 27; omega) ?_
  show EX _ _ _ _ _ 27 _ _ _ _ _
  unfold bodyOf Try.f24
  refine ex_seq (ex_region ?_)
  have hbs : (u8s b).length = b.length := by simp [u8s]
  refine ro_move (by simp only [evalF, upd, arg0, argS, ofConst, ofCell, Nat.reduceEqDiff, reduceIte] <;> rfl) (by decide) ?_
  refine ro_move (by simp only [evalF, upd, arg0, argS, ofConst, ofCell, Nat.reduceEqDiff, reduceIte] <;> rfl) (by decide) ?_
  refine ro_builtin rfl (by simp only [List.map_cons, List.map_nil, evalF, upd, arg0, argS, ofConst, ofCell, Nat.reduceEqDiff, reduceIte] <;> rfl) (by exact (row_len st27 hD)) (by decide) ?_
  refine ro_bin (by simp only [evalF, upd, arg0, argS, ofConst, ofCell, Nat.reduceEqDiff, reduceIte] <;> rfl) (by simp only [evalF, upd, arg0, argS, ofConst, ofCell, Nat.reduceEqDiff, reduceIte] <;> rfl) (by exact (gtr_v)) (by decide) ?_
  rw [hbs]
  refine ro_call (f := 41) («as» := [.ptr idw 1 0, .pv (.bool (decide ((b.length : Int) > 6000))), .pv (.int .i64 5)]) rfl (by simp [nodeBad, evalF, upd, arg0, argS, ofConst, ofCell, Nat.reduceEqDiff, reduceIte]) plains_41 rfl (wrong41 _ (decide ((b.length : Int) > 6000)) 5 h) (by decide) ?_
  rintro v2 hp2 nb2 hS1
  obtain ⟨rfl, hw2, _, _, _⟩ := id hS1
  refine ro_nil ?_
  try simp only
  obtain ⟨vb, hl2, hg2, ho2⟩ := hw2.ex
  have hD2 : Row hp2 nb2 D (u8s b) := hD.keep hS1.2.2.1 (fun id hid ho => hS1.2.2.2.1 id (hq id ho))
  refine ex_region ?_
  refine ro_move (by simp only [evalF, upd, arg0, argS, ofConst, ofCell, Nat.reduceEqDiff, reduceIte] <;> rfl) (by decide) ?_
  refine ro_move (by simp only [evalF, upd, arg0, argS, ofConst, ofCell, Nat.reduceEqDiff, reduceIte] <;> rfl) (by decide) ?_
  refine ro_nilCheck (by simp only [evalF, upd, arg0, argS, ofConst, ofCell, Nat.reduceEqDiff, reduceIte] <;> rfl) (by decide) ?_
  refine ro_fieldAddr (by simp only [evalF, upd, arg0, argS, ofConst, ofCell, Nat.reduceEqDiff, reduceIte] <;> rfl) (by exact (fa50_0 _ _ _)) (by decide) ?_
  refine ro_load (by simp only [evalF, upd, arg0, argS, ofConst, ofCell, Nat.reduceEqDiff, reduceIte] <;> rfl) (by exact (load1 ag27 hl2 rfl)) (by decide) ?_
  refine ro_move (by simp only [evalF, upd, arg0, argS, ofConst, ofCell, Nat.reduceEqDiff, reduceIte] <;> rfl) (by decide) ?_
  refine ro_builtin rfl (by simp only [List.map_cons, List.map_nil, evalF, upd, arg0, argS, ofConst, ofCell, Nat.reduceEqDiff, reduceIte] <;> rfl) (by exact (row_len st27 hD2)) (by decide) ?_
  refine ro_bin (by simp only [evalF, upd, arg0, argS, ofConst, ofCell, Nat.reduceEqDiff, reduceIte] <;> rfl) (by simp only [evalF, upd, arg0, argS, ofConst, ofCell, Nat.reduceEqDiff, reduceIte] <;> rfl) (by exact (shr_v 8 (by omega))) (by decide) ?_
  refine ro_conv (by simp only [evalF, upd, arg0, argS, ofConst, ofCell, Nat.reduceEqDiff, reduceIte] <;> rfl) (by exact (conv_u8 _ _)) (by decide) ?_
  refine ro_move (by simp only [evalF, upd, arg0, argS, ofConst, ofCell, Nat.reduceEqDiff, reduceIte] <;> rfl) (by decide) ?_
  refine ro_builtin rfl (by simp only [List.map_cons, List.map_nil, evalF, upd, arg0, argS, ofConst, ofCell, Nat.reduceEqDiff, reduceIte] <;> rfl) (by exact (row_len st27 hD2)) (by decide) ?_
  refine ro_conv (by simp only [evalF, upd, arg0, argS, ofConst, ofCell, Nat.reduceEqDiff, reduceIte] <;> rfl) (by exact (conv_u8 _ _)) (by decide) ?_
  refine ro_buildSlice rfl (by simp only [List.map_cons, List.map_nil, evalF, upd, arg0, argS, ofConst, ofCell, Nat.reduceEqDiff, reduceIte]; exact (by rw [hbs]; exact bs27_2 _ _ _)) (by decide) ?_
  refine ro_append (r := [.int .u8 (u8 ((b.length : Int) / 2 ^ 8)), .int .u8 (u8 b.length)]) st27 Try.underlying27 (by simp only [evalF, upd, arg0, argS, ofConst, ofCell, Nat.reduceEqDiff, reduceIte] <;> rfl) (by simp only [evalF, upd, arg0, argS, ofConst, ofCell, Nat.reduceEqDiff, reduceIte] <;> rfl) (hg2.keep (Nat.le_succ _) (fun id hid _ => by simp [setHp, show id ≠ nb2 by omega])) (src_built rfl (by simp [setHp])) (by simp [u8s]; omega) (by decide) ?_
  intro v3 hp3 nb3 hg3 ha3 ho3
  have hax := after_trans (after_new hp2 nb2 vb [.pv (.int .u8 (u8 ((b.length : Int) / 2 ^ 8))), .pv (.int .u8 (u8 b.length))] (pvs_ok [.int .u8 (u8 ((b.length : Int) / 2 ^ 8)), .int .u8 (u8 b.length)])) ha3 (fun id h => .inl h)
  have hD3 : Row hp3 nb3 D (u8s b) := hD2.keep hax.1 (fun id hid ho => hax.2.1 id hid (fun h => by have := hq id ho; have := (ho2 id h).1; omega))
  refine ro_move (by simp only [evalF, upd, arg0, argS, ofConst, ofCell, Nat.reduceEqDiff, reduceIte] <;> rfl) (by decide) ?_
  refine ro_append (r := u8s b) st27 Try.underlying27 (by simp only [evalF, upd, arg0, argS, ofConst, ofCell, Nat.reduceEqDiff, reduceIte] <;> rfl) (by simp only [evalF, upd, arg0, argS, ofConst, ofCell, Nat.reduceEqDiff, reduceIte] <;> rfl) hg3 (row_src hD3) (by simp [u8s]; omega) (by decide) ?_
  intro v4 hp4 nb4 hg4 ha4 ho4
  have hax4 := after_trans hax ha4 (fun id h => (ho3 id h).imp (fun h => h) (fun h => by omega))
  obtain ⟨hst, hS⟩ := wr_store (bs := bs ++ (u8 ((b.length : Int) / 256) :: u8 b.length :: b)) hw2.lt hw2.le hl2 ho2 hax4 (by simpa [u8s] using hg4) (fun id h => by
    rcases ho4 id h with h | h
    · exact (ho3 id h).imp (fun h => h) (fun h => by omega)
    · exact .inr (by have := hax.1; omega))
  refine ro_nilCheck (by simp only [evalF, upd, arg0, argS, ofConst, ofCell, Nat.reduceEqDiff, reduceIte] <;> rfl) (by decide) ?_
  refine ro_fieldAddr (by simp only [evalF, upd, arg0, argS, ofConst, ofCell, Nat.reduceEqDiff, reduceIte] <;> rfl) (by exact (fa50_0 _ _ _)) (by decide) ?_
  refine ro_store (by simp only [evalF, upd, arg0, argS, ofConst, ofCell, Nat.reduceEqDiff, reduceIte] <;> rfl) (by simp only [evalF, upd, arg0, argS, ofConst, ofCell, Nat.reduceEqDiff, reduceIte] <;> rfl) hst ?_
  refine ro_nil ?_
  try simp only
  exact ⟨.tuple [], rfl, wrs_trans hS1 hS⟩

def listW (e : Int) (l : List Int) : Int := l.foldl (fun e n => wrongE e (nodeBad n 0) 1) e


theorem list22 (d : Nat) {hp : Hp} {nb idw q : Nat} {bs : List Int} {e : Int} {L : AV} {l : List Int} (hL : Row hp nb L (ints l)) (hq : ∀ id, ownOf L = some id → id < q) (hll : l.length < 9000) (h : Wr hp nb idw q bs e) (hsz : bs.length < 100000) :
    CA (callA Try.prog facts plains 10000 (d + 3)) 22 [.ptr idw 1 0, L] hp nb (WrS hp nb idw q (bs ++ (u8 l.length :: l.map u8)) (listW (wrongE e (decide ((l.length : Int) > 10)) 4) l)) := by
  refine ca_body (fn := Try.f22) (c := bodyOf Try.f22) Try.func22 rfl (by show 2 ≤ 34; omega) ?_
  show EX _ _ _ _ _ 34 _ _ _ _ _
  unfold bodyOf Try.f22
  refine ex_seq (ex_region ?_)
  have hls : (ints l).length = l.length := by simp [ints]
  refine ro_move (by simp only [evalF, upd, arg0, argS, ofConst, ofCell, Nat.reduceEqDiff, reduceIte] <;> rfl) (by decide) ?_
  refine ro_move (by simp only [evalF, upd, arg0, argS, ofConst, ofCell, Nat.reduceEqDiff, reduceIte] <;> rfl) (by decide) ?_
  refine ro_builtin rfl (by simp only [List.map_cons, List.map_nil, evalF, upd, arg0, argS, ofConst, ofCell, Nat.reduceEqDiff, reduceIte] <;> rfl) (by exact (row_len st24 hL)) (by decide) ?_
  refine ro_bin (by simp only [evalF, upd, arg0, argS, ofConst, ofCell, Nat.reduceEqDiff, reduceIte] <;> rfl) (by simp only [evalF, upd, arg0, argS, ofConst, ofCell, Nat.reduceEqDiff, reduceIte] <;> rfl) (by exact (gtr_v)) (by decide) ?_
  rw [hls]
  refine ro_call (f := 41) («as» := [.ptr idw 1 0, .pv (.bool (decide ((l.length : Int) > 10))), .pv (.int .i64 4)]) rfl (by simp [nodeBad, evalF, upd, arg0, argS, ofConst, ofCell, Nat.reduceEqDiff, reduceIte]) plains_41 rfl (wrong41 _ (decide ((l.length : Int) > 10)) 4 h) (by decide) ?_
  rintro v2 hp2 nb2 hS1
  obtain ⟨rfl, hw2, _, _, _⟩ := id hS1
  refine ro_nil ?_
  try simp only
  obtain ⟨vb, hl2, hg2, ho2⟩ := hw2.ex
  have hL2 : Row hp2 nb2 L (ints l) := hL.keep hS1.2.2.1 (fun id hid ho => hS1.2.2.2.1 id (hq id ho))
  refine ex_seq (ex_region ?_)
  refine ro_move (by simp only [evalF, upd, arg0, argS, ofConst, ofCell, Nat.reduceEqDiff, reduceIte] <;> rfl) (by decide) ?_
  refine ro_move (by simp only [evalF, upd, arg0, argS, ofConst, ofCell, Nat.reduceEqDiff, reduceIte] <;> rfl) (by decide) ?_
  refine ro_nilCheck (by simp only [evalF, upd, arg0, argS, ofConst, ofCell, Nat.reduceEqDiff, reduceIte] <;> rfl) (by decide) ?_
  refine ro_fieldAddr (by simp only [evalF, upd, arg0, argS, ofConst, ofCell, Nat.reduceEqDiff, reduceIte] <;> rfl) (by exact (fa50_0 _ _ _)) (by decide) ?_
  refine ro_load (by simp only [evalF, upd, arg0, argS, ofConst, ofCell, Nat.reduceEqDiff, reduceIte] <;> rfl) (by exact (load1 ag27 hl2 rfl)) (by decide) ?_
  refine ro_move (by simp only [evalF, upd, arg0, argS, ofConst, ofCell, Nat.reduceEqDiff, reduceIte] <;> rfl) (by decide) ?_
  refine ro_builtin rfl (by simp only [List.map_cons, List.map_nil, evalF, upd, arg0, argS, ofConst, ofCell, Nat.reduceEqDiff, reduceIte] <;> rfl) (by exact (row_len st24 hL2)) (by decide) ?_
  refine ro_conv (by simp only [evalF, upd, arg0, argS, ofConst, ofCell, Nat.reduceEqDiff, reduceIte] <;> rfl) (by exact (conv_u8 _ _)) (by decide) ?_
  refine ro_buildSlice rfl (by simp only [List.map_cons, List.map_nil, evalF, upd, arg0, argS, ofConst, ofCell, Nat.reduceEqDiff, reduceIte]; exact (by rw [hls]; exact bs27_1 _ _)) (by decide) ?_
  refine ro_append (r := [.int .u8 (u8 l.length)]) st27 Try.underlying27 (by simp only [evalF, upd, arg0, argS, ofConst, ofCell, Nat.reduceEqDiff, reduceIte] <;> rfl) (by simp only [evalF, upd, arg0, argS, ofConst, ofCell, Nat.reduceEqDiff, reduceIte] <;> rfl) (hg2.keep (Nat.le_succ _) (fun id hid _ => by simp [setHp, show id ≠ nb2 by omega])) (src_built rfl (by simp [setHp])) (by simp [u8s]; omega) (by decide) ?_
  intro v3 hp3 nb3 hg3 ha3 ho3
  have hax := after_trans (after_new hp2 nb2 vb [.pv (.int .u8 (u8 l.length))] (pvs_ok [.int .u8 (u8 l.length)])) ha3 (fun id h => .inl h)
  obtain ⟨hst, hS⟩ := wr_store (bs := bs ++ [u8 l.length]) hw2.lt hw2.le hl2 ho2 hax (by simpa [u8s] using hg3) (fun id h => (ho3 id h).imp (fun h => h) (fun h => by omega))
  refine ro_nilCheck (by simp only [evalF, upd, arg0, argS, ofConst, ofCell, Nat.reduceEqDiff, reduceIte] <;> rfl) (by decide) ?_
  refine ro_fieldAddr (by simp only [evalF, upd, arg0, argS, ofConst, ofCell, Nat.reduceEqDiff, reduceIte] <;> rfl) (by exact (fa50_0 _ _ _)) (by decide) ?_
  refine ro_store (by simp only [evalF, upd, arg0, argS, ofConst, ofCell, Nat.reduceEqDiff, reduceIte] <;> rfl) (by simp only [evalF, upd, arg0, argS, ofConst, ofCell, Nat.reduceEqDiff, reduceIte] <;> rfl) hst ?_
  refine ro_nil ?_
  try simp only
  have hS3 := wrs_trans hS1 hS
  refine ex_seq (ex_region ?_)
  refine ro_assign (by simp only [evalF, upd, arg0, argS, ofConst, ofCell, Nat.reduceEqDiff, reduceIte] <;> rfl) (by decide) ?_
  refine ro_nil ?_
  try simp only
  refine ex_block (ex_loop (I := fun k g hpx nbx => ∃ i : Nat, k = l.length - i ∧ i ≤ l.length ∧ g 0 = .ptr idw 1 0 ∧ g 1 = L ∧ g 4 = .pv (.int .i64 i) ∧ WrS hp nb idw q (bs ++ (u8 l.length :: (l.take i).map u8)) (listW (wrongE e (decide ((l.length : Int) > 10)) 4) (l.take i)) (.tuple []) hpx nbx)
    (m := l.length) ⟨0, rfl, Nat.zero_le _, by simp [upd, argsF], by simp [upd, argsF], by simp [upd, ofConst, ofCell, evalF], by simpa [listW] using hS3⟩ (by omega) ?_)
  rintro k g hpx nbx ⟨i, hkk, hi, g0, g1, g4, hSx⟩
  have hLx : Row hpx nbx L (ints l) := hL.keep hSx.2.2.1 (fun id hid ho => hSx.2.2.2.1 id (hq id ho))
  refine ex_seq (ex_seq (ex_region ?_))
  refine ro_move (by simp only [evalF, upd, arg0, argS, ofConst, ofCell, Nat.reduceEqDiff, reduceIte, g0, g1, g4] <;> rfl) (by decide) ?_
  refine ro_move (by simp only [evalF, upd, arg0, argS, ofConst, ofCell, Nat.reduceEqDiff, reduceIte, g0, g1, g4] <;> rfl) (by decide) ?_
  refine ro_builtin rfl (by simp only [List.map_cons, List.map_nil, evalF, upd, arg0, argS, ofConst, ofCell, Nat.reduceEqDiff, reduceIte, g0, g1, g4] <;> rfl) (by exact (row_len st24 hLx)) (by decide) ?_
  refine ro_bin (by simp only [evalF, upd, arg0, argS, ofConst, ofCell, Nat.reduceEqDiff, reduceIte, g0, g1, g4] <;> rfl) (by simp only [evalF, upd, arg0, argS, ofConst, ofCell, Nat.reduceEqDiff, reduceIte, g0, g1, g4] <;> rfl) (by exact (lss_v)) (by decide) ?_
  refine ro_nil ?_
  try simp only
  rw [hls]
  refine ex_cond (t := decide ((i : Int) < l.length)) (by simp only [evalF, upd, arg0, argS, ofConst, ofCell, Nat.reduceEqDiff, reduceIte, g0, g1, g4] <;> rfl) (fun ht => ?_) (fun ht => ?_)
  rotate_left
  · have hie : i = l.length := by
      have := of_decide_eq_false ht
      omega
    refine ex_exit ?_
    simp only [if_true]
    rw [hie, List.take_of_length_le (Nat.le_refl _)] at hSx
    exact ⟨.tuple [], rfl, hSx⟩
  refine ex_skip ?_
  try simp only
  have hil : i < l.length := by
    have := of_decide_eq_true ht
    omega
  have hgi : (ints l)[i]? = some (.int .i64 l[i]) := by unfold ints; rw [List.getElem?_map, List.getElem?_eq_getElem hil]; rfl
  obtain ⟨p, p1, p2⟩ := row_at st24 hLx hgi
  refine ex_seq (ex_block ?_)
  refine ex_region ?_
  refine ro_move (by simp only [evalF, upd, arg0, argS, ofConst, ofCell, Nat.reduceEqDiff, reduceIte, g0, g1, g4] <;> rfl) (by decide) ?_
  refine ro_move (by simp only [evalF, upd, arg0, argS, ofConst, ofCell, Nat.reduceEqDiff, reduceIte, g0, g1, g4] <;> rfl) (by decide) ?_
  refine ro_move (by simp only [evalF, upd, arg0, argS, ofConst, ofCell, Nat.reduceEqDiff, reduceIte, g0, g1, g4] <;> rfl) (by decide) ?_
  refine ro_indexAddr (by simp only [evalF, upd, arg0, argS, ofConst, ofCell, Nat.reduceEqDiff, reduceIte, g0, g1, g4] <;> rfl) (by simp only [evalF, upd, arg0, argS, ofConst, ofCell, Nat.reduceEqDiff, reduceIte, g0, g1, g4] <;> rfl) (by exact (p1)) (by decide) ?_
  refine ro_load (by simp only [evalF, upd, arg0, argS, ofConst, ofCell, Nat.reduceEqDiff, reduceIte, g0, g1, g4] <;> rfl) (by exact (p2)) (by decide) ?_
  refine ro_call (f := 21) («as» := [.ptr idw 1 0, .pv (.int .i64 l[i]), .pv (.int .i64 0)]) rfl (by simp [evalF, upd, argsF, ofConst, ofCell, g0]) plains_21 rfl (node21 _ l[i] 0 hSx.2.1 (by simp; omega)) (by decide) ?_
  rintro v5 hp5 nb5 hS5
  obtain ⟨rfl, _, _, _, _⟩ := id hS5
  refine ro_nil ?_
  try simp only
  refine ex_region ?_
  refine ro_move (by simp only [evalF, upd, arg0, argS, ofConst, ofCell, Nat.reduceEqDiff, reduceIte, g0, g1, g4] <;> rfl) (by decide) ?_
  refine ro_bin (by simp only [evalF, upd, arg0, argS, ofConst, ofCell, Nat.reduceEqDiff, reduceIte, g0, g1, g4] <;> rfl) (by simp only [evalF, upd, arg0, argS, ofConst, ofCell, Nat.reduceEqDiff, reduceIte, g0, g1, g4] <;> rfl) (by exact (add_v (by omega))) (by decide) ?_
  refine ro_assign (by simp only [evalF, upd, arg0, argS, ofConst, ofCell, Nat.reduceEqDiff, reduceIte, g0, g1, g4] <;> rfl) (by decide) ?_
  refine ro_nil ?_
  refine ⟨l.length - (i + 1), by omega, i + 1, rfl, by omega, by simp [upd, g0], by simp [upd, g1], by simp [upd], ?_⟩
  have := wrs_trans hSx hS5
  have e1 : l.take (i + 1) = l.take i ++ [l[i]] := by
    rw [List.take_add_one, List.getElem?_eq_getElem hil]
    rfl
  have e2 : bs ++ (u8 l.length :: (l.take (i + 1)).map u8) = bs ++ (u8 l.length :: (l.take i).map u8) ++ [u8 l[i]] := by
    rw [e1, List.map_append, List.append_assoc]
    rfl
  have e3 : ∀ E, listW E (l.take (i + 1)) = wrongE (listW E (l.take i)) (nodeBad l[i] 0) 1 := by
    intro E
    rw [e1]
    unfold listW
    rw [List.foldl_append]
    rfl
  rw [e2, e3]
  exact this

end Go.Proofs.Ytlinbbjobjnipaa
