/- How a message is read out of a call's arguments. -/
import Derived.Test.YtlinbbjobjnipaaK1
import Derived.ChangeSlices
set_option linter.unusedVariables false
set_option linter.unusedSimpArgs false
set_option linter.unusedSectionVars false
namespace Go.Proofs.Ytlinbbjobjnipaa
open Go AI Go.ChangeShapes Go.WideShapes

section
variable [Val] {H : Type} {enc : TypeId × Value → H} {w : World} {base : Nat}

theorem cell_spot {a : Addr} {v : Value} (h : w.cell? a = some v) : a = ⟨a.block, a.off, none⟩ := by
  obtain ⟨b, o, s⟩ := a
  unfold World.cell? at h
  split at h
  · split at h
    · simp at h
    · rename_i hs
      cases s with
      | none => rfl
      | some z => simp at hs
  · simp at h

theorem add_flat (b off i : Nat) : (⟨b, off, none⟩ : Addr).add i = ⟨b, off + i, none⟩ := by
  unfold Addr.add
  split
  · rename_i h; subst h; rfl
  · rfl

/-- A row of numbers. -/
theorem read_row {t e : TypeId} {k : IntKind} {fuel : Nat} {v : Value} {x : DataW H × List MemPlace} (ht : Try.prog.underlying t = some (.slice e)) (he : Try.prog.underlying e = some (.int k)) (hc : Try.prog.cellsOf e = 1)
    (h : DataW.trod enc Try.prog w base (fun _ => true) true fuel t [v] = some x) :
    ∃ (p : PV) (zs : List Int), (∀ hp nb, Row hp nb (.pv p) (zs.map fun z => .int k z)) ∧ (∀ z ∈ zs, (Lit.int k z).wf = true) ∧ ∀ O : Nat → Prop, (∀ b, ¬ O b) → RepP O w p v := by
  rcases open_ints ht he hc h with ⟨h1, _⟩ | ⟨a, len, cap, zs, h1, h2, h3, h4, h5, _, h7, h8⟩
  · simp at h1; subst h1
    exact ⟨.nilSlice, [], fun hp nb => .nil, by simp, fun O hO => .nilSlice⟩
  · simp at h1; subst h1
    simp only [if_true] at h5
    cases cap with
    | zero =>
      obtain rfl : len = 0 := by omega
      exact ⟨.zcap, [], fun hp nb => .zcap, by simp, fun O hO => .zcap a⟩
    | succ cap =>
      have h0 := h7 0 (by omega)
      have ha : a.add 0 = a := rfl
      rw [ha] at h0
      have hs := cell_spot h0
      generalize a.block = b at hs
      generalize a.off = off at hs
      subst hs
      have hl : (zs.take len).length = len := by simp; omega
      refine ⟨.ros 1 len ((zs.take len).map fun z => .int k z), zs.take len, fun hp nb => .ros _ _ (by simp; omega), fun z hz => h8 z (List.mem_of_mem_take hz), fun O hO => ?_⟩
      refine .ros _ _ _ b off _ (fun i => .int k (zs.getD i 0)) (by simp; omega) (by omega) (fun _ => hO b) (fun i hi => ?_) (fun i hi => ?_)
      · simp at hi
        rw [← add_flat]
        exact h7 i (by omega)
      · simp at hi
        have : zs.getD i 0 = zs[i]'(by omega) := by
          rw [List.getD_eq_getElem?_getD, List.getElem?_eq_getElem (by omega)]
          rfl
        simp only [List.getElem_map, List.getElem_take, this]
        exact .int _ _

theorem cells5 : Try.prog.cellsOf 5 = 1 := by kernel_rfl
theorem cells3 : Try.prog.cellsOf 3 = 1 := by kernel_rfl
theorem cells4 : Try.prog.cellsOf 4 = 1 := by kernel_rfl
theorem cells24 : Try.prog.cellsOf 24 = 1 := by kernel_rfl
theorem cells26 : Try.prog.cellsOf 26 = 32 := by kernel_rfl
theorem cells27 : Try.prog.cellsOf 27 = 1 := by kernel_rfl
theorem cells28 : Try.prog.cellsOf 28 = 1 := by kernel_rfl
theorem cells30 : Try.prog.cellsOf 30 = 40 := by kernel_rfl

/-- An id: 32 bytes. -/
theorem read_key {fuel : Nat} {cs : List Value} {x : DataW H × List MemPlace} (h : DataW.trod enc Try.prog w base (fun _ => true) true fuel 26 cs = some x) : ∃ key : List Int, key.length = 32 ∧ (cs = key.map fun z => .int .u8 z) ∧ ∀ z ∈ key, (Lit.int .u8 z).wf = true := by
  obtain ⟨xs, n, rfl, _, hcl, hxl, hxs⟩ := DataW.trod_array Try.underlying26 h
  rw [cells26] at hcl
  have each : ∀ i, ∃ z : Int, i < 32 → cs[i]? = some (.int .u8 z) ∧ (Lit.int .u8 z).wf = true := by
    intro i
    by_cases hi : i < 32
    · have := hxs i hi
      rw [cells5, Nat.mul_one, List.getElem?_eq_getElem (by omega)] at this
      obtain ⟨z, e, _, hz⟩ := DataW.trod_int Try.underlying5 this
      refine ⟨z, fun _ => ⟨?_, hz⟩⟩
      have h1 : ((cs.drop i).take 1)[0]? = some (.int .u8 z) := by rw [e]; rfl
      rw [List.getElem?_take, if_pos (by omega), List.getElem?_drop] at h1
      simpa using h1
    · exact ⟨0, fun h => absurd h hi⟩
  obtain ⟨f, hf⟩ := Classical.axiomOfChoice each
  refine ⟨(List.range 32).map f, by simp, ?_, fun z hz => ?_⟩
  rotate_left
  · obtain ⟨i, hi, rfl⟩ := List.mem_map.1 hz
    exact (hf i (List.mem_range.1 hi)).2
  apply List.ext_getElem?
  intro i
  by_cases hi : i < 32
  · rw [(hf i hi).1, List.getElem?_map, List.getElem?_map, List.getElem?_range hi]
    rfl
  · rw [List.getElem?_eq_none (by omega), List.getElem?_eq_none (by simp; omega)]

theorem cut5 {α : Type} {l : List α} (h : l.length = 40) : ∃ a b c d e r x y z, l = a :: b :: c :: d :: e :: (r ++ [x, y, z]) ∧ r.length = 32 := by
  rcases l with _ | ⟨a, _ | ⟨b, _ | ⟨c, _ | ⟨d, _ | ⟨e, l⟩⟩⟩⟩⟩ <;> simp at h
  have h3 : (l.drop 32).length = 3 := by simp; omega
  obtain ⟨x, y, z, hz⟩ : ∃ x y z, l.drop 32 = [x, y, z] := by
    generalize l.drop 32 = q at h3
    rcases q with _ | ⟨x, _ | ⟨y, _ | ⟨z, _ | ⟨u, q⟩⟩⟩⟩ <;> simp at h3
    exact ⟨x, y, z, rfl⟩
  exact ⟨a, b, c, d, e, l.take 32, x, y, z, by rw [← hz, List.take_append_drop], by simp; omega⟩

theorem wf_byte {z : Int} (h : (Lit.int .u8 z).wf = true) : 0 ≤ z ∧ z ≤ 255 := by
  have hx : IntKind.u8.min ≤ z ∧ z ≤ IntKind.u8.max := by simpa [Lit.wf] using h
  simpa [IntKind.min, IntKind.max, IntKind.signed, IntKind.bits] using hx

set_option maxRecDepth 100000 in
/-- How a message is read. -/
theorem read_msg8 {v : Value} {d : DataW H} {ps : List MemPlace} (hval : Value.okWide Try.prog w .any base 30 v) (h : DataW.Trod enc Try.prog w 0 (fun _ => true) true 30 v d ps) :
    ∃ (m : M) (p q : PV), Fit m ∧ (∀ z ∈ m.key, 0 ≤ z ∧ z ≤ 255) ∧ (∀ z ∈ m.data, 0 ≤ z ∧ z ≤ 255) ∧ (∀ hp nb, Row hp nb (.pv p) (ints m.list)) ∧ (∀ hp nb, Row hp nb (.pv q) (u8s m.data)) ∧
      RepA (fun _ => False) (AI.hf []) (fun _ => (0, 0)) w (.agg (mcells m (.pv p) (.pv q))) v := by
  obtain ⟨arr, rfl, hsz⟩ := okWide_struct Try.underlying30 hval
  obtain ⟨fuel, hf⟩ := h
  obtain ⟨xs, n, rfl, _, hcl, hxl, hxs⟩ := DataW.trod_struct Try.underlying30 hf
  rw [cells30] at hsz
  obtain ⟨l⟩ := arr
  obtain ⟨c0, c1, c2, c3, c4, r, c37, c38, c39, rfl, hr⟩ := cut5 (show l.length = 40 from hsz)
  have hx9 : xs.length = 9 := by simpa using hxl
  have f0 : DataW.trod enc Try.prog w 0 (fun _ => true) true n 3 (((c0 :: c1 :: c2 :: c3 :: c4 :: (r ++ [c37, c38, c39])).drop 0).take (Try.prog.cellsOf 3)) = xs[0]? := hxs 0 _ rfl
  have f1 : DataW.trod enc Try.prog w 0 (fun _ => true) true n 3 (((c0 :: c1 :: c2 :: c3 :: c4 :: (r ++ [c37, c38, c39])).drop 1).take (Try.prog.cellsOf 3)) = xs[1]? := hxs 1 _ rfl
  have f2 : DataW.trod enc Try.prog w 0 (fun _ => true) true n 3 (((c0 :: c1 :: c2 :: c3 :: c4 :: (r ++ [c37, c38, c39])).drop 2).take (Try.prog.cellsOf 3)) = xs[2]? := hxs 2 _ rfl
  have f3 : DataW.trod enc Try.prog w 0 (fun _ => true) true n 24 (((c0 :: c1 :: c2 :: c3 :: c4 :: (r ++ [c37, c38, c39])).drop 3).take (Try.prog.cellsOf 24)) = xs[3]? := hxs 3 _ rfl
  have f4 : DataW.trod enc Try.prog w 0 (fun _ => true) true n 4 (((c0 :: c1 :: c2 :: c3 :: c4 :: (r ++ [c37, c38, c39])).drop 4).take (Try.prog.cellsOf 4)) = xs[4]? := hxs 4 _ rfl
  have f5 : DataW.trod enc Try.prog w 0 (fun _ => true) true n 26 (((c0 :: c1 :: c2 :: c3 :: c4 :: (r ++ [c37, c38, c39])).drop 5).take (Try.prog.cellsOf 26)) = xs[5]? := hxs 5 _ rfl
  have f6 : DataW.trod enc Try.prog w 0 (fun _ => true) true n 27 (((c0 :: c1 :: c2 :: c3 :: c4 :: (r ++ [c37, c38, c39])).drop 37).take (Try.prog.cellsOf 27)) = xs[6]? := hxs 6 _ rfl
  have f7 : DataW.trod enc Try.prog w 0 (fun _ => true) true n 3 (((c0 :: c1 :: c2 :: c3 :: c4 :: (r ++ [c37, c38, c39])).drop 38).take (Try.prog.cellsOf 3)) = xs[7]? := hxs 7 _ rfl
  have f8 : DataW.trod enc Try.prog w 0 (fun _ => true) true n 28 (((c0 :: c1 :: c2 :: c3 :: c4 :: (r ++ [c37, c38, c39])).drop 39).take (Try.prog.cellsOf 28)) = xs[8]? := hxs 8 _ rfl
  have d37 : ((c0 :: c1 :: c2 :: c3 :: c4 :: (r ++ [c37, c38, c39])).drop 37) = [c37, c38, c39] := by
    rw [show (37 : Nat) = 5 + 32 by rfl, ← List.drop_drop]
    simp only [List.drop_succ_cons, List.drop_zero]
    rw [List.drop_append_of_le_length (by omega), List.drop_of_length_le (by omega)]
    rfl
  have d38 : ((c0 :: c1 :: c2 :: c3 :: c4 :: (r ++ [c37, c38, c39])).drop 38) = [c38, c39] := by
    rw [show (38 : Nat) = 37 + 1 by rfl, ← List.drop_drop, d37]; rfl
  have d39 : ((c0 :: c1 :: c2 :: c3 :: c4 :: (r ++ [c37, c38, c39])).drop 39) = [c39] := by
    rw [show (39 : Nat) = 37 + 2 by rfl, ← List.drop_drop, d37]; rfl
  rw [cells3, List.getElem?_eq_getElem (by omega)] at f0 f1 f2
  rw [d38, cells3, List.getElem?_eq_getElem (by omega)] at f7
  rw [cells24, List.getElem?_eq_getElem (by omega)] at f3
  rw [cells4, List.getElem?_eq_getElem (by omega)] at f4
  rw [cells26, List.getElem?_eq_getElem (by omega)] at f5
  rw [d37, cells27, List.getElem?_eq_getElem (by omega)] at f6
  rw [d39, cells28, List.getElem?_eq_getElem (by omega)] at f8
  simp only [List.drop_succ_cons, List.drop_zero, List.take_succ_cons, List.take_zero] at f0 f1 f2 f3 f4 f5 f6 f7 f8
  obtain ⟨z0, e0, _, w0⟩ := DataW.trod_int Try.underlying3 f0
  obtain ⟨z1, e1, _, w1⟩ := DataW.trod_int Try.underlying3 f1
  obtain ⟨z2, e2, _, w2⟩ := DataW.trod_int Try.underlying3 f2
  obtain ⟨z7, e7, _, w7⟩ := DataW.trod_int Try.underlying3 f7
  obtain ⟨z8, e8, _, w8⟩ := DataW.trod_int Try.underlying28 f8
  obtain ⟨p, zl, rp, wl, pp⟩ := read_row Try.underlying24 Try.underlying3 cells3 f3
  obtain ⟨q, zd, rq, wd, pq⟩ := read_row Try.underlying27 Try.underlying5 cells5 f6
  obtain ⟨bo, e4, _⟩ := DataW.trod_bool Try.underlying4 f4
  rw [List.take_append_of_le_length (by omega), List.take_of_length_le (by omega)] at f5
  obtain ⟨key, hk, ek, wk⟩ := read_key f5
  simp only [List.cons.injEq, and_true] at e0 e1 e2 e4 e7 e8
  subst e0; subst e1; subst e2; subst e4; subst e7; subst e8; subst ek
  have hO : ∀ b, ¬ Avoid (fun _ => False) (AI.hf []) (fun _ => (0, 0)) b := fun b h => h.elim own_nil (fun h => h)
  refine ⟨{ kind := z0, node := z1, pred := z2, list := zl, done := bo, key := key, data := zd, lease := z7, err := z8 }, p, q, ⟨hk, w0, w1, w2, w7, w8, wl⟩, fun z hz => wf_byte (wk z hz), fun z hz => wf_byte (wd z hz), rp, rq, ?_⟩
  refine RepL.agg ?_
  show RepL _ _ _ _ ([.pv (.int .i64 z0), .pv (.int .i64 z1), .pv (.int .i64 z2), .pv p, .pv (.bool bo)] ++ ((u8s key).map .pv ++ [.pv q, .pv (.int .i64 z7), .pv (.int .i64 z8)])) ([.int .i64 z0, .int .i64 z1, .int .i64 z2, c3, .bool bo] ++ (key.map (fun z => .int .u8 z) ++ [c37, .int .i64 z7, .int .i64 z8]))
  refine RepL.append (.cons (.pv _ _ (.int _ _)) (.cons (.pv _ _ (.int _ _)) (.cons (.pv _ _ (.int _ _)) (.cons (.pv _ _ (pp _ hO)) (.cons (.pv _ _ (.bool _)) .nil))))) (RepL.append ?_ (.cons (.pv _ _ (pq _ hO)) (.cons (.pv _ _ (.int _ _)) (.cons (.pv _ _ (.int _ _)) .nil))))
  refine ⟨by simp [u8s], fun i x hx => ?_⟩
  simp only [u8s, List.map_map, List.getElem?_map, Option.map_eq_some_iff] at hx
  obtain ⟨z, hz, rfl⟩ := hx
  exact ⟨.int .u8 z, by rw [List.getElem?_map, hz]; rfl, .pv _ _ (.int _ _)⟩

theorem read_msg {v : Value} {d : DataW H} {ps : List MemPlace} (hval : Value.okWide Try.prog w .any base 30 v) (h : DataW.Trod enc Try.prog w 0 (fun _ => true) true 30 v d ps) :
    ∃ (m : M) (p q : PV), Fit m ∧ (∀ hp nb, Row hp nb (.pv p) (ints m.list)) ∧ (∀ hp nb, Row hp nb (.pv q) (u8s m.data)) ∧
      RepA (fun _ => False) (AI.hf []) (fun _ => (0, 0)) w (.agg (mcells m (.pv p) (.pv q))) v := by
  obtain ⟨m, p, q, h1, _, _, h2, h3, h4⟩ := read_msg8 hval h
  exact ⟨m, p, q, h1, h2, h3, h4⟩
end

end Go.Proofs.Ytlinbbjobjnipaa
