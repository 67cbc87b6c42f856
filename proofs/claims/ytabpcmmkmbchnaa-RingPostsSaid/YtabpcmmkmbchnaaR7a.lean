/- The law of posts: the chapter's example, run in trees; how a fate is read. -/
import Derived.Test.YtabpcmmkmbchnaaR6
import Derived.ChangeSlices
set_option linter.unusedVariables false
set_option linter.unusedSimpArgs false
set_option linter.unusedSectionVars false
namespace Go.Proofs.Ytabpcmmkmbchnaa.ringPosts
open Go AI Go.ChangeShapes Go.WideShapes

theorem two_of {α : Type} {l : List α} (h : l.length = 2) : ∃ a b, l = [a, b] := by
  rcases l with _ | ⟨a, _ | ⟨b, _ | ⟨c, r⟩⟩⟩
  · simp at h
  · simp at h
  · exact ⟨a, b, rfl⟩
  · simp at h

def plains0 (f : Nat) : Bool := [5,6,12,13,20,21,23,25,26,30,32,33,37,38,47,48].contains f

set_option maxRecDepth 100000 in
theorem known_run : isT (callT Try.prog noS plains0 100 20 5 [] []) = true := by kernel_rfl

section
variable [Val] {H : Type} {enc : TypeId × Value → H} {w : World} {base : Nat}

theorem cell_spot {a : Addr} {v : Value} (h : w.cell? a = some v) : a = ⟨a.block, a.off, none⟩ := by
  obtain ⟨b, o, s⟩ := a
  unfold World.cell? at h
  split at h
  · split at h
    · simp at h
    · rename_i hs
      cases s with
      | none => rfl
      | some z => simp at hs
  · simp at h

theorem add_flat (b off i : Nat) : (⟨b, off, none⟩ : Addr).add i = ⟨b, off + i, none⟩ := by
  unfold Addr.add
  split
  · rename_i h; subst h; rfl
  · rfl

theorem cells5 : Try.prog.cellsOf 5 = 1 := by kernel_rfl
theorem cells3 : Try.prog.cellsOf 3 = 1 := by kernel_rfl
theorem cells44 : Try.prog.cellsOf 44 = 1 := by kernel_rfl
theorem cells45 : Try.prog.cellsOf 45 = 1 := by kernel_rfl
theorem cells48 : Try.prog.cellsOf 48 = 1 := by kernel_rfl
theorem cells50 : Try.prog.cellsOf 50 = 2 := by kernel_rfl
theorem cells47 : Try.prog.cellsOf 47 = 2 := by kernel_rfl

theorem read_bytes {fuel : Nat} {v : Value} {x : DataW H × List MemPlace} (h : DataW.trod enc Try.prog w base (fun _ => true) true fuel 48 [v] = some x) :
    ∃ p n, BytesP p n ∧ ∀ O : Nat → Prop, (∀ b, ¬ O b) → RepP O w p v := by
  rcases open_ints Try.underlying48 Try.underlying5 cells5 h with ⟨h1, _⟩ | ⟨a, len, cap, zs, h1, h2, h3, h4, h5, _, h7, h8⟩
  · simp at h1; subst h1
    exact ⟨.nilSlice, 0, .nil, fun O hO => .nilSlice⟩
  · simp at h1; subst h1
    simp only [if_true] at h5
    cases cap with
    | zero =>
      obtain rfl : len = 0 := by omega
      exact ⟨.zcap, 0, .zcap, fun O hO => .zcap a⟩
    | succ cap =>
      have h0 := h7 0 (by omega)
      have ha : a.add 0 = a := rfl
      rw [ha] at h0
      have hs := cell_spot h0
      generalize a.block = b at hs
      generalize a.off = off at hs
      subst hs
      cases len with
      | zero => exact ⟨.ros 1 0 [], 0, .ros0, fun O hO => .ros 1 0 [] b off _ (fun _ => undef) rfl (by omega) (fun h => by simp at h) (fun i h => by simp at h) (fun i h => by simp at h)⟩
      | succ n =>
        have hl : (zs.take (n + 1)).length = n + 1 := by simp; omega
        refine ⟨.ros 1 (n + 1) ((zs.take (n + 1)).map fun z => .int .u8 z), n + 1, .ros n _ hl, fun O hO => ?_⟩
        refine .ros _ _ _ b off _ (fun i => .int .u8 (zs.getD i 0)) (by simp; omega) (by omega) (fun _ => hO b) (fun i hi => ?_) (fun i hi => ?_)
        · simp at hi
          rw [← add_flat]
          exact h7 i (by omega)
        · simp at hi
          have : zs.getD i 0 = zs[i]'(by omega) := by
            rw [List.getD_eq_getElem?_getD, List.getElem?_eq_getElem (by omega)]
            rfl
          simp only [List.getElem_map, List.getElem_take, this]
          exact .int _ _

theorem flat_map_get (f : Nat → Int × PV) (len : Nat) (j : Nat) (hj : j < 2 * len) : (flat ((List.range len).map f))[j]? = some (if j % 2 = 0 then .int .i64 (f (j / 2)).1 else (f (j / 2)).2) := by
  have hi : ((List.range len).map f)[j / 2]? = some (f (j / 2)) := by
    rw [List.getElem?_map, List.getElem?_range (by omega)]
    rfl
  obtain ⟨h1, h2⟩ := flat_get _ _ _ hi
  by_cases h : j % 2 = 0
  · rw [if_pos h, ← h1, show 2 * (j / 2) = j by omega]
  · rw [if_neg h, ← h2, show 2 * (j / 2) + 1 = j by omega]

theorem read_lies {fuel : Nat} {v : Value} {x : DataW H × List MemPlace} (h : DataW.trod enc Try.prog w base (fun _ => true) true fuel 45 [v] = some x) :
    ∃ p cs, LiesP p cs ∧ (∀ q ∈ cs, ∃ m : Nat, BytesP q.2 m) ∧ ∀ O : Nat → Prop, (∀ b, ¬ O b) → RepP O w p v := by
  rcases DataW.trod_slice Try.underlying45 h with ⟨h1, _⟩ | ⟨a, len, cap, elems, rest, n, _, h1, _, hb, hl, _, hlen, hel, hsp, _⟩
  · simp at h1; subst h1
    exact ⟨.nilSlice, [], .nil, by simp, fun O hO => .nilSlice⟩
  · simp at h1; subst h1
    rw [cells50] at hel hsp
    obtain ⟨hrl, hr⟩ := hsp rfl
    cases cap with
    | zero =>
      obtain rfl : len = 0 := by omega
      exact ⟨.zcap, [], .zcap, by simp, fun O hO => .zcap a⟩
    | succ cap =>
      -- what a pair of cells holds
      have pair : ∀ (c : Addr) (y : DataW H × List MemPlace), (w.cells? base c 2).bind (DataW.trod enc Try.prog w base (fun _ => true) true n 50) = some y →
          c = ⟨c.block, c.off, none⟩ ∧ ∃ (z : Int) (u : Value) (p : PV) (m : Nat), w.cell? ⟨c.block, c.off, none⟩ = some (.int .i64 z) ∧ w.cell? ⟨c.block, c.off + 1, none⟩ = some u ∧ BytesP p m ∧ ∀ O : Nat → Prop, (∀ b, ¬ O b) → RepP O w p u := by
        intro c y hy
        rw [Option.bind_eq_some_iff] at hy
        obtain ⟨cs, hcs, hy⟩ := hy
        obtain ⟨_, hcl, hce⟩ := World.cells?_some hcs
        obtain ⟨xs, n', rfl, _, _, hxl, hxs⟩ := DataW.trod_struct Try.underlying50 hy
        obtain ⟨u0, u1, rfl⟩ := two_of hcl
        have f0 : DataW.trod enc Try.prog w base (fun _ => true) true n' 3 (([u0, u1].drop 0).take (Try.prog.cellsOf 3)) = xs[0]? := hxs 0 _ rfl
        have f1 : DataW.trod enc Try.prog w base (fun _ => true) true n' 48 (([u0, u1].drop 1).take (Try.prog.cellsOf 48)) = xs[1]? := hxs 1 _ rfl
        have hx2 : xs.length = 2 := by simpa using hxl
        rw [cells3] at f0
        rw [cells48] at f1
        rw [List.getElem?_eq_getElem (by omega)] at f0 f1
        obtain ⟨z, e0, _, _⟩ := DataW.trod_int Try.underlying3 f0
        simp at e0; subst e0
        obtain ⟨p, m, hp, hrep⟩ := read_bytes f1
        have c0 := hce 0 (by omega)
        have c1 := hce 1 (by omega)
        have e : c.add 0 = c := rfl
        rw [e] at c0
        have hs := cell_spot (show w.cell? c = some (.int .i64 z) from c0)
        refine ⟨hs, z, u1, p, m, by rw [← hs]; exact c0, ?_, hp, hrep⟩
        rw [hs, add_flat] at c1
        exact c1
      have hspot : a = ⟨a.block, a.off, none⟩ := by
        by_cases h0 : 0 < len
        · have := hel 0 h0
          rw [List.getElem?_eq_getElem (by omega)] at this
          exact (pair _ _ this).1
        · have := hr 0 (by omega)
          rw [List.getElem?_eq_getElem (by omega)] at this
          obtain rfl : len = 0 := by omega
          exact (pair _ _ this).1
      generalize a.block = b at hspot
      generalize a.off = off at hspot
      subst hspot
      cases len with
      | zero => exact ⟨.ros 2 0 [], [], .ros0, by simp, fun O hO => .ros 2 0 [] b off _ (fun _ => undef) rfl (by omega) (fun h => by simp at h) (fun i h => by simp at h) (fun i h => by simp at h)⟩
      | succ k =>
        have each : ∀ i, ∃ q : Int × PV, i < k + 1 → ∃ (u : Value) (m : Nat), w.cell? ⟨b, off + i * 2, none⟩ = some (.int .i64 q.1) ∧ w.cell? ⟨b, off + i * 2 + 1, none⟩ = some u ∧ BytesP q.2 m ∧ ∀ O : Nat → Prop, (∀ b, ¬ O b) → RepP O w q.2 u := by
          intro i
          by_cases hi : i < k + 1
          · have := hel i hi
            rw [List.getElem?_eq_getElem (by omega), add_flat] at this
            obtain ⟨_, z, u, p, m, h1, h2, h3, h4⟩ := pair _ _ this
            exact ⟨(z, p), fun _ => ⟨u, m, h1, h2, h3, h4⟩⟩
          · exact ⟨(0, .nilSlice), fun h => absurd h hi⟩
        obtain ⟨f, hf⟩ := Classical.axiomOfChoice each
        refine ⟨.ros 2 (k + 1) (flat ((List.range (k + 1)).map f)), (List.range (k + 1)).map f, .ros k _ (by simp), ?_, fun O hO => ?_⟩
        · intro q hq
          obtain ⟨i, hi, rfl⟩ := List.mem_map.1 hq
          obtain ⟨u, m, _, _, h3, _⟩ := hf i (by simpa using hi)
          exact ⟨m, h3⟩
        · have hfl : (flat ((List.range (k + 1)).map f)).length = 2 * (k + 1) := by rw [flat_length]; simp
          refine .ros _ _ _ b off _ (fun j => (w.cell? ⟨b, off + j, none⟩).getD undef) (by rw [hfl]; omega) (by omega) (fun _ => hO b) (fun j hj => ?_) (fun j hj => ?_)
          · obtain ⟨u, m, g1, g2, _, _⟩ := hf (j / 2) (by omega)
            by_cases he : j % 2 = 0
            · rw [show off + j = off + j / 2 * 2 by omega, g1]; rfl
            · rw [show off + j = off + j / 2 * 2 + 1 by omega, g2]; rfl
          · obtain ⟨u, m, g1, g2, _, g4⟩ := hf (j / 2) (by omega)
            have hg := flat_map_get f (k + 1) j (by omega)
            rw [List.getElem?_eq_getElem hj] at hg
            have hg' := Option.some.inj hg
            rw [hg']
            by_cases he : j % 2 = 0
            · rw [if_pos he, show off + j = off + j / 2 * 2 by omega, g1]
              exact .int _ _
            · rw [if_neg he, show off + j = off + j / 2 * 2 + 1 by omega, g2]
              exact g4 O hO

set_option maxRecDepth 100000 in
/-- How a fate is read. -/
theorem read_fate {v : Value} {d : DataW H} {ps : List MemPlace} (hval : Value.okWide Try.prog w .any base 47 v) (h : DataW.Trod enc Try.prog w 0 (fun _ => true) true 47 v d ps) :
    ∃ (x : Int) (u : Value) (p : PV) (cs : List (Int × PV)), v = .agg #[.int .u64 x, u] ∧ LiesP p cs ∧ (∀ q ∈ cs, ∃ m : Nat, BytesP q.2 m) ∧ ∀ O : Nat → Prop, (∀ b, ¬ O b) → RepP O w p u := by
  obtain ⟨cs, rfl, hsz⟩ := okWide_struct Try.underlying47 hval
  obtain ⟨fuel, hf⟩ := h
  obtain ⟨xs, n, rfl, _, hcl, hxl, hxs⟩ := DataW.trod_struct Try.underlying47 hf
  rw [cells47] at hsz
  obtain ⟨l⟩ := cs
  obtain ⟨u0, u1, rfl⟩ := two_of (show l.length = 2 from hsz)
  have f0 : DataW.trod enc Try.prog w 0 (fun _ => true) true n 44 (([u0, u1].drop 0).take (Try.prog.cellsOf 44)) = xs[0]? := hxs 0 _ rfl
  have f1 : DataW.trod enc Try.prog w 0 (fun _ => true) true n 45 (([u0, u1].drop 1).take (Try.prog.cellsOf 45)) = xs[1]? := hxs 1 _ rfl
  have hx2 : xs.length = 2 := by simpa using hxl
  rw [cells44] at f0
  rw [cells45] at f1
  rw [List.getElem?_eq_getElem (by omega)] at f0 f1
  obtain ⟨z, e0, _, _⟩ := DataW.trod_int Try.underlying44 f0
  simp at e0; subst e0
  obtain ⟨p, cs, hp, hb, hrep⟩ := read_lies f1
  exact ⟨z, u1, p, cs, rfl, hp, hb, hrep⟩
end

end Go.Proofs.Ytabpcmmkmbchnaa.ringPosts
