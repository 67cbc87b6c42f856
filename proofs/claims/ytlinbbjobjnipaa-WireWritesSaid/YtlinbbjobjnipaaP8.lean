/- Reading: any field; what is read, told plainly. -/
import Derived.Test.YtlinbbjobjnipaaP7
set_option linter.unusedVariables false
set_option linter.unusedSimpArgs false
set_option linter.unusedSectionVars false
namespace Go.Proofs.Ytlinbbjobjnipaa
open Go AI

set_option maxHeartbeats 4000000
set_option maxRecDepth 10000

/-- A step of a reader that keeps the first thing that was wrong. -/
def readS (f : Nat) (m : M) (b : List Int) (e : Int) : M × List Int × Int :=
  match f with
  | 0 => ({ m with pred := (predR b e).1 }, (predR b e).2)
  | 1 => ({ m with node := (byteR b e 9).1 }, (byteR b e 9).2)
  | 2 => ({ m with list := (listR m b e).1 }, (listR m b e).2)
  | 3 => ({ m with done := (byteR b e 1).1 == 1 }, (byteR b e 1).2)
  | 4 => ({ m with err := (byteR b e 20).1 }, (byteR b e 20).2)
  | 5 => ({ m with key := keyR m b e }, (takeR b e 32).2)
  | 6 => ({ m with data := (dataR b e).1 }, (dataR b e).2)
  | _ => ({ m with lease := (numR b e 4 1 1000).1 }, (numR b e 4 1 1000).2)

theorem read_calls (d f : Nat) (hf : f < 8) {hp : Hp} {nb idm idr q : Nat} {m : M} {b : List Int} {e : Int} (hb : ∀ x ∈ b, 0 ≤ x ∧ x ≤ 255) (hml : m.list.length ≤ 1000) (hpm : Pm hp nb idm idr q m) (hrd : Rd hp nb idr q b e) :
    CA (callA Try.prog facts plains 10000 (d + 5)) 26 [.ptr idr 1 0, .ptr idm 1 0, .pv (.int .i64 f)] hp nb (FldOk hp nb idm idr q (readS f m b e).1 (readS f m b e).2.1 (readS f m b e).2.2) := by
  match f, hf with
  | 0, _ => exact read_0 d hb hpm hrd
  | 1, _ => exact read_1 d hb hpm hrd
  | 2, _ => exact read_2 d hb hml hpm hrd
  | 3, _ => exact read_3 d hb hpm hrd
  | 4, _ => exact read_4 d hb hpm hrd
  | 5, _ => exact read_5 d hb hpm hrd
  | 6, _ => exact read_6 d hb hpm hrd
  | 7, _ => exact read_7 d hb hpm hrd

theorem byteR_eq (b : List Int) (e most : Int) : byteR b e most = match takeR b e 1 with
    | ([], b', e') => (0, b', e')
    | (x :: _, b', e') => if x > most then (0, b', firstE e' 11) else (x, b', e') := rfl

theorem take_stuck (b : List Int) {e : Int} (n : Nat) (h : e ≠ 0) : takeR b e n = ([], b, e) := by
  rw [takeR, if_pos (.inl h), firstE, if_neg h]

theorem byte_stuck (b : List Int) {e : Int} (most : Int) (h : e ≠ 0) : byteR b e most = (0, b, e) := by
  rw [byteR_eq, take_stuck b 1 h]

theorem pred_stuck (b : List Int) {e : Int} (h : e ≠ 0) : predR b e = (0, b, e) := by
  unfold predR
  split
  · rw [if_neg (fun hh => h hh.1), byte_stuck _ _ h]
  · rw [byte_stuck _ _ h]

theorem num_stuck (b : List Int) {e : Int} (n : Nat) (l k : Int) (h : e ≠ 0) : numR b e n l k = (0, b, e) := by
  unfold numR
  rw [take_stuck b n h]
  simp only
  rw [if_neg (fun hh => h hh.1)]
  rfl

theorem list_stuck {e : Int} (h : e ≠ 0) : ∀ (n : Nat) (acc b : List Int), (listN n acc b e).2 = (b, e)
  | 0, acc, b => rfl
  | n + 1, acc, b => by
    rw [listN, byte_stuck b 9 h]
    exact list_stuck h n _ b

/-- What was wrong first stays. -/
theorem read_stuck (f : Nat) (m : M) (b : List Int) {e : Int} (h : e ≠ 0) : (readS f m b e).2.2 = e := by
  unfold readS
  split
  · rw [pred_stuck b h]
  · rw [byte_stuck b 9 h]
  · unfold listR
    rw [byte_stuck b 10 h, list_stuck h]
  · rw [byte_stuck b 1 h]
  · rw [byte_stuck b 20 h]
  · rw [take_stuck b 32 h]
  · unfold dataR
    rw [num_stuck b 2 0 6000 h, take_stuck b _ h]
  · rw [num_stuck b 4 1 1000 h]

theorem byte_nil (most : Int) : byteR [] 0 most = (0, [], 8) := rfl
theorem byte_cons (x : Int) (r : List Int) (most : Int) : byteR (x :: r) 0 most = if x > most then (0, r, 11) else (x, r, 0) := by
  rw [byteR_eq]
  rfl

theorem list_ok : ∀ (n : Nat) (acc b : List Int), match readList n b acc with
    | .ok (l, r) => listN n acc b 0 = (l, r, 0)
    | .error x => (listN n acc b 0).2.2 = x ∧ x ≠ 0
  | 0, acc, b => rfl
  | n + 1, acc, [] => by
    rw [readList]
    simp only
    rw [listN, byte_nil, list_stuck (by show (8 : Int) ≠ 0; decide)]
    exact ⟨rfl, by decide⟩
  | n + 1, acc, x :: r => by
    rw [readList]
    by_cases hx : x > 9
    · rw [if_pos hx]
      simp only
      rw [listN, byte_cons, if_pos hx, list_stuck (by show (11 : Int) ≠ 0; decide)]
      exact ⟨rfl, by decide⟩
    · rw [if_neg hx, listN, byte_cons, if_neg hx]
      exact list_ok n _ r

def Agree (r : Except Int (M × List Int)) (s : M × List Int × Int) : Prop :=
  match r with
  | .ok p => s = (p.1, p.2, 0)
  | .error x => s.2.2 = x ∧ x ≠ 0

theorem agree_if {c : Prop} [Decidable c] {r1 r2 : Except Int (M × List Int)} {s : M × List Int × Int} (h1 : c → Agree r1 s) (h2 : ¬ c → Agree r2 s) : Agree (if c then r1 else r2) s := by
  split
  · exact h1 ‹_›
  · exact h2 ‹_›

theorem bad {s : M × List Int × Int} {x : Int} (h : s.2.2 = x) (hx : x ≠ 0) : Agree (.error x) s := ⟨h, hx⟩
theorem fine {s : M × List Int × Int} {m : M} {r : List Int} (h : s = (m, r, 0)) : Agree (.ok (m, r)) s := h

theorem read_ok0 (m : M) (b : List Int) : Agree (readE 0 m b) (readS 0 m b 0) := by
  cases b with
  | nil => exact bad rfl (by decide)
  | cons x r =>
    refine agree_if (fun h1 => fine ?_) (fun h1 => agree_if (fun h2 => bad ?_ (by decide)) (fun h2 => fine ?_))
    · simp only [readS, predR]
      rw [if_pos ⟨trivial, h1⟩]
    · simp only [readS, predR]
      rw [if_neg (fun h => h1 h.2), byte_cons, if_pos h2]
    · simp only [readS, predR]
      rw [if_neg (fun h => h1 h.2), byte_cons, if_neg h2]

theorem read_ok1 (m : M) (b : List Int) : Agree (readE 1 m b) (readS 1 m b 0) := by
  cases b with
  | nil => exact bad rfl (by decide)
  | cons x r =>
    refine agree_if (fun h2 => bad ?_ (by decide)) (fun h2 => fine ?_)
    · simp only [readS, byte_cons]
      rw [if_pos h2]
    · simp only [readS, byte_cons]
      rw [if_neg h2]

theorem read_ok2 (m : M) (b : List Int) (hl : m.list = []) : Agree (readE 2 m b) (readS 2 m b 0) := by
  cases b with
  | nil => exact bad rfl (by decide)
  | cons x r =>
    refine agree_if (fun h2 => bad ?_ (by decide)) (fun h2 => ?_)
    · simp only [readS, listR, byte_cons]
      rw [if_pos h2]
      rfl
    · have hs : readS 2 m (x :: r) 0 = ({ m with list := (listN x.toNat [] r 0).1 }, (listN x.toNat [] r 0).2) := by
        simp only [readS, listR, byte_cons]
        rw [if_neg h2, hl]
      rw [hs]
      have := list_ok x.toNat [] r
      cases hh : readList x.toNat r [] with
      | ok p =>
        rw [hh] at this
        simp only at this
        refine fine ?_
        rw [this]
      | error e =>
        rw [hh] at this
        exact bad this.1 this.2

theorem read_ok3 (m : M) (b : List Int) : Agree (readE 3 m b) (readS 3 m b 0) := by
  cases b with
  | nil => exact bad rfl (by decide)
  | cons x r =>
    refine agree_if (fun h2 => bad ?_ (by decide)) (fun h2 => fine ?_)
    · simp only [readS, byte_cons]
      rw [if_pos h2]
    · simp only [readS, byte_cons]
      rw [if_neg h2]
      rfl

theorem read_ok4 (m : M) (b : List Int) : Agree (readE 4 m b) (readS 4 m b 0) := by
  cases b with
  | nil => exact bad rfl (by decide)
  | cons x r =>
    refine agree_if (fun h2 => bad ?_ (by decide)) (fun h2 => fine ?_)
    · simp only [readS, byte_cons]
      rw [if_pos h2]
    · simp only [readS, byte_cons]
      rw [if_neg h2]

theorem read_ok5 (m : M) (b : List Int) : Agree (readE 5 m b) (readS 5 m b 0) := by
  refine agree_if (fun h2 => bad ?_ (by decide)) (fun h2 => fine ?_)
  · simp only [readS, takeR]
    rw [if_pos (.inr h2)]
    rfl
  · have : takeR b 0 32 = (b.take 32, b.drop 32, 0) := by
      rw [takeR, if_neg]
      intro h
      rcases h with h | h
      · exact h rfl
      · exact h2 h
    simp only [readS, keyR, this]
    rw [if_pos (by simp; omega)]

theorem read_ok6 (m : M) (b : List Int) (hb : ∀ x ∈ b, 0 ≤ x ∧ x ≤ 255) : Agree (readE 6 m b) (readS 6 m b 0) := by
  match b, hb with
  | [], _ => exact bad rfl (by decide)
  | [x], _ => exact bad rfl (by decide)
  | x :: y :: r, hb =>
    have hx := hb x (by simp)
    have hy := hb y (by simp)
    have hn : numR (x :: y :: r) 0 2 0 6000 = (x * 256 + y, r, if x * 256 + y > 6000 then 11 else 0) := by
      have h3 : (x * 256 + y < 0 ∨ x * 256 + y > 6000) ↔ x * 256 + y > 6000 := by omega
      have ht : takeR (x :: y :: r) 0 2 = ([x, y], r, 0) := by rw [takeR, if_neg (by simp)]; rfl
      unfold numR
      rw [ht]
      simp [numOf, h3]
    refine agree_if (fun h2 => bad ?_ (by decide)) (fun h2 => agree_if (fun h3 => bad ?_ (by decide)) (fun h3 => fine ?_))
    · simp only [readS, dataR, hn]
      rw [if_pos h2, take_stuck _ _ (by decide)]
    · simp only [readS, dataR, hn]
      rw [if_neg h2, takeR, if_pos (.inr h3)]
      rfl
    · simp only [readS, dataR, hn]
      rw [if_neg h2, takeR, if_neg]
      intro h
      rcases h with h | h
      · exact h rfl
      · exact h3 h

theorem read_ok7 (f : Nat) (m : M) (b : List Int) : Agree (readE (f + 7) m b) (readS (f + 7) m b 0) := by
  match b with
  | [] => exact bad rfl (by decide)
  | [x] => exact bad rfl (by decide)
  | [x, y] => exact bad rfl (by decide)
  | [x, y, z] => exact bad rfl (by decide)
  | x :: y :: z :: w :: r =>
    have hn : numR (x :: y :: z :: w :: r) 0 4 1 1000 = (x * 16777216 + y * 65536 + z * 256 + w, r, if x * 16777216 + y * 65536 + z * 256 + w < 1 ∨ x * 16777216 + y * 65536 + z * 256 + w > 1000 then 11 else 0) := by
      have : ((x * 256 + y) * 256 + z) * 256 + w = x * 16777216 + y * 65536 + z * 256 + w := by omega
      have ht : takeR (x :: y :: z :: w :: r) 0 4 = ([x, y, z, w], r, 0) := by rw [takeR, if_neg (by simp)]; rfl
      unfold numR
      rw [ht]
      simp [numOf, this]
    refine agree_if (fun h2 => bad ?_ (by decide)) (fun h2 => fine ?_)
    · simp only [readS, hn]
      rw [if_pos h2]
    · simp only [readS, hn]
      rw [if_neg h2]

theorem read_ok (f : Nat) (m : M) (b : List Int) (hb : ∀ x ∈ b, 0 ≤ x ∧ x ≤ 255) (hl : f = 2 → m.list = []) : Agree (readE f m b) (readS f m b 0) :=
  match f, hl with
  | 0, _ => read_ok0 m b
  | 1, _ => read_ok1 m b
  | 2, hl => read_ok2 m b (hl rfl)
  | 3, _ => read_ok3 m b
  | 4, _ => read_ok4 m b
  | 5, _ => read_ok5 m b
  | 6, _ => read_ok6 m b hb
  | f + 7, _ => read_ok7 f m b

theorem byte_rest_sub {b : List Int} {e most : Int} : ∀ x ∈ (byteR b e most).2.1, x ∈ b := by
  have h1 : (byteR b e most).2.1 = (takeR b e 1).2.1 := by
    unfold byteR
    split
    · rename_i h; rw [h]
    · rename_i h; rw [h]; split <;> rfl
  rw [h1]
  exact take_sub

theorem listN_sub {e : Int} : ∀ (n : Nat) (acc b : List Int) (e : Int), (∀ x ∈ (listN n acc b e).2.1, x ∈ b) ∧ (listN n acc b e).1.length = acc.length + n
  | 0, acc, b, e => ⟨fun x h => h, rfl⟩
  | n + 1, acc, b, e => by
    rw [listN]
    obtain ⟨h1, h2⟩ := listN_sub (e := e) n (acc ++ [(byteR b e 9).1]) (byteR b e 9).2.1 (byteR b e 9).2.2
    exact ⟨fun x h => byte_rest_sub x (h1 x h), by rw [h2]; simp; omega⟩

theorem num_sub {b : List Int} {e l k : Int} {n : Nat} : ∀ x ∈ (numR b e n l k).2.1, x ∈ b := fun x h => take_sub (e := e) (n := n) x h

theorem read_sub (f : Nat) (m : M) (b : List Int) (e : Int) : ∀ x ∈ (readS f m b e).2.1, x ∈ b := by
  unfold readS
  split
  · unfold predR
    split
    · split
      · exact fun x h => List.mem_cons_of_mem _ h
      · exact byte_rest_sub
    · exact byte_rest_sub
  · exact byte_rest_sub
  · exact fun x h => byte_rest_sub x ((listN_sub (e := e) _ _ _ _).1 x h)
  · exact byte_rest_sub
  · exact byte_rest_sub
  · exact take_sub
  · exact fun x h => num_sub x (take_sub x h)
  · exact num_sub

theorem read_list (f : Nat) (m : M) (b : List Int) (e : Int) (hb : ∀ x ∈ b, 0 ≤ x ∧ x ≤ 255) : (readS f m b e).1.list.length ≤ m.list.length + 10 ∧ (f ≠ 2 → (readS f m b e).1.list = m.list) := by
  unfold readS
  split
  · exact ⟨by simp only; omega, fun _ => rfl⟩
  · exact ⟨by simp only; omega, fun _ => rfl⟩
  · refine ⟨?_, fun h => absurd rfl h⟩
    have := (listN_sub (e := e) (byteR b e 10).1.toNat m.list (byteR b e 10).2.1 (byteR b e 10).2.2).2
    have h2 := byte_val (e := e) (most := 10) (by omega) hb
    unfold listR
    rw [this]; omega
  · exact ⟨by simp only; omega, fun _ => rfl⟩
  · exact ⟨by simp only; omega, fun _ => rfl⟩
  · exact ⟨by simp only; omega, fun _ => rfl⟩
  · exact ⟨by simp only; omega, fun _ => rfl⟩
  · exact ⟨by simp only; omega, fun _ => rfl⟩

def fieldsS : List Nat → M → List Int → Int → M × List Int × Int
  | [], m, b, e => (m, b, e)
  | f :: fs, m, b, e => fieldsS fs (readS f m b e).1 (readS f m b e).2.1 (readS f m b e).2.2

theorem fields_stuck : ∀ (fs : List Nat) (m : M) (b : List Int) {e : Int}, e ≠ 0 → (fieldsS fs m b e).2.2 = e
  | [], m, b, e, h => rfl
  | f :: fs, m, b, e, h => by
    rw [fieldsS]
    have h1 := read_stuck f m b h
    have := fields_stuck fs (readS f m b e).1 (readS f m b e).2.1 (e := (readS f m b e).2.2) (by rw [h1]; exact h)
    rw [this, h1]

theorem fields_ok : ∀ (fs : List Nat) (m : M) (b : List Int), (∀ x ∈ b, 0 ≤ x ∧ x ≤ 255) → fs.Nodup → (2 ∈ fs → m.list = []) → Agree (fieldsR fs m b) (fieldsS fs m b 0)
  | [], m, b, hb, hn, hl => fine rfl
  | f :: fs, m, b, hb, hn, hl => by
    have h1 := read_ok f m b hb (fun h => hl (by simp [h]))
    rw [fieldsR, fieldsS]
    cases hr : readE f m b with
    | error e =>
      rw [hr] at h1
      obtain ⟨h2, h3⟩ := h1
      refine bad ?_ h3
      rw [fields_stuck _ _ _ (by rw [h2]; exact h3), h2]
    | ok p =>
      obtain ⟨m', r⟩ := p
      rw [hr] at h1
      have h1 : readS f m b 0 = (m', r, 0) := h1
      have h2 := read_sub f m b 0
      have h3 := (read_list f m b 0 hb).2
      rw [h1] at h2 h3 ⊢
      rw [List.nodup_cons] at hn
      exact fields_ok fs m' r (fun x hx => hb x (h2 x hx)) hn.2 (fun h => by
        have hne : f ≠ 2 := fun he => hn.1 (by rw [he]; exact h)
        have := h3 hne
        simp only at this
        rw [this]
        exact hl (List.mem_cons_of_mem _ h))

theorem row_nodup {k : Int} {fs : List Nat} (h : rowOf k = some fs) : fs.Nodup := by
  by_cases hk : 1 ≤ k ∧ k ≤ 12
  · have : k = 1 ∨ k = 2 ∨ k = 3 ∨ k = 4 ∨ k = 5 ∨ k = 6 ∨ k = 7 ∨ k = 8 ∨ k = 9 ∨ k = 10 ∨ k = 11 ∨ k = 12 := by omega
    rcases this with rfl | rfl | rfl | rfl | rfl | rfl | rfl | rfl | rfl | rfl | rfl | rfl <;> simp [rowOf] at h <;> subst h <;> decide
  · exfalso
    unfold rowOf at h
    rw [if_neg (by omega), if_neg (by omega), if_neg (by omega), if_neg (by omega), if_neg (by omega), if_neg (by omega), if_neg (by omega), if_neg (by omega), if_neg (by omega), if_neg (by omega), if_neg (by omega), if_neg (by omega)] at h
    simp at h
end Go.Proofs.Ytlinbbjobjnipaa
