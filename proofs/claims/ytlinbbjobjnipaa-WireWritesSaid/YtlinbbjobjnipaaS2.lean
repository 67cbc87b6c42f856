/- Messages and their bytes, told plainly: what reading gives; what was written is read as it was; what can be read is written as it stood. -/
import Derived.Test.YtlinbbjobjnipaaS1
set_option linter.unusedVariables false
set_option linter.unusedSimpArgs false
namespace Go.Proofs.Ytlinbbjobjnipaa
open Go

def zeroM : M := { kind := 0, node := 0, pred := 0, list := [], done := false, key := List.replicate 32 0, data := [], lease := 0, err := 0 }

def readList : Nat → List Int → List Int → Except Int (List Int × List Int)
  | 0, b, acc => .ok (acc, b)
  | n + 1, [], acc => .error 8
  | n + 1, x :: r, acc => if x > 9 then .error 11 else readList n r (acc ++ [x])

/-- A field is read out of bytes. -/
def readE (f : Nat) (m : M) (b : List Int) : Except Int (M × List Int) :=
  match f with
  | 0 => match b with
    | [] => .error 8
    | x :: r => if x = 255 then .ok ({ m with pred := -1 }, r) else if x > 9 then .error 11 else .ok ({ m with pred := x }, r)
  | 1 => match b with
    | [] => .error 8
    | x :: r => if x > 9 then .error 11 else .ok ({ m with node := x }, r)
  | 2 => match b with
    | [] => .error 8
    | x :: r => if x > 10 then .error 11 else match readList x.toNat r [] with
      | .ok (l, r) => .ok ({ m with list := l }, r)
      | .error e => .error e
  | 3 => match b with
    | [] => .error 8
    | x :: r => if x > 1 then .error 11 else .ok ({ m with done := decide (x = 1) }, r)
  | 4 => match b with
    | [] => .error 8
    | x :: r => if x > 20 then .error 11 else .ok ({ m with err := x }, r)
  | 5 => if b.length < 32 then .error 8 else .ok ({ m with key := b.take 32 }, b.drop 32)
  | 6 => match b with
    | x :: y :: r => if x * 256 + y > 6000 then .error 11 else if r.length < (x * 256 + y).toNat then .error 8 else .ok ({ m with data := r.take (x * 256 + y).toNat }, r.drop (x * 256 + y).toNat)
    | _ => .error 8
  | _ => match b with
    | x :: y :: z :: w :: r => if x * 16777216 + y * 65536 + z * 256 + w < 1 ∨ x * 16777216 + y * 65536 + z * 256 + w > 1000 then .error 11 else .ok ({ m with lease := x * 16777216 + y * 65536 + z * 256 + w }, r)
    | _ => .error 8

def fieldsR : List Nat → M → List Int → Except Int (M × List Int)
  | [], m, b => .ok (m, b)
  | f :: fs, m, b => match readE f m b with
    | .ok (m, b) => fieldsR fs m b
    | .error e => .error e

/-- A message out of bytes. -/
def dec (b : List Int) : Except Int M :=
  match b with
  | [] => .error 8
  | k :: r => match rowOf k with
    | none => .error 3
    | some fs => match fieldsR fs { zeroM with kind := k } r with
      | .ok (m, []) => .ok m
      | .ok (_, _ :: _) => .error 9
      | .error e => .error e

/-- A field is taken over. -/
def setF (f : Nat) (m x : M) : M :=
  match f with
  | 0 => { x with pred := m.pred }
  | 1 => { x with node := m.node }
  | 2 => { x with list := m.list }
  | 3 => { x with done := m.done }
  | 4 => { x with err := m.err }
  | 5 => { x with key := m.key }
  | 6 => { x with data := m.data }
  | _ => { x with lease := m.lease }

def setsF (m : M) : List Nat → M → M
  | [], x => x
  | f :: fs, x => setsF m fs (setF f m x)

theorem u8_node {n : Int} (h : isNode n = true) : u8 n = n ∧ ¬ n > 9 ∧ 0 ≤ n := by
  unfold isNode at h
  simp at h
  unfold u8
  omega

theorem readList_ok : ∀ (l acc rest : List Int), l.all isNode = true → readList l.length (l.map u8 ++ rest) acc = .ok (acc ++ l, rest)
  | [], acc, rest, h => by simp [readList]
  | x :: l, acc, rest, h => by
    simp only [List.all_cons, Bool.and_eq_true] at h
    obtain ⟨h1, h2, _⟩ := u8_node h.1
    rw [List.length_cons, List.map_cons, List.cons_append, readList, h1, if_neg h2, readList_ok l _ rest h.2]
    simp

theorem readList_cut : ∀ (l acc : List Int) (k : Nat), l.all isNode = true → k < l.length → readList l.length ((l.map u8).take k) acc = .error 8
  | [], acc, k, h, hk => by simp at hk
  | x :: l, acc, 0, h, hk => by simp [readList]
  | x :: l, acc, k + 1, h, hk => by
    simp only [List.all_cons, Bool.and_eq_true] at h
    obtain ⟨h1, h2, _⟩ := u8_node h.1
    rw [List.length_cons, List.map_cons, List.take_succ_cons, readList, h1, if_neg h2, readList_cut l _ k h.2 (by simpa using hk)]

/-- What a field was written as is read as it was. -/
theorem read_field {m x : M} {f : Nat} {r rest : List Int} (hk : m.key.length = 32) (h : fieldE m f = .ok r) : readE f x (r ++ rest) = .ok (setF f m x, rest) := by
  unfold fieldE at h
  split at h
  · split at h
    · simp at h
    · rename_i hc
      simp only [Except.ok.injEq] at h; subst h
      simp only [readE, List.cons_append, List.nil_append, setF]
      by_cases hp : m.pred = -1
      · rw [hp]; simp [u8]
      · have hn : isNode m.pred = true := by
          cases hh : isNode m.pred with
          | true => rfl
          | false => exact absurd ⟨hp, hh⟩ hc
        obtain ⟨h1, h2, h3⟩ := u8_node hn
        rw [h1, if_neg (by omega), if_neg h2]
  · split at h
    · simp at h
    · rename_i hc
      simp only [Except.ok.injEq] at h; subst h
      obtain ⟨h1, h2, h3⟩ := u8_node (by simpa using hc)
      simp only [readE, List.cons_append, List.nil_append, setF, h1]
      rw [if_neg h2]
  · split at h
    · simp at h
    · rename_i hl
      split at h
      · rename_i hall
        simp only [Except.ok.injEq] at h; subst h
        have hu : u8 (m.list.length : Int) = m.list.length := by unfold u8; omega
        simp only [readE, List.cons_append, setF, hu]
        rw [if_neg (by omega), show ((m.list.length : Int)).toNat = m.list.length by omega, readList_ok _ _ _ hall]
        simp
      · simp at h
  · simp only [Except.ok.injEq] at h; subst h
    simp only [readE, List.cons_append, List.nil_append, setF]
    cases m.done <;> simp
  · split at h
    · simp at h
    · rename_i hc
      simp only [Except.ok.injEq] at h; subst h
      have hu : u8 m.err = m.err := by unfold u8; omega
      simp only [readE, List.cons_append, List.nil_append, setF, hu]
      rw [if_neg (by omega)]
  · simp only [Except.ok.injEq] at h; subst h
    simp only [readE, setF]
    rw [if_neg (by simp [hk]), List.take_append_of_le_length (by omega), List.take_of_length_le (by omega), List.drop_append_of_le_length (by omega), List.drop_of_length_le (by omega)]
    rfl
  · split at h
    · simp at h
    · rename_i hl
      simp only [Except.ok.injEq] at h; subst h
      have hn : u8 ((m.data.length : Int) / 256) * 256 + u8 (m.data.length : Int) = m.data.length := by unfold u8; omega
      simp only [readE, List.cons_append, setF, hn]
      rw [if_neg (by omega), show ((m.data.length : Int)).toNat = m.data.length by omega, if_neg (by simp), List.take_append_of_le_length (Nat.le_refl _), List.take_length, List.drop_append_of_le_length (Nat.le_refl _), List.drop_length]
      rfl
  · rename_i g0 g1 g2 g3 g4 g5 g6
    split at h
    · simp at h
    · rename_i hl
      simp only [Except.ok.injEq] at h; subst h
      have hn : u8 (m.lease / 16777216) * 16777216 + u8 (m.lease / 65536) * 65536 + u8 (m.lease / 256) * 256 + u8 m.lease = m.lease := by unfold u8; omega
      match f, g0, g1, g2, g3, g4, g5, g6 with
      | f + 7, _, _, _, _, _, _, _ =>
        simp only [readE, List.cons_append, List.nil_append, setF, hn]
        rw [if_neg (by omega)]

/-- What is cut off a field is told as cut. -/
theorem cut_field {m x : M} {f k : Nat} {r : List Int} (hk : m.key.length = 32) (h : fieldE m f = .ok r) (hr : k < r.length) : readE f x (r.take k) = .error 8 := by
  unfold fieldE at h
  split at h
  · split at h
    · simp at h
    · simp only [Except.ok.injEq] at h; subst h
      obtain rfl : k = 0 := by simpa using hr
      rfl
  · split at h
    · simp at h
    · simp only [Except.ok.injEq] at h; subst h
      obtain rfl : k = 0 := by simpa using hr
      rfl
  · split at h
    · simp at h
    · rename_i hl
      split at h
      · rename_i hall
        simp only [Except.ok.injEq] at h; subst h
        cases k with
        | zero => rfl
        | succ k =>
          have hu : u8 (m.list.length : Int) = m.list.length := by unfold u8; omega
          simp only [List.take_succ_cons, readE, hu]
          rw [if_neg (by omega), show ((m.list.length : Int)).toNat = m.list.length by omega, readList_cut _ _ _ hall (by simpa using hr)]
      · simp at h
  · simp only [Except.ok.injEq] at h; subst h
    obtain rfl : k = 0 := by simpa using hr
    rfl
  · split at h
    · simp at h
    · simp only [Except.ok.injEq] at h; subst h
      obtain rfl : k = 0 := by simpa using hr
      rfl
  · simp only [Except.ok.injEq] at h; subst h
    simp only [readE]
    rw [if_pos (by simp; omega)]
  · split at h
    · simp at h
    · rename_i hl
      simp only [Except.ok.injEq] at h; subst h
      match k with
      | 0 => rfl
      | 1 => rfl
      | k + 2 =>
        have hn : u8 ((m.data.length : Int) / 256) * 256 + u8 (m.data.length : Int) = m.data.length := by unfold u8; omega
        simp only [List.take_succ_cons, readE, hn]
        rw [if_neg (by omega), if_pos (by simp at hr ⊢; omega)]
  · rename_i g0 g1 g2 g3 g4 g5 g6
    split at h
    · simp at h
    · simp only [Except.ok.injEq] at h; subst h
      match f, g0, g1, g2, g3, g4, g5, g6 with
      | f + 7, _, _, _, _, _, _, _ =>
        match k with
        | 0 => rfl
        | 1 => rfl
        | 2 => rfl
        | 3 => rfl
        | k + 4 => simp at hr; omega

theorem read_fields {m : M} (hk : m.key.length = 32) : ∀ (fs : List Nat) (b r : List Int) (x : M) (rest : List Int), fieldsE m fs b = .ok r → ∃ r', r = b ++ r' ∧ fieldsR fs x (r' ++ rest) = .ok (setsF m fs x, rest)
  | [], b, r, x, rest, h => by
    simp only [fieldsE, Except.ok.injEq] at h
    exact ⟨[], by simp [h], rfl⟩
  | f :: fs, b, r, x, rest, h => by
    rw [fieldsE] at h
    split at h
    · rename_i r1 h1
      obtain ⟨r', e1, e2⟩ := read_fields hk fs _ r (setF f m x) rest h
      refine ⟨r1 ++ r', by rw [e1, List.append_assoc], ?_⟩
      rw [fieldsR, List.append_assoc, read_field hk h1]
      exact e2
    · simp at h

theorem cut_fields {m : M} (hk : m.key.length = 32) : ∀ (fs : List Nat) (b r' : List Int) (x : M) (k : Nat), fieldsE m fs b = .ok (b ++ r') → k < r'.length → fieldsR fs x (r'.take k) = .error 8
  | [], b, r', x, k, h, hr => by
    simp only [fieldsE, Except.ok.injEq] at h
    have : r' = [] := by simpa using h.symm
    subst this; simp at hr
  | f :: fs, b, r', x, k, h, hr => by
    rw [fieldsE] at h
    split at h
    · rename_i r1 h1
      obtain ⟨r2, e1, _⟩ := read_fields hk fs _ _ x [] h
      rw [List.append_assoc] at e1
      have e1 := List.append_cancel_left e1
      subst e1
      rw [fieldsR]
      rcases Nat.lt_or_ge k r1.length with hlt | hge
      · rw [List.take_append_of_le_length (by omega), cut_field hk h1 hlt]
      · rw [List.take_append, List.take_of_length_le (by omega), read_field hk h1]
        rw [← List.append_assoc] at h
        exact cut_fields hk fs _ r2 _ _ h (by simp at hr; omega)
    · simp at h

theorem row_u8 {k : Int} {fs : List Nat} (h : rowOf k = some fs) : u8 k = k := by
  have : 1 ≤ k ∧ k ≤ 12 := by
    by_cases hk : 1 ≤ k ∧ k ≤ 12
    · exact hk
    · exfalso
      unfold rowOf at h
      rw [if_neg (by omega), if_neg (by omega), if_neg (by omega), if_neg (by omega), if_neg (by omega), if_neg (by omega), if_neg (by omega), if_neg (by omega), if_neg (by omega), if_neg (by omega), if_neg (by omega), if_neg (by omega)] at h
      simp at h
  unfold u8; omega

/-- What was written is read. -/
theorem dec_enc {m : M} (hk : m.key.length = 32) {b : List Int} (h : enc m = .ok b) : ∃ fs, rowOf m.kind = some fs ∧ dec b = .ok (setsF m fs { zeroM with kind := m.kind }) := by
  unfold enc at h
  split at h
  · simp at h
  · rename_i fs hfs
    obtain ⟨r', e1, e2⟩ := read_fields hk fs _ _ { zeroM with kind := m.kind } [] h
    refine ⟨fs, hfs, ?_⟩
    subst e1
    rw [List.append_nil] at e2
    simp only [List.cons_append, List.nil_append, dec, row_u8 hfs, hfs, e2]

theorem dec_more {m : M} (hk : m.key.length = 32) {b : List Int} (h : enc m = .ok b) (z : Int) : dec (b ++ [z]) = .error 9 := by
  unfold enc at h
  split at h
  · simp at h
  · rename_i fs hfs
    obtain ⟨r', e1, e2⟩ := read_fields hk fs _ _ { zeroM with kind := m.kind } [z] h
    subst e1
    simp only [List.cons_append, List.nil_append, dec, row_u8 hfs, hfs, e2]

theorem dec_cut {m : M} (hk : m.key.length = 32) {b : List Int} (h : enc m = .ok b) (k : Nat) (hb : k < b.length) : dec (b.take k) = .error 8 := by
  unfold enc at h
  split at h
  · simp at h
  · rename_i fs hfs
    obtain ⟨r', e1, _⟩ := read_fields hk fs _ _ { zeroM with kind := m.kind } [] h
    subst e1
    cases k with
    | zero => rfl
    | succ k =>
      have := cut_fields hk fs _ r' { zeroM with kind := m.kind } k h (by simpa using hb)
      simp only [List.cons_append, List.nil_append, List.take_succ_cons, dec, row_u8 hfs, hfs, this]

end Go.Proofs.Ytlinbbjobjnipaa
