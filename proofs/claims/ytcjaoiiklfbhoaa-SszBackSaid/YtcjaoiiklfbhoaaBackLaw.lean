/- What SszBack reads back of what it wrote, in plain Lean. No condition. -/
import Derived.Test.YtcjaoiiklfbhoaaReadsLaw
import Derived.Test.YtcjaoiiklfbhoaaWLaw
import Derived.Test.YtcjaoiiklfbhoaaOpen3
namespace Go.EW
open Go.RowKit

/-- A field's bytes among those of one size. -/
def fieldB (size far : Nat) (f : FieldV) : List UInt8 :=
  if kindOf f = 0 then f.2.2 else if kindOf f = 1 then putN f.2.1 8 else if kindOf f = 2 then rootOf f.2.2 else putN (size + far) 4
def fieldP (f : FieldV) : List (List UInt8) := if kindOf f = 0 then [] else if kindOf f = 1 then [] else if kindOf f = 2 then [] else [f.2.2]
def psOf (fs : List FieldV) : List (List UInt8) := (fs.map fieldP).flatten
theorem psOf_take (fs : List FieldV) (i : Nat) (hi : i < fs.length) : psOf (fs.take (i + 1)) = psOf (fs.take i) ++ fieldP fs[i] := by
  rw [take_snoc fs i hi, psOf, List.map_append, List.flatten_append]
  simp [psOf]
theorem lawField_eq (size : Nat) (x : List UInt8 × List UInt8) (f : FieldV) : lawField size x f = (x.1 ++ fieldB size x.2.length f, x.2 ++ (fieldP f).flatten) := by
  unfold lawField fieldB fieldP
  split
  · simp
  · split
    · simp
    · split <;> simp
theorem lawAll_far (size : Nat) (fs : List FieldV) : (lawAll size fs).2 = (psOf fs).flatten := by
  have gen : ∀ (l : List FieldV) (x : List UInt8 × List UInt8), (l.foldl (lawField size) x).2 = x.2 ++ (psOf l).flatten := by
    intro l
    induction l with
    | nil => intro x; simp [psOf]
    | cons f l ih =>
      intro x
      rw [List.foldl_cons, ih, lawField_eq]
      simp [psOf]
  have := gen fs ([], [])
  simpa [lawAll] using this
theorem lawAll_pre (size : Nat) (l r : List FieldV) : ∃ rest, (lawAll size (l ++ r)).1 = (lawAll size l).1 ++ rest := by
  have gen : ∀ (r : List FieldV) (x : List UInt8 × List UInt8), ∃ rest, (r.foldl (lawField size) x).1 = x.1 ++ rest := by
    intro r
    induction r with
    | nil => intro x; exact ⟨[], by simp⟩
    | cons f r ih =>
      intro x
      obtain ⟨rest, h⟩ := ih (lawField size x f)
      exact ⟨fieldB size x.2.length f ++ rest, by rw [List.foldl_cons, h, lawField_eq]; simp⟩
  rw [lawAll, List.foldl_append]
  exact gen r _
theorem fieldB_length (size far : Nat) (f : FieldV) : (fieldB size far f).length = fsz f := by
  unfold fieldB fsz
  split
  · rfl
  · split
    · exact putN_length _ _
    · split
      · exact rootOf_length _
      · exact putN_length _ _

/-- The bytes that the law hands to Read. -/
def backB (fs : List FieldV) (more : List UInt8) : List UInt8 := (lawAll (sizeSum fs) fs).1 ++ (psOf fs).flatten ++ more
/-- Where the Reader is behind i fields. -/
def backS (fs : List FieldV) (more : List UInt8) (i : Nat) : RState := ⟨backB fs more, sizeSum (fs.take i), offs (sizeSum fs) (psOf (fs.take i)), sizeSum fs, false⟩

theorem lawAll_len (size : Nat) (l : List FieldV) : (lawAll size l).1.length = sizeSum l := by
  have h := wAll_ok size l
  obtain ⟨h1, _⟩ := wAll_size l
  rw [h.fixed, fillS_length h.holes _ (by rw [h.len]; exact Nat.le_refl _), h1]

theorem back_drop (fs : List FieldV) (more : List UInt8) (i : Nat) (hi : i < fs.length) : ∃ rest, (backS fs more i).b.drop (backS fs more i).at_ = fieldB (sizeSum fs) (psOf (fs.take i)).flatten.length fs[i] ++ rest := by
  obtain ⟨rest, h⟩ := lawAll_pre (sizeSum fs) (fs.take (i + 1)) (fs.drop (i + 1))
  rw [List.take_append_drop, lawAll_take _ _ _ hi, lawField_eq, lawAll_far] at h
  refine ⟨rest ++ (psOf fs).flatten ++ more, ?_⟩
  show (backB fs more).drop (sizeSum (fs.take i)) = _
  have hl := lawAll_len (sizeSum fs) (fs.take i)
  rw [backB, h]
  simp only [List.append_assoc]
  exact List.drop_left' hl
theorem sizeSum_take_le (fs : List FieldV) (i : Nat) (hi : i < fs.length) : sizeSum (fs.take i) + fsz fs[i] ≤ sizeSum fs := by
  rw [← sizeSum_take fs i hi]
  have : sizeSum fs = sizeSum (fs.take (i + 1)) + sizeSum (fs.drop (i + 1)) := by
    simp only [sizeSum]
    rw [← List.sum_append, ← List.map_append, List.take_append_drop]
  omega

theorem offs_snoc (d : List UInt8) : ∀ (n : Nat) (ps : List (List UInt8)), offs n (ps ++ [d]) = offs n ps ++ [n + ps.flatten.length]
  | n, [] => by simp [offs]
  | n, p :: r => by
    rw [List.cons_append, offs, offs, offs_snoc d, List.flatten_cons, List.length_append, Nat.add_assoc]
    rfl

/-- A field of one size, read. -/
theorem back_fixed (fs : List FieldV) (more : List UInt8) (i : Nat) (hi : i < fs.length) (hk : kindOf fs[i] < 3) : rFixed (backS fs more i) (fsz fs[i]) = (fieldB (sizeSum fs) (psOf (fs.take i)).flatten.length fs[i], backS fs more (i + 1)) := by
  obtain ⟨rest, h⟩ := back_drop fs more i hi
  have hl := fieldB_length (sizeSum fs) (psOf (fs.take i)).flatten.length fs[i]
  have h1 := rFixed_of (s := backS fs more i) rfl h (by rw [hl]; exact sizeSum_take_le fs i hi)
  rw [hl] at h1
  rw [h1]
  congr 1
  have hp : fieldP fs[i] = [] := by
    unfold fieldP
    have : kindOf fs[i] = 0 ∨ kindOf fs[i] = 1 ∨ kindOf fs[i] = 2 := by omega
    rcases this with e | e | e <;> rw [e] <;> rfl
  simp only [rAt, backS, RState.mk.injEq, true_and, and_true]
  exact ⟨(sizeSum_take fs i hi).symm, by rw [psOf_take fs i hi, hp, List.append_nil]⟩
/-- A part, read. -/
theorem back_part (fs : List FieldV) (more : List UInt8) (i : Nat) (hi : i < fs.length) (hk : kindOf fs[i] = 3) (hsz : sizeSum fs + (psOf (fs.take i)).flatten.length < 4294967296) : rPart (backS fs more i) = backS fs more (i + 1) := by
  obtain ⟨rest, h⟩ := back_drop fs more i hi
  have hB : fieldB (sizeSum fs) (psOf (fs.take i)).flatten.length fs[i] = putN (sizeSum fs + (psOf (fs.take i)).flatten.length) 4 := by
    unfold fieldB; rw [hk]; rfl
  have hP : fieldP fs[i] = [(fs[i]).2.2] := by unfold fieldP; rw [hk]; rfl
  have h4 : fsz fs[i] = 4 := by unfold fsz; rw [hk]; rfl
  have hle := sizeSum_take_le fs i hi
  have hst := sizeSum_take fs i hi
  rw [hB] at h
  rw [rPart_of (s := backS fs more i) rfl h (by show sizeSum _ + 4 ≤ sizeSum _; omega) hsz]
  simp only [backS, RState.mk.injEq, true_and, and_true]
  exact ⟨by rw [hst, h4], by rw [psOf_take fs i hi, hP, offs_snoc]⟩

/-- The last part made longer. -/
def extLast : List (List UInt8) → List UInt8 → List (List UInt8)
  | [], _ => []
  | [p], m => [p ++ m]
  | p :: q :: r, m => p :: extLast (q :: r) m
theorem extLast_length (m : List UInt8) : ∀ ps, (extLast ps m).length = ps.length
  | [] => rfl
  | [p] => rfl
  | p :: q :: r => by rw [extLast, List.length_cons, extLast_length m (q :: r)]; rfl
theorem extLast_flatten (m : List UInt8) : ∀ ps, ps ≠ [] → (extLast ps m).flatten = ps.flatten ++ m
  | [], h => (h rfl).elim
  | [p], _ => by simp [extLast]
  | p :: q :: r, _ => by rw [extLast, List.flatten_cons, extLast_flatten m (q :: r) (by simp)]; simp
theorem extLast_offs (m : List UInt8) : ∀ (n : Nat) ps, offs n (extLast ps m) = offs n ps
  | _, [] => rfl
  | n, [p] => rfl
  | n, p :: q :: r => by rw [extLast, offs, offs, extLast_offs m _ (q :: r)]
theorem extLast_at (m : List UInt8) : ∀ (ps : List (List UInt8)) (k : Nat), k < ps.length → (extLast ps m).getD k [] = if k + 1 = ps.length then ps.getD k [] ++ m else ps.getD k []
  | [], k, h => by simp at h
  | [p], 0, _ => rfl
  | [p], k + 1, h => by simp at h
  | p :: q :: r, 0, _ => by
    rw [extLast, if_neg (by simp)]
    rfl
  | p :: q :: r, k + 1, h => by
    have := extLast_at m (q :: r) k (by simpa using h)
    rw [extLast, List.getD_cons_succ, this]
    simp

/-- What Parts answers. -/
theorem back_parts (fs : List FieldV) (more : List UInt8) : rParts (backS fs more fs.length) = if psOf fs = [] then (if more.length = 0 then some [] else none) else some (extLast (psOf fs) more) := by
  have hlen := lawAll_len (sizeSum fs) fs
  have e1 : fs.take fs.length = fs := List.take_length
  by_cases hp : psOf fs = []
  · rw [if_pos hp]
    have hb : (backB fs more).length = sizeSum fs + more.length := by rw [backB, hp]; simp [hlen]
    rw [rParts]
    have hH : rHead (backS fs more fs.length) = !decide (more.length = 0) := by
      simp only [rHead, backS, e1, hp, offs, List.length_nil, hb, decide_true, Bool.not_true, Bool.false_or, Bool.true_and]
      rw [Bool.eq_iff_iff]
      simp <;> omega
    rw [hH]
    have hpl : (backS fs more fs.length).places.length = 0 := by simp [backS, e1, hp, offs]
    by_cases hm : more.length = 0
    · rw [if_pos hm, if_neg (by rw [decide_eq_true hm]; simp), hpl]
      rfl
    · rw [if_neg hm, if_pos (by rw [decide_eq_false hm]; rfl)]
  · rw [if_neg hp]
    refine rParts_of rfl (by simp [backS, e1]) (by simp only [backS, e1]; rw [extLast_offs]) ?_ ?_ ?_
    · intro e
      have := extLast_length more (psOf fs)
      rw [e] at this
      exact hp (List.eq_nil_of_length_eq_zero this.symm)
    · show (backB fs more).drop (sizeSum fs) = _
      rw [extLast_flatten more _ hp, backB, List.append_assoc]
      exact List.drop_left' hlen
    · show (backB fs more).length = sizeSum fs + _
      rw [extLast_flatten more _ hp, backB, List.append_assoc, List.length_append, hlen]

theorem psOf_len_le (fs : List FieldV) : (psOf fs).flatten.length ≤ lens fs ∧ (psOf fs).length ≤ fs.length := by
  induction fs with
  | nil => exact ⟨by simp [psOf], by simp [psOf]⟩
  | cons f fs ih =>
    obtain ⟨h1, h2⟩ := ih
    have hf : (fieldP f).flatten.length ≤ f.2.2.length ∧ (fieldP f).length ≤ 1 := by
      unfold fieldP
      split
      · simp
      · split
        · simp
        · split <;> simp
    have e : psOf (f :: fs) = fieldP f ++ psOf fs := by simp [psOf]
    rw [e, List.flatten_append, List.length_append, List.length_append]
    simp only [lens, List.map_cons, List.sum_cons, List.length_cons] at h1 ⊢
    omega
theorem psOf_take_le (fs : List FieldV) (i : Nat) : (psOf (fs.take i)).flatten.length ≤ (psOf fs).flatten.length := by
  have e : psOf fs = psOf (fs.take i) ++ psOf (fs.drop i) := by
    simp only [psOf]
    rw [← List.flatten_append, ← List.map_append, List.take_append_drop]
  rw [e, List.flatten_append, List.length_append]
  omega
/-- The part of field i. -/
theorem psOf_at (fs : List FieldV) (i : Nat) (hi : i < fs.length) (hk : kindOf fs[i] = 3) : (psOf (fs.take i)).length < (psOf fs).length ∧ (psOf fs).getD (psOf (fs.take i)).length [] = (fs[i]).2.2 := by
  have e : psOf fs = psOf (fs.take i) ++ psOf (fs.drop i) := by
    simp only [psOf]
    rw [← List.flatten_append, ← List.map_append, List.take_append_drop]
  have e2 : psOf (fs.drop i) = (fs[i]).2.2 :: psOf (fs.drop (i + 1)) := by
    rw [List.drop_eq_getElem_cons hi]
    simp only [psOf, List.map_cons, List.flatten_cons]
    have : fieldP fs[i] = [(fs[i]).2.2] := by unfold fieldP; rw [hk]; rfl
    rw [this]
    rfl
  rw [e, e2]
  refine ⟨by simp, ?_⟩
  simp [List.getD]
theorem wAll_back (fs : List FieldV) (more : List UInt8) : bytesW (wAll fs).1 (wAll fs).2.1 (wAll fs).2.2 ++ more = backB fs more := by
  rw [wAll_bytes, lawAll_far, backB]
end Go.EW
