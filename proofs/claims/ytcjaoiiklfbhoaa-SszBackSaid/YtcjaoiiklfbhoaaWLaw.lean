/- What SszWrites builds of fields, in plain Lean. No condition. -/
import Derived.Test.YtcjaoiiklfbhoaaWPlain
import Derived.Test.YtcjaoiiklfbhoaaFields
namespace Go.EW
open Go.RowKit

/-- A field's kind: 0 some bytes, 1 a number, 2 a root, 3 a part. -/
def kindOf (f : FieldV) : Nat := (f.1 % 4).toNat
theorem kindOf_lt (f : FieldV) : kindOf f < 4 := by unfold kindOf; omega

def fsz (f : FieldV) : Nat := if kindOf f = 0 then f.2.2.length else if kindOf f = 1 then 8 else if kindOf f = 2 then 32 else 4
def sizeSum (l : List FieldV) : Nat := (l.map fsz).sum
def wField (s : WState) (f : FieldV) : WState :=
  if kindOf f = 0 then wFix s f.2.2 else if kindOf f = 1 then wFix s (putN f.2.1 8) else if kindOf f = 2 then wFix s (rootOf f.2.2) else wPart s f.2.2
def lawField (size : Nat) (x : List UInt8 × List UInt8) (f : FieldV) : List UInt8 × List UInt8 :=
  if kindOf f = 0 then (x.1 ++ f.2.2, x.2) else if kindOf f = 1 then (x.1 ++ putN f.2.1 8, x.2) else if kindOf f = 2 then (x.1 ++ rootOf f.2.2, x.2) else (x.1 ++ putN (size + x.2.length) 4, x.2 ++ f.2.2)
def wAll (l : List FieldV) : WState := l.foldl wField ([], [], [])
def lawAll (size : Nat) (l : List FieldV) : List UInt8 × List UInt8 := l.foldl (lawField size) ([], [])

theorem take_snoc {α : Type} (l : List α) (i : Nat) (hi : i < l.length) : l.take (i + 1) = l.take i ++ [l[i]] := by
  rw [List.take_add_one, List.getElem?_eq_getElem hi]
  rfl
theorem wAll_take (l : List FieldV) (i : Nat) (hi : i < l.length) : wAll (l.take (i + 1)) = wField (wAll (l.take i)) l[i] := by
  rw [take_snoc l i hi, wAll, List.foldl_append]
  rfl
theorem lawAll_take (size : Nat) (l : List FieldV) (i : Nat) (hi : i < l.length) : lawAll size (l.take (i + 1)) = lawField size (lawAll size (l.take i)) l[i] := by
  rw [take_snoc l i hi, lawAll, List.foldl_append]
  rfl
theorem sizeSum_take (l : List FieldV) (i : Nat) (hi : i < l.length) : sizeSum (l.take (i + 1)) = sizeSum (l.take i) + fsz l[i] := by
  rw [take_snoc l i hi, sizeSum, List.map_append, List.sum_append]
  simp [sizeSum]
theorem lens_take (l : List FieldV) (i : Nat) (hi : i < l.length) : lens (l.take (i + 1)) = lens (l.take i) + (l[i]).2.2.length := by
  rw [take_snoc l i hi, lens, List.map_append, List.sum_append]
  simp [lens]
theorem lens_take_le (l : List FieldV) : ∀ i, lens (l.take i) ≤ lens l := by
  intro i
  have h : lens l = lens (l.take i) + lens (l.drop i) := by
    simp only [lens]
    rw [← List.sum_append, ← List.map_append, List.take_append_drop]
  omega

theorem wField_ok {size : Nat} {s : WState} {x : List UInt8 × List UInt8} (h : WOk size s x.1 x.2) (f : FieldV) : WOk size (wField s f) (lawField size x f).1 (lawField size x f).2 := by
  unfold wField lawField
  split
  · exact h.fix _
  · split
    · exact h.fix _
    · split
      · exact h.fix _
      · exact h.part _
theorem wAll_ok (size : Nat) (l : List FieldV) : WOk size (wAll l) (lawAll size l).1 (lawAll size l).2 := by
  have gen : ∀ (l : List FieldV) (s : WState) (x : List UInt8 × List UInt8), WOk size s x.1 x.2 → WOk size (l.foldl wField s) (l.foldl (lawField size) x).1 (l.foldl (lawField size) x).2 := by
    intro l
    induction l with
    | nil => exact fun s x h => h
    | cons f l ih => exact fun s x h => ih _ _ (wField_ok h f)
  exact gen l _ _ (WOk.nil size)

theorem wField_len (s : WState) (f : FieldV) : (wField s f).1.length = s.1.length + fsz f := by
  unfold wField fsz
  split
  · simp [wFix]
  · split
    · simp [wFix, putN_length]
    · split
      · simp [wFix, rootOf_length]
      · simp [wPart]
/-- How great what the Writer holds is. -/
theorem wAll_size (l : List FieldV) : (wAll l).1.length = sizeSum l ∧ (wAll l).2.2.flatten.length ≤ lens l ∧ (wAll l).2.2.length ≤ l.length := by
  have gen : ∀ (l : List FieldV) (s : WState), (l.foldl wField s).1.length = s.1.length + sizeSum l ∧ (l.foldl wField s).2.2.flatten.length ≤ s.2.2.flatten.length + lens l ∧ (l.foldl wField s).2.2.length ≤ s.2.2.length + l.length := by
    intro l
    induction l with
    | nil => exact fun s => ⟨by simp [sizeSum], by simp [lens], by simp⟩
    | cons f l ih =>
      intro s
      obtain ⟨h1, h2, h3⟩ := ih (wField s f)
      have hl := wField_len s f
      have hp : (wField s f).2.2.flatten.length ≤ s.2.2.flatten.length + f.2.2.length ∧ (wField s f).2.2.length ≤ s.2.2.length + 1 := by
        unfold wField
        split
        · simp [wFix]
        · split
          · simp [wFix]
          · split
            · simp [wFix]
            · simp [wPart]
      refine ⟨?_, ?_, ?_⟩
      · simp only [List.foldl_cons, sizeSum, List.map_cons, List.sum_cons] at h1 ⊢
        omega
      · simp only [List.foldl_cons, lens, List.map_cons, List.sum_cons] at h2 ⊢
        omega
      · simp only [List.foldl_cons, List.length_cons]
        omega
  have := gen l ([], [], [])
  simpa [wAll] using this
theorem sizeSum_le : ∀ l : List FieldV, sizeSum l ≤ lens l + 32 * l.length
  | [] => by simp [sizeSum]
  | f :: l => by
    have := sizeSum_le l
    have hf : fsz f ≤ f.2.2.length + 32 := by unfold fsz; split <;> (try split) <;> (try split) <;> omega
    simp only [sizeSum, lens, List.map_cons, List.sum_cons, List.length_cons] at this ⊢
    omega
/-- What the Writer answers is what the law expects. -/
theorem wAll_bytes (l : List FieldV) : bytesW (wAll l).1 (wAll l).2.1 (wAll l).2.2 = (lawAll (sizeSum l) l).1 ++ (lawAll (sizeSum l) l).2 := by
  have h := wAll_ok (sizeSum l) l
  rw [← (wAll_size l).1] at h ⊢
  exact h.bytes
end Go.EW
