/- What SszReads expects of bytes, in plain Lean. No condition. -/
import Derived.Test.YtcjaoiiklfbhoaaRLaw
namespace Go.EW
open Go.RowKit

/-- Place number i of P places, the last of which ends at size. -/
def plOf (bs : List UInt8) (size P i : Nat) : Nat := leN ((bs.drop (size - 4 * P + 4 * i)).take 4)
def plsOf (bs : List UInt8) (size P n : Nat) : List Nat := (List.range n).map (plOf bs size P)
theorem plsOf_length (bs : List UInt8) (size P n : Nat) : (plsOf bs size P n).length = n := by simp [plsOf]

theorem rPartsN_pls (bs : List UInt8) (size P : Nat) (s : RState) (hb : s.b = bs) (hs : s.size = size) (hf : s.bad = false) (ha : s.at_ = size - 4 * P) (hP : 4 * P ≤ size) (hl : size ≤ bs.length) (hp : s.places = []) :
    ∀ n, n ≤ P → rPartsN n s = { s with at_ := size - 4 * P + 4 * n, places := plsOf bs size P n }
  | 0, _ => by
    rw [rPartsN]
    cases s
    simp only at ha hp
    simp [plsOf, ha, hp]
  | n + 1, h => by
    rw [rPartsN, rPartsN_pls bs size P s hb hs hf ha hP hl hp n (by omega)]
    have hd : bs.drop (size - 4 * P + 4 * n) = (bs.drop (size - 4 * P + 4 * n)).take 4 ++ (bs.drop (size - 4 * P + 4 * n)).drop 4 := (List.take_append_drop _ _).symm
    have hl4 : ((bs.drop (size - 4 * P + 4 * n)).take 4).length = 4 := by rw [List.length_take, List.length_drop]; omega
    have h1 := rFixed_of (s := { s with at_ := size - 4 * P + 4 * n, places := plsOf bs size P n }) (x := (bs.drop (size - 4 * P + 4 * n)).take 4) (rest := (bs.drop (size - 4 * P + 4 * n)).drop 4) hf (by rw [← hd, ← hb]) (by rw [hl4]; show size - 4 * P + 4 * n + 4 ≤ s.size; omega)
    rw [hl4] at h1
    rw [rPart, h1]
    simp only [rAt, plsOf, List.range_succ, List.map_append, List.map_cons, List.map_nil, RState.mk.injEq, true_and, and_true]
    refine ⟨by omega, rfl⟩

theorem rFixed_bad {s : RState} (h : s.bad = true) (n : Nat) : (rFixed s n).2.bad = true := by
  rw [rFixed, if_pos (.inl h)]
  rfl
theorem rPart_bad {s : RState} (h : s.bad = true) : (rPart s).bad = true := rFixed_bad h 4
theorem rPartsN_bad {s : RState} (h : s.bad = true) : ∀ n, (rPartsN n s).bad = true
  | 0 => h
  | n + 1 => rPart_bad (rPartsN_bad h n)
theorem rBool_bad {s : RState} (h : s.bad = true) : (rBool s).2.bad = true := by
  rw [rBool]
  dsimp only
  split
  · rfl
  · exact rFixed_bad h 1
theorem rParts_bad {s : RState} (h : s.bad = true) : rParts s = none := by
  rw [rParts, if_pos (by rw [rHead, h]; rfl)]

/-- The law's own list: places, and the end. -/
def atOf (bs : List UInt8) (size P : Nat) : List Nat := plsOf bs size P P ++ [bs.length]
theorem atOf_length (bs : List UInt8) (size P : Nat) : (atOf bs size P).length = P + 1 := by simp [atOf, plsOf_length]
/-- Is something wrong with the places? -/
def mono (l : List Nat) : Bool := (List.range (l.length - 1)).all fun i => decide (l.getD i 0 ≤ l.getD (i + 1) 0)
theorem mono_le (l : List Nat) (h : mono l = true) : ∀ j i, i ≤ j → j < l.length → l.getD i 0 ≤ l.getD j 0 := by
  intro j
  induction j with
  | zero => intro i hi _; obtain rfl : i = 0 := by omega
            exact Nat.le_refl _
  | succ j ih =>
    intro i hi hj
    rcases Nat.lt_or_ge j i with h' | h'
    · obtain rfl : i = j + 1 := by omega
      exact Nat.le_refl _
    · have h1 := ih i h' (by omega)
      have h2 := List.all_eq_true.1 h j (by simp; omega)
      have h3 := of_decide_eq_true h2
      omega

theorem getD_left {α : Type} {l r : List α} {i : Nat} {d : α} (h : i < l.length) : (l ++ r).getD i d = l.getD i d := by
  simp only [List.getD, List.getElem?_append_left h]
theorem getD_end {l : List Nat} {x d : Nat} : (l ++ [x]).getD l.length d = x := by simp [List.getD]

theorem rParts_law (bs : List UInt8) (size P : Nat) (s : RState) (hb : s.b = bs) (hs : s.size = size) (hf : s.bad = false) (ha : s.at_ = size) (hl : size ≤ bs.length) (hp : s.places = plsOf bs size P P) :
    rParts s = if (atOf bs size P).getD 0 0 = size ∧ mono (atOf bs size P) = true then some ((List.range P).map fun i => (bs.drop ((atOf bs size P).getD i 0)).take ((atOf bs size P).getD (i + 1) 0 - (atOf bs size P).getD i 0)) else none := by
  have hlen : s.places.length = P := by rw [hp, plsOf_length]
  have hal := atOf_length bs size P
  have hpl : ∀ i, i < P → plAt s i = (atOf bs size P).getD i 0 := by
    intro i hi
    rw [plAt, hp, atOf, getD_left (by rw [plsOf_length]; exact hi)]
  have hpe : ∀ i, i < P → plEnd s i = (atOf bs size P).getD (i + 1) 0 := by
    intro i hi
    rcases Nat.lt_or_ge (i + 1) P with h | h
    · rw [plEnd, hp, atOf, getD_left (by rw [plsOf_length]; exact h), List.getD, List.getD, List.getElem?_eq_getElem (by rw [plsOf_length]; exact h)]
      rfl
    · have e : i + 1 = (plsOf bs size P P).length := by rw [plsOf_length]; omega
      rw [plEnd, hp, atOf, e, getD_end, List.getD, List.getElem?_eq_none (by omega), Option.getD_none, hb]
  have hlast : (atOf bs size P).getD P 0 = bs.length := by
    have e : P = (plsOf bs size P P).length := by rw [plsOf_length]
    rw [atOf]
    conv => lhs; arg 2; rw [e]
    exact getD_end
  by_cases h0 : (atOf bs size P).getD 0 0 = size
  · have hH : rHead s = false := by
      rw [rHead, hf, decide_eq_true (by rw [ha, hs]), hlen, hs, hb]
      by_cases hP : P = 0
      · subst hP
        rw [hlast] at h0
        rw [decide_eq_true h0]
        simp
      · rw [decide_eq_false hP]
        rfl
    have hA : (List.range s.places.length).all (okAt s) = mono (atOf bs size P) := by
      rw [hlen, Bool.eq_iff_iff]
      refine ⟨fun h => ?_, fun h => ?_⟩
      · refine all_range' _ _ (fun i hi => ?_)
        rw [hal] at hi
        have := List.all_eq_true.1 h i (by simp; omega)
        unfold okAt at this
        simp only [Bool.and_eq_true, decide_eq_true_eq] at this
        rw [hpl i (by omega), hpe i (by omega)] at this
        exact decide_eq_true this.1.2
      · refine all_range' _ _ (fun i hi => ?_)
        have h1 := mono_le _ h (i + 1) i (by omega) (by omega)
        have h2 := mono_le _ h P (i + 1) (by omega) (by omega)
        rw [hlast] at h2
        unfold okAt
        rw [hpl i hi, hpe i hi, hs, hb, decide_eq_true h1, decide_eq_true h2]
        by_cases e : i = 0
        · rw [e, h0]; simp
        · rw [decide_eq_false e]; rfl
    rw [rParts, hH, hA]
    simp only [Bool.false_eq_true, if_false]
    by_cases hm : mono (atOf bs size P) = true
    · rw [if_pos hm, if_pos ⟨h0, hm⟩, hlen]
      congr 1
      refine List.map_congr_left (fun i hi => ?_)
      have hi' : i < P := by simpa using hi
      rw [partAt, hpl i hi', hpe i hi', hb]
    · rw [if_neg hm, if_neg (fun e => hm e.2)]
  · rw [if_neg (fun e => h0 e.1)]
    by_cases hP : P = 0
    · subst hP
      rw [hlast] at h0
      rw [rParts, if_pos]
      rw [rHead, hlen, hs, hb, decide_eq_false h0]
      simp
    · rw [rParts]
      split
      · rfl
      · rw [if_neg]
        rw [hlen]
        intro e
        have := List.all_eq_true.1 e 0 (by simp; omega)
        unfold okAt at this
        rw [hpl 0 (by omega), hs, decide_eq_false h0] at this
        simp at this
end Go.EW
