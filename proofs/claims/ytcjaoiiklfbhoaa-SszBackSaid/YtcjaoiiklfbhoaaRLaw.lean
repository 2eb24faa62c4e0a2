/- What a Reader reads of known bytes, in plain Lean. No condition. -/
import Derived.Test.YtcjaoiiklfbhoaaJoin
namespace Go.EW
open Go.RowKit

/-- Bytes that stand where the Reader is. -/
theorem rFixed_of {s : RState} {x rest : List UInt8} (hb : s.bad = false) (hd : s.b.drop s.at_ = x ++ rest) (hs : s.at_ + x.length ≤ s.size) : rFixed s x.length = (x, rAt s x.length) := by
  rw [rFixed, if_neg (fun e => e.elim (fun e => by rw [hb] at e; cases e) (fun e => by omega)), hd, List.take_left]
theorem rAt_drop {s : RState} {x rest : List UInt8} (hd : s.b.drop s.at_ = x ++ rest) : (rAt s x.length).b.drop (rAt s x.length).at_ = rest := by
  show s.b.drop (s.at_ + x.length) = rest
  rw [← List.drop_drop, hd, List.drop_left]

def offs : Nat → List (List UInt8) → List Nat
  | _, [] => []
  | n, p :: r => n :: offs (n + p.length) r
theorem offs_length : ∀ (n : Nat) (ps : List (List UInt8)), (offs n ps).length = ps.length
  | _, [] => rfl
  | n, p :: r => by rw [offs, List.length_cons, offs_length, List.length_cons]
theorem offs_at : ∀ (n : Nat) (ps : List (List UInt8)) (i : Nat), i < ps.length → (offs n ps)[i]? = some (n + (ps.take i).flatten.length)
  | _, [], i, h => by simp at h
  | n, p :: r, 0, _ => by simp [offs]
  | n, p :: r, i + 1, h => by
    rw [offs, List.getElem?_cons_succ, offs_at _ r i (by simpa using h), List.take_succ_cons, List.flatten_cons, List.length_append, Nat.add_assoc]

theorem rPart_of {s : RState} {n : Nat} {rest : List UInt8} (hb : s.bad = false) (hd : s.b.drop s.at_ = putN n 4 ++ rest) (hs : s.at_ + 4 ≤ s.size) (hn : n < 4294967296) : rPart s = { s with at_ := s.at_ + 4, places := s.places ++ [n] } := by
  have h := rFixed_of hb hd (by rw [putN_length]; exact hs)
  rw [putN_length] at h
  have h44 : (256 : Nat) ^ 4 = 4294967296 := by decide
  rw [rPart, h]
  simp only [leN_putN, h44, Nat.mod_eq_of_lt hn]
  rfl

theorem rPartsN_succ' (s : RState) : ∀ n, rPartsN (n + 1) s = rPartsN n (rPart s)
  | 0 => rfl
  | n + 1 => by rw [rPartsN, rPartsN_succ' s n]; rfl

theorem rPartsN_of : ∀ (ps : List (List UInt8)) (s : RState) (n : Nat) (rest : List UInt8), s.bad = false → s.b.drop s.at_ = heads n ps ++ rest → s.at_ + 4 * ps.length ≤ s.size → n + ps.flatten.length < 4294967296 →
    rPartsN ps.length s = { s with at_ := s.at_ + 4 * ps.length, places := s.places ++ offs n ps }
  | [], s, n, rest, _, _, _, _ => by simp [rPartsN, offs]
  | p :: r, s, n, rest, hb, hd, hs, hn => by
    rw [heads, List.append_assoc] at hd
    rw [List.length_cons] at hs
    rw [List.flatten_cons, List.length_append] at hn
    have h1 := rPart_of hb hd (by omega) (by omega)
    have h2 := rPartsN_of r (rPart s) (n + p.length) rest (by rw [h1]; exact hb) (by
      rw [h1]
      have := rAt_drop hd
      rw [putN_length] at this
      exact this) (by rw [h1]; dsimp only; omega) (by omega)
    rw [List.length_cons, rPartsN_succ', h2, h1]
    simp only [offs, List.append_assoc, List.singleton_append, RState.mk.injEq, true_and, and_true]
    omega

theorem flatten_take_drop (ps : List (List UInt8)) (i : Nat) : ps.flatten.drop ((ps.take i).flatten.length) = (ps.drop i).flatten := by
  have h : ps.flatten = (ps.take i).flatten ++ (ps.drop i).flatten := by rw [← List.flatten_append, List.take_append_drop]
  rw [h, List.drop_left]
theorem flatten_take_succ (ps : List (List UInt8)) (i : Nat) (hi : i < ps.length) : (ps.take (i + 1)).flatten.length = (ps.take i).flatten.length + ps[i].length := by
  rw [List.take_add_one, List.getElem?_eq_getElem hi, Option.toList_some, List.flatten_append, List.length_append]
  simp

/-- All the parts. -/
theorem rParts_of {s : RState} {ps : List (List UInt8)} (hb : s.bad = false) (ha : s.at_ = s.size) (hp : s.places = offs s.size ps) (hne : ps ≠ []) (hd : s.b.drop s.size = ps.flatten) (hl : s.b.length = s.size + ps.flatten.length) : rParts s = some ps := by
  have hlen : s.places.length = ps.length := by rw [hp, offs_length]
  have h0 : ps.length ≠ 0 := fun e => hne (List.eq_nil_of_length_eq_zero e)
  have hpl : ∀ i, i < ps.length → plAt s i = s.size + (ps.take i).flatten.length := by
    intro i hi
    rw [plAt, List.getD, hp, offs_at _ _ _ hi]
    rfl
  have hpe : ∀ i, i < ps.length → plEnd s i = s.size + (ps.take (i + 1)).flatten.length := by
    intro i hi
    rcases Nat.lt_or_ge (i + 1) ps.length with h | h
    · rw [plEnd, List.getD, hp, offs_at _ _ _ h]
      rfl
    · rw [plEnd, List.getD, List.getElem?_eq_none (by omega), Option.getD_none, hl, List.take_of_length_le h]
  have hH : rHead s = false := by
    rw [rHead, hb, decide_eq_true ha, hlen, decide_eq_false h0]
    rfl
  have hall : (List.range s.places.length).all (okAt s) = true := by
    rw [hlen]
    refine all_range' _ _ (fun i hi => ?_)
    have h1 := hpl i hi
    have h2 := hpe i hi
    have h3 := flatten_take_succ ps i hi
    have h4 := flatten_take_le ps (i + 1)
    have e0 : i = 0 → plAt s i = s.size := by
      intro e
      subst e
      rw [h1]
      simp
    unfold okAt
    simp only [Bool.and_eq_true, decide_eq_true_eq, Bool.not_eq_true', Bool.and_eq_false_iff, decide_eq_false_iff_not, Bool.not_eq_false']
    refine ⟨⟨?_, by omega⟩, by omega⟩
    by_cases e : i = 0
    · exact .inr (e0 e)
    · exact .inl e
  rw [rParts, hH, hall]
  simp only [Bool.false_eq_true, if_false, if_true, Option.some.injEq]
  rw [hlen]
  refine List.ext_getElem (by simp) (fun i hi hi' => ?_)
  rw [List.getElem_map, List.getElem_range, partAt, hpl i hi', hpe i hi', flatten_take_succ ps i hi', ← List.drop_drop, hd, flatten_take_drop, List.drop_eq_getElem_cons hi', List.flatten_cons]
  rw [show s.size + ((ps.take i).flatten.length + ps[i].length) - (s.size + (ps.take i).flatten.length) = ps[i].length by omega, List.take_left]

/-- P4.3: joined parts are parted again; too many are refused. -/
theorem apart_join (ps : List (List UInt8)) (limit : Int) (hn : ps.length ≤ 1000) (hf : ps.flatten.length ≤ 1000000) : apart (joinB ps) limit = if 0 < ps.length ∧ limit < (ps.length : Int) then none else some ps := by
  have hl := joinB_length ps
  match ps, hn, hf, hl with
  | [], _, _, _ => rfl
  | p :: r, hn, hf, hl =>
    rw [List.length_cons] at hn hl
    have e4 : (joinB (p :: r)).take 4 = putN (4 * (p :: r).length) 4 := by
      rw [joinB, heads, List.append_assoc]
      exact List.take_left' (putN_length _ _)
    have h44 : (256 : Nat) ^ 4 = 4294967296 := by decide
    have ex : leN ((joinB (p :: r)).take 4) = 4 * (p :: r).length := by
      rw [e4, leN_putN, h44, Nat.mod_eq_of_lt (by rw [List.length_cons]; omega)]
    rw [apart, if_neg (by omega), if_neg (by omega), ex, show 4 * (p :: r).length / 4 = (p :: r).length by omega]
    by_cases hc : limit < ((p :: r).length : Int)
    · rw [if_pos (.inr (.inr (.inr hc))), if_pos ⟨by rw [List.length_cons]; omega, hc⟩]
    · rw [if_neg (by rw [List.length_cons] at *; omega), if_neg (fun e => hc e.2)]
      have hlj := joinB_length (p :: r)
      have h1 := rPartsN_of (p :: r) (rNew (joinB (p :: r)) (4 * (p :: r).length)) (4 * (p :: r).length) (p :: r).flatten (decide_eq_false (by rw [hlj]; omega)) (by simp [rNew, joinB]) (by show 0 + _ ≤ _; rw [Nat.zero_add]; exact Nat.le_refl _) (by rw [List.length_cons]; omega)
      rw [h1]
      refine rParts_of (decide_eq_false (by rw [hlj]; omega)) (Nat.zero_add _) (List.nil_append _) (by simp) ?_ hlj
      show (joinB (p :: r)).drop (4 * (p :: r).length) = _
      rw [joinB]
      exact List.drop_left' (heads_length _ _)
end Go.EW
