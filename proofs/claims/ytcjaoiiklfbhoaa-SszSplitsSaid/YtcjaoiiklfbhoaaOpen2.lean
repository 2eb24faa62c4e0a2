/- Arguments that came in, as rows that can be read: parts, fields, numbers. No condition. -/
import Derived.Test.YtcjaoiiklfbhoaaOpen
import Derived.Test.YtcjaoiiklfbhoaaWriter2
namespace Go.EW
open Go.ChangeShapes Go.WideShapes Go.ChangeAt Go.RowKit Go.Proofs Go.Deep
set_option maxRecDepth 100000

theorem list_choose {α : Type} {p : Nat → α → Prop} : ∀ (n : Nat), (∀ i, i < n → ∃ a, p i a) → ∃ l : List α, l.length = n ∧ ∀ i a, l[i]? = some a → p i a
  | 0, _ => ⟨[], rfl, fun i a h => by simp at h⟩
  | n + 1, h => by
    obtain ⟨l, hl, hp⟩ := list_choose n (fun i hi => h i (by omega))
    obtain ⟨a, ha⟩ := h n (by omega)
    refine ⟨l ++ [a], by simp [hl], fun i b hb => ?_⟩
    by_cases hi : i < l.length
    · rw [List.getElem?_append_left hi] at hb
      exact hp i b hb
    · rw [List.getElem?_append_right (by omega)] at hb
      have h0 : i - l.length = 0 := by
        have := (List.getElem?_eq_some_iff.1 hb).1
        simp at this
        omega
      rw [h0] at hb
      simp at hb
      subst hb
      rw [show i = n by omega]
      exact ha

theorem PartsRd.of {w : World} {G : Nat → Prop} : ∀ {vs : List Value} {ps : List (List UInt8)}, vs.length = ps.length → (∀ (i : Nat) (v : Value) (b : List UInt8), vs[i]? = some v → ps[i]? = some b → Rd w G v b.length 1 (b.map bc)) → PartsRd w G vs ps
  | [], [], _, _ => trivial
  | v :: vs, b :: bs, hl, h => ⟨h 0 v b rfl rfl, PartsRd.of (by simpa using hl) (fun i v' b' h1 h2 => h (i + 1) v' b' (by simpa using h1) (by simpa using h2))⟩
  | [], _ :: _, hl, _ => by simp at hl
  | _ :: _, [], hl, _ => by simp at hl

section
variable {H : Type} {enc : TypeId × Value → H} {w : World} {base : Nat} {spare : Nat → Bool} {held : Bool}

theorem bytes_of_cell {fuel : Nat} {v : Value} {x : DataW H × List MemPlace} (h : DataW.trod enc Try.prog w base spare held fuel 23 [v] = some x) :
    ∃ l : List UInt8, Rd w (fun b => b < w.heap.size) v l.length 1 (l.map bc) := by
  rcases open_slice Try.underlying23 h with ⟨hcs, _⟩ | ⟨a', len', cap', m, n, D, Pl, hcs, _⟩
  · cases hcs
    exact ⟨[], Rd.nil _ _ _⟩
  · cases hcs
    obtain ⟨l, hl, hR⟩ := bytes_of_cells h
    rw [← hl] at hR
    refine ⟨l, ?_⟩
    rw [← hl]
    exact hR

theorem open_parts {fuel len cap : Nat} {a : Option Addr} {x : DataW H × List MemPlace} (h : DataW.trod enc Try.prog w base spare held fuel 45 [.slice a len cap] = some x) :
    ∃ ps : List (List UInt8), ps.length = len ∧ ∃ dvs, Rd w (fun b => b < w.heap.size) (.slice a len cap) len 1 dvs ∧ PartsRd w (fun b => b < w.heap.size) dvs ps := by
  have hC : Try.prog.cellsOf 23 = 1 := by kernel_rfl
  rcases open_slice Try.underlying45 h with ⟨hcs, _⟩ | ⟨a', len', cap', m, n, D, Pl, hcs, _, hl, _, hm, _, hi⟩
  · cases hcs
    exact ⟨[], rfl, [], Rd.nil _ _ _, trivial⟩
  · cases hcs
    have hle : len ≤ m := by rw [hm]; split <;> omega
    obtain ⟨l, hll, hp⟩ := list_choose (p := fun i (y : Value × List UInt8) => w.cell? (a'.add i) = some y.1 ∧ Rd w (fun b => b < w.heap.size) y.1 y.2.length 1 (y.2.map bc)) len (fun i h1 => by
      obtain ⟨cs', hc, ht⟩ := hi i (by omega)
      rw [hC, Nat.mul_one] at hc
      obtain ⟨v, rfl⟩ : ∃ v, cs' = [v] := by
        rcases open_slice Try.underlying23 ht with ⟨hcs, _⟩ | ⟨_, _, _, _, _, _, _, hcs, _⟩ <;> exact ⟨_, hcs⟩
      obtain ⟨b, hb⟩ := bytes_of_cell ht
      exact ⟨(v, b), cell_of_cells?_one hc, hb⟩)
    refine ⟨l.map (·.2), by simp [hll], l.map (·.1), rd_of_cells hl (by simp [hll]) (fun i v hv => ?_), PartsRd.of (by simp) (fun i v b h1 h2 => ?_)⟩
    · simp only [List.getElem?_map, Option.map_eq_some_iff] at hv
      obtain ⟨y, hy, rfl⟩ := hv
      exact (hp i y hy).1
    · simp only [List.getElem?_map, Option.map_eq_some_iff] at h1 h2
      obtain ⟨y, hy, rfl⟩ := h1
      obtain ⟨y', hy', rfl⟩ := h2
      rw [hy] at hy'
      cases hy'
      exact (hp i y hy).2
end
end Go.EW
