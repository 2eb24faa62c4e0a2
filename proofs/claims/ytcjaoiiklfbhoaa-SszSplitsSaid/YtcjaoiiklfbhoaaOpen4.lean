/- Arguments that came in, each within the reach of its bytes: parts, bytes. No condition. -/
import Derived.Test.YtcjaoiiklfbhoaaOpen2
import Derived.SizedLaws
namespace Go.EW
open Go.ChangeShapes Go.WideShapes Go.ChangeAt Go.RowKit Go.Proofs Go.Deep
set_option maxRecDepth 100000

section
variable {H : Type} {enc : TypeId × Value → H} {w : World} {base : Nat} {spare : Nat → Bool} {held : Bool}

theorem byt_of {P : Program} {t n : Nat} (h : Byt P t n) : P.bytesOf t = n := by
  have := h.eq
  unfold Program.bytesOf
  cases hi : P.info? t with
  | none => rw [hi] at this; cases this
  | some i =>
    rw [hi] at this
    simp only [Option.map_some, Option.some.injEq] at this
    simpa using this

theorem bytes_len {fuel len cap : Nat} {a : Option Addr} {d : DataW H} {pl : List MemPlace} (h : DataW.trod enc Try.prog w base spare held fuel 23 [.slice a len cap] = some (d, pl)) (hz : ∀ n ∈ d.weights Try.prog 23, n ≤ reachBytes) : len ≤ 200000000000000 := by
  have hr : reachBytes = 140737488351232 := rfl
  rcases open_slice Try.underlying23 h with ⟨hcs, _⟩ | ⟨a', len', cap', m, n, D, Pl, hcs, _, hl, _, hm, hx, hi⟩
  · cases hcs
    omega
  · cases hcs
    cases hx
    have hb : Try.prog.bytesOf 5 = 1 := byt_of inferInstance
    have := hz ((((List.range len).map D).length + ((List.range (m - len)).map fun j => D (len + j)).length) * Try.prog.bytesOf 5) (by simp [DataW.weights, Try.underlying23])
    rw [hb, Nat.mul_one, List.length_map, List.length_range] at this
    omega
theorem open_bytesS {fuel len cap : Nat} {a : Option Addr} {d : DataW H} {pl : List MemPlace} (h : DataW.trod enc Try.prog w base spare held fuel 23 [.slice a len cap] = some (d, pl)) (hz : ∀ n ∈ d.weights Try.prog 23, n ≤ reachBytes) :
    ∃ l : List UInt8, l.length = len ∧ len ≤ 200000000000000 ∧ Rd w (fun b => b < w.heap.size) (.slice a len cap) len 1 (l.map bc) := by
  obtain ⟨l, hl, hR⟩ := bytes_of_cells h
  exact ⟨l, hl, bytes_len h hz, hR⟩

theorem weights_slice {P : Program} {t e : TypeId} (hu : P.underlying t = some (.slice e)) {l r : List (DataW H)} {d : DataW H} (hd : d ∈ l) {n : Nat} (hn : n ∈ d.weights P e) : n ∈ (DataW.slice l r).weights P t := by
  have key : ∀ (l : List (DataW H)), d ∈ l → n ∈ DataW.weightsAll P e l := by
    intro l
    induction l with
    | nil => intro h; simp at h
    | cons x l ih =>
      intro h
      simp only [DataW.weightsAll, List.mem_append]
      rcases List.mem_cons.1 h with rfl | h
      · exact .inl hn
      · exact .inr (ih h)
  simp only [DataW.weights, hu, List.mem_cons, List.mem_append]
  exact .inr (.inl (key l hd))

theorem open_partsS {fuel len cap : Nat} {a : Option Addr} {d : DataW H} {pl : List MemPlace} (h : DataW.trod enc Try.prog w base spare held fuel 45 [.slice a len cap] = some (d, pl)) (hz : ∀ n ∈ d.weights Try.prog 45, n ≤ reachBytes) :
    ∃ ps : List (List UInt8), ps.length = len ∧ len ≤ 9223372036854775807 ∧ (∃ dvs, Rd w (fun b => b < w.heap.size) (.slice a len cap) len 1 dvs ∧ PartsRd w (fun b => b < w.heap.size) dvs ps) ∧ ∀ p ∈ ps, p.length ≤ 200000000000000 := by
  have hC : Try.prog.cellsOf 23 = 1 := by kernel_rfl
  rcases open_slice Try.underlying45 h with ⟨hcs, _⟩ | ⟨a', len', cap', m, n, D, Pl, hcs, _, hl, hmx, hm, hx, hi⟩
  · cases hcs
    exact ⟨[], rfl, by omega, ⟨[], Rd.nil _ _ _, trivial⟩, fun p hp => (List.not_mem_nil hp).elim⟩
  · cases hcs
    cases hx
    have hle : len ≤ m := by rw [hm]; split <;> omega
    have hmx' : cap ≤ 9223372036854775807 := by unfold maxLen at hmx; omega
    obtain ⟨l, hll, hp⟩ := list_choose (p := fun i (y : Value × List UInt8) => w.cell? (a'.add i) = some y.1 ∧ Rd w (fun b => b < w.heap.size) y.1 y.2.length 1 (y.2.map bc) ∧ y.2.length ≤ 200000000000000) len (fun i h1 => by
      obtain ⟨cs', hc, ht⟩ := hi i (by omega)
      rw [hC, Nat.mul_one] at hc
      obtain ⟨a2, l2, c2, rfl⟩ : ∃ a l c, cs' = [.slice a l c] := by
        rcases open_slice Try.underlying23 ht with ⟨hcs, _⟩ | ⟨_, _, _, _, _, _, _, hcs, _⟩ <;> exact ⟨_, _, _, hcs⟩
      obtain ⟨b, hb⟩ := bytes_of_cell ht
      have hlb := hb.lenEq
      have hlen := bytes_len ht (fun n hn => hz n (weights_slice Try.underlying45 (List.mem_map.2 ⟨i, by simpa using h1, rfl⟩) hn))
      exact ⟨(_, b), cell_of_cells?_one hc, hb, by dsimp only; omega⟩)
    refine ⟨l.map (·.2), by simp [hll], by omega, ⟨l.map (·.1), rd_of_cells hl (by simp [hll]) (fun i v hv => ?_), PartsRd.of (by simp) (fun i v b h1 h2 => ?_)⟩, fun p hq => ?_⟩
    · simp only [List.getElem?_map, Option.map_eq_some_iff] at hv
      obtain ⟨y, hy, rfl⟩ := hv
      exact (hp i y hy).1
    · simp only [List.getElem?_map, Option.map_eq_some_iff] at h1 h2
      obtain ⟨y, hy, rfl⟩ := h1
      obtain ⟨y', hy', rfl⟩ := h2
      rw [hy] at hy'
      cases hy'
      exact (hp i y hy).2.1
    · obtain ⟨y, hy, rfl⟩ := List.mem_map.1 hq
      obtain ⟨i, hi'⟩ := List.getElem?_of_mem hy
      exact (hp i y hi').2.2
end
end Go.EW
