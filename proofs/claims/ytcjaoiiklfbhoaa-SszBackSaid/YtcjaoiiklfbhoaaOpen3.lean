/- Arguments that came in, as rows that can be read: fields. No condition. -/
import Derived.Test.YtcjaoiiklfbhoaaOpen2
import Derived.Test.YtcjaoiiklfbhoaaFields
namespace Go.EW
open Go.ChangeShapes Go.WideShapes Go.ChangeAt Go.RowKit Go.Proofs Go.Deep
set_option maxRecDepth 100000

theorem zip_rows : ∀ ys : List (FieldV × Value), List.zipWith fieldRow (ys.map (·.1)) (ys.map (·.2)) = ys.map (fun y => fieldRow y.1 y.2)
  | [] => rfl
  | y :: ys => congrArg (fieldRow y.1 y.2 :: ·) (zip_rows ys)

section
variable {H : Type} {enc : TypeId × Value → H} {w : World} {base : Nat} {spare : Nat → Bool} {held : Bool}

theorem FieldsRd.of_cells {a : Addr} {len cap : Nat} (hl : len ≤ cap) (ys : List (FieldV × Value)) (hlen : ys.length = len)
    (hp : ∀ i y, ys[i]? = some y → Rd w (fun b => b < w.heap.size) y.2 y.1.2.2.length 1 (y.1.2.2.map bc) ∧ ∀ j u, (fieldRow y.1 y.2)[j]? = some u → w.cell? (a.add (i * 3 + j)) = some u) :
    FieldsRd w (fun b => b < w.heap.size) (.slice (some a) len cap) (ys.map (·.1)) := by
  have hz : List.zipWith fieldRow (ys.map (·.1)) (ys.map (·.2)) = ys.map (fun y => fieldRow y.1 y.2) := by
    exact zip_rows ys
  have hflat : (ys.map (fun y => fieldRow y.1 y.2)).flatten.length = len * 3 := by
    rw [List.length_flatten, List.map_map]
    have : (List.length ∘ fun y : FieldV × Value => fieldRow y.1 y.2) = fun _ => 3 := rfl
    rw [this, List.map_const', List.sum_replicate_nat, hlen]
  have key : ∀ (j : Nat) (u : Value), (ys.map (fun y => fieldRow y.1 y.2)).flatten[j]? = some u → w.cell? (a.add j) = some u := by
    intro j u hj
    have hjl := (List.getElem?_eq_some_iff.1 hj).1
    rw [hflat] at hjl
    have hi : j / 3 < ys.length := by omega
    have hr := row_at (sz := 3) (ys.map (fun y => fieldRow y.1 y.2)) (j / 3) (fieldRow (ys[j / 3]).1 (ys[j / 3]).2) (by
      intro r hr
      obtain ⟨y, _, rfl⟩ := List.mem_map.1 hr
      rfl) (by simp [hi])
    have hj3 : j % 3 < (fieldRow (ys[j / 3]).1 (ys[j / 3]).2).length := by
      have : (fieldRow (ys[j / 3]).1 (ys[j / 3]).2).length = 3 := rfl
      omega
    have h1 := hr (j % 3) _ (List.getElem?_eq_getElem hj3)
    have e : j / 3 * 3 + j % 3 = j := by omega
    rw [e] at h1
    rw [hj] at h1
    have h2 := (hp (j / 3) ys[j / 3] (List.getElem?_eq_getElem hi)).2 (j % 3) _ (List.getElem?_eq_getElem hj3)
    rw [e] at h2
    rw [h2, ← h1]
  refine ⟨ys.map (·.2), ?_, PartsRd.of (by simp) (fun i v b h1 h2 => ?_)⟩
  · rw [hz, List.length_map, hlen]
    refine ⟨some a, cap, rfl, hl, hflat, (fun e => by cases e), fun q e => ?_⟩
    cases e
    refine ⟨fun hne => ?_, key⟩
    have h0 : 0 < (ys.map (fun y => fieldRow y.1 y.2)).flatten.length := by rw [hflat]; omega
    exact row_lt (key 0 _ (List.getElem?_eq_getElem h0))
  · simp only [List.getElem?_map, Option.map_eq_some_iff] at h1 h2
    obtain ⟨y, hy, rfl⟩ := h1
    obtain ⟨_, ⟨y', hy', rfl⟩, rfl⟩ := h2
    rw [hy] at hy'
    cases hy'
    exact (hp i y hy).1

/-- Within the ranges of their types. -/
def FieldIn (f : FieldV) : Prop := -9223372036854775808 ≤ f.1 ∧ f.1 ≤ 9223372036854775807 ∧ f.2.1 < 18446744073709551616

theorem open_fields {fuel len cap : Nat} {a : Option Addr} {x : DataW H × List MemPlace} (h : DataW.trod enc Try.prog w base spare held fuel 42 [.slice a len cap] = some x) :
    ∃ fs : List FieldV, fs.length = len ∧ len ≤ 9223372036854775807 ∧ FieldsRd w (fun b => b < w.heap.size) (.slice a len cap) fs ∧ ∀ f ∈ fs, FieldIn f := by
  have hC : Try.prog.cellsOf 49 = 3 := by kernel_rfl
  have c0 : Try.prog.cellsOf 3 = 1 := by kernel_rfl
  have c1 : Try.prog.cellsOf 33 = 1 := by kernel_rfl
  have c2 : Try.prog.cellsOf 23 = 1 := by kernel_rfl
  rcases open_slice Try.underlying42 h with ⟨hcs, _⟩ | ⟨a', len', cap', m, n, D, Pl, hcs, _, hl, hmx, hm, _, hi⟩
  · cases hcs
    exact ⟨[], rfl, by omega, ⟨[], Rd.nil _ _ _, trivial⟩, fun f hf => (List.not_mem_nil hf).elim⟩
  · cases hcs
    have hle : len ≤ m := by rw [hm]; split <;> omega
    have hmx' : cap ≤ 9223372036854775807 := by unfold maxLen at hmx; omega
    obtain ⟨ys, hll, hp⟩ := list_choose (p := fun i (y : FieldV × Value) => FieldIn y.1 ∧ Rd w (fun b => b < w.heap.size) y.2 y.1.2.2.length 1 (y.1.2.2.map bc) ∧ ∀ j u, (fieldRow y.1 y.2)[j]? = some u → w.cell? (a'.add (i * 3 + j)) = some u) len (fun i h1 => by
      obtain ⟨cs', hcs', ht⟩ := hi i (by omega)
      rw [hC] at hcs'
      obtain ⟨xs, n', _, _, hlen, hxl, hf⟩ := DataW.trod_struct Try.underlying49 ht
      rw [hC] at hlen
      obtain ⟨_, _, hat⟩ := World.cells?_some hcs'
      obtain ⟨u0, u1, u2, rfl⟩ : ∃ u0 u1 u2, cs' = [u0, u1, u2] := by
        match cs', hlen with
        | [u0, u1, u2], _ => exact ⟨u0, u1, u2, rfl⟩
      have hx3 : xs.length = 3 := hxl
      have t0 := hf 0 _ rfl
      have t1 := hf 1 _ rfl
      have t2 := hf 2 _ rfl
      rw [List.getElem?_eq_getElem (by omega)] at t0 t1 t2
      change DataW.trod enc Try.prog w base spare held n' 3 (([u0, u1, u2].drop 0).take (Try.prog.cellsOf 3)) = _ at t0
      change DataW.trod enc Try.prog w base spare held n' 33 (([u0, u1, u2].drop 1).take (Try.prog.cellsOf 33)) = _ at t1
      change DataW.trod enc Try.prog w base spare held n' 23 (([u0, u1, u2].drop 2).take (Try.prog.cellsOf 23)) = _ at t2
      rw [c0] at t0
      rw [c1] at t1
      rw [c2] at t2
      have e0 := hat 0 (by omega)
      have e1 := hat 1 (by omega)
      have e2 := hat 2 (by omega)
      obtain ⟨k, hk, _, hkw⟩ := DataW.trod_int Try.underlying3 t0
      obtain ⟨z, hz, _, hzw⟩ := DataW.trod_int Try.underlying33 t1
      cases hk
      cases hz
      obtain ⟨b, hb⟩ := bytes_of_cell t2
      have hk' := i64_of_wf hkw
      have hz' := u64_of_wf hzw
      refine ⟨((k, z.toNat, b), u2), ⟨hk'.1, hk'.2, by dsimp only; omega⟩, hb, fun j u hj => ?_⟩
      have e : ((z.toNat : Nat) : Int) = z := by omega
      have hadd : ∀ j, (a'.add (i * 3)).add j = a'.add (i * 3 + j) := fun j => Addr.add_add _ _ _
      match j, hj with
      | 0, hj => cases hj; rw [← hadd]; exact e0
      | 1, hj => simp only [fieldRow, e] at hj; cases hj; rw [← hadd]; exact e1
      | 2, hj => cases hj; rw [← hadd]; exact e2
      | j + 3, hj => simp [fieldRow] at hj)
    refine ⟨ys.map (·.1), by simp [hll], by omega, FieldsRd.of_cells hl ys hll (fun i y hy => (hp i y hy).2), fun f hf => ?_⟩
    obtain ⟨y, hy, rfl⟩ := List.mem_map.1 hf
    obtain ⟨i, hiy⟩ := List.getElem?_of_mem hy
    exact (hp i y hiy).1
end
end Go.EW
