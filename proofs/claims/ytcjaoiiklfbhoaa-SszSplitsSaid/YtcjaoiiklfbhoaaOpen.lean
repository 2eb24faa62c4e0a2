/- Arguments that came in, as rows that can be read: bits, bytes, parts. No condition. -/
import Derived.Test.YtcjaoiiklfbhoaaLaw
import Derived.Test.YtcjaoiiklfbhoaaWriter2
import Derived.Deep.Slices
import Derived.Deep.Fields
import Derived.ChangeSame
namespace Go.EW
open Go.ChangeShapes Go.WideShapes Go.ChangeAt Go.RowKit Go.Proofs Go.Deep
set_option maxRecDepth 100000

section
variable {H : Type} {enc : TypeId × Value → H} {w : World} {base : Nat} {spare : Nat → Bool} {held : Bool}

theorem row_lt {w : World} {x : Addr} {i : Nat} {v : Value} (h : w.cell? (x.add i) = some v) : x.block < w.heap.size := by
  have := World.block_lt_of_cell? w _ h
  have hb : (x.add i).block = x.block := by unfold Addr.add; split <;> rfl
  rwa [hb] at this

/-- A row of one-celled elements, given cell by cell. -/
theorem rd_of_cells {w : World} {a : Addr} {len cap : Nat} {cs : List Value} (hl : len ≤ cap) (hlen : cs.length = len) (hc : ∀ i v, cs[i]? = some v → w.cell? (a.add i) = some v) : Rd w (fun b => b < w.heap.size) (.slice (some a) len cap) len 1 cs := by
  refine ⟨some a, cap, rfl, hl, by omega, (fun e => by cases e), fun p e => ?_⟩
  cases e
  refine ⟨fun hne => ?_, hc⟩
  have h0 : 0 < cs.length := by omega
  exact row_lt (hc 0 cs[0] (by simp [h0]))

theorem open_bits {fuel len cap : Nat} {a : Option Addr} {x : DataW H × List MemPlace} (h : DataW.trod enc Try.prog w base spare held fuel 22 [.slice a len cap] = some x) :
    ∃ l : List Bool, Rd w (fun b => b < w.heap.size) (.slice a len cap) len 1 (l.map Value.bool) := by
  have hC : Try.prog.cellsOf 4 = 1 := by kernel_rfl
  rcases open_slice Try.underlying22 h with ⟨hcs, _⟩ | ⟨a', len', cap', m, n, D, Pl, hcs, _, hl, _, hm, _, hi⟩
  · cases hcs
    exact ⟨[], Rd.nil _ _ _⟩
  · cases hcs
    have hle : len ≤ m := by rw [hm]; split <;> omega
    have each : ∀ i, i < len → ∃ b, w.cell? (a'.add i) = some (.bool b) := by
      intro i h1
      obtain ⟨cs', hc, ht⟩ := hi i (by omega)
      rw [hC, Nat.mul_one] at hc
      obtain ⟨b, rfl, _⟩ := DataW.trod_bool Try.underlying4 ht
      exact ⟨b, cell_of_cells?_one hc⟩
    refine ⟨(List.range len).map (fun i => match w.cell? (a'.add i) with | some (.bool b) => b | _ => false), rd_of_cells hl (by simp) (fun i v hv => ?_)⟩
    have hil : i < len := by have := (List.getElem?_eq_some_iff.1 hv).1; simpa using this
    obtain ⟨b, hb⟩ := each i hil
    simp [hil, hb] at hv
    rw [hb, ← hv]

theorem bytes_of_cells {fuel len cap : Nat} {a : Option Addr} {x : DataW H × List MemPlace} (h : DataW.trod enc Try.prog w base spare held fuel 23 [.slice a len cap] = some x) :
    ∃ l : List UInt8, l.length = len ∧ Rd w (fun b => b < w.heap.size) (.slice a len cap) len 1 (l.map bc) := by
  have hC : Try.prog.cellsOf 5 = 1 := by kernel_rfl
  rcases open_slice Try.underlying23 h with ⟨hcs, _⟩ | ⟨a', len', cap', m, n, D, Pl, hcs, _, hl, _, hm, _, hi⟩
  · cases hcs
    exact ⟨[], rfl, Rd.nil _ _ _⟩
  · cases hcs
    have hle : len ≤ m := by rw [hm]; split <;> omega
    have each : ∀ i, i < len → ∃ k, w.cell? (a'.add i) = some (.int .u8 k) ∧ 0 ≤ k ∧ k ≤ 255 := by
      intro i h1
      obtain ⟨cs', hc, ht⟩ := hi i (by omega)
      rw [hC, Nat.mul_one] at hc
      obtain ⟨k, rfl, _, hk⟩ := DataW.trod_int Try.underlying5 ht
      exact ⟨k, cell_of_cells?_one hc, u8_of_wf hk⟩
    refine ⟨(List.range len).map (fun i => match w.cell? (a'.add i) with | some (.int .u8 k) => UInt8.ofNat k.toNat | _ => 0), by simp, rd_of_cells hl (by simp) (fun i v hv => ?_)⟩
    have hil : i < len := by have := (List.getElem?_eq_some_iff.1 hv).1; simpa using this
    obtain ⟨k, hb, h0, h1⟩ := each i hil
    simp [hil, hb, bc] at hv
    rw [hb, ← hv]
    congr 2
    omega
theorem open_bytes {fuel len cap : Nat} {a : Option Addr} {x : DataW H × List MemPlace} (h : DataW.trod enc Try.prog w base spare held fuel 23 [.slice a len cap] = some x) :
    ∃ l : List UInt8, Rd w (fun b => b < w.heap.size) (.slice a len cap) len 1 (l.map bc) := by
  obtain ⟨l, _, h⟩ := bytes_of_cells h
  exact ⟨l, h⟩
end
end Go.EW
