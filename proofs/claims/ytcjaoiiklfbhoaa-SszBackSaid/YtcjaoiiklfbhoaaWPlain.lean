/- What a Writer's bytes are, field by field, in plain Lean. No condition. -/
import Derived.Test.YtcjaoiiklfbhoaaBytes
namespace Go.EW
open Go.RowKit

/-- The fixed bytes with the first i places filled in, where the parts begin at size. -/
def fillS (size : Nat) (fx : List UInt8) (hs : List Nat) (ps : List (List UInt8)) : Nat → List UInt8
  | 0 => fx
  | i + 1 => patch (fillS size fx hs ps i) (hs.getD i 0) (putN (size + ((ps.take i).map List.length).sum) 4)

theorem fillS_fillTo (fx : List UInt8) (hs : List Nat) (ps : List (List UInt8)) : ∀ i, fillS fx.length fx hs ps i = fillTo fx hs ps i
  | 0 => rfl
  | i + 1 => by rw [fillS, fillTo, fillS_fillTo fx hs ps i, placeOf]

theorem fillS_length {size : Nat} {fx : List UInt8} {hs : List Nat} {ps : List (List UInt8)} (hh : ∀ h ∈ hs, h + 4 ≤ fx.length) : ∀ i, i ≤ hs.length → (fillS size fx hs ps i).length = fx.length
  | 0, _ => rfl
  | i + 1, hi => by
    have ih := fillS_length (size := size) (ps := ps) hh i (by omega)
    have hg : hs.getD i 0 + 4 ≤ fx.length := by
      rw [List.getD, List.getElem?_eq_getElem (by omega)]
      exact hh _ (List.getElem_mem _)
    rw [fillS, patch_length _ _ _ (by rw [putN_length, ih]; exact hg), ih]

theorem patch_append (l x bs : List UInt8) (h : Nat) (hb : h + bs.length ≤ l.length) : patch (l ++ x) h bs = patch l h bs ++ x := by
  simp only [patch]
  rw [List.take_append_of_le_length (show h ≤ l.length by omega), List.drop_append_of_le_length hb]
  simp

/-- Bytes behind change nothing. -/
theorem fillS_append {size : Nat} {fx x : List UInt8} {hs hs' : List Nat} {ps ps' : List (List UInt8)} (hh : ∀ h ∈ hs, h + 4 ≤ fx.length) : ∀ i, i ≤ hs.length → i ≤ ps.length → fillS size (fx ++ x) (hs ++ hs') (ps ++ ps') i = fillS size fx hs ps i ++ x
  | 0, _, _ => rfl
  | i + 1, hi, hp => by
    have ih := fillS_append (size := size) (x := x) (hs' := hs') (ps' := ps') hh i (Nat.le_of_succ_le hi) (Nat.le_of_succ_le hp)
    have hg : hs.getD i 0 + 4 ≤ fx.length := by
      rw [List.getD, List.getElem?_eq_getElem (by omega)]
      exact hh _ (List.getElem_mem _)
    have e1 : (hs ++ hs').getD i 0 = hs.getD i 0 := by simp [List.getD, List.getElem?_append_left (show i < hs.length by omega)]
    have e2 : (ps ++ ps').take i = ps.take i := by rw [List.take_append_of_le_length (show i ≤ ps.length by omega)]
    rw [fillS, fillS, ih, e1, e2, patch_append _ _ _ _ (by rw [putN_length, fillS_length hh i (by omega)]; exact hg)]

/-- What the Writer holds. -/
abbrev WState := List UInt8 × List Nat × List (List UInt8)
/-- A field of one size; a part. -/
def wFix (s : WState) (x : List UInt8) : WState := (s.1 ++ x, s.2.1, s.2.2)
def wPart (s : WState) (d : List UInt8) : WState := (s.1 ++ [0, 0, 0, 0], s.2.1 ++ [s.1.length], s.2.2 ++ [d])

/-- A Writer's state against the bytes that stand for it: those of one size, with places; those behind. -/
structure WOk (size : Nat) (s : WState) (fixed far : List UInt8) : Prop where
  len : s.2.1.length = s.2.2.length
  holes : ∀ h ∈ s.2.1, h + 4 ≤ s.1.length
  fixed : fixed = fillS size s.1 s.2.1 s.2.2 s.2.2.length
  far : far = s.2.2.flatten

theorem WOk.nil (size : Nat) : WOk size ([], [], []) [] [] := ⟨rfl, fun _ hh => (List.not_mem_nil hh).elim, rfl, rfl⟩
theorem WOk.fix {size : Nat} {s : WState} {fixed far : List UInt8} (h : WOk size s fixed far) (x : List UInt8) : WOk size (wFix s x) (fixed ++ x) far := by
  refine ⟨h.len, fun k hk => ?_, ?_, h.far⟩
  · have := h.holes k hk
    simp only [wFix, List.length_append]
    omega
  · have := fillS_append (size := size) (x := x) (hs' := []) (ps' := []) h.holes s.2.2.length (by rw [h.len]; exact Nat.le_refl _) (Nat.le_refl _)
    simp only [List.append_nil] at this
    rw [wFix, this, h.fixed]
theorem WOk.part {size : Nat} {s : WState} {fixed far : List UInt8} (h : WOk size s fixed far) (d : List UInt8) : WOk size (wPart s d) (fixed ++ putN (size + far.length) 4) (far ++ d) := by
  refine ⟨by simp [wPart, h.len], fun k hk => ?_, ?_, ?_⟩
  · simp only [wPart, List.mem_append, List.mem_singleton] at hk
    simp only [wPart, List.length_append, List.length_cons, List.length_nil]
    rcases hk with hk | rfl
    · have := h.holes k hk; omega
    · omega
  · have hl := fillS_length (size := size) (ps := s.2.2) h.holes s.2.2.length (by rw [h.len]; exact Nat.le_refl _)
    have ha := fillS_append (size := size) (x := [0, 0, 0, 0]) (hs' := [s.1.length]) (ps' := [d]) h.holes s.2.2.length (by rw [h.len]; exact Nat.le_refl _) (Nat.le_refl _)
    have e1 : (s.2.1 ++ [s.1.length]).getD s.2.2.length 0 = s.1.length := by rw [← h.len]; simp [List.getD]
    have e2 : ((s.2.2 ++ [d]).take s.2.2.length) = s.2.2 := by simp
    have e3 : (s.2.2.map List.length).sum = far.length := by rw [h.far, List.length_flatten]
    have e4 : (wPart s d).2.2.length = s.2.2.length + 1 := by simp [wPart]
    rw [e4, fillS]
    show _ = patch (fillS size (s.1 ++ [0, 0, 0, 0]) (s.2.1 ++ [s.1.length]) (s.2.2 ++ [d]) s.2.2.length) ((s.2.1 ++ [s.1.length]).getD s.2.2.length 0) (putN (size + (((s.2.2 ++ [d]).take s.2.2.length).map List.length).sum) 4)
    rw [ha, e1, e2, e3, h.fixed, ← hl]
    simp [patch, putN_length]
  · simp [wPart, h.far]
theorem WOk.bytes {s : WState} {fixed far : List UInt8} (h : WOk s.1.length s fixed far) : bytesW s.1 s.2.1 s.2.2 = fixed ++ far := by
  rw [bytesW, h.fixed, h.far, fillS_fillTo]
end Go.EW
