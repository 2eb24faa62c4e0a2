/- Bits packed into bytes, in plain Lean. No condition. -/
import Derived.Test.YtcjaoiiklfbhoaaBits
namespace Go.EW
open Go.RowKit

theorem bitAt_test (bs : List UInt8) (i : Nat) : bitAt bs i = (bs.getD (i / 8) 0).toNat.testBit (i % 8) := by
  unfold bitAt
  rw [Nat.testBit_eq_decide_div_mod_eq]
  rfl

/-- The first i bits of l in m bytes. -/
def packTo (l : List Bool) (m : Nat) : Nat → List UInt8
  | 0 => List.replicate m 0
  | i + 1 => if l.getD i false then (packTo l m i).set (i / 8) (UInt8.ofNat (((packTo l m i).getD (i / 8) 0).toNat + 2 ^ (i % 8))) else packTo l m i
def packBits (l : List Bool) : List UInt8 := packTo l ((l.length + 7) / 8) l.length

theorem packTo_length (l : List Bool) (m : Nat) : ∀ i, (packTo l m i).length = m
  | 0 => by simp [packTo]
  | i + 1 => by
    rw [packTo]
    split
    · rw [List.length_set, packTo_length l m i]
    · exact packTo_length l m i

theorem getD_set_same {l : List UInt8} {j : Nat} (h : j < l.length) (v : UInt8) : (l.set j v).getD j 0 = v := by simp [List.getD, h]
theorem getD_set_other {l : List UInt8} {j k : Nat} (h : j ≠ k) (v : UInt8) : (l.set j v).getD k 0 = l.getD k 0 := by simp [List.getD, h]

theorem pow_le8 (k : Nat) (h : k ≤ 8) : 2 ^ k ≤ 256 := by
  have : 2 ^ k ≤ 2 ^ 8 := Nat.pow_le_pow_right (by omega) h
  omega

theorem packTo_low (l : List Bool) (m : Nat) : ∀ i, i ≤ 8 * m → ∀ j, ((packTo l m i).getD j 0).toNat < 2 ^ (min 8 (i - 8 * j))
  | 0, _, j => by
    have : (packTo l m 0).getD j 0 = 0 := by
      simp only [packTo, List.getD, List.getElem?_replicate]
      split <;> rfl
    rw [this]; simp
  | i + 1, hi, j => by
    have ih := packTo_low l m i (by omega)
    have hmono : 2 ^ (min 8 (i - 8 * j)) ≤ 2 ^ (min 8 (i + 1 - 8 * j)) := Nat.pow_le_pow_right (by omega) (by omega)
    rw [packTo]
    split
    · by_cases hj : i / 8 = j
      · subst hj
        rw [getD_set_same (by rw [packTo_length]; omega)]
        have h1 := ih (i / 8)
        rw [show min 8 (i - 8 * (i / 8)) = i % 8 by omega] at h1
        rw [show min 8 (i + 1 - 8 * (i / 8)) = i % 8 + 1 by omega, UInt8.toNat_ofNat', Nat.pow_succ]
        exact Nat.lt_of_le_of_lt (Nat.mod_le _ _) (by omega)
      · rw [getD_set_other hj]
        exact Nat.lt_of_lt_of_le (ih j) hmono
    · exact Nat.lt_of_lt_of_le (ih j) hmono

theorem packTo_step (l : List Bool) (m i : Nat) (hi : i < 8 * m) : ((packTo l m i).getD (i / 8) 0).toNat < 2 ^ (i % 8) := by
  have h1 := packTo_low l m i (by omega) (i / 8)
  rwa [show min 8 (i - 8 * (i / 8)) = i % 8 by omega] at h1

theorem bitAt_packTo (l : List Bool) (m : Nat) : ∀ i, i ≤ 8 * m → ∀ k, bitAt (packTo l m i) k = (decide (k < i) && l.getD k false)
  | 0, _, k => by
    have : (packTo l m 0).getD (k / 8) 0 = 0 := by
      simp only [packTo, List.getD, List.getElem?_replicate]
      split <;> rfl
    rw [bitAt_test, this]; simp
  | i + 1, hi, k => by
    have ih := bitAt_packTo l m i (by omega) k
    rw [packTo]
    split
    · rename_i hl
      have hlow := packTo_step l m i (by omega)
      have hp := pow_le8 (i % 8) (by omega)
      have hp2 : 2 ^ (i % 8) ≤ 128 := by
        have : 2 ^ (i % 8) ≤ 2 ^ 7 := Nat.pow_le_pow_right (by omega) (by omega)
        omega
      by_cases hj : i / 8 = k / 8
      · rw [bitAt_test, ← hj, getD_set_same (by rw [packTo_length]; omega), UInt8.toNat_ofNat', Nat.mod_eq_of_lt (by omega), Nat.add_comm]
        rw [bitAt_test, ← hj] at ih
        by_cases hki : k = i
        · subst hki
          rw [Nat.testBit_two_pow_add_eq, Nat.testBit_lt_two_pow hlow, hl]
          simp
        · by_cases hlt : k < i
          · rw [Nat.testBit_two_pow_add_gt (by omega), ih]
            simp [hlt, Nat.lt_succ_of_lt hlt]
          · rw [Nat.testBit_lt_two_pow (Nat.lt_of_lt_of_le (by omega : 2 ^ (i % 8) + ((packTo l m i).getD (i / 8) 0).toNat < 2 ^ (i % 8 + 1)) (Nat.pow_le_pow_right (by omega) (by omega)))]
            have : ¬ k < i + 1 := by omega
            simp [this]
      · rw [bitAt_test, getD_set_other hj, ← bitAt_test, ih]
        by_cases hki : k = i
        · subst hki; exact (hj rfl).elim
        · have : (k < i + 1) = (k < i) := by apply propext; omega
          simp [this]
    · rename_i hl
      rw [ih]
      by_cases hki : k = i
      · subst hki
        simp at hl ⊢
        simp [hl]
      · have : (k < i + 1) = (k < i) := by apply propext; omega
        simp [this]
end Go.EW
