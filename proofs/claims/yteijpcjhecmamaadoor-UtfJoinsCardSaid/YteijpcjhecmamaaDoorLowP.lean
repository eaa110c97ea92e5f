/-
  Small letters, in plain Lean: twice is as once; right just if the text is.
-/
import Derived.Test.YteijpcjhecmamaaDoorPartsP
import Derived.Lib.ValidU
namespace Go.Proofs.YteijpcjhecmamaaDoor.Uf
open Lib

theorem lowB_cases (b : UInt8) : (lowB b = b) ∨ (b.toNat < 128 ∧ (lowB b).toNat < 128) := by
  unfold lowB
  split
  · right
    refine ⟨by omega, ?_⟩
    rw [UInt8.toNat_add]
    simp
    omega
  · left; rfl
theorem lowB_twice (b : UInt8) : lowB (lowB b) = lowB b := by
  unfold lowB
  split
  · rw [if_neg]
    rw [UInt8.toNat_add]
    simp
    omega
  · rfl
theorem lowB_not (b : UInt8) : ¬ (65 ≤ (lowB b).toNat ∧ (lowB b).toNat ≤ 90) := by
  unfold lowB
  split
  · rw [UInt8.toNat_add]
    simp
    omega
  · assumption
theorem lowL_twice (l : List UInt8) : lowL (lowL l) = lowL l := by simp [lowL, lowB_twice]
theorem lowL_len (l : List UInt8) : (lowL l).length = l.length := by simp [lowL]
theorem lowL_getD (l : List UInt8) (i : Nat) : (lowL l).getD i 0 = lowB (l.getD i 0) := by
  have h0 : lowB 0 = 0 := by decide
  by_cases h : i < l.length
  · simp [lowL, List.getD, List.getElem?_eq_getElem h]
  · simp [lowL, List.getD, List.getElem?_eq_none (show l.length ≤ i by omega), h0]

set_option maxHeartbeats 4000000 in
theorem decodeN_low (n b0 b1 b2 b3 c1 c2 c3 : Nat) (h1 : c1 = b1 ∨ (b1 < 128 ∧ c1 < 128)) (h2 : c2 = b2 ∨ (b2 < 128 ∧ c2 < 128)) (h3 : c3 = b3 ∨ (b3 < 128 ∧ c3 < 128)) : decodeN n b0 c1 c2 c3 = decodeN n b0 b1 b2 b3 := by
  have k1 : (c1 / 64 = 2) = (b1 / 64 = 2) := propext ⟨fun h => by omega, fun h => by omega⟩
  have k2 : (c2 / 64 = 2) = (b2 / 64 = 2) := propext ⟨fun h => by omega, fun h => by omega⟩
  have k3 : (c3 / 64 = 2) = (b3 / 64 = 2) := propext ⟨fun h => by omega, fun h => by omega⟩
  by_cases e1 : c1 = b1
  · by_cases e2 : c2 = b2
    · by_cases e3 : c3 = b3
      · rw [e1, e2, e3]
      · have z3 : ¬ b3 / 64 = 2 := by omega
        simp only [decodeN, k3, e1, e2, z3, and_false, if_false]
    · have z2 : ¬ b2 / 64 = 2 := by omega
      simp only [decodeN, k2, e1, z2, and_false, false_and, if_false]
  · have z1 : ¬ b1 / 64 = 2 := by omega
    simp only [decodeN, k1, z1, and_false, false_and, if_false]

theorem low_cases (l : List UInt8) (i : Nat) : ((lowL l).getD i 0).toNat = (l.getD i 0).toNat ∨ ((l.getD i 0).toNat < 128 ∧ ((lowL l).getD i 0).toNat < 128) := by
  rw [lowL_getD]
  rcases lowB_cases (l.getD i 0) with h | h
  · left; rw [h]
  · right; exact h
/-- The decoder's width and error are the same. -/
theorem decodeL_lowL (l : List UInt8) : (decodeL (lowL l)).2 = (decodeL l).2 ∧ ((decodeL (lowL l)).1 = 65533 ↔ (decodeL l).1 = 65533) := by
  rw [decodeL_N, decodeL_N, lowL_len]
  have c0 := low_cases l 0
  by_cases h : (l.getD 0 0).toNat < 128
  · have h' : ((lowL l).getD 0 0).toNat < 128 := by omega
    unfold decodeN
    rw [if_pos h, if_pos h']
    exact ⟨rfl, ⟨fun e => by dsimp only at e; omega, fun e => by dsimp only at e; omega⟩⟩
  · have e : ((lowL l).getD 0 0).toNat = (l.getD 0 0).toNat := by omega
    rw [e, decodeN_low _ _ _ _ _ _ _ _ (low_cases l 1) (low_cases l 2) (low_cases l 3)]
    exact ⟨rfl, Iff.rfl⟩
theorem valid_low : ∀ (n : Nat) (l : List UInt8), validGoD n (lowL l) = validGoD n l
  | 0, _ => rfl
  | n + 1, l => by
    have h := decodeL_lowL l
    have hd : (lowL l).drop (decodeL l).2 = lowL (l.drop (decodeL l).2) := by simp [lowL]
    have hn : (lowL l = []) = (l = []) := by simp [lowL]
    simp only [validGoD, h.1, h.2, hd, hn, valid_low n]
theorem validD_low (l : List UInt8) : validD (lowL l) = validD l := by
  unfold validD
  rw [lowL_len, valid_low]
end Go.Proofs.YteijpcjhecmamaaDoor.Uf
