/-
  How many characters a text has, and a cut parts it: in plain Lean.
-/
import Derived.Test.YteijpcjhecmamaaDoorCutR
import Derived.Lib.RuneCount
namespace Go.Proofs.YteijpcjhecmamaaDoor.Uf
open Lib

set_option maxHeartbeats 4000000 in
theorem decodeN_pre (n m b0 b1 b2 b3 c1 c2 c3 : Nat) (h : (decodeN n b0 b1 b2 b3).2 ≤ m) (hm : m ≤ n) (e1 : 1 < m → c1 = b1) (e2 : 2 < m → c2 = b2) (e3 : 3 < m → c3 = b3) : decodeN m b0 c1 c2 c3 = decodeN n b0 b1 b2 b3 := by
  by_cases k1 : 1 < m
  · rw [e1 k1]
    by_cases k2 : 2 < m
    · rw [e2 k2]
      by_cases k3 : 3 < m
      · rw [e3 k3]
        have a1 : 1 < n := by omega
        have a2 : 2 < n := by omega
        have a3 : 3 < n := by omega
        simp only [decodeN, k1, k2, k3, a1, a2, a3]
      · have a1 : 1 < n := by omega
        have a2 : 2 < n := by omega
        simp only [decodeN, k1, k2, k3, a1, a2, false_and, and_false, if_false] at h ⊢
        repeat' split
        all_goals first | rfl | (exfalso; simp_all; done) | (exfalso; simp_all; omega)
    · have a1 : 1 < n := by omega
      have k3 : ¬ 3 < m := by omega
      simp only [decodeN, k1, k2, k3, a1, false_and, and_false, if_false] at h ⊢
      repeat' split
      all_goals first | rfl | (exfalso; simp_all; done) | (exfalso; simp_all; omega)
  · have k2 : ¬ 2 < m := by omega
    have k3 : ¬ 3 < m := by omega
    simp only [decodeN, k1, k2, k3, false_and, and_false, if_false] at h ⊢
    repeat' split
    all_goals first | rfl | (exfalso; simp_all; done) | (exfalso; simp_all; omega)

theorem getD_take (l : List UInt8) (c i : Nat) (h : i < c) : (l.take c).getD i 0 = l.getD i 0 := by simp [List.getD, h]
theorem decodeL_take {l : List UInt8} {c : Nat} (h : (decodeL l).2 ≤ c) (hc : c ≤ l.length) : decodeL (l.take c) = decodeL l := by
  have hw := decodeL_width l
  have hl : (l.take c).length = c := by rw [List.length_take]; omega
  rw [decodeL_N] at h
  rw [decodeL_N, decodeL_N, hl, getD_take l c 0 (by have := decodeL_width l; rw [decodeL_N] at this; omega)]
  exact decodeN_pre _ _ _ _ _ _ _ _ _ h hc (fun k => by rw [getD_take l c 1 k]) (fun k => by rw [getD_take l c 2 k]) (fun k => by rw [getD_take l c 3 k])

def cntG : Nat → List UInt8 → Nat
  | 0, _ => 0
  | f + 1, l => if l = [] then 0 else 1 + cntG f (l.drop (decodeL l).2)
theorem cntG_nil (f : Nat) : cntG f [] = 0 := by cases f <;> simp [cntG]
theorem cntG_step {f : Nat} {l : List UInt8} (hl : l ≠ []) : cntG (f + 1) l = 1 + cntG f (l.drop (decodeL l).2) := by simp [cntG, hl]
theorem cntG_any : ∀ (f g : Nat) (l : List UInt8), l.length ≤ f → l.length ≤ g → cntG f l = cntG g l
  | 0, g, l, h, _ => by
    obtain rfl : l = [] := List.eq_nil_of_length_eq_zero (by omega)
    rw [cntG_nil, cntG_nil]
  | f + 1, 0, l, _, h => by
    obtain rfl : l = [] := List.eq_nil_of_length_eq_zero (by omega)
    rw [cntG_nil, cntG_nil]
  | f + 1, g + 1, l, h, h' => by
    by_cases hl : l = []
    · subst hl; rw [cntG_nil, cntG_nil]
    · have hw := decodeL_width l
      rw [cntG_step hl, cntG_step hl, cntG_any f g _ (by rw [List.length_drop]; omega) (by rw [List.length_drop]; omega)]
def cntL (l : List UInt8) : Nat := cntG l.length l
theorem cntL_step {l : List UInt8} (hl : l ≠ []) : cntL l = 1 + cntL (l.drop (decodeL l).2) := by
  have hw := decodeL_width l
  have h0 := List.length_pos_iff.2 hl
  unfold cntL
  obtain ⟨f, hf⟩ : ∃ f, l.length = f + 1 := ⟨l.length - 1, by omega⟩
  rw [hf, cntG_step hl]
  congr 1
  exact cntG_any _ _ _ (by rw [List.length_drop]; omega) (Nat.le_refl _)
theorem runeCount_L (s : ByteArray) : runeCount s = cntL s.data.toList := by
  have aux : ∀ (f pos : Nat), runeCountFrom s f pos = cntG f (s.data.toList.drop pos) := by
    intro f
    induction f with
    | zero => intro pos; simp [runeCountFrom, cntG]
    | succ f ih =>
      intro pos
      have hll : s.data.toList.length = s.size := by simp
      by_cases h : pos < s.size
      · rw [cntG_step (drop_ne (by rw [hll]; exact h)), decodeL_drop, List.drop_drop, ← ih]
        simp [runeCountFrom, h]
      · rw [List.drop_of_length_le (by rw [hll]; omega), cntG_nil]
        simp [runeCountFrom, h]
  unfold runeCount cntL
  rw [aux]
  simp

/-- A cut parts the characters, and what is left has no room. -/
theorem cut_parts : ∀ (f : Nat) (l : List UInt8) (n : Nat), l.length ≤ f → cntL (l.take (cutN f l n)) + cntL (l.drop (cutN f l n)) = cntL l ∧ (cutN f l n < l.length → n - cutN f l n < 4)
  | 0, l, n, hf => by
    obtain rfl : l = [] := List.eq_nil_of_length_eq_zero (by omega)
    simp [cutN, cntL, cntG]
  | f + 1, l, n, hf => by
    by_cases hl : l = []
    · subst hl
      rw [cutN_nil]
      simp [cntL, cntG]
    · have hw := decodeL_width l
      have hle := decodeL_le l hl
      have h4 : (decodeL l).2 ≤ 4 := by
        rw [decodeL_N]
        rcases decodeN_shape l.length (l.getD 0 0).toNat (l.getD 1 0).toNat (l.getD 2 0).toNat (l.getD 3 0).toNat with ⟨_, e⟩ | ⟨_, _, _, _, e⟩ | ⟨_, _, _, _, _, _, e⟩ | ⟨_, _, _, _, _, _, _, e⟩ | e <;> rw [e] <;> simp
      obtain ⟨d, hd⟩ : ∃ d, d = (decodeL l).2 := ⟨_, rfl⟩
      by_cases hn : d ≤ n
      · have ih := cut_parts f (l.drop d) (n - d) (by rw [List.length_drop]; omega)
        have hc := cutN_le f (l.drop d) (n - d)
        obtain ⟨c, hcc⟩ : ∃ c, c = cutN f (l.drop d) (n - d) := ⟨_, rfl⟩
        rw [cutN_fits hl hd hn, ← hcc]
        rw [← hcc, List.length_drop] at ih hc
        have ht : l.take (d + c) ≠ [] := by
          intro e
          have := congrArg List.length e
          rw [List.length_take, List.length_nil] at this
          omega
        have hdt : decodeL (l.take (d + c)) = decodeL l := decodeL_take (by omega) (by omega)
        refine ⟨?_, fun h => by have := ih.2 (by omega); omega⟩
        rw [cntL_step ht, hdt, ← hd, cntL_step hl, ← hd, List.drop_take, show d + c - d = c from by omega, ← List.drop_drop, ← ih.1]
        omega
      · rw [cutN_not hd (by omega)]
        refine ⟨by simp [cntL, cntG], fun _ => by omega⟩
end Go.Proofs.YteijpcjhecmamaaDoor.Uf
