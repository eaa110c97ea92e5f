/-
  UtfLower's walk.
-/
import Derived.Test.YteijpcjhecmamaaDoorLowP
import Derived.Test.YteijpcjhecmamaaDoorVu
namespace Go.Proofs.YteijpcjhecmamaaDoor.Uf
open Go.RowKit

set_option maxRecDepth 100000 in
set_option maxHeartbeats 1600000 in
theorem lower_walk {w : World} (s : ByteArray) (hT : Tabs w) (h2 : 2 ≤ w.heap.size) : Calls Tryd.prog 5 #[.string s] w fun e w' => e = .returned (.bool true) ∧ Below w.heap.size w w' := by
  by_cases h : 10000 < s.size
  · have t1 : (10000 : Int) < (s.size : Int) := by omega
    go_enter Tryd.func5, Tryd.ntmps5
    go_wp2_with fail
    refine (awake1 _).mono ?_
    rintro e w1 ⟨rfl, hb1⟩
    go_wp2_with fail
    go_ret
    exact ⟨rfl, hb1⟩
  have t1 : ¬ (10000 : Int) < (s.size : Int) := by omega
  obtain ⟨t, ht⟩ : ∃ t : ByteArray, t = ⟨(lowL s.data.toList).toArray⟩ := ⟨_, rfl⟩
  have htl : t.data.toList = lowL s.data.toList := by rw [ht]
  have hts : t.size = s.size := by
    rw [ht]
    show (lowL s.data.toList).toArray.size = _
    simp [lowL]
  have ht2 : (⟨(lowL t.data.toList).toArray⟩ : ByteArray) = t := by rw [htl, lowL_twice, ht]
  obtain ⟨v, hv⟩ : ∃ v, v = Lib.validD s.data.toList := ⟨_, rfl⟩
  have hv2 : Lib.validD t.data.toList = v := by rw [htl, validD_low, hv]
  have hx : ∀ (k : Nat) (hk : k < t.size), ¬ (65 ≤ (t[k]'hk).toNat ∧ (t[k]'hk).toNat ≤ 90) := by
    intro k hk
    rw [byte_at, htl, lowL_getD]
    exact lowB_not _
  have hss : (t.toList == t.toList) = true := by simp
  have hvv : (v == v) = true := by simp
  have H := Lib.hid (And.intro ht (And.intro ht2 (And.intro hv.symm (And.intro hv2 hx))))
  have HT := Lib.hid (And.intro hT h2)
  clear ht htl ht2 hv hv2 hx hT h2
  go_enter Tryd.func5, Tryd.ntmps5
  go_wp2_with fail
  refine (awake1 _).mono ?_
  rintro e w1 ⟨rfl, hb1⟩
  go_wp2_with fail
  refine (lower_u s (by omega)).mono ?_
  rintro e w2 ⟨rfl, hb2⟩
  rw [← H.out.1]
  have Hb2 := Lib.hid (hb1.trans (hb2.mono hb1.size))
  clear hb1 hb2
  go_wp2_with fail
  go_loopw [5] (fun i wr => ∃ k : Nat, k ≤ t.size ∧ i = .int .i64 k ∧ wr = w2) (fun i _ => t.size - (intOf i).toNat)
  case atStart => exact ⟨0, Nat.zero_le _, rfl, rfl⟩
  case round =>
    obtain ⟨k, hk, rfl, rfl⟩ := hrel
    by_cases hlt : k < t.size
    · have hlt' : (k : Int) < (t.size : Int) := by omega
      have hxk := H.out.2.2.2.2 k hlt
      obtain ⟨x, hxx⟩ : ∃ x, (t[k]'hlt).toNat = x := ⟨_, rfl⟩
      rw [hxx] at hxk
      by_cases h65 : 65 ≤ x
      · have q1 : decide ((65 : Int) ≤ (x : Int)) = true := by simp; omega
        have q2 : decide ((x : Int) ≤ 90) = false := by simp; omega
        clear hxk
        go_wp2
        go_roundw
        case rel => exact ⟨k + 1, by omega, by go_num, by first | rfl | trivial⟩
        case measure => simp [intOf]; omega
      · have q1 : decide ((65 : Int) ≤ (x : Int)) = false := by simp; omega
        clear hxk
        go_wp2
        go_roundw
        case rel => exact ⟨k + 1, by omega, by go_num, by first | rfl | trivial⟩
        case measure => simp [intOf]; omega
    · have hlt' : ¬ (k : Int) < (t.size : Int) := by omega
      go_wp2_with fail
      refine (lower_u t (by omega)).mono ?_
      rintro e w3 ⟨rfl, hb3⟩
      rw [H.out.2.1]
      have Hb3 := Lib.hid (Hb2.out.trans (hb3.mono Hb2.out.size))
      clear hb3
      go_wp2_with fail
      refine (valid_u t (by omega) (HT.out.1.below Hb3.out HT.out.2)).mono ?_
      rintro e w4 ⟨rfl, hb4⟩
      rw [H.out.2.2.2.1]
      have Hb4 := Lib.hid (Hb3.out.trans (hb4.mono Hb3.out.size))
      clear hb4
      go_wp2_with fail
      refine (valid_u s (by omega) (HT.out.1.below Hb4.out HT.out.2)).mono ?_
      rintro e w5 ⟨rfl, hb5⟩
      rw [H.out.2.2.1]
      have Hb5 := Lib.hid (Hb4.out.trans (hb5.mono Hb4.out.size))
      clear hb5
      go_wp2_with fail
      go_ret
      exact ⟨rfl, Hb5.out⟩
end Go.Proofs.YteijpcjhecmamaaDoor.Uf
