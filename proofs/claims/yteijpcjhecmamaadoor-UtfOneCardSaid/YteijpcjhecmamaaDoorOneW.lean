/-
  UtfOne's walk.
-/
import Derived.Test.YteijpcjhecmamaaDoorFixQ
import Derived.Test.YteijpcjhecmamaaDoorVu
import Derived.Test.YteijpcjhecmamaaDoorCutW
namespace Go.Proofs.YteijpcjhecmamaaDoor.Uf
open Go.RowKit


theorem one_all : ∀ c : Fin 256, Lib.validD [UInt8.ofNat c.val] = decide (c.val < 128) ∧ fixU [UInt8.ofNat c.val] = (if 128 ≤ c.val ∨ c.val = 0 then [239, 191, 189] else if c.val = 13 then [10] else [UInt8.ofNat c.val]) ∧ Lib.runeCount ⟨#[UInt8.ofNat c.val]⟩ = 1 ∧ cutZ [UInt8.ofNat c.val] 0 = 0 := by decide +kernel
/-- What the walk knows of the text of one byte. -/
def OneS (c : Nat) (s : ByteArray) (v : Bool) (f : ByteArray) : Prop :=
  s.size = 1 ∧ s = strOfNums [(c : Int)] ∧ Lib.validD s.data.toList = v ∧ (⟨(fixU s.data.toList).toArray⟩ : ByteArray) = f ∧ Lib.runeCount s = 1 ∧ (⟨(s.data.toList.take (cutZ s.data.toList 0)).toArray⟩ : ByteArray) = ByteArray.empty
theorem one_s {c : Nat} (hc : c < 256) : ∃ s : ByteArray, OneS c s (decide (c < 128)) (if 128 ≤ c ∨ c = 0 then ⟨#[239, 191, 189]⟩ else if c = 13 then ⟨#[10]⟩ else s) := by
  have ha := one_all ⟨c, hc⟩
  dsimp only at ha
  refine ⟨⟨#[UInt8.ofNat c]⟩, rfl, by unfold strOfNums; simp, ha.1, ?_, ha.2.2.1, ?_⟩
  · show (⟨(fixU [UInt8.ofNat c]).toArray⟩ : ByteArray) = _
    rw [ha.2.1]
    repeat' split
    all_goals rfl
  · show (⟨([UInt8.ofNat c].take (cutZ [UInt8.ofNat c] 0)).toArray⟩ : ByteArray) = _
    rw [ha.2.2.2]
    rfl
set_option maxRecDepth 100000 in
set_option maxHeartbeats 1600000 in
theorem one_high {w : World} {c : Nat} {s : ByteArray} (h : 128 ≤ c) (hS : OneS c s false ⟨#[239, 191, 189]⟩) (hT : Tabs w) (h2 : 2 ≤ w.heap.size) : Calls Tryd.prog 7 #[.int .u8 c] w fun e w' => e = .returned (.bool true) ∧ Below w.heap.size w w' := by
  have HS := Lib.hid hS
  have HT := Lib.hid (And.intro hT h2)
  clear hS hT h2
  unfold OneS at HS
  have q1 : decide ((128 : Int) ≤ (c : Int)) = true := by simp; omega
  have q2 : ((c : Int) == 13) = false := by simp; omega
  have q3 : decide ((c : Int) < 128) = false := by simp; omega
  go_enter Tryd.func7, Tryd.ntmps7
  go_wp2_with fail
  refine (awake1 _).mono ?_
  rintro e w1 ⟨rfl, hb1⟩
  have hcv : (convert 28 9 (.slice (some ⟨w1.heap.size, 0, none⟩) 1 1)).run Tryd.prog (w1.alloc (.cells #[.int .u8 c] 5)) = .ok (.string s) (w1.alloc (.cells #[.int .u8 c] 5)) := by
    rw [HS.out.2.1]
    exact conv_reads (reads_new w1 [(c : Int)] (0, 0)) 1
  have Hb1 := Lib.hid (hb1.alloc hb1.size (.cells #[.int .u8 c] 5))
  clear hb1
  go_wp2_with fail
  refine (valid_u s (by rw [HS.out.1]; decide) (HT.out.1.below Hb1.out HT.out.2)).mono ?_
  rintro e w2 ⟨rfl, hb2⟩
  rw [HS.out.2.2.1]
  have Hb2 := Lib.hid (Hb1.out.trans (hb2.mono Hb1.out.size))
  clear hb2
  go_wp2_with fail
  have hrd : Reads (w2.alloc (.cells #[.int .u8 c] 5)) (w2.heap.size + 1) 1 (some ⟨w2.heap.size, 0, none⟩) 1 (cellsOf [(c : Int)]) := reads_new w2 [(c : Int)] (0, 0)
  refine (fix_u (s := s) hrd (by simp) HS.out.2.1 (by rw [HS.out.1]; decide)).mono ?_
  rintro e w3 ⟨rfl, hb3⟩
  rw [HS.out.2.2.2.1]
  have Hb3 := Lib.hid ((Hb2.out.alloc Hb2.out.size (.cells #[.int .u8 c] 5)).trans (hb3.mono (by have := Hb2.out.size; simp; omega)))
  clear hb3 hrd
  go_wp2_with fail
  refine (many_u s (by rw [HS.out.1]; decide)).mono ?_
  rintro e w4 ⟨rfl, hb4⟩
  rw [HS.out.2.2.2.2.1]
  have Hb4 := Lib.hid (Hb3.out.trans (hb4.mono Hb3.out.size))
  clear hb4
  go_wp2_with fail
  refine (cut_u s 0 (by rw [HS.out.1]; decide)).mono ?_
  rintro e w5 ⟨rfl, hb5⟩
  rw [HS.out.2.2.2.2.2]
  have Hb5 := Lib.hid (Hb4.out.trans (hb5.mono Hb4.out.size))
  clear hb5
  go_wp2_with fail
  go_ret
  exact ⟨rfl, Hb5.out⟩

set_option maxRecDepth 100000 in
set_option maxHeartbeats 1600000 in
theorem one_zero {w : World} {c : Nat} {s : ByteArray} (h : c = 0) (hS : OneS c s true ⟨#[239, 191, 189]⟩) (hT : Tabs w) (h2 : 2 ≤ w.heap.size) : Calls Tryd.prog 7 #[.int .u8 c] w fun e w' => e = .returned (.bool true) ∧ Below w.heap.size w w' := by
  have HS := Lib.hid hS
  have HT := Lib.hid (And.intro hT h2)
  clear hS hT h2
  unfold OneS at HS
  have q1 : decide ((128 : Int) ≤ (c : Int)) = false := by simp; omega
  have q0 : ((c : Int) == 0) = true := by simp; omega
  have q2 : ((c : Int) == 13) = false := by simp; omega
  have q3 : decide ((c : Int) < 128) = true := by simp; omega
  clear h
  go_enter Tryd.func7, Tryd.ntmps7
  go_wp2_with fail
  refine (awake1 _).mono ?_
  rintro e w1 ⟨rfl, hb1⟩
  have hcv : (convert 28 9 (.slice (some ⟨w1.heap.size, 0, none⟩) 1 1)).run Tryd.prog (w1.alloc (.cells #[.int .u8 c] 5)) = .ok (.string s) (w1.alloc (.cells #[.int .u8 c] 5)) := by
    rw [HS.out.2.1]
    exact conv_reads (reads_new w1 [(c : Int)] (0, 0)) 1
  have Hb1 := Lib.hid (hb1.alloc hb1.size (.cells #[.int .u8 c] 5))
  clear hb1
  go_wp2_with fail
  refine (valid_u s (by rw [HS.out.1]; decide) (HT.out.1.below Hb1.out HT.out.2)).mono ?_
  rintro e w2 ⟨rfl, hb2⟩
  rw [HS.out.2.2.1]
  have Hb2 := Lib.hid (Hb1.out.trans (hb2.mono Hb1.out.size))
  clear hb2
  go_wp2_with fail
  have hrd : Reads (w2.alloc (.cells #[.int .u8 c] 5)) (w2.heap.size + 1) 1 (some ⟨w2.heap.size, 0, none⟩) 1 (cellsOf [(c : Int)]) := reads_new w2 [(c : Int)] (0, 0)
  refine (fix_u (s := s) hrd (by simp) HS.out.2.1 (by rw [HS.out.1]; decide)).mono ?_
  rintro e w3 ⟨rfl, hb3⟩
  rw [HS.out.2.2.2.1]
  have Hb3 := Lib.hid ((Hb2.out.alloc Hb2.out.size (.cells #[.int .u8 c] 5)).trans (hb3.mono (by have := Hb2.out.size; simp; omega)))
  clear hb3 hrd
  go_wp2_with fail
  refine (many_u s (by rw [HS.out.1]; decide)).mono ?_
  rintro e w4 ⟨rfl, hb4⟩
  rw [HS.out.2.2.2.2.1]
  have Hb4 := Lib.hid (Hb3.out.trans (hb4.mono Hb3.out.size))
  clear hb4
  go_wp2_with fail
  refine (cut_u s 0 (by rw [HS.out.1]; decide)).mono ?_
  rintro e w5 ⟨rfl, hb5⟩
  rw [HS.out.2.2.2.2.2]
  have Hb5 := Lib.hid (Hb4.out.trans (hb5.mono Hb4.out.size))
  clear hb5
  go_wp2_with fail
  go_ret
  exact ⟨rfl, Hb5.out⟩

set_option maxRecDepth 100000 in
set_option maxHeartbeats 1600000 in
theorem one_cr {w : World} {c : Nat} {s : ByteArray} (h : c = 13) (hS : OneS c s true ⟨#[10]⟩) (hT : Tabs w) (h2 : 2 ≤ w.heap.size) : Calls Tryd.prog 7 #[.int .u8 c] w fun e w' => e = .returned (.bool true) ∧ Below w.heap.size w w' := by
  have HS := Lib.hid hS
  have HT := Lib.hid (And.intro hT h2)
  clear hS hT h2
  unfold OneS at HS
  have q1 : decide ((128 : Int) ≤ (c : Int)) = false := by simp; omega
  have q0 : ((c : Int) == 0) = false := by simp; omega
  have q2 : ((c : Int) == 13) = true := by simp; omega
  have q3 : decide ((c : Int) < 128) = true := by simp; omega
  clear h
  go_enter Tryd.func7, Tryd.ntmps7
  go_wp2_with fail
  refine (awake1 _).mono ?_
  rintro e w1 ⟨rfl, hb1⟩
  have hcv : (convert 28 9 (.slice (some ⟨w1.heap.size, 0, none⟩) 1 1)).run Tryd.prog (w1.alloc (.cells #[.int .u8 c] 5)) = .ok (.string s) (w1.alloc (.cells #[.int .u8 c] 5)) := by
    rw [HS.out.2.1]
    exact conv_reads (reads_new w1 [(c : Int)] (0, 0)) 1
  have Hb1 := Lib.hid (hb1.alloc hb1.size (.cells #[.int .u8 c] 5))
  clear hb1
  go_wp2_with fail
  refine (valid_u s (by rw [HS.out.1]; decide) (HT.out.1.below Hb1.out HT.out.2)).mono ?_
  rintro e w2 ⟨rfl, hb2⟩
  rw [HS.out.2.2.1]
  have Hb2 := Lib.hid (Hb1.out.trans (hb2.mono Hb1.out.size))
  clear hb2
  go_wp2_with fail
  have hrd : Reads (w2.alloc (.cells #[.int .u8 c] 5)) (w2.heap.size + 1) 1 (some ⟨w2.heap.size, 0, none⟩) 1 (cellsOf [(c : Int)]) := reads_new w2 [(c : Int)] (0, 0)
  refine (fix_u (s := s) hrd (by simp) HS.out.2.1 (by rw [HS.out.1]; decide)).mono ?_
  rintro e w3 ⟨rfl, hb3⟩
  rw [HS.out.2.2.2.1]
  have Hb3 := Lib.hid ((Hb2.out.alloc Hb2.out.size (.cells #[.int .u8 c] 5)).trans (hb3.mono (by have := Hb2.out.size; simp; omega)))
  clear hb3 hrd
  go_wp2_with fail
  refine (many_u s (by rw [HS.out.1]; decide)).mono ?_
  rintro e w4 ⟨rfl, hb4⟩
  rw [HS.out.2.2.2.2.1]
  have Hb4 := Lib.hid (Hb3.out.trans (hb4.mono Hb3.out.size))
  clear hb4
  go_wp2_with fail
  refine (cut_u s 0 (by rw [HS.out.1]; decide)).mono ?_
  rintro e w5 ⟨rfl, hb5⟩
  rw [HS.out.2.2.2.2.2]
  have Hb5 := Lib.hid (Hb4.out.trans (hb5.mono Hb4.out.size))
  clear hb5
  go_wp2_with fail
  go_ret
  exact ⟨rfl, Hb5.out⟩

set_option maxRecDepth 100000 in
set_option maxHeartbeats 1600000 in
theorem one_low {w : World} {c : Nat} {s : ByteArray} (h : c < 128) (h0 : ¬ c = 0) (h13 : ¬ c = 13) (hS : OneS c s true s) (hT : Tabs w) (h2 : 2 ≤ w.heap.size) : Calls Tryd.prog 7 #[.int .u8 c] w fun e w' => e = .returned (.bool true) ∧ Below w.heap.size w w' := by
  have HS := Lib.hid hS
  have HT := Lib.hid (And.intro hT h2)
  clear hS hT h2
  unfold OneS at HS
  have hss : (s.toList == s.toList) = true := by simp
  have q1 : decide ((128 : Int) ≤ (c : Int)) = false := by simp; omega
  have q0 : ((c : Int) == 0) = false := by simp; omega
  have q2 : ((c : Int) == 13) = false := by simp; omega
  have q3 : decide ((c : Int) < 128) = true := by simp; omega
  go_enter Tryd.func7, Tryd.ntmps7
  go_wp2_with fail
  refine (awake1 _).mono ?_
  rintro e w1 ⟨rfl, hb1⟩
  have hcv : (convert 28 9 (.slice (some ⟨w1.heap.size, 0, none⟩) 1 1)).run Tryd.prog (w1.alloc (.cells #[.int .u8 c] 5)) = .ok (.string s) (w1.alloc (.cells #[.int .u8 c] 5)) := by
    rw [HS.out.2.1]
    exact conv_reads (reads_new w1 [(c : Int)] (0, 0)) 1
  have Hb1 := Lib.hid (hb1.alloc hb1.size (.cells #[.int .u8 c] 5))
  clear hb1
  go_wp2_with fail
  refine (valid_u s (by rw [HS.out.1]; decide) (HT.out.1.below Hb1.out HT.out.2)).mono ?_
  rintro e w2 ⟨rfl, hb2⟩
  rw [HS.out.2.2.1]
  have Hb2 := Lib.hid (Hb1.out.trans (hb2.mono Hb1.out.size))
  clear hb2
  go_wp2_with fail
  have hrd : Reads (w2.alloc (.cells #[.int .u8 c] 5)) (w2.heap.size + 1) 1 (some ⟨w2.heap.size, 0, none⟩) 1 (cellsOf [(c : Int)]) := reads_new w2 [(c : Int)] (0, 0)
  refine (fix_u (s := s) hrd (by simp) HS.out.2.1 (by rw [HS.out.1]; decide)).mono ?_
  rintro e w3 ⟨rfl, hb3⟩
  rw [HS.out.2.2.2.1]
  have Hb3 := Lib.hid ((Hb2.out.alloc Hb2.out.size (.cells #[.int .u8 c] 5)).trans (hb3.mono (by have := Hb2.out.size; simp; omega)))
  clear hb3 hrd
  go_wp2_with fail
  refine (many_u s (by rw [HS.out.1]; decide)).mono ?_
  rintro e w4 ⟨rfl, hb4⟩
  rw [HS.out.2.2.2.2.1]
  have Hb4 := Lib.hid (Hb3.out.trans (hb4.mono Hb3.out.size))
  clear hb4
  go_wp2_with fail
  refine (cut_u s 0 (by rw [HS.out.1]; decide)).mono ?_
  rintro e w5 ⟨rfl, hb5⟩
  rw [HS.out.2.2.2.2.2]
  have Hb5 := Lib.hid (Hb4.out.trans (hb5.mono Hb4.out.size))
  clear hb5
  go_wp2_with fail
  go_ret
  exact ⟨rfl, Hb5.out⟩

theorem one_walk {w : World} (c : Nat) (hc : c < 256) (hT : Tabs w) (h2 : 2 ≤ w.heap.size) : Calls Tryd.prog 7 #[.int .u8 c] w fun e w' => e = .returned (.bool true) ∧ Below w.heap.size w w' := by
  obtain ⟨s, hS⟩ := one_s hc
  by_cases h : 128 ≤ c
  · rw [if_pos (.inl h), decide_eq_false (by omega)] at hS
    exact one_high h hS hT h2
  rw [decide_eq_true (show c < 128 by omega)] at hS
  by_cases h0 : c = 0
  · rw [if_pos (.inr h0)] at hS
    exact one_zero h0 hS hT h2
  rw [if_neg (by omega)] at hS
  by_cases h13 : c = 13
  · rw [if_pos h13] at hS
    exact one_cr h13 hS hT h2
  rw [if_neg h13] at hS
  exact one_low (by omega) h0 h13 hS hT h2
end Go.Proofs.YteijpcjhecmamaaDoor.Uf
