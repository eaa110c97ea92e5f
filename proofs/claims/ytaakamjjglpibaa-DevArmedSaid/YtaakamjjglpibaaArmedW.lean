/-
  DevArmed's walk: just so many calls are done ahead of the loss of power.
-/
import Derived.Test.YtaakamjjglpibaaDevE
import Derived.Deep.RegionWith
namespace Go.Proofs.Ytaakamjjglpibaa.Dv
open Go.RowKit

/-- The device, armed with n, behind k appends of one byte. -/
def armedAt (n k : Nat) : DS := if k ≤ n then ⟨List.replicate k 120, 0, (n : Int) - (k : Int), false⟩ else ⟨List.replicate n 120, 0, -1, true⟩

theorem armed_start (n : Nat) : DS.arm DS.new n = armedAt n 0 := by
  unfold armedAt DS.arm DS.new
  rw [if_neg (by simp), if_pos (by omega)]
  simp only [List.replicate_zero, DS.mk.injEq, true_and, and_true]
  omega
theorem armed_lt {n k : Nat} (h : k < n) (hn : n ≤ 50) : DS.append (armedAt n k) [120] = armedAt n (k + 1) ∧ DS.appendE (armedAt n k) [120] = 0 := by
  unfold armedAt
  rw [if_pos (by omega), if_pos (by omega)]
  refine ⟨?_, ?_⟩
  · simp only [DS.append]
    rw [if_neg (by simp), if_neg (by simp; omega), if_neg (by omega)]
    simp only [DS.go, DS.mk.injEq, true_and, and_true]
    refine ⟨by rw [List.replicate_succ'], by omega⟩
  · simp only [DS.appendE]
    rw [if_neg (by simp), if_neg (by simp; omega), if_neg (by omega)]
theorem armed_eq {n : Nat} (hn : n ≤ 50) : DS.append (armedAt n n) [120] = armedAt n (n + 1) ∧ DS.appendE (armedAt n n) [120] = 11 := by
  unfold armedAt
  rw [if_pos (by omega), if_neg (by omega)]
  refine ⟨?_, ?_⟩
  · simp only [DS.append]
    rw [if_neg (by simp), if_neg (by simp; omega), if_pos (by omega)]
    simp only [DS.go, DS.mk.injEq, true_and]
    refine ⟨by omega, ?_⟩
    simp
  · simp only [DS.appendE]
    rw [if_neg (by simp), if_neg (by simp; omega), if_pos (by omega)]
theorem armed_gt {n k : Nat} (h : n < k) : DS.append (armedAt n k) [120] = armedAt n (k + 1) ∧ DS.appendE (armedAt n k) [120] = 11 := by
  unfold armedAt
  rw [if_neg (by omega), if_neg (by omega)]
  exact ⟨rfl, rfl⟩
theorem armed_end (n k : Nat) : (armedAt n k).off = decide (n < k) ∧ (armedAt n k).bs.length = min n k := by
  unfold armedAt
  by_cases h : k ≤ n
  · rw [if_pos h]
    exact ⟨by simp; omega, by simp; omega⟩
  · rw [if_neg h]
    exact ⟨by simp; omega, by simp; omega⟩

set_option maxRecDepth 100000 in
set_option maxHeartbeats 800000 in
theorem armed_walk {w : World} (n many : Nat) (hn : n ≤ 50) (hm : many ≤ 60) :
    Calls Try.prog 5 #[.int .i64 n, .int .i64 many] w fun e w' => e = .returned (.bool true) ∧ Below w.heap.size w w' := by
  have kc := fun (w : World) (C : Array Value) (n c : Nat) => Lib.run_convert_bytes_const (P := Try.prog) w 22 5 C n c Try.underlying22 Try.underlying5
  have t1 : decide ((n : Int) < 0) = false := by simp
  have t2 : decide ((50 : Int) < (n : Int)) = false := by simp; omega
  have t3 : decide ((many : Int) < 0) = false := by simp
  have t4 : decide ((60 : Int) < (many : Int)) = false := by simp; omega
  go_enter Try.func5, Try.ntmps5
  go_wp2_with fail
  refine (awake12 _).mono ?_
  rintro e w1 ⟨rfl, hb1⟩
  go_wp2_with fail
  refine (new_dev _).mono ?_
  rintro e w2 ⟨rfl, hD2, hb2⟩
  have hb2' := hb1.trans (hb2.mono hb1.size)
  go_wp2_with fail
  refine (arm_solo n (WalkArith.wf_i64 (by omega)) hD2).mono ?_
  rintro e w3 ⟨rfl, v3, hD3, hb3⟩
  have hb3' := hb2'.trans (hb3.mono hb1.size)
  rw [armed_start n] at hD3
  go_wp2_with fail
  go_loopw [7] (fun i wr => ∃ (k : Nat) (v : Value), k ≤ many ∧ i = .int .i64 k ∧ DevAt wr w1.heap.size w1.heap.size v (armedAt n k) ∧ Below w.heap.size w wr) (fun i _ => many - (intOf i).toNat)
  case atStart => exact ⟨0, v3, Nat.zero_le _, rfl, hD3, hb3'⟩
  case round =>
    obtain ⟨k, v, hk, rfl, hD, hb⟩ := hrel
    have hD' := hD.alloc (.cells #[.int .u8 120] 5 (1, 2))
    have hr' := reads_new wr [120] (1, 2)
    have hsz := hD.blk.lt
    have hba := hb.alloc hb.size (.cells #[.int .u8 120] 5 (1, 2))
    by_cases hlt : k < many
    · have hlt' : (k : Int) < (many : Int) := by omega
      by_cases h1 : k < n
      · have h1' : (k : Int) < (n : Int) := by omega
        go_wp2_with fail
        refine (append_solo (xs := [120]) hD' hr' (by simp [Bts]) (by simp)).mono ?_
        rintro e w4 ⟨rfl, v4, hD4, hb4⟩
        have Hb4 := Lib.hid (hba.trans (hb4.mono hb1.size))
        clear hb4
        rw [(armed_lt h1 hn).1] at hD4
        rw [(armed_lt h1 hn).2]
        go_wp2_with fail
        go_roundw
        case rel => exact ⟨k + 1, v4, by omega, by go_num, hD4, Hb4.out⟩
        case measure => simp [intOf]; omega
      · have h1' : (n : Int) ≤ (k : Int) := by omega
        have hs : DS.append (armedAt n k) [120] = armedAt n (k + 1) ∧ DS.appendE (armedAt n k) [120] = 11 := by
          by_cases h2 : k = n
          · subst h2
            exact armed_eq hn
          · exact armed_gt (by omega)
        have Hs := Lib.hid hs
        clear hs
        go_wp2_with fail
        refine (append_solo (xs := [120]) hD' hr' (by simp [Bts]) (by simp)).mono ?_
        rintro e w4 ⟨rfl, v4, hD4, hb4⟩
        have Hb4 := Lib.hid (hba.trans (hb4.mono hb1.size))
        clear hb4
        rw [Hs.out.1] at hD4
        rw [Hs.out.2]
        go_wp2_with fail
        go_roundw
        case rel => exact ⟨k + 1, v4, by omega, by go_num, hD4, Hb4.out⟩
        case measure => simp [intOf]; omega
    · obtain rfl : k = many := by omega
      clear hD' hr' hba
      by_cases h1 : n < k
      · have h1' : (n : Int) < (k : Int) := by omega
        go_wp2_with fail
        refine (off_dev hD).mono ?_
        rintro e w4 ⟨rfl, rfl⟩
        rw [(armed_end n k).1, decide_eq_true h1]
        go_wp2_with fail
        refine (bytes_dev hD).mono ?_
        rintro e w5 ⟨rfl, ho5, hb5⟩
        rw [(armed_end n k).2, show min n k = n from by omega]
        have Hb5 := Lib.hid (hb.trans (hb5.mono hb.size))
        clear hb5 ho5
        go_wp2_with fail
        go_ret
        exact ⟨rfl, Hb5.out⟩
      · have h1' : (k : Int) ≤ (n : Int) := by omega
        go_wp2_with fail
        refine (off_dev hD).mono ?_
        rintro e w4 ⟨rfl, rfl⟩
        rw [(armed_end n k).1, decide_eq_false h1]
        go_wp2_with fail
        refine (bytes_dev hD).mono ?_
        rintro e w5 ⟨rfl, ho5, hb5⟩
        rw [(armed_end n k).2, show min n k = k from by omega]
        have Hb5 := Lib.hid (hb.trans (hb5.mono hb.size))
        clear hb5 ho5 hD
        by_cases h2 : k = n
        · subst h2
          go_wp2_with fail
          go_ret
          exact ⟨rfl, Hb5.out⟩
        · have h2' : (k : Int) < (n : Int) := by omega
          go_wp2_with fail
          go_ret
          exact ⟨rfl, Hb5.out⟩

set_option maxRecDepth 100000 in
theorem armed_out {w : World} (n many : Int) (h : ¬ (0 ≤ n ∧ n ≤ 50 ∧ 0 ≤ many ∧ many ≤ 60)) :
    Calls Try.prog 5 #[.int .i64 n, .int .i64 many] w fun e w' => e = .returned (.bool true) ∧ Below w.heap.size w w' := by
  have H := Lib.hid h
  clear h
  by_cases h1 : n < 0
  · have t1 : decide (n < 0) = true := by simpa using h1
    go_enter Try.func5, Try.ntmps5
    go_wp2_with fail
    refine (awake12 _).mono ?_
    rintro e w1 ⟨rfl, hb1⟩
    go_wp2_with fail
    refine (new_dev _).mono ?_
    rintro e w2 ⟨rfl, hD2, hb2⟩
    go_wp2_with fail
    go_ret
    exact ⟨rfl, hb1.trans (hb2.mono hb1.size)⟩
  have t1 : decide (n < 0) = false := by simpa using h1
  by_cases h2 : 50 < n
  · have t2 : decide (50 < n) = true := by simpa using h2
    go_enter Try.func5, Try.ntmps5
    go_wp2_with fail
    refine (awake12 _).mono ?_
    rintro e w1 ⟨rfl, hb1⟩
    go_wp2_with fail
    refine (new_dev _).mono ?_
    rintro e w2 ⟨rfl, hD2, hb2⟩
    go_wp2_with fail
    go_ret
    exact ⟨rfl, hb1.trans (hb2.mono hb1.size)⟩
  have t2 : decide (50 < n) = false := by simpa using h2
  by_cases h3 : many < 0
  · have t3 : decide (many < 0) = true := by simpa using h3
    go_enter Try.func5, Try.ntmps5
    go_wp2_with fail
    refine (awake12 _).mono ?_
    rintro e w1 ⟨rfl, hb1⟩
    go_wp2_with fail
    refine (new_dev _).mono ?_
    rintro e w2 ⟨rfl, hD2, hb2⟩
    go_wp2_with fail
    go_ret
    exact ⟨rfl, hb1.trans (hb2.mono hb1.size)⟩
  have t3 : decide (many < 0) = false := by simpa using h3
  by_cases h4 : 60 < many
  · have t4 : decide (60 < many) = true := by simpa using h4
    go_enter Try.func5, Try.ntmps5
    go_wp2_with fail
    refine (awake12 _).mono ?_
    rintro e w1 ⟨rfl, hb1⟩
    go_wp2_with fail
    refine (new_dev _).mono ?_
    rintro e w2 ⟨rfl, hD2, hb2⟩
    go_wp2_with fail
    go_ret
    exact ⟨rfl, hb1.trans (hb2.mono hb1.size)⟩
  exact absurd (show 0 ≤ n ∧ n ≤ 50 ∧ 0 ≤ many ∧ many ≤ 60 from by omega) H.out

theorem armed_all {w : World} (n many : Int) : Calls Try.prog 5 #[.int .i64 n, .int .i64 many] w fun e w' => e = .returned (.bool true) ∧ Below w.heap.size w w' := by
  by_cases h : 0 ≤ n ∧ n ≤ 50 ∧ 0 ≤ many ∧ many ≤ 60
  · obtain ⟨a, b, c, d⟩ := h
    obtain ⟨n', rfl⟩ := Int.eq_ofNat_of_zero_le a
    obtain ⟨m', rfl⟩ := Int.eq_ofNat_of_zero_le c
    exact armed_walk n' m' (by omega) (by omega)
  · exact armed_out n many h
end Go.Proofs.Ytaakamjjglpibaa.Dv
