/-
  FlogLong's walk: a text may have just so many bytes.
-/
import Derived.Test.YtaakamjjglpibaaFlogE
namespace Go.Proofs.Ytaakamjjglpibaa.Dv
open Go.RowKit

def nulls (n : Nat) : List Int := List.replicate n 0
theorem nulls_len (n : Nat) : (nulls n).length = n := by simp [nulls]
theorem run_make_nulls (n : Nat) (hn : n ≤ 25000) (w : World) :
    (Instr.makeSlice 22 (.int .i64 (n : Int)) (.int .i64 (n : Int))).run Try.prog w = .ok (.slice (some ⟨w.heap.size, 0, none⟩) n n) (w.alloc (.cells (cellsOf (nulls n)).toArray 5)) := by
  obtain ⟨i5, hi5, hz5, hs5, hb5⟩ := info_parts Try.info5
  have hb : (i5.bytes : Int) * (n : Int) ≤ 281474976710656 := by rw [hb5]; omega
  have hr := run_make (P := Try.prog) w 22 5 i5 _ Try.underlying22 hi5 hz5 .i64 .i64 n n (by omega) (by omega) hb (by omega)
  rw [hs5] at hr
  simp only [Int.toNat_natCast, Nat.mul_one] at hr
  rw [hr]
  congr 3
  apply Array.ext'
  rw [show (Value.int IntKind.u8 0).cells = #[Value.int IntKind.u8 0] from rfl, toList_madeCells_one]
  simp [cellsOf, nulls]
theorem conv_nulls (n : Nat) (w : World) : (convert 22 9 (.slice (some ⟨w.heap.size, 0, none⟩) n n)).run Try.prog (w.alloc (.cells (cellsOf (nulls n)).toArray 5)) = .ok (.string (strOfNums (nulls n))) (w.alloc (.cells (cellsOf (nulls n)).toArray 5)) := by
  have h := conv_reads (reads_new w (nulls n) (0, 0)) n
  rw [nulls_len] at h
  exact h

set_option maxRecDepth 100000 in
set_option maxHeartbeats 800000 in
theorem long_walk {w : World} (n : Nat) (hn : n ≤ 25000) : Calls Try.prog 11 #[.int .i64 n] w fun e w' => e = .returned (.bool true) ∧ Below w.heap.size w w' := by
  have m1 := run_make_nulls n hn
  have m2 := conv_nulls n
  obtain ⟨t, ht⟩ : ∃ t, t = strOfNums (nulls n) := ⟨_, rfl⟩
  have hts : t.size = n := by rw [ht, strOfNums_size, nulls_len]
  rw [← ht] at m2
  have Hts := Lib.hid hts
  clear ht hts
  have t1 : decide ((n : Int) < 0) = false := by simp
  have t2 : decide ((25000 : Int) < (n : Int)) = false := by simp; omega
  go_enter Try.func11, Try.ntmps11
  go_wp2_with fail
  refine (awake13 _).mono ?_
  rintro e w1 ⟨rfl, hb1⟩
  go_wp2_with fail
  refine (new_dev _).mono ?_
  rintro e w2 ⟨rfl, hD2, hb2⟩
  have hb2' := hb1.trans (hb2.mono hb1.size)
  go_wp2_with fail
  refine (openF (s := ⟨[], 0, -1, false⟩) (l := []) hD2 texts_nil.1 (by unfold openS; rw [texts_nil.2]; rfl)).mono ?_
  rintro e w3 ⟨L, ao, c, v3, rfl, hD3, hL3, hs3, hO3, hv3⟩
  have hb3' := hb2'.trans ((hO3.devBelow hD2).mono hb1.size)
  clear hs3 hO3 hv3
  have hD3' := hD3.alloc (.cells (cellsOf (nulls n)).toArray 5)
  have hL3' := hL3.alloc (.cells (cellsOf (nulls n)).toArray 5)
  have hb3a := hb3'.alloc hb3'.size (.cells (cellsOf (nulls n)).toArray 5)
  by_cases hl : 20000 < n
  · have hl' : (20000 : Int) < (n : Int) := by omega
    go_wp2_with fail
    refine (append_log t hD3' hL3' (by have := hD3'.blk.lt; omega)).mono ?_
    rintro e w4 ⟨rfl, v4, hD4, hO4, hv4⟩
    have e1 : DS.logE ⟨[], 0, -1, false⟩ t = 4 := if_pos (by rw [Hts.out]; exact hl)
    have e2 : DS.log ⟨[], 0, -1, false⟩ t = ⟨[], 0, -1, false⟩ := if_pos (by rw [Hts.out]; exact hl)
    rw [e2] at hD4
    rw [e1]
    have hL4 := hO4.blk hD3' hL3' (by decide) (by decide)
    have hb4' := hb3a.trans ((hO4.devBelow hD3').mono hb1.size)
    clear hO4 hv4 e1 e2
    go_wp2_with fail
    refine (size_log hD4 hL4).mono ?_
    rintro e w5 ⟨rfl, hb5⟩
    have Hb5 := Lib.hid (hb4'.trans (hb5.mono hb4'.size))
    clear hb5
    go_wp2_with fail
    go_ret
    exact ⟨rfl, Hb5.out⟩
  · have hl' : (n : Int) ≤ 20000 := by omega
    go_wp2_with fail
    refine (logF t hD3' hL3' (by rw [Hts.out]; omega) (by rw [Hts.out]; simp; omega) rfl).mono ?_
    rintro e w4 ⟨rfl, v4, hD4, hO4, hv4⟩
    have hL4 := hO4.blk hD3' hL3' (by decide) (by decide)
    have hb4' := hb3a.trans ((hO4.devBelow hD3').mono hb1.size)
    have hul : ([] ++ enc t).length = n + 3 := by rw [List.nil_append, enc_len, Hts.out]
    obtain ⟨us, hus⟩ : ∃ us, us = [] ++ enc t := ⟨_, rfl⟩
    rw [← hus] at hD4 hul
    have Hul := Lib.hid hul
    clear hO4 hv4 hus hul
    go_wp2_with fail
    refine (size_log hD4 hL4).mono ?_
    rintro e w5 ⟨rfl, hb5⟩
    have Hb5 := Lib.hid (hb4'.trans (hb5.mono hb4'.size))
    clear hb5
    simp only []
    rw [Hul.out, show ((n + 3 : Nat) : Int) = (n : Int) + 3 from by omega]
    go_wp2_with fail
    go_ret
    exact ⟨rfl, Hb5.out⟩

set_option maxRecDepth 100000 in
theorem long_out {w : World} (n : Int) (h : ¬ (0 ≤ n ∧ n ≤ 25000)) : Calls Try.prog 11 #[.int .i64 n] w fun e w' => e = .returned (.bool true) ∧ Below w.heap.size w w' := by
  have H := Lib.hid h
  clear h
  by_cases h1 : n < 0
  · have t1 : decide (n < 0) = true := by simpa using h1
    go_enter Try.func11, Try.ntmps11
    go_wp2_with fail
    refine (awake13 _).mono ?_
    rintro e w1 ⟨rfl, hb1⟩
    go_wp2_with fail
    refine (new_dev _).mono ?_
    rintro e w2 ⟨rfl, hD2, hb2⟩
    go_wp2_with fail
    go_ret
    exact ⟨rfl, hb1.trans (hb2.mono hb1.size)⟩
  have t1 : decide (n < 0) = false := by simpa using h1
  by_cases h2 : 25000 < n
  · have t2 : decide (25000 < n) = true := by simpa using h2
    go_enter Try.func11, Try.ntmps11
    go_wp2_with fail
    refine (awake13 _).mono ?_
    rintro e w1 ⟨rfl, hb1⟩
    go_wp2_with fail
    refine (new_dev _).mono ?_
    rintro e w2 ⟨rfl, hD2, hb2⟩
    go_wp2_with fail
    go_ret
    exact ⟨rfl, hb1.trans (hb2.mono hb1.size)⟩
  exact absurd (show 0 ≤ n ∧ n ≤ 25000 from by omega) H.out

theorem long_all {w : World} (n : Int) : Calls Try.prog 11 #[.int .i64 n] w fun e w' => e = .returned (.bool true) ∧ Below w.heap.size w w' := by
  by_cases h : 0 ≤ n ∧ n ≤ 25000
  · obtain ⟨a, b⟩ := h
    obtain ⟨n', rfl⟩ := Int.eq_ofNat_of_zero_le a
    exact long_walk n' (by omega)
  · exact long_out n h
end Go.Proofs.Ytaakamjjglpibaa.Dv
