/-
  DevFull's walk: there is room for just so many bytes; what is refused changes nothing; behind a trim there is room again.
-/
import Derived.Test.YtaakamjjglpibaaDevE
import Derived.Deep.RegionWith
namespace Go.Proofs.Ytaakamjjglpibaa.Dv
open Go.RowKit

def zeros (n : Nat) : List Int := List.replicate n 0
theorem zeros_len (n : Nat) : (zeros n).length = n := by simp [zeros]
theorem zeros_byt (n : Nat) : Bts (zeros n) := by
  intro x hx
  have := List.eq_of_mem_replicate hx
  omega

/-- 'make([]byte, n)', for whatever n: a run equation, at every world. -/
theorem run_make_bytes (n : Nat) (hn : n ≤ 60000) (w : World) :
    (Instr.makeSlice 22 (.int .i64 (n : Int)) (.int .i64 (n : Int))).run Try.prog w = .ok (.slice (some ⟨w.heap.size, 0, none⟩) n n) (w.alloc (.cells (cellsOf (zeros n)).toArray 5)) := by
  obtain ⟨i5, hi5, hz5, hs5, hb5⟩ := info_parts Try.info5
  have hb : (i5.bytes : Int) * (n : Int) ≤ 281474976710656 := by rw [hb5]; omega
  have hr := run_make (P := Try.prog) w 22 5 i5 _ Try.underlying22 hi5 hz5 .i64 .i64 n n (by omega) (by omega) hb (by omega)
  rw [hs5] at hr
  simp only [Int.toNat_natCast, Nat.mul_one] at hr
  rw [hr]
  congr 3
  apply Array.ext'
  rw [show (Value.int IntKind.u8 0).cells = #[Value.int IntKind.u8 0] from rfl, toList_madeCells_one]
  simp [cellsOf, zeros]

theorem run_make_most (w : World) : (Instr.makeSlice 22 (.int .i64 60000) (.int .i64 60000)).run Try.prog w = .ok (.slice (some ⟨w.heap.size, 0, none⟩) 60000 60000) (w.alloc (.cells (cellsOf (zeros 60000)).toArray 5)) := run_make_bytes 60000 (Nat.le_refl _) w

theorem appendZ {w : World} {base d n last : Nat} {v : Value} {bs : List Int} (hD : DevAt w base d v ⟨bs, last, -1, false⟩) (h : bs.length + n ≤ 60000) :
    Calls Try.prog 16 #[.pointer (some ⟨d, 0, none⟩), .slice (some ⟨w.heap.size, 0, none⟩) n n] (w.alloc (.cells (cellsOf (zeros n)).toArray 5)) (Solo (w.alloc (.cells (cellsOf (zeros n)).toArray 5)) base d (.int .i64 0) ⟨bs ++ zeros n, last, -1, false⟩) := by
  have h1 := appendF (c := n) (xs := zeros n) (hD.alloc _) (reads_new w (zeros n) (0, 0)) (zeros_byt n) (by rw [zeros_len]; exact h)
  rw [zeros_len] at h1
  exact h1
theorem appendZfull {w : World} {base d n last : Nat} {v : Value} {bs : List Int} (hD : DevAt w base d v ⟨bs, last, -1, false⟩) (hn : n ≤ 60000) (h : 60000 < bs.length + n) :
    Calls Try.prog 16 #[.pointer (some ⟨d, 0, none⟩), .slice (some ⟨w.heap.size, 0, none⟩) n n] (w.alloc (.cells (cellsOf (zeros n)).toArray 5)) (Solo (w.alloc (.cells (cellsOf (zeros n)).toArray 5)) base d (.int .i64 10) ⟨bs, last, -1, false⟩) := by
  have h1 := appendFull (c := n) (xs := zeros n) (hD.alloc _) (reads_new w (zeros n) (0, 0)) (zeros_byt n) (by rw [zeros_len]; omega) (by rw [zeros_len]; exact h)
  rw [zeros_len] at h1
  exact h1

set_option maxRecDepth 100000 in
set_option maxHeartbeats 800000 in
theorem full_walk {w : World} (n more : Nat) (hn : n ≤ 60000) (hm : more ≤ 60000) :
    Calls Try.prog 6 #[.int .i64 n, .int .i64 more] w fun e w' => e = .returned (.bool true) ∧ Below w.heap.size w w' := by
  have kc := fun (w : World) (C : Array Value) (n c : Nat) => Lib.run_convert_bytes_const (P := Try.prog) w 22 5 C n c Try.underlying22 Try.underlying5
  have m1 := run_make_bytes n hn
  have m2 := run_make_bytes more hm
  have m3 := run_make_most
  have t1 : decide ((n : Int) < 0) = false := by simp
  have t2 : decide ((60000 : Int) < (n : Int)) = false := by simp; omega
  have t3 : decide ((more : Int) < 0) = false := by simp
  have t4 : decide ((60000 : Int) < (more : Int)) = false := by simp; omega
  go_enter Try.func6, Try.ntmps6
  go_wp2_with fail
  refine (awake12 _).mono ?_
  rintro e w1 ⟨rfl, hb1⟩
  go_wp2_with fail
  refine (new_dev _).mono ?_
  rintro e w2 ⟨rfl, hD2, hb2⟩
  have hb2' := hb1.trans (hb2.mono hb1.size)
  go_wp2_with fail
  refine (appendZ (bs := []) hD2 (by simp; omega)).mono ?_
  rintro e w3 ⟨rfl, v3, hD3, hb3⟩
  have hb3' := (hb2'.alloc hb2'.size _).trans (hb3.mono hb1.size)
  have hl3 : ([] ++ zeros n).length = n := by rw [List.nil_append, zeros_len]
  obtain ⟨us, hus⟩ : ∃ us, us = ([] ++ zeros n) := ⟨_, rfl⟩
  rw [← hus] at hD3 hl3
  have Hl3 := Lib.hid hl3
  clear hus hl3
  by_cases hf : n + more ≤ 60000
  · have hf' : decide ((n : Int) + (more : Int) ≤ 60000) = true := by simp; omega
    go_wp2_with fail
    refine (appendZ hD3 (by rw [Hl3.out]; exact hf)).mono ?_
    rintro e w4 ⟨rfl, v4, hD4, hb4⟩
    have hb4' := (hb3'.alloc hb3'.size _).trans (hb4.mono hb1.size)
    go_wp2_with fail
    refine (trimF 0 hD4 (Nat.zero_le _)).mono ?_
    rintro e w5 ⟨rfl, v5, hD5, hb5⟩
    have hb5' := hb4'.trans (hb5.mono hb1.size)
    rw [List.take_zero] at hD5
    go_wp2_with fail
    refine (appendZ (n := 60000) hD5 (by simp)).mono ?_
    rintro e w6 ⟨rfl, v6, hD6, hb6⟩
    have hb6' := (hb5'.alloc hb5'.size _).trans (hb6.mono hb1.size)
    have hl6 : ([] ++ zeros 60000).length = 60000 := by rw [List.nil_append, zeros_len]
    obtain ⟨us, hus⟩ : ∃ us, us = ([] ++ zeros 60000) := ⟨_, rfl⟩
    rw [← hus] at hD6 hl6
    have Hl6 := Lib.hid hl6
    clear hus hl6
    go_wp2_with fail
    refine (appendFull (xs := [120]) (hD6.alloc _) (reads_new w6 [120] (1, 2)) (by simp [Bts]) (by simp) (by rw [Hl6.out]; simp)).mono ?_
    rintro e w7 ⟨rfl, v7, hD7, hb7⟩
    have hb7' := (hb6'.alloc hb6'.size _).trans (hb7.mono hb1.size)
    go_wp2_with fail
    go_ret
    exact ⟨rfl, hb7'⟩
  · have hf' : decide ((n : Int) + (more : Int) ≤ 60000) = false := by simp; omega
    go_wp2_with fail
    refine (appendZfull hD3 hm (by rw [Hl3.out]; omega)).mono ?_
    rintro e w4 ⟨rfl, v4, hD4, hb4⟩
    have hb4a := (hb3'.alloc hb3'.size _).trans (hb4.mono hb1.size)
    go_wp2_with fail
    refine (bytes_dev hD4).mono ?_
    rintro e w4b ⟨rfl, ho4, hb4b⟩
    have hb4' := hb4a.trans (hb4b.mono hb4a.size)
    have hD4b := hD4.belowAll hb4b
    simp only []
    rw [Hl3.out]
    go_wp2_with fail
    refine (trimF 0 hD4b (Nat.zero_le _)).mono ?_
    rintro e w5 ⟨rfl, v5, hD5, hb5⟩
    have hb5' := hb4'.trans (hb5.mono hb1.size)
    rw [List.take_zero] at hD5
    go_wp2_with fail
    refine (appendZ (n := 60000) hD5 (by simp)).mono ?_
    rintro e w6 ⟨rfl, v6, hD6, hb6⟩
    have hb6' := (hb5'.alloc hb5'.size _).trans (hb6.mono hb1.size)
    have hl6 : ([] ++ zeros 60000).length = 60000 := by rw [List.nil_append, zeros_len]
    obtain ⟨us, hus⟩ : ∃ us, us = ([] ++ zeros 60000) := ⟨_, rfl⟩
    rw [← hus] at hD6 hl6
    have Hl6 := Lib.hid hl6
    clear hus hl6
    go_wp2_with fail
    refine (appendFull (xs := [120]) (hD6.alloc _) (reads_new w6 [120] (1, 2)) (by simp [Bts]) (by simp) (by rw [Hl6.out]; simp)).mono ?_
    rintro e w7 ⟨rfl, v7, hD7, hb7⟩
    have hb7' := (hb6'.alloc hb6'.size _).trans (hb7.mono hb1.size)
    go_wp2_with fail
    go_ret
    exact ⟨rfl, hb7'⟩

set_option maxRecDepth 100000 in
theorem full_out {w : World} (n many : Int) (h : ¬ (0 ≤ n ∧ n ≤ 60000 ∧ 0 ≤ many ∧ many ≤ 60000)) :
    Calls Try.prog 6 #[.int .i64 n, .int .i64 many] w fun e w' => e = .returned (.bool true) ∧ Below w.heap.size w w' := by
  have H := Lib.hid h
  clear h
  by_cases h1 : n < 0
  · have t1 : decide (n < 0) = true := by simpa using h1
    go_enter Try.func6, Try.ntmps6
    go_wp2_with fail
    refine (awake12 _).mono ?_
    rintro e w1 ⟨rfl, hb1⟩
    go_wp2_with fail
    refine (new_dev _).mono ?_
    rintro e w2 ⟨rfl, hD2, hb2⟩
    go_wp2_with fail
    go_ret
    exact ⟨rfl, hb1.trans (hb2.mono hb1.size)⟩
  have t1 : decide (n < 0) = false := by simpa using h1
  by_cases h2 : 60000 < n
  · have t2 : decide (60000 < n) = true := by simpa using h2
    go_enter Try.func6, Try.ntmps6
    go_wp2_with fail
    refine (awake12 _).mono ?_
    rintro e w1 ⟨rfl, hb1⟩
    go_wp2_with fail
    refine (new_dev _).mono ?_
    rintro e w2 ⟨rfl, hD2, hb2⟩
    go_wp2_with fail
    go_ret
    exact ⟨rfl, hb1.trans (hb2.mono hb1.size)⟩
  have t2 : decide (60000 < n) = false := by simpa using h2
  by_cases h3 : many < 0
  · have t3 : decide (many < 0) = true := by simpa using h3
    go_enter Try.func6, Try.ntmps6
    go_wp2_with fail
    refine (awake12 _).mono ?_
    rintro e w1 ⟨rfl, hb1⟩
    go_wp2_with fail
    refine (new_dev _).mono ?_
    rintro e w2 ⟨rfl, hD2, hb2⟩
    go_wp2_with fail
    go_ret
    exact ⟨rfl, hb1.trans (hb2.mono hb1.size)⟩
  have t3 : decide (many < 0) = false := by simpa using h3
  by_cases h4 : 60000 < many
  · have t4 : decide (60000 < many) = true := by simpa using h4
    go_enter Try.func6, Try.ntmps6
    go_wp2_with fail
    refine (awake12 _).mono ?_
    rintro e w1 ⟨rfl, hb1⟩
    go_wp2_with fail
    refine (new_dev _).mono ?_
    rintro e w2 ⟨rfl, hD2, hb2⟩
    go_wp2_with fail
    go_ret
    exact ⟨rfl, hb1.trans (hb2.mono hb1.size)⟩
  exact absurd (show 0 ≤ n ∧ n ≤ 60000 ∧ 0 ≤ many ∧ many ≤ 60000 from by omega) H.out

theorem full_all {w : World} (n many : Int) : Calls Try.prog 6 #[.int .i64 n, .int .i64 many] w fun e w' => e = .returned (.bool true) ∧ Below w.heap.size w w' := by
  by_cases h : 0 ≤ n ∧ n ≤ 60000 ∧ 0 ≤ many ∧ many ≤ 60000
  · obtain ⟨a, b, c, d⟩ := h
    obtain ⟨n', rfl⟩ := Int.eq_ofNat_of_zero_le a
    obtain ⟨m', rfl⟩ := Int.eq_ofNat_of_zero_le c
    exact full_walk n' m' (by omega) (by omega)
  · exact full_out n many h
end Go.Proofs.Ytaakamjjglpibaa.Dv
