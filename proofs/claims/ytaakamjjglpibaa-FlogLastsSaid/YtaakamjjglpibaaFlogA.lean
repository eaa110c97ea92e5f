/-
  The log (verso/flog): where a frame stands ('next').
-/
import Derived.Test.YtaakamjjglpibaaDevE
import Derived.Laws.BitsAllLaws
import Derived.Laws.BitsLemmas
import Derived.Handy
import Derived.Lib.AppendStr
namespace Go.Proofs.Ytaakamjjglpibaa.Dv
open Go.RowKit

/-- The length that stands at a place. -/
def lenAt (bs : List Int) (k : Nat) : Nat := ((bs.getD k 0) * 65536 + (bs.getD (k + 1) 0) * 256 + bs.getD (k + 2) 0).toNat
/-- Does a whole frame begin at a place? -/
def framed (bs : List Int) (k : Nat) : Prop := k + 3 ≤ bs.length ∧ lenAt bs k ≤ 20000 ∧ k + 3 + lenAt bs k ≤ bs.length
instance (bs : List Int) (k : Nat) : Decidable (framed bs k) := by unfold framed; infer_instance
def placeAt (bs : List Int) (k : Nat) : Value := if framed bs k then .agg #[.int .i64 (k + 3 : Nat), .int .i64 (k + 3 + lenAt bs k : Nat)] else .agg #[.int .i64 0, .int .i64 0]

theorem getD_byte {bs : List Int} (h : Bts bs) (k : Nat) : ∃ n : Nat, bs.getD k 0 = n ∧ n < 256 := by
  by_cases hk : k < bs.length
  · have := h bs[k] (List.getElem_mem hk)
    refine ⟨(bs[k]).toNat, ?_, by omega⟩
    simp [List.getD, List.getElem?_eq_getElem hk]
    omega
  · refine ⟨0, ?_, by omega⟩
    simp [List.getD, List.getElem?_eq_none (show bs.length ≤ k by omega)]

theorem own_cell {w : World} {base g n c : Nat} {bs : List Int} (h : w.ownsRow base 5 1 (.slice (some ⟨g, 0, none⟩) n c) n (cellsOf bs)) {k : Nat} (hk : k < n) : w.cell? ⟨g, k, none⟩ = some (.int .u8 (bs.getD k 0)) := by
  have hl : bs.length = n := by have := h.1; simp [cellsOf] at this; exact this
  rw [h.cellAt k (by omega)]
  simp [cellsOf, List.getD, List.getElem?_eq_getElem (show k < bs.length by omega)]

theorem ofInt_i64 (a : Nat) (ha : a < 9223372036854775808) : (BitVec.ofInt 64 (a : Int)).toNat = a := by
  rw [BitVec.ofInt_natCast, BitVec.toNat_ofNat]; exact Nat.mod_eq_of_lt (by omega)
theorem i64_or_nat (a b : Nat) (ha : a < 9223372036854775808) (hb : b < 9223372036854775808) : bits .or .i64 (a : Int) (b : Int) = ((a ||| b : Nat) : Int) := by
  have hx : a ||| b < 2 ^ 63 := Nat.or_lt_two_pow (by omega) (by omega)
  show IntKind.i64.wrap ((BitVec.ofInt 64 (a : Int) ||| BitVec.ofInt 64 (b : Int)).toNat : Int) = _
  rw [BitVec.toNat_or, ofInt_i64 a ha, ofInt_i64 b hb, IntKind.wrap_i64]
  omega
theorem or_len (x y z : Nat) (hx : x < 256) (hy : y < 256) (hz : z < 256) : bits .or .i64 (bits .or .i64 ((x : Int) * 65536) ((y : Int) * 256)) (z : Int) = ((x * 65536 + y * 256 + z : Nat) : Int) := by
  have e1 : (x : Int) * 65536 = ((x * 65536 : Nat) : Int) := by omega
  have e2 : (y : Int) * 256 = ((y * 256 : Nat) : Int) := by omega
  have o1 : x * 65536 ||| y * 256 = x * 65536 + y * 256 := by
    have := Nat.two_pow_add_eq_or_of_lt (i := 16) (b := y * 256) (by omega) x
    rw [Nat.mul_comm x 65536]
    exact this.symm
  have o2 : (x * 65536 + y * 256) ||| z = x * 65536 + y * 256 + z := by
    have := Nat.two_pow_add_eq_or_of_lt (i := 8) (b := z) (by omega) (x * 256 + y)
    rw [show x * 65536 + y * 256 = 2 ^ 8 * (x * 256 + y) from by omega]
    exact this.symm
  rw [e1, e2, i64_or_nat _ _ (by omega) (by omega), o1, i64_or_nat _ _ (by omega) (by omega), o2]

set_option maxRecDepth 100000 in
set_option maxHeartbeats 800000 in
theorem next_flog {w : World} {base g n c : Nat} {bs : List Int} (k : Nat) (h : w.ownsRow base 5 1 (.slice (some ⟨g, 0, none⟩) n c) n (cellsOf bs)) (hb : Bts bs) (hn : n ≤ 60000) (hk : k ≤ n) :
    Calls Try.prog 38 #[.slice (some ⟨g, 0, none⟩) n c, .int .i64 k] w fun e w' => e = .returned (placeAt bs k) ∧ Below w.heap.size w w' := by
  have hl : bs.length = n := by have := h.1; simp [cellsOf] at this; exact this
  by_cases h3 : n < k + 3
  · have h3' : (n : Int) - (k : Int) < 3 := by omega
    have hp : placeAt bs k = .agg #[.int .i64 0, .int .i64 0] := by
      unfold placeAt
      rw [if_neg (by unfold framed; omega)]
    rw [hp]
    go_enter Try.func38, Try.ntmps38
    go_wp2
    exact bodyPost_ret (v := .agg #[.int .i64 0, .int .i64 0]) (by simp [results, Try.results38, go_sem]) rfl ⟨rfl, (Below.refl _ _).alloc (Nat.le_refl _) _⟩
  · obtain ⟨x, hx, hx2⟩ := getD_byte hb k
    obtain ⟨y, hy, hy2⟩ := getD_byte hb (k + 1)
    obtain ⟨z, hz, hz2⟩ := getD_byte hb (k + 2)
    have h' := h.alloc (.cells #[.int .i64 0, .int .i64 0] 62)
    have c0 := own_cell h' (show k < n by omega)
    have c1 := own_cell h' (show k + 1 < n by omega)
    have c2 := own_cell h' (show k + 2 < n by omega)
    rw [hx] at c0
    rw [hy] at c1
    rw [hz] at c2
    obtain ⟨m, hm⟩ : ∃ m, m = x * 65536 + y * 256 + z := ⟨_, rfl⟩
    have e : lenAt bs k = m := by
      unfold lenAt
      rw [hx, hy, hz]
      omega
    have hor := or_len x y z hx2 hy2 hz2
    rw [← hm] at hor
    have hmb : m ≤ 16777215 := by omega
    have hpl : placeAt bs k = if m ≤ 20000 ∧ k + 3 + m ≤ n then .agg #[.int .i64 (k + 3 : Nat), .int .i64 (k + 3 + m : Nat)] else .agg #[.int .i64 0, .int .i64 0] := by
      unfold placeAt
      by_cases hf : m ≤ 20000 ∧ k + 3 + m ≤ n
      · rw [if_pos (by unfold framed; rw [e, hl]; omega), if_pos hf, e]
      · rw [if_neg (by unfold framed; rw [e, hl]; omega), if_neg hf]
    rw [hpl]
    clear hx hy hz e hl hm hpl h h'
    have h3' : ¬ ((n : Int) - (k : Int) < 3) := by omega
    have i0 : (0 : Int) ≤ (k : Int) := by omega
    have i1 : (k : Int) < (n : Int) := by omega
    have i2 : (k : Int) + 1 < (n : Int) := by omega
    have i3 : (k : Int) + 2 < (n : Int) := by omega
    have i4 : (m : Int) ≤ 16777215 := by omega
    have hb1 : Below w.heap.size w (w.alloc (.cells #[.int .i64 0, .int .i64 0] 62)).drew := ((Below.refl _ _).alloc (Nat.le_refl _) _).drew
    by_cases h20 : 20000 < m
    · rw [if_neg (by omega)]
      have h20' : (20000 : Int) < (m : Int) := by omega
      go_enter Try.func38, Try.ntmps38
      go_wp2
      go_region
      go_wp2
      exact bodyPost_ret (v := .agg #[.int .i64 0, .int .i64 0]) (by simp [results, Try.results38, go_sem]) rfl ⟨rfl, hb1⟩
    · have h20' : decide ((20000 : Int) < (m : Int)) = false := by simp; omega
      by_cases h4 : k + 3 + m ≤ n
      · rw [if_pos (by omega)]
        have h4' : ¬ ((n : Int) - ((k : Int) + 3) < (m : Int)) := by omega
        go_enter Try.func38, Try.ntmps38
        go_wp2
        go_region
        go_wp2
        refine bodyPost_ret (v := .agg #[.int .i64 ((k : Int) + 3), .int .i64 ((k : Int) + 3 + (m : Int))]) (by simp [results, Try.results38, go_sem]) rfl ⟨?_, ?_⟩
        · simp only [Ending.returned.injEq, Value.agg.injEq]
          rfl
        · exact ((Below.refl _ _).alloc (Nat.le_refl _) _).drew
      · rw [if_neg (by omega)]
        have h4' : (n : Int) - ((k : Int) + 3) < (m : Int) := by omega
        go_enter Try.func38, Try.ntmps38
        go_wp2
        go_region
        go_wp2
        exact bodyPost_ret (v := .agg #[.int .i64 0, .int .i64 0]) (by simp [results, Try.results38, go_sem]) rfl ⟨rfl, hb1⟩
end Go.Proofs.Ytaakamjjglpibaa.Dv
