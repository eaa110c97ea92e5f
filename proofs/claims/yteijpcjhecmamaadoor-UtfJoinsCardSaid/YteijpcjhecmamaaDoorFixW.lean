/-
  utf.Fix: what it computes.
-/
import Derived.Test.YteijpcjhecmamaaDoorFixP
import Derived.Test.YteijpcjhecmamaaDoorMem
import Derived.Lib.OthersKept
namespace Go.Proofs.YteijpcjhecmamaaDoor.Uf
open Go.RowKit

theorem fixG_step (n : Nat) (l : List UInt8) (last : Nat) (h : l ≠ []) : fixG (n + 1) l last = outOf (Lib.decodeL l).1 last ++ fixG n (l.drop (Lib.decodeL l).2) (Lib.decodeL l).1 := by simp [fixG, h]

/-- What a round of Fix leaves. -/
theorem fix_round {s : ByteArray} {pos f last : Nat} {acc all : List UInt8} (hp : pos < s.size) (hacc : acc ++ fixG (f + 1) (s.data.toList.drop pos) last = all) :
    (acc ++ outOf (Utf8.decode s pos).1 last) ++ fixG f (s.data.toList.drop (pos + (Utf8.decode s pos).2)) (Utf8.decode s pos).1 = all := by
  have hne : s.data.toList.drop pos ≠ [] := by
    intro h
    have := congrArg List.length h
    simp at this
    omega
  rw [fixG_step _ _ _ hne, Lib.decodeL_drop, List.drop_drop] at hacc
  rw [← hacc, List.append_assoc]

set_option maxRecDepth 100000 in
set_option maxHeartbeats 4000000 in
theorem fix_u {w : World} {B n c : Nat} {A : Option Addr} {xs : List Int} {s : ByteArray} (hr : Reads w B 1 A n (cellsOf xs)) (hB : B ≤ w.heap.size) (hs : s = strOfNums xs) (hn : s.size ≤ 100000) :
    Calls Tryd.prog 15 #[.slice A n c] w fun e w' => e = .returned (.string ⟨(fixU s.data.toList).toArray⟩) ∧ Below w.heap.size w w' := by
  have hcv := conv_reads (hr.alloc hB (.cells #[.pointer none, .slice none 0 0] 37)) c
  rw [← hs] at hcv
  clear hs hr
  go_enter Tryd.func15, Tryd.ntmps15
  go_wp2
  go_loopw [4] (fun u wr => ∃ (pos fuel last : Nat) (acc : List UInt8), u = .int .i32 last ∧ Lib.IsBuilderF 37 5 w.heap.size w.heap.size (Lib.byteCells acc) wr ∧ wr.heap[w.heap.size + 1]? = some (.stringIter s pos) ∧ Below w.heap.size w wr ∧ Hid (acc ++ fixG fuel (s.data.toList.drop pos) last = fixU s.data.toList) ∧ s.size ≤ pos + fuel ∧ acc.length ≤ 4 * pos) (fun _ wr => s.size - wr.iterPos (w.heap.size + 1))
  case atStart =>
    refine ⟨0, s.size, 0, [], rfl, (Lib.IsBuilderF.of (Lib.fresh_isBuilder 37 5 w)).alloc _, ?_, ((Below.refl _ w).alloc (Nat.le_refl _) _).alloc (by simp) _, ?_, by omega, by simp⟩
    · have := World.iter_heap (w.alloc (.cells #[.pointer none, .slice none 0 0] 37)) s 0
      simpa using this
    · exact Lib.hid (by simp [fixU])
  case round =>
    obtain ⟨pos, fuel, last, acc, rfl, hI, hit, hbw, Hacc, hfu, hal⟩ := hrel
    have hsz : w.heap.size + 1 < wr.heap.size := (Array.getElem?_eq_some_iff.1 hit).1
    by_cases hp : pos < s.size
    · have hnx := fun ty => Lib.run_next_any_at (P := Tryd.prog) wr (w.heap.size + 1) s pos ty hit hp
      have hwd := Lib.decode_width_pos s pos hp
      have hd1 := decode_le s pos
      have hI2 := hI.iterAt hit (pos + (Utf8.decode s pos).2)
      have hit2 := Lib.iterAt_heap wr (w.heap.size + 1) s pos (pos + (Utf8.decode s pos).2) hit
      have hbw2 := Lib.below_iterAt hbw (k := w.heap.size + 1) (by omega) s (pos + (Utf8.decode s pos).2)
      have hsz2 : w.heap.size ≤ (wr.iterAt (w.heap.size + 1) s (pos + (Utf8.decode s pos).2)).heap.size := by rw [Lib.iterAt_size]; omega
      obtain ⟨f, rfl⟩ : ∃ f, fuel = f + 1 := ⟨fuel - 1, by omega⟩
      have hst := fix_round hp Hacc.out
      obtain ⟨r, hrr⟩ : ∃ r, r = (Utf8.decode s pos).1 := ⟨_, rfl⟩
      obtain ⟨d, hdd⟩ : ∃ d, d = (Utf8.decode s pos).2 := ⟨_, rfl⟩
      simp only [← hrr, ← hdd] at hnx hwd hd1 hI2 hit2 hbw2 hsz2 hst
      have Hst := Lib.hid hst
      clear hrr hdd hst
      by_cases hodd : r = 0 ∨ r = 65533
      · have ho : outOf r last = odd := if_pos hodd
        rw [ho] at Hst
        rcases hodd with rfl | rfl
        · go_wp2_with fail
          refine (write_string w.heap.size w.heap.size _ ⟨#[239, 191, 189]⟩ _ hI2 (by rw [Lib.byteCells_length]; show acc.length + 3 ≤ _; omega) hsz2).mono ?_
          rintro e W1 ⟨rfl, h1, b1, k1⟩
          go_wp2
          go_roundw
          case rel =>
            refine ⟨pos + d, f, 0, acc ++ odd, rfl, ?_, k1.iter hit2 (by omega), hbw2.trans b1, Hst, by omega, by simp [odd]; omega⟩
            rw [Lib.byteCells_append]; exact Or.inr h1
          case measure =>
            simp only [World.iterPos, k1.iter hit2 (by omega), hit]
            omega
        · go_wp2_with fail
          refine (write_string w.heap.size w.heap.size _ ⟨#[239, 191, 189]⟩ _ hI2 (by rw [Lib.byteCells_length]; show acc.length + 3 ≤ _; omega) hsz2).mono ?_
          rintro e W1 ⟨rfl, h1, b1, k1⟩
          go_wp2
          go_roundw
          case rel =>
            refine ⟨pos + d, f, 65533, acc ++ odd, rfl, ?_, k1.iter hit2 (by omega), hbw2.trans b1, Hst, by omega, by simp [odd]; omega⟩
            rw [Lib.byteCells_append]; exact Or.inr h1
          case measure =>
            simp only [World.iterPos, k1.iter hit2 (by omega), hit]
            omega
      have q0 : ((r : Int) == 0) = false := by simp; omega
      have q1 : ((r : Int) == 65533) = false := by simp; omega
      by_cases h13 : r = 13
      · have ho : outOf r last = [10] := by rw [h13]; rfl
        rw [ho] at Hst
        have q2 : ((r : Int) == 13) = true := by simp; omega
        clear h13
        go_wp2_with fail
        refine (write_byte w.heap.size w.heap.size _ 10 _ hI2 (by rw [Lib.byteCells_length]; omega) hsz2).mono ?_
        rintro e W1 ⟨rfl, h1, b1, k1⟩
        go_wp2
        go_roundw
        case rel =>
          refine ⟨pos + d, f, r, acc ++ [10], rfl, ?_, k1.iter hit2 (by omega), hbw2.trans b1, Hst, by omega, by simp; omega⟩
          rw [Lib.byteCells_append]; exact Or.inr h1
        case measure =>
          simp only [World.iterPos, k1.iter hit2 (by omega), hit]
          omega
      have q2 : ((r : Int) == 13) = false := by simp; omega
      by_cases h10 : r = 10 ∧ last = 13
      · have ho : outOf r last = [] := by rw [h10.1, h10.2]; rfl
        rw [ho, List.append_nil] at Hst
        have q3 : ((r : Int) == 10) = true := by simp; omega
        have q4 : ((last : Int) == 13) = true := by simp; omega
        clear h10
        go_wp2_with fail
        go_roundw
        case rel => exact ⟨pos + d, f, r, acc, rfl, hI2, hit2, hbw2, Hst, by omega, by omega⟩
        case measure =>
          simp only [World.iterPos, hit2, hit]
          omega
      have ho : outOf r last = Lib.encodeRune r := by
        unfold outOf
        rw [if_neg hodd, if_neg h13, if_neg h10]
      rw [ho] at Hst
      have hl4 := Lib.runeCells_le (r : Int)
      rw [Lib.runeCells_length] at hl4
      by_cases h10' : r = 10
      · have q3 : ((r : Int) == 10) = true := by simp; omega
        have q4 : ((last : Int) == 13) = false := by simp; omega
        clear h10 h10'
        go_wp2_with fail
        refine (write_rune w.heap.size w.heap.size _ r (by omega) (by omega) _ hI2 (by rw [Lib.byteCells_length]; omega) hsz2).mono ?_
        rintro e W1 ⟨⟨x, rfl⟩, h1, b1, k1⟩
        go_wp2
        go_roundw
        case rel =>
          refine ⟨pos + d, f, r, acc ++ Lib.encodeRune r, rfl, ?_, k1.iter hit2 (by omega), hbw2.trans b1, Hst, by omega, by simp; omega⟩
          rw [Lib.byteCells_append, Lib.byteCells_encodeRune]; exact Or.inr h1
        case measure =>
          simp only [World.iterPos, k1.iter hit2 (by omega), hit]
          omega
      · have q3 : ((r : Int) == 10) = false := by simp; omega
        go_wp2_with fail
        refine (write_rune w.heap.size w.heap.size _ r (by omega) (by omega) _ hI2 (by rw [Lib.byteCells_length]; omega) hsz2).mono ?_
        rintro e W1 ⟨⟨x, rfl⟩, h1, b1, k1⟩
        go_wp2
        go_roundw
        case rel =>
          refine ⟨pos + d, f, r, acc ++ Lib.encodeRune r, rfl, ?_, k1.iter hit2 (by omega), hbw2.trans b1, Hst, by omega, by simp; omega⟩
          rw [Lib.byteCells_append, Lib.byteCells_encodeRune]; exact Or.inr h1
        case measure =>
          simp only [World.iterPos, k1.iter hit2 (by omega), hit]
          omega
    · have hnx := fun ty => Lib.run_next_end_at (P := Tryd.prog) wr (w.heap.size + 1) s pos ty hit hp
      have hfin : acc = fixU s.data.toList := by
        have h := Hacc.out
        rw [List.drop_of_length_le (by simp; omega), fixG_end, List.append_nil] at h
        exact h
      go_wp2_with fail
      refine (Tryd.Builder_String_any_k w.heap.size w.heap.size acc _ hI (by omega)).mono ?_
      rintro e W1 ⟨rfl, _, b1, _⟩
      go_wp2
      go_ret
      exact ⟨rfl, hbw.trans b1⟩
end Go.Proofs.YteijpcjhecmamaaDoor.Uf
