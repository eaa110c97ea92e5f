/-
  The reference's Fix: what it computes.
-/
import Derived.Test.YteijpcjhecmamaaLow
import Derived.Lib.AppendStr
import Derived.Laws.DeepStrings4
namespace Go.Proofs.Yteijpcjhecmamaa.Uf
open Go.RowKit

def cellsB (l : List UInt8) : List Value := Lib.byteCells l
theorem cellsB_append (a b : List UInt8) : Lib.byteCells (a ++ b) = Lib.byteCells a ++ cellsB b := by simp [cellsB, Lib.byteCells]
theorem cellsB_eq (l : List UInt8) : cellsB l = cellsOf (l.map fun b => (b.toNat : Int)) := by simp [cellsB, Lib.byteCells, cellsOf]
theorem cellsB_one (l : List UInt8) : ∀ u ∈ cellsB l, u.oneCell' = true := by
  intro u hu
  simp only [cellsB, Lib.byteCells, List.mem_map] at hu
  obtain ⟨x, _, rfl⟩ := hu
  rfl
theorem reads_newB (w : World) (l : List UInt8) : Reads (w.alloc (.cells (cellsB l).toArray 5)) (w.heap.size + 1) 1 (some ⟨w.heap.size, 0, none⟩) l.length (cellsB l) := by
  have h := reads_new w (l.map fun b => (b.toNat : Int)) (0, 0)
  rw [← cellsB_eq] at h
  simpa using h
theorem refG_step (n : Nat) (l : List UInt8) (h : l ≠ []) : refG (n + 1) l = putOf l ++ refG n (l.drop (Lib.decodeL l).2) := by simp [refG, h, max_right]
theorem drop_ne {l : List UInt8} {k : Nat} (h : k < l.length) : l.drop k ≠ [] := by
  intro e
  have := congrArg List.length e
  simp at this
  omega
theorem drop_at (l : List UInt8) (k i : Nat) : (l.drop k).getD i 0 = l.getD (k + i) 0 := by simp [List.getD]
theorem strCells_part (s : ByteArray) (a b : Nat) : Lib.strCells (s.extract a (a + b)) = cellsB ((s.data.toList.drop a).take b) := by
  simp only [Lib.strCells, cellsB, Lib.byteCells, ByteArray.data_extract, Array.toList_extract, List.extract_eq_take_drop]
  rw [show a + b - a = b from by omega]
theorem own_bytes {w : World} {base : Nat} {v : Value} {acc : List UInt8} (h : w.ownsRow base 5 1 v acc.length (Lib.byteCells acc)) : ∃ (a : Option Addr) (c : Nat), v = .slice a acc.length c ∧ (convert 22 9 (.slice a acc.length c)).run Try.prog w = .ok (.string ⟨acc.toArray⟩) w := by
  obtain ⟨a, c, rfl, _, _⟩ := own_shape h
  refine ⟨a, c, rfl, ?_⟩
  rw [show Lib.byteCells acc = cellsOf (acc.map fun b => (b.toNat : Int)) from cellsB_eq acc] at h
  rw [← str_of_bytes]
  exact conv_own h

set_option maxRecDepth 100000 in
set_option maxHeartbeats 4000000 in
theorem fix_ref {w : World} {B n c : Nat} {A : Option Addr} {xs : List Int} {s : ByteArray} (hr : Reads w B 1 A n (cellsOf xs)) (hs : s = strOfNums xs) (hs1 : s.size ≤ 100000) :
    Calls Try.prog 8 #[.slice A n c] w fun e w' => e = .returned (.string ⟨(refG s.data.toList.length s.data.toList).toArray⟩) ∧ Below w.heap.size w w' := by
  have hcv := conv_reads hr c
  rw [← hs] at hcv
  have hs2 : s.size ≤ 1000000 := by omega
  obtain ⟨i5, hi5, hz5, hs5, hb5⟩ := info_parts Try.info5
  clear hs hr
  obtain ⟨l, hl⟩ : ∃ l, l = s.data.toList := ⟨_, rfl⟩
  have hll : l.length = s.size := by rw [hl]; simp
  obtain ⟨all, hall⟩ : ∃ all, all = refG l.length l := ⟨_, rfl⟩
  rw [← hl, ← hall]
  have HL := Lib.hid (And.intro hl (And.intro hll hall))
  clear hl hll hall
  go_enter Try.func8, Try.ntmps8
  go_wp2
  go_loopw [4, 5] (fun u a wr => ∃ (pos fuel : Nat) (acc : List UInt8), pos ≤ s.size ∧ a = .int .i64 pos ∧ wr.ownsRow w.heap.size 5 1 u acc.length (Lib.byteCells acc) ∧ Hid (acc ++ refG fuel (l.drop pos) = all) ∧ s.size ≤ pos + fuel ∧ Below w.heap.size w wr ∧ acc.length ≤ 3 * pos) (fun _ a _ => s.size - (intOf a).toNat)
  case atStart => exact ⟨0, s.size, [], Nat.zero_le _, rfl, World.ownsRow_nil _ _ _ _, (show _ = _ by rw [HL.out.2.2, HL.out.2.1]; simp), by omega, Below.refl _ _, Nat.zero_le _⟩
  case round =>
    obtain ⟨pos, fuel, acc, hk, rfl, hown, Hacc, hfu, hbw, hal⟩ := hrel
    by_cases hp : pos < s.size
    · have hp' : (pos : Int) < (s.size : Int) := by omega
      obtain ⟨f, rfl⟩ : ∃ f, fuel = f + 1 := ⟨fuel - 1, by omega⟩
      have hpl : pos < l.length := by rw [HL.out.2.1]; exact hp
      have hst := Hacc.out
      rw [refG_step _ _ (drop_ne hpl), List.drop_drop] at hst
      obtain ⟨d, hd⟩ : ∃ d, d = (Lib.decodeL (l.drop pos)).2 := ⟨_, rfl⟩
      obtain ⟨rn, hrn⟩ : ∃ rn, rn = rightL (l.drop pos) := ⟨_, rfl⟩
      have hdm : max rn 1 = d := by rw [hrn, hd]; exact max_right _
      have hdl : pos + d ≤ s.size := by
        have := Lib.decodeL_le (l.drop pos) (drop_ne hpl)
        rw [List.length_drop, HL.out.2.1] at this
        omega
      obtain ⟨p, hpp⟩ : ∃ p, p = putOf (l.drop pos) := ⟨_, rfl⟩
      have hput := hpp
      unfold putOf at hput
      rw [← hrn, drop_at, drop_at, List.length_drop, HL.out.2.1, Nat.add_zero] at hput
      rw [← hd, ← hpp, ← List.append_assoc] at hst
      obtain ⟨x, hx⟩ : ∃ x, x = l.getD pos 0 := ⟨_, rfl⟩
      obtain ⟨y, hy⟩ : ∃ y, y = l.getD (pos + 1) 0 := ⟨_, rfl⟩
      rw [← hx, ← hy] at hput
      have e0 : (s[pos]'hp).toNat = x.toNat := by rw [byte_at, hx, HL.out.1]
      have e1 : ∀ h : pos + 1 < s.size, (s[pos + 1]'h).toNat = y.toNat := fun h => by rw [byte_at, hy, HL.out.1]
      obtain ⟨bx, hbx⟩ : ∃ bx, bx = x.toNat := ⟨_, rfl⟩
      obtain ⟨yb, hyb⟩ : ∃ yb, yb = y.toNat := ⟨_, rfl⟩
      rw [← hbx] at e0
      rw [← hyb] at e1
      have hd1 : 1 ≤ d := by omega
      have hx0 : x = 0 ↔ bx = 0 := ⟨fun h => by rw [hbx, h]; rfl, fun h => byte_eq (hbx.symm.trans h)⟩
      have hx13 : x = 13 ↔ bx = 13 := ⟨fun h => by rw [hbx, h]; rfl, fun h => byte_eq (hbx.symm.trans h)⟩
      have hy10 : y = 10 ↔ yb = 10 := ⟨fun h => by rw [hyb, h]; rfl, fun h => byte_eq (hyb.symm.trans h)⟩
      simp only [hx0, hx13, ne_eq, hy10] at hput
      have Hrn := Lib.hid (show rn = rightL (s.data.toList.drop pos) by rw [hrn, HL.out.1])
      have Hst := Lib.hid hst
      have Hd := Lib.hid (And.intro hdm hdl)
      have E1 := Lib.hid e1
      have hrd : rn ≤ d := by omega
      have hmx : max (rn : Int) 1 = (d : Int) := by omega
      have hdl2 : (pos : Int) + (d : Int) ≤ (s.size : Int) := by omega
      clear hrn hd hpp hx hy hbx hyb hx0 hx13 hy10 hst hdm hdl e1
      by_cases c1 : rn = 0
      · rw [if_pos (.inl c1)] at hput
        rw [hput] at Hst
        have q1 : ((rn : Int) == 0) = true := by simp; omega
        have H1 := Lib.hid c1
        clear c1 hput
        go_wp2_with fail
        refine (right_ref s pos _ hp hs2).mono ?_
        rintro e w2 ⟨rfl, hw2⟩
        rw [hw2]
        clear hw2 w2
        rw [← Hrn.out]
        have hr3 := reads_newB wr odd
        have hown3 := hown.alloc (.cells (cellsB odd).toArray 5)
        go_wp2_with (at_builtin; refine wpList_append_any _ rfl (.tmp 33) (.tmp 34) 22 rfl w.heap.size 5 i5 _ 1 1 Try.underlying22 hi5 hz5 hs5 hb5 rfl (by omega) u4 acc.length (Lib.byteCells acc) rfl hown3 (wr.heap.size + 1) (some ⟨wr.heap.size, 0, none⟩) 3 3 (cellsB odd) rfl hr3 (cellsB_one odd) (by unfold maxLen; omega) (by omega) (by have := hbw.size; simp; omega) ?_; intro v3 w3 hown4 hg3 hat3; have Hown4 := Lib.hid hown4; have Hg3 := Lib.hid hg3; clear hown4 hg3 hat3)
        go_roundw
        case rel => exact ⟨pos + d, f, acc ++ odd, Hd.out.2, by go_num, by simpa [cellsB_append, odd] using Hown4.out, Hst, by omega, (hbw.alloc hbw.size _).grown Hg3.out (by have := hbw.size; simp; omega) (fun i hi => (hown.lt i hi).1), by simp [odd]; omega⟩
        case measure => simp [intOf]; omega
      have q1 : ((rn : Int) == 0) = false := by simp; omega
      by_cases c2 : bx = 0
      · rw [if_pos (.inr c2)] at hput
        rw [hput] at Hst
        have q2 : ((bx : Int) == 0) = true := by simp; omega
        clear c1 c2 hput
        go_wp2_with fail
        refine (right_ref s pos _ hp hs2).mono ?_
        rintro e w2 ⟨rfl, hw2⟩
        rw [hw2]
        clear hw2 w2
        rw [← Hrn.out]
        have hr3 := reads_newB wr odd
        have hown3 := hown.alloc (.cells (cellsB odd).toArray 5)
        go_wp2_with (at_builtin; refine wpList_append_any _ rfl (.tmp 33) (.tmp 34) 22 rfl w.heap.size 5 i5 _ 1 1 Try.underlying22 hi5 hz5 hs5 hb5 rfl (by omega) u4 acc.length (Lib.byteCells acc) rfl hown3 (wr.heap.size + 1) (some ⟨wr.heap.size, 0, none⟩) 3 3 (cellsB odd) rfl hr3 (cellsB_one odd) (by unfold maxLen; omega) (by omega) (by have := hbw.size; simp; omega) ?_; intro v3 w3 hown4 hg3 hat3; have Hown4 := Lib.hid hown4; have Hg3 := Lib.hid hg3; clear hown4 hg3 hat3)
        go_roundw
        case rel => exact ⟨pos + d, f, acc ++ odd, Hd.out.2, by go_num, by simpa [cellsB_append, odd] using Hown4.out, Hst, by omega, (hbw.alloc hbw.size _).grown Hg3.out (by have := hbw.size; simp; omega) (fun i hi => (hown.lt i hi).1), by simp [odd]; omega⟩
        case measure => simp [intOf]; omega
      have q2 : ((bx : Int) == 0) = false := by simp; omega
      rw [if_neg (by omega)] at hput
      by_cases c3 : bx = 13
      · rw [if_pos c3] at hput
        have q3 : ((bx : Int) == 13) = true := by simp; omega
        clear c1 c2 c3
        by_cases c4 : pos + 1 = s.size
        · rw [if_pos (.inl (by omega))] at hput
          rw [hput] at Hst
          have q4 : ((pos : Int) + 1 == (s.size : Int)) = true := by simp; omega
          clear hput c4
          go_wp2_with fail
          refine (right_ref s pos _ hp hs2).mono ?_
          rintro e w2 ⟨rfl, hw2⟩
          rw [hw2]
          clear hw2 w2
          rw [← Hrn.out]
          have hr3 := reads_newB wr [10]
          have hown3 := hown.alloc (.cells (cellsB [10]).toArray 5)
          go_wp2_with (at_builtin; refine wpList_append_any _ rfl (.tmp 53) (.tmp 54) 22 rfl w.heap.size 5 i5 _ 1 1 Try.underlying22 hi5 hz5 hs5 hb5 rfl (by omega) u4 acc.length (Lib.byteCells acc) rfl hown3 (wr.heap.size + 1) (some ⟨wr.heap.size, 0, none⟩) 1 1 (cellsB [10]) rfl hr3 (cellsB_one [10]) (by unfold maxLen; omega) (by omega) (by have := hbw.size; simp; omega) ?_; intro v3 w3 hown4 hg3 hat3; have Hown4 := Lib.hid hown4; have Hg3 := Lib.hid hg3; clear hown4 hg3 hat3)
          go_roundw
          case rel => exact ⟨pos + d, f, acc ++ [10], Hd.out.2, by go_num, by simpa [cellsB_append] using Hown4.out, Hst, by omega, (hbw.alloc hbw.size _).grown Hg3.out (by have := hbw.size; simp; omega) (fun i hi => (hown.lt i hi).1), by simp; omega⟩
          case measure => simp [intOf]; omega
        have q4 : ((pos : Int) + 1 == (s.size : Int)) = false := by simp; omega
        have hp1 : pos + 1 < s.size := by omega
        have e1 := E1.out hp1
        by_cases c5 : yb = 10
        · rw [if_neg (by omega)] at hput
          rw [hput, List.append_nil] at Hst
          have q5 : ((yb : Int) == 10) = true := by simp; omega
          have q6 : ((yb : Int) != 10) = false := by simp; omega
          clear hput c5 c4
          go_wp2_with fail
          refine (right_ref s pos _ hp hs2).mono ?_
          rintro e w2 ⟨rfl, hw2⟩
          rw [hw2]
          clear hw2 w2
          rw [← Hrn.out]
          go_wp2_with fail
          go_roundw
          case rel => exact ⟨pos + d, f, acc, Hd.out.2, by go_num, hown, Hst, by omega, hbw, by omega⟩
          case measure => simp [intOf]; omega
        · rw [if_pos (.inr (by omega))] at hput
          rw [hput] at Hst
          have q5 : ((yb : Int) == 10) = false := by simp; omega
          have q6 : ((yb : Int) != 10) = true := by simp; omega
          clear hput c5 c4
          go_wp2_with fail
          refine (right_ref s pos _ hp hs2).mono ?_
          rintro e w2 ⟨rfl, hw2⟩
          rw [hw2]
          clear hw2 w2
          rw [← Hrn.out]
          have hr3 := reads_newB wr [10]
          have hown3 := hown.alloc (.cells (cellsB [10]).toArray 5)
          go_wp2_with (at_builtin; refine wpList_append_any _ rfl (.tmp 53) (.tmp 54) 22 rfl w.heap.size 5 i5 _ 1 1 Try.underlying22 hi5 hz5 hs5 hb5 rfl (by omega) u4 acc.length (Lib.byteCells acc) rfl hown3 (wr.heap.size + 1) (some ⟨wr.heap.size, 0, none⟩) 1 1 (cellsB [10]) rfl hr3 (cellsB_one [10]) (by unfold maxLen; omega) (by omega) (by have := hbw.size; simp; omega) ?_; intro v3 w3 hown4 hg3 hat3; have Hown4 := Lib.hid hown4; have Hg3 := Lib.hid hg3; clear hown4 hg3 hat3)
          go_roundw
          case rel => exact ⟨pos + d, f, acc ++ [10], Hd.out.2, by go_num, by simpa [cellsB_append] using Hown4.out, Hst, by omega, (hbw.alloc hbw.size _).grown Hg3.out (by have := hbw.size; simp; omega) (fun i hi => (hown.lt i hi).1), by simp; omega⟩
          case measure => simp [intOf]; omega
      · rw [if_neg c3] at hput
        rw [hput] at Hst
        have q3 : ((bx : Int) == 13) = false := by simp; omega
        have hcs := strCells_part s pos rn
        have hsz : (s.extract pos (pos + rn)).size = rn := by have := Hd.out.2; simp; omega
        rw [← HL.out.1] at hcs
        have Hcs := Lib.hid hcs
        have hpr : (pos : Int) + (rn : Int) ≤ (s.size : Int) := by have := Hd.out.2; omega
        have hbws := hbw.size
        have hsl : (Instr.slice 9 (.string s) (some (.int .i64 pos)) (some (.int .i64 ((pos : Int) + (rn : Int)))) none).run Try.prog wr = .ok (.string (s.extract pos (pos + rn))) wr := by
          rw [run_slice_string_if _ _ _ _ _ _ _ Try.underlying9, if_pos (by omega), if_pos (by omega), show ((pos : Int) + (rn : Int)).toNat = pos + rn from by omega, Int.toNat_natCast]
        clear c1 c2 c3 hput hcs
        go_wp2_with fail
        refine (right_ref s pos _ hp hs2).mono ?_
        rintro e w2 ⟨rfl, hw2⟩
        rw [hw2]
        clear hw2 w2
        rw [← Hrn.out]
        go_wp2_with (at_builtin; refine Lib.wpList_append_own_string _ rfl (.tmp 16) (.tmp 22) 22 9 rfl w.heap.size 5 i5 Try.underlying22 Try.underlying9 hi5 hz5 hs5 hb5 u4 acc.length (Lib.byteCells acc) rfl hown (s.extract pos (pos + rn)) rfl (by rw [hsz]; unfold maxLen; omega) (by rw [hsz]; omega) (by omega) ?_; intro v3 w3 hown4 hg3 hat3; have Hown4 := Lib.hid hown4; have Hg3 := Lib.hid hg3; clear hown4 hg3 hat3)
        go_roundw
        case rel =>
          have h4 := Hown4.out
          rw [Hcs.out, hsz, ← cellsB_append] at h4
          have hlen : ((l.drop pos).take rn).length = rn := by
            have := Hd.out.2
            rw [List.length_take, List.length_drop, HL.out.2.1]
            omega
          exact ⟨pos + d, f, acc ++ (l.drop pos).take rn, Hd.out.2, by go_num, by rw [List.length_append, hlen]; exact h4, Hst, by omega, hbw.grown Hg3.out (by omega) (fun i hi => (hown.lt i hi).1), by rw [List.length_append, hlen]; omega⟩
        case measure => simp [intOf]; omega
    · have hp' : ¬ (pos : Int) < (s.size : Int) := by omega
      have hfin : acc = all := by
        have h := Hacc.out
        rw [List.drop_of_length_le (by rw [HL.out.2.1]; omega), refG_end, List.append_nil] at h
        exact h
      obtain ⟨a, c, rfl, hcv2⟩ := own_bytes hown
      have Hfin := Lib.hid hfin
      clear hfin hown
      go_wp2
      go_ret
      rw [← Hfin.out]
      exact ⟨rfl, hbw⟩
end Go.Proofs.Yteijpcjhecmamaa.Uf
