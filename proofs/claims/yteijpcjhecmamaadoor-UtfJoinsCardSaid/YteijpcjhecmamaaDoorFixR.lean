/-
  The reference's Fix: what it computes.
-/
import Derived.Test.YteijpcjhecmamaaDoorLow
import Derived.Lib.AppendStr
import Derived.Laws.DeepStrings4
namespace Go.Proofs.YteijpcjhecmamaaDoor.Uf
open Go.RowKit

def cellsB (l : List UInt8) : List Value := Lib.byteCells l
theorem cellsB_append (a b : List UInt8) : Lib.byteCells (a ++ b) = Lib.byteCells a ++ cellsB b := by simp [cellsB, Lib.byteCells]
theorem cellsB_eq (l : List UInt8) : cellsB l = cellsOf (l.map fun b => (b.toNat : Int)) := by simp [cellsB, Lib.byteCells, cellsOf]
theorem cellsB_one (l : List UInt8) : ∀ u ∈ cellsB l, u.oneCell' = true := by
  intro u hu
  simp only [cellsB, Lib.byteCells, List.mem_map] at hu
  obtain ⟨x, _, rfl⟩ := hu
  rfl
theorem reads_newB (w : World) (l : List UInt8) : Reads (w.alloc (.cells (cellsB l).toArray 5)) (w.heap.size + 1) 1 (some ⟨w.heap.size, 0, none⟩) l.length (cellsB l) := by
  have h := reads_new w (l.map fun b => (b.toNat : Int)) (0, 0)
  rw [← cellsB_eq] at h
  simpa using h
theorem refG_step (n : Nat) (l : List UInt8) (h : l ≠ []) : refG (n + 1) l = putOf l ++ refG n (l.drop (Lib.decodeL l).2) := by simp [refG, h, max_right]
theorem drop_ne {l : List UInt8} {k : Nat} (h : k < l.length) : l.drop k ≠ [] := by
  intro e
  have := congrArg List.length e
  simp at this
  omega
theorem drop_at (l : List UInt8) (k i : Nat) : (l.drop k).getD i 0 = l.getD (k + i) 0 := by simp [List.getD]
theorem strCells_part (s : ByteArray) (a b : Nat) : Lib.strCells (s.extract a (a + b)) = cellsB ((s.data.toList.drop a).take b) := by
  simp only [Lib.strCells, cellsB, Lib.byteCells, ByteArray.data_extract, Array.toList_extract, List.extract_eq_take_drop]
  rw [show a + b - a = b from by omega]
theorem own_bytes {w : World} {base : Nat} {v : Value} {acc : List UInt8} (h : w.ownsRow base 5 1 v acc.length (Lib.byteCells acc)) : ∃ (a : Option Addr) (c : Nat), v = .slice a acc.length c ∧ (convert 28 9 (.slice a acc.length c)).run Tryd.prog w = .ok (.string ⟨acc.toArray⟩) w := by
  obtain ⟨a, c, rfl, _, _⟩ := own_shape h
  refine ⟨a, c, rfl, ?_⟩
  rw [show Lib.byteCells acc = cellsOf (acc.map fun b => (b.toNat : Int)) from cellsB_eq acc] at h
  rw [← str_of_bytes]
  exact conv_own h

end Go.Proofs.YteijpcjhecmamaaDoor.Uf
