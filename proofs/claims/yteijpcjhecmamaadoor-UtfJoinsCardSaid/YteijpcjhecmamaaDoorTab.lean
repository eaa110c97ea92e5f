/-
  From the row's list to the tables' cells.
-/
import Derived.Test.YteijpcjhecmamaaDoorRows
import Derived.Test.YteijpcjhecmamaaDoorVu
import Derived.Lib.LaidU8
namespace Go.Proofs.YteijpcjhecmamaaDoor.Uf
open Go.RowKit Lib

theorem gFirst : Tryd.prog.globalNamed "unicode/utf8.first" = some 0 := by kernel_rfl
theorem gAcc : Tryd.prog.globalNamed "unicode/utf8.acceptRanges" = some 1 := by kernel_rfl
theorem yFirst : (Tryd.prog.globals[0]?).map (·.type) = some 46 := by kernel_rfl
theorem yAcc : (Tryd.prog.globals[1]?).map (·.type) = some 49 := by kernel_rfl
theorem c5 : Tryd.prog.cellsOf 5 = 1 := by kernel_rfl
theorem c46 : Tryd.prog.cellsOf 46 = 256 := by kernel_rfl
theorem c48 : Tryd.prog.cellsOf 48 = 2 := by kernel_rfl

theorem tabs_of_reads {w : World} (h3 : VarReads Tryd.prog w "unicode/utf8.first" firstData) (h4 : VarReads Tryd.prog w "unicode/utf8.acceptRanges" acceptData) : Tabs w := by
  refine ⟨fun c hc => ?_, fun i hi => ?_⟩
  · obtain ⟨g, t, cs, fuel, p, hg, hty, hvar, hd⟩ := h3
    obtain rfl := Option.some.inj (gFirst.symm.trans hg)
    obtain rfl := Option.some.inj (yFirst.symm.trans hty)
    have hcs := cells_of_tab Tryd.underlying46 Tryd.underlying5 c5 c46 hd
    rw [World.var?_cell hg hvar c, ← Array.getElem?_toList, hcs]
    simp [firstTab, hc]
  · obtain ⟨g, t, cs, fuel, p, hg, hty, hvar, hd⟩ := h4
    obtain rfl := Option.some.inj (gAcc.symm.trans hg)
    obtain rfl := Option.some.inj (yAcc.symm.trans hty)
    obtain ⟨fuel', d, q, hdi, he⟩ := array_elem Tryd.underlying49 hd i hi
    simp only [List.getElem?_map, List.getElem?_range hi, Option.map_some, Option.some.injEq] at hdi
    subst hdi
    rw [c48] at he
    have hcs := ints_of_struct Tryd.underlying48 (fun j f hj => by
      match j, hj with
      | 0, hj => simp at hj; subst hj; exact ⟨Tryd.underlying5, rfl, c5⟩
      | 1, hj => simp at hj; subst hj; exact ⟨Tryd.underlying5, rfl, c5⟩
      | j + 2, hj => simp at hj) (by rw [c48]; rfl) he
    have e0 := congrArg (·[0]?) hcs
    have e1 := congrArg (·[1]?) hcs
    simp only [List.getElem?_take, List.getElem?_drop] at e0 e1
    constructor
    · rw [World.var?_cell hg hvar (2 * i), ← Array.getElem?_toList]
      simpa [Nat.mul_comm] using e0
    · rw [World.var?_cell hg hvar (2 * i + 1), ← Array.getElem?_toList]
      simpa [Nat.mul_comm] using e1

theorem tabs_lower {W : World} (h : laidMetH Tryd.prog Rows.utfLowerRow.laid W) : Tabs W := by
  have h' : laidMet Tryd.prog Rows.utfLowerRow.laid W := h
  have e1 : (Rows.laid_unicode_utf8_first : DataW Unit) = firstData := by kernel_rfl
  have e2 : (Rows.laid_unicode_utf8_acceptRanges : DataW Unit) = acceptData := by kernel_rfl
  refine tabs_of_reads ?_ ?_
  · rw [← e1]
    exact laidMet.reads h' (by simp [Rows.utfLowerRow])
  · rw [← e2]
    exact laidMet.reads h' (by simp [Rows.utfLowerRow])
end Go.Proofs.YteijpcjhecmamaaDoor.Uf
