/-
  utf.Valid: what it computes, where Go's two tables read as they do.
-/
import Derived.Test.YteijpcjhecmamaaDoorVal
import Derived.Test.YteijpcjhecmamaaDoorFixesW
namespace Go.Proofs.YteijpcjhecmamaaDoor.Uf
open Go.RowKit

/-- Go's tables utf8.first and utf8.acceptRanges. -/
def Tabs (w : World) : Prop := Lib.Utf8Tabs 0 1 w
theorem Tabs.below {w w' : World} (h : Tabs w) (hb : Below w.heap.size w w') (h0 : 2 ≤ w.heap.size) : Tabs w' :=
  ⟨fun c hc => by rw [hb.cell (by show 0 < _; omega)]; exact h.1 c hc, fun i hi => ⟨by rw [hb.cell (by show 1 < _; omega)]; exact (h.2 i hi).1, by rw [hb.cell (by show 1 < _; omega)]; exact (h.2 i hi).2⟩⟩

set_option maxRecDepth 100000 in
theorem valid_u {w : World} (s : ByteArray) (hs : s.size ≤ 100000) (hT : Tabs w) :
    Calls Tryd.prog 9 #[.string s] w fun e w' => e = .returned (.bool (Lib.validD s.data.toList)) ∧ Below w.heap.size w w' := by
  have cV : Calls Tryd.prog 17 #[.string s] w _ := Any.utf8_ValidString Tryd.lays196 s w (by omega) hT
  generalize Lib.validD s.data.toList = V at cV ⊢
  go_enter Tryd.func9, Tryd.ntmps9
  go_wp2_with fail
  refine cV.mono ?_
  rintro e w1 ⟨rfl, hb⟩
  have Hb := Lib.hid hb
  clear hb
  go_wp2_with fail
  go_ret
  exact ⟨rfl, Hb.out⟩
end Go.Proofs.YteijpcjhecmamaaDoor.Uf
