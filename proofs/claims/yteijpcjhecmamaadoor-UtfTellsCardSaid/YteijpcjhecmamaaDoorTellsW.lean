/-
  UtfTells' walk.
-/
import Derived.Test.YteijpcjhecmamaaDoorTellsR
namespace Go.Proofs.YteijpcjhecmamaaDoor.Uf
open Go.RowKit


theorem charsG_len : ∀ (f : Nat) (l : List UInt8), (charsG f l).length = cntG f l
  | 0, _ => rfl
  | f + 1, l => by
    by_cases hl : l = []
    · subst hl; rw [charsG_nil, cntG_nil]; rfl
    · rw [charsG_step hl rfl, cntG_step hl, List.length_cons, charsG_len f]
      omega
set_option maxRecDepth 100000 in
set_option maxHeartbeats 1600000 in
theorem tells_walk {w : World} (s : ByteArray) (hT : Tabs w) (h2 : 2 ≤ w.heap.size) : Calls Tryd.prog 3 #[.string s] w fun e w' => e = .returned (.bool true) ∧ Below w.heap.size w w' := by
  by_cases h : 5000 < s.size
  · have t1 : (5000 : Int) < (s.size : Int) := by omega
    go_enter Tryd.func3, Tryd.ntmps3
    go_wp2_with fail
    refine (awake1 _).mono ?_
    rintro e w1 ⟨rfl, hb1⟩
    go_wp2_with fail
    go_ret
    exact ⟨rfl, hb1⟩
  have t1 : ¬ (5000 : Int) < (s.size : Int) := by omega
  obtain ⟨t, ht⟩ : ∃ t : ByteArray, t = ⟨(lowL s.data.toList).toArray⟩ := ⟨_, rfl⟩
  obtain ⟨v, hv⟩ : ∃ v, v = Lib.validD s.data.toList := ⟨_, rfl⟩
  obtain ⟨c, hc⟩ : ∃ c, c = (charsG s.data.toList.length s.data.toList).length := ⟨_, rfl⟩
  have hc2 : Lib.runeCount s = c := by rw [hc, charsG_len, runeCount_L]; rfl
  have hss : (t.toList == t.toList) = true := by simp
  have hvv : (v == v) = true := by simp
  have hcc : ((c : Int) == (c : Int)) = true := by simp
  have H := Lib.hid (And.intro ht (And.intro hv.symm (And.intro hc hc2)))
  have HT := Lib.hid (And.intro hT h2)
  clear ht hv hc hc2 hT h2
  go_enter Tryd.func3, Tryd.ntmps3
  go_wp2_with fail
  refine (awake1 _).mono ?_
  rintro e w1 ⟨rfl, hb1⟩
  have Hb1 := Lib.hid hb1
  clear hb1
  go_wp2_with fail
  refine (valid_u s (by omega) (HT.out.1.below Hb1.out HT.out.2)).mono ?_
  rintro e w2 ⟨rfl, hb2⟩
  rw [H.out.2.1]
  have Hb2 := Lib.hid (Hb1.out.trans (hb2.mono Hb1.out.size))
  clear hb2
  go_wp2_with fail
  refine (valid_ref s (by omega)).mono ?_
  rintro e w3 ⟨rfl, hw3⟩
  rw [H.out.2.1, hw3]
  clear hw3 w3
  go_wp2_with fail
  refine (many_u s (by omega)).mono ?_
  rintro e w3 ⟨rfl, hb3⟩
  rw [H.out.2.2.2]
  have Hb3 := Lib.hid (Hb2.out.trans (hb3.mono Hb2.out.size))
  clear hb3
  go_wp2_with fail
  refine (chars_ref s (by omega)).mono ?_
  rintro e w4 ⟨ao, cp, rfl, _, hb4⟩
  rw [← H.out.2.2.1]
  have Hb4 := Lib.hid (Hb3.out.trans (hb4.mono Hb3.out.size))
  clear hb4
  go_wp2_with fail
  refine (lower_u s (by omega)).mono ?_
  rintro e w5 ⟨rfl, hb5⟩
  rw [← H.out.1]
  have Hb5 := Lib.hid (Hb4.out.trans (hb5.mono Hb4.out.size))
  clear hb5
  go_wp2_with fail
  refine (lower_ref s (by omega)).mono ?_
  rintro e w6 ⟨rfl, hb6⟩
  rw [← H.out.1]
  have Hb6 := Lib.hid (Hb5.out.trans (hb6.mono Hb5.out.size))
  clear hb6
  go_wp2_with fail
  go_ret
  exact ⟨rfl, Hb6.out⟩
end Go.Proofs.YteijpcjhecmamaaDoor.Uf
