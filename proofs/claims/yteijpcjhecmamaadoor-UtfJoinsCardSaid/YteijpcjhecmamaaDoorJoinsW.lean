/-
  UtfJoins' walk.
-/
import Derived.Test.YteijpcjhecmamaaDoorJoinsP
namespace Go.Proofs.YteijpcjhecmamaaDoor.Uf
open Go.RowKit


set_option maxRecDepth 100000 in
set_option maxHeartbeats 800000 in
theorem joins_out {w : World} {A : Option Addr} {c0 : Nat} {xs : List Int} (s : ByteArray) (h : 3000 < s.size ∨ 3000 < xs.length ∨ s.data.toList.getLast? = some 13) : Calls Tryd.prog 6 #[.string s, .slice A xs.length c0] w fun e w' => e = .returned (.bool true) ∧ Below w.heap.size w w' := by
  by_cases h1 : 3000 < s.size
  · have t1 : decide ((3000 : Int) < (s.size : Int)) = true := by simp; omega
    clear h h1
    go_enter Tryd.func6, Tryd.ntmps6
    go_wp2_with fail
    refine (awake1 _).mono ?_
    rintro e w1 ⟨rfl, hb1⟩
    go_wp2_with fail
    go_ret
    exact ⟨rfl, hb1⟩
  have t1 : decide ((3000 : Int) < (s.size : Int)) = false := by simp; omega
  by_cases h2 : 3000 < xs.length
  · have t2 : decide ((3000 : Int) < (xs.length : Int)) = true := by simp; omega
    clear h h1 h2
    go_enter Tryd.func6, Tryd.ntmps6
    go_wp2_with fail
    refine (awake1 _).mono ?_
    rintro e w1 ⟨rfl, hb1⟩
    go_wp2_with fail
    go_ret
    exact ⟨rfl, hb1⟩
  have t2 : decide ((3000 : Int) < (xs.length : Int)) = false := by simp; omega
  have h3 : s.data.toList.getLast? = some 13 := by
    rcases h with h | h | h
    · omega
    · omega
    · exact h
  have hl : s.data.toList.length = s.size := by simp
  have h0 : 0 < s.size := by
    rcases Nat.eq_zero_or_pos s.size with e | e
    · rw [List.eq_nil_of_length_eq_zero (show s.data.toList.length = 0 by omega)] at h3
      simp at h3
    · exact e
  have t3 : decide ((0 : Int) < (s.size : Int)) = true := by simp; omega
  have t4 : 0 ≤ (s.size : Int) - 1 := by omega
  have hlt : s.size - 1 < s.size := by clear hl; omega
  have hx : (s[s.size - 1]'hlt).toNat = 13 := by
    rw [byte_at]
    rw [List.getLast?_eq_getElem?, hl] at h3
    simp [List.getD, h3]
  have hle : s.size ≤ 3000 := by omega
  clear h h1 h2 h3 hl
  go_enter Tryd.func6, Tryd.ntmps6
  go_wp2_with fail
  refine (awake1 _).mono ?_
  rintro e w1 ⟨rfl, hb1⟩
  go_wp2_with fail
  go_ret
  exact ⟨rfl, hb1⟩

set_option maxRecDepth 100000 in
set_option maxHeartbeats 1600000 in
theorem joins_not {w : World} {A : Option Addr} {c0 : Nat} {xs : List Int} (s : ByteArray) (h1 : s.size ≤ 3000) (h2 : xs.length ≤ 3000) (h0 : 0 < s.size) (h3 : ¬ s.data.toList.getLast? = some 13) (hv : Lib.validD s.data.toList = false)
    (hT : Tabs w) (h2' : 2 ≤ w.heap.size) : Calls Tryd.prog 6 #[.string s, .slice A xs.length c0] w fun e w' => e = .returned (.bool true) ∧ Below w.heap.size w w' := by
  have HV := Lib.hid hv
  have HT := Lib.hid (And.intro hT h2')
  have hlt : s.size - 1 < s.size := by omega
  have hl : s.data.toList.length = s.size := by simp
  have t1 : decide ((3000 : Int) < (s.size : Int)) = false := by simp; omega
  have t2 : decide ((3000 : Int) < (xs.length : Int)) = false := by simp; omega
  have t3 : decide ((0 : Int) < (s.size : Int)) = true := by simp; omega
  have t4 : 0 ≤ (s.size : Int) - 1 := by omega
  obtain ⟨x, hx⟩ : ∃ x, (s[s.size - 1]'hlt).toNat = x := ⟨_, rfl⟩
  have hx2 : ((x : Int) == 13) = false := by
    simp
    intro e
    rw [byte_at, show x = 13 by omega] at hx
    rw [List.getLast?_eq_getElem?, hl, List.getElem?_eq_getElem (by omega)] at h3
    apply h3
    rw [List.getD, List.getElem?_eq_getElem (by omega)] at hx
    exact congrArg some (UInt8.toNat_inj.1 hx)
  clear hT h2' h3 hl hv
  go_enter Tryd.func6, Tryd.ntmps6
  go_wp2_with fail
  refine (awake1 _).mono ?_
  rintro e w1 ⟨rfl, hb1⟩
  have Hb1 := Lib.hid hb1
  clear hb1
  go_wp2_with fail
  refine (valid_u s (by omega) (HT.out.1.below Hb1.out HT.out.2)).mono ?_
  rintro e w2 ⟨rfl, hb2⟩
  rw [HV.out]
  have Hb2 := Lib.hid (Hb1.out.trans (hb2.mono Hb1.out.size))
  clear hb2
  go_wp2_with fail
  go_ret
  exact ⟨rfl, Hb2.out⟩

set_option maxRecDepth 100000 in
set_option maxHeartbeats 1600000 in
theorem joins_main {w : World} {A : Option Addr} {c0 : Nat} {xs : List Int} (s : ByteArray) (hx : Came w A c0 xs) (h1 : s.size ≤ 3000) (h2 : xs.length ≤ 3000) (h0 : 0 < s.size) (h3 : ¬ s.data.toList.getLast? = some 13) (hv : Lib.validD s.data.toList = true)
    (hT : Tabs w) (h2' : 2 ≤ w.heap.size) : Calls Tryd.prog 6 #[.string s, .slice A xs.length c0] w fun e w' => e = .returned (.bool true) ∧ Below w.heap.size w w' := by
  have hj := joins_fix (xs := xs) hv h3
  obtain ⟨A1, hA1⟩ : ∃ A1 : ByteArray, A1 = ⟨(fixU s.data.toList).toArray⟩ := ⟨_, rfl⟩
  obtain ⟨A2, hA2⟩ : ∃ A2 : ByteArray, A2 = ⟨(fixU (strOfNums xs).data.toList).toArray⟩ := ⟨_, rfl⟩
  rw [← hA1, ← hA2] at hj
  have haz : A1.size + A2.size ≤ 18000 := by
    have e1 := fix_len _ s.data.toList (Nat.le_refl _)
    have e2 := fix_len _ (strOfNums xs).data.toList (Nat.le_refl _)
    have e3 : A1.size = (fixU s.data.toList).length := by rw [hA1]; rfl
    have e4 : A2.size = (fixU (strOfNums xs).data.toList).length := by rw [hA2]; rfl
    have e5 : s.data.toList.length = s.size := by simp
    have e6 : (strOfNums xs).data.toList.length = xs.length := by simp [strOfNums]
    omega
  have HJ := Lib.hid hj
  have HA1 := Lib.hid hA1
  have HA2 := Lib.hid hA2
  clear hj hA1 hA2
  have HV := Lib.hid hv
  have HT := Lib.hid (And.intro hT h2')
  have HX := Lib.hid hx
  have hlt : s.size - 1 < s.size := by omega
  have hl : s.data.toList.length = s.size := by simp
  have t1 : decide ((3000 : Int) < (s.size : Int)) = false := by simp; omega
  have t2 : decide ((3000 : Int) < (xs.length : Int)) = false := by simp; omega
  have t3 : decide ((0 : Int) < (s.size : Int)) = true := by simp; omega
  have t4 : 0 ≤ (s.size : Int) - 1 := by omega
  obtain ⟨x, hx'⟩ : ∃ x, (s[s.size - 1]'hlt).toNat = x := ⟨_, rfl⟩
  have hx2 : ((x : Int) == 13) = false := by
    simp
    intro e
    rw [byte_at, show x = 13 by omega] at hx'
    rw [List.getLast?_eq_getElem?, hl, List.getElem?_eq_getElem (by omega)] at h3
    apply h3
    rw [List.getD, List.getElem?_eq_getElem (by omega)] at hx'
    exact congrArg some (UInt8.toNat_inj.1 hx')
  clear hT h2' h3 hl hv hx
  go_enter Tryd.func6, Tryd.ntmps6
  go_wp2_with fail
  refine (awake1 _).mono ?_
  rintro e w1 ⟨rfl, hb1⟩
  have Hb1 := Lib.hid hb1
  clear hb1
  go_wp2_with fail
  refine (valid_u s (by omega) (HT.out.1.below Hb1.out HT.out.2)).mono ?_
  rintro e w2 ⟨rfl, hb2⟩
  rw [HV.out]
  have Hb2 := Lib.hid (Hb1.out.trans (hb2.mono Hb1.out.size))
  clear hb2
  obtain ⟨c1, W0, A', c2, w3, hcv, hap, hb3, hr3⟩ := conv_append w2 s (c := c0) (HX.out.at_ Hb2.out) Hb2.out.size (by omega)
  have Hb3 := Lib.hid (Hb2.out.trans (hb3.mono Hb2.out.size))
  have Hr3 := Lib.hid hr3
  clear hb3 hr3
  have Hap := Lib.hid hap
  clear hap
  go_wp2_with (at_builtin; refine wpList_append_run rfl (.tmp 37) (.tmp 38) 28 rfl _ _ _ _ rfl rfl Hap.out ?_)
  refine (fix_u Hr3.out (Nat.le_refl _) rfl (by rw [str_size, List.length_append, ints_len]; omega)).mono ?_
  rintro e w4 ⟨rfl, hb4⟩
  rw [HJ.out]
  have Hb4 := Lib.hid (Hb3.out.trans (hb4.mono Hb3.out.size))
  clear hb4
  obtain ⟨c5, w5, hcv5, hb5, hr5⟩ := bytes_of w4 s
  have Hb5 := Lib.hid (Hb4.out.trans (hb5.mono Hb4.out.size))
  have Hr5 := Lib.hid hr5
  clear hb5 hr5
  go_wp2_with fail
  refine (fix_u Hr5.out (Nat.le_refl _) (strOfNums_ints s).symm (by omega)).mono ?_
  rintro e w6 ⟨rfl, hb6⟩
  rw [← HA1.out]
  have Hb6 := Lib.hid (Hb5.out.trans (hb6.mono Hb5.out.size))
  clear hb6
  go_wp2_with fail
  refine (fix_u (HX.out.at_ Hb6.out) Hb6.out.size rfl (by rw [str_size]; omega)).mono ?_
  rintro e w7 ⟨rfl, hb7⟩
  rw [← HA2.out]
  have Hb7 := Lib.hid (Hb6.out.trans (hb7.mono Hb6.out.size))
  clear hb7
  have hss : ((A1 ++ A2).toList == (A1 ++ A2).toList) = true := by simp
  go_wp2_with fail
  go_ret
  exact ⟨rfl, Hb7.out⟩

set_option maxRecDepth 100000 in
set_option maxHeartbeats 1600000 in
theorem joins_zero {w : World} {A : Option Addr} {c0 : Nat} {xs : List Int} (s : ByteArray) (hx : Came w A c0 xs) (h1 : s.size ≤ 3000) (h2 : xs.length ≤ 3000) (h0 : s.size = 0) (h3 : ¬ s.data.toList.getLast? = some 13) (hv : Lib.validD s.data.toList = true)
    (hT : Tabs w) (h2' : 2 ≤ w.heap.size) : Calls Tryd.prog 6 #[.string s, .slice A xs.length c0] w fun e w' => e = .returned (.bool true) ∧ Below w.heap.size w w' := by
  have hj := joins_fix (xs := xs) hv h3
  obtain ⟨A1, hA1⟩ : ∃ A1 : ByteArray, A1 = ⟨(fixU s.data.toList).toArray⟩ := ⟨_, rfl⟩
  obtain ⟨A2, hA2⟩ : ∃ A2 : ByteArray, A2 = ⟨(fixU (strOfNums xs).data.toList).toArray⟩ := ⟨_, rfl⟩
  rw [← hA1, ← hA2] at hj
  have haz : A1.size + A2.size ≤ 18000 := by
    have e1 := fix_len _ s.data.toList (Nat.le_refl _)
    have e2 := fix_len _ (strOfNums xs).data.toList (Nat.le_refl _)
    have e3 : A1.size = (fixU s.data.toList).length := by rw [hA1]; rfl
    have e4 : A2.size = (fixU (strOfNums xs).data.toList).length := by rw [hA2]; rfl
    have e5 : s.data.toList.length = s.size := by simp
    have e6 : (strOfNums xs).data.toList.length = xs.length := by simp [strOfNums]
    omega
  have HJ := Lib.hid hj
  have HA1 := Lib.hid hA1
  have HA2 := Lib.hid hA2
  clear hj hA1 hA2
  have HV := Lib.hid hv
  have HT := Lib.hid (And.intro hT h2')
  have HX := Lib.hid hx
  have t1 : decide ((3000 : Int) < (s.size : Int)) = false := by simp; omega
  have t2 : decide ((3000 : Int) < (xs.length : Int)) = false := by simp; omega
  have t3 : decide ((0 : Int) < (s.size : Int)) = false := decide_eq_false (by omega)
  have hz : s.size ≤ 0 := by omega
  clear hT h2' h3 hv hx h0
  go_enter Tryd.func6, Tryd.ntmps6
  go_wp2_with fail
  refine (awake1 _).mono ?_
  rintro e w1 ⟨rfl, hb1⟩
  have Hb1 := Lib.hid hb1
  clear hb1
  go_wp2_with fail
  refine (valid_u s (by omega) (HT.out.1.below Hb1.out HT.out.2)).mono ?_
  rintro e w2 ⟨rfl, hb2⟩
  rw [HV.out]
  have Hb2 := Lib.hid (Hb1.out.trans (hb2.mono Hb1.out.size))
  clear hb2
  obtain ⟨c1, W0, A', c2, w3, hcv, hap, hb3, hr3⟩ := conv_append w2 s (c := c0) (HX.out.at_ Hb2.out) Hb2.out.size (by omega)
  have Hb3 := Lib.hid (Hb2.out.trans (hb3.mono Hb2.out.size))
  have Hr3 := Lib.hid hr3
  clear hb3 hr3
  have Hap := Lib.hid hap
  clear hap
  go_wp2_with (at_builtin; refine wpList_append_run rfl (.tmp 37) (.tmp 38) 28 rfl _ _ _ _ rfl rfl Hap.out ?_)
  refine (fix_u Hr3.out (Nat.le_refl _) rfl (by rw [str_size, List.length_append, ints_len]; omega)).mono ?_
  rintro e w4 ⟨rfl, hb4⟩
  rw [HJ.out]
  have Hb4 := Lib.hid (Hb3.out.trans (hb4.mono Hb3.out.size))
  clear hb4
  obtain ⟨c5, w5, hcv5, hb5, hr5⟩ := bytes_of w4 s
  have Hb5 := Lib.hid (Hb4.out.trans (hb5.mono Hb4.out.size))
  have Hr5 := Lib.hid hr5
  clear hb5 hr5
  go_wp2_with fail
  refine (fix_u Hr5.out (Nat.le_refl _) (strOfNums_ints s).symm (by omega)).mono ?_
  rintro e w6 ⟨rfl, hb6⟩
  rw [← HA1.out]
  have Hb6 := Lib.hid (Hb5.out.trans (hb6.mono Hb5.out.size))
  clear hb6
  go_wp2_with fail
  refine (fix_u (HX.out.at_ Hb6.out) Hb6.out.size rfl (by rw [str_size]; omega)).mono ?_
  rintro e w7 ⟨rfl, hb7⟩
  rw [← HA2.out]
  have Hb7 := Lib.hid (Hb6.out.trans (hb7.mono Hb6.out.size))
  clear hb7
  have hss : ((A1 ++ A2).toList == (A1 ++ A2).toList) = true := by simp
  go_wp2_with fail
  go_ret
  exact ⟨rfl, Hb7.out⟩

theorem joins_walk {w : World} {A : Option Addr} {c0 : Nat} {xs : List Int} (s : ByteArray) (hx : Came w A c0 xs) (hT : Tabs w) (h2 : 2 ≤ w.heap.size) : Calls Tryd.prog 6 #[.string s, .slice A xs.length c0] w fun e w' => e = .returned (.bool true) ∧ Below w.heap.size w w' := by
  by_cases ho : 3000 < s.size ∨ 3000 < xs.length ∨ s.data.toList.getLast? = some 13
  · exact joins_out s ho
  have h13 : ¬ s.data.toList.getLast? = some 13 := fun h => ho (.inr (.inr h))
  by_cases h0 : 0 < s.size
  · cases hv : Lib.validD s.data.toList with
    | false => exact joins_not s (by omega) (by omega) h0 h13 hv hT h2
    | true => exact joins_main s hx (by omega) (by omega) h0 h13 hv hT h2
  · have hl : s.data.toList.length = s.size := by simp
    have hn : s.data.toList = [] := List.eq_nil_of_length_eq_zero (by omega)
    exact joins_zero s hx (by omega) (by omega) (by omega) h13 (by rw [hn]; rfl) hT h2
end Go.Proofs.YteijpcjhecmamaaDoor.Uf
