/-
  DevLasts' walk: what was synced is a beginning of what is there behind a loss of power, and of what waited just the first bytes are.
-/
import Derived.Test.YtaakamjjglpibaaDevE
import Derived.Deep.RegionWith
namespace Go.Proofs.Ytaakamjjglpibaa.Dv
open Go.RowKit

theorem Reads.take {w : World} {B n m : Nat} {A : Option Addr} {xs : List Int} (h : Reads w B 1 A n (cellsOf xs)) (hm : m ≤ n) : Reads w B 1 A m (cellsOf (xs.take m)) := by
  have hl : xs.length = n := by have := h.1; simp [cellsOf] at this; exact this
  refine ⟨by simp [cellsOf]; omega, fun h0 => ?_⟩
  obtain ⟨ad, hA, hB, hc⟩ := h.2 (by omega)
  refine ⟨ad, hA, hB, fun j u hu => hc j u ?_⟩
  rw [← hu]
  have hj : j < m := by
    have := (List.getElem?_eq_some_iff.1 hu).1
    simp [cellsOf] at this
    omega
  simp [cellsOf, hj]

set_option maxRecDepth 100000 in
set_option maxHeartbeats 800000 in
theorem lasts_walk {w : World} {A B : Option Addr} {c0 c1 : Nat} {xs ys : List Int} (keep : Int) (hk : (Lit.int .i64 keep).wf = true) (hx : Came w A c0 xs) (hy : Came w B c1 ys) :
    Calls Try.prog 4 #[.slice A xs.length c0, .slice B ys.length c1, .int .i64 keep] w fun e w' => e = .returned (.bool true) ∧ Below w.heap.size w w' := by
  have hx1 := hx.fits
  have hx2 := hx.most
  have hy1 := hy.fits
  have hy2 := hy.most
  unfold maxLen at hx2 hy2
  by_cases ha : 20000 < xs.length
  · have ha' : (20000 : Int) < (xs.length : Int) := by omega
    go_enter Try.func4, Try.ntmps4
    go_wp2_with fail
    refine (awake12 _).mono ?_
    rintro e w1 ⟨rfl, hb1⟩
    go_wp2_with fail
    refine (new_dev _).mono ?_
    rintro e w2 ⟨rfl, hD2, hb2⟩
    go_wp2_with fail
    go_ret
    exact ⟨rfl, hb1.trans (hb2.mono hb1.size)⟩
  by_cases hb : 20000 < ys.length
  · have ha' : decide ((20000 : Int) < (xs.length : Int)) = false := by simp; omega
    have hb' : (20000 : Int) < (ys.length : Int) := by omega
    go_enter Try.func4, Try.ntmps4
    go_wp2_with fail
    refine (awake12 _).mono ?_
    rintro e w1 ⟨rfl, hb1⟩
    go_wp2_with fail
    refine (new_dev _).mono ?_
    rintro e w2 ⟨rfl, hD2, hb2⟩
    go_wp2_with fail
    go_ret
    exact ⟨rfl, hb1.trans (hb2.mono hb1.size)⟩
  have ha' : decide ((20000 : Int) < (xs.length : Int)) = false := by simp; omega
  have hb' : decide ((20000 : Int) < (ys.length : Int)) = false := by simp; omega
  obtain ⟨m, hm⟩ : ∃ m : Nat, m = min (max keep 0).toNat ys.length := ⟨_, rfl⟩
  have hmy : m ≤ ys.length := by omega
  have Hm := Lib.hid hm
  clear hm
  have hkb := bounds_i64 hk
  go_enter Try.func4, Try.ntmps4
  go_wp2_with fail
  refine (awake12 _).mono ?_
  rintro e w1 ⟨rfl, hb1⟩
  go_wp2_with fail
  refine (new_dev _).mono ?_
  rintro e w2 ⟨rfl, hD2, hb2⟩
  have hb2' := hb1.trans (hb2.mono hb1.size)
  go_wp2_with fail
  refine (appendF (bs := []) hD2 (hx.at_ hb2') hx.byt (by simp; omega)).mono ?_
  rintro e w3 ⟨rfl, v3, hD3, hb3⟩
  have hb3' := hb2'.trans (hb3.mono hb1.size)
  go_wp2_with fail
  refine (syncF hD3).mono ?_
  rintro e w4 ⟨rfl, v4, hD4, hb4⟩
  have hb4' := hb3'.trans (hb4.mono hb1.size)
  go_wp2_with fail
  refine (appendF hD4 (hy.at_ hb4') hy.byt (by simp; omega)).mono ?_
  rintro e w5 ⟨rfl, v5, hD5, hb5⟩
  have hb5' := hb4'.trans (hb5.mono hb1.size)
  go_wp2_with fail
  refine (restartF (m := xs.length + m) keep hk hD5 (by rw [Hm.out]; simp)).mono ?_
  rintro e w6 ⟨rfl, v6, hD6, hb6⟩
  have hb6' := hb5'.trans (hb6.mono hb1.size)
  obtain ⟨zs, hzs⟩ : ∃ zs, zs = ys.take m := ⟨_, rfl⟩
  obtain ⟨us, hus⟩ : ∃ us, us = xs ++ zs := ⟨_, rfl⟩
  rw [show List.take (xs.length + m) ([] ++ xs ++ ys) = us from by rw [hus, hzs, List.nil_append, List.take_append, List.take_of_length_le (by omega)]; congr 2; omega] at hD6
  have hzl : zs.length = m := by rw [hzs, List.length_take]; omega
  have hcx := conv_reads (hx.at_ hb6').drew c0
  have hcy := conv_reads ((hy.at_ hb6').take hmy).drew c1
  rw [← hzs] at hcy
  have hadd : ∀ W : World, (Op.stringOp .add (strOfNums xs) (strOfNums zs)).run Try.prog W = .ok (.string (strOfNums us)) W := fun W => by
    rw [run_string_add_sum W _ _ (by rw [strOfNums_size, strOfNums_size]; omega), hus]
    congr 2
    simp [strOfNums, ByteArray.mk_append_mk]
  have hul : xs.length + m = us.length := by rw [hus, List.length_append]; omega
  rw [hul] at hD6
  clear hzs hzl hus hul
  have hss := beq_self_str us us rfl
  have hcase : (keep < 0 ∧ m = 0) ∨ (∃ k : Nat, keep = k ∧ k ≤ ys.length ∧ m = k) ∨ (∃ k : Nat, keep = k ∧ ys.length < k ∧ m = ys.length) := by
    have h1 := Hm.out
    by_cases k0 : keep < 0
    · exact .inl ⟨k0, by omega⟩
    · obtain ⟨k, rfl⟩ := Int.eq_ofNat_of_zero_le (by omega : 0 ≤ keep)
      by_cases k1 : k ≤ ys.length
      · exact .inr (.inl ⟨k, rfl, k1, by omega⟩)
      · exact .inr (.inr ⟨k, rfl, by omega, by omega⟩)
  rcases hcase with ⟨k0, rfl⟩ | ⟨k, rfl, k1, rfl⟩ | ⟨k, rfl, k1, rfl⟩
  all_goals
    go_wp2_with fail
    go_region
    go_wp2_with fail
    refine (bytes_dev hD6.drew).mono ?_
    rintro e w7 ⟨rfl, ho7, hb7⟩
    have hc7 : (convert 22 9 (.slice (some ⟨w6.heap.size, 0, none⟩) us.length us.length)).run Try.prog w7 = .ok (.string (strOfNums us)) w7 := conv_own ho7
    have hb7' := hb6'.drew.trans (hb7.mono hb6'.size)
    have hD7 := hD6.drew.belowAll hb7
    go_wp2_with fail
    refine (restartF (m := us.length) 0 (by decide) hD7 (by simp)).mono ?_
    rintro e w8 ⟨rfl, v8, hD8, hb8⟩
    have hb8' := hb7'.trans (hb8.mono hb1.size)
    rw [List.take_length] at hD8
    go_wp2_with fail
    refine (bytes_dev hD8).mono ?_
    rintro e w9 ⟨rfl, ho9, hb9⟩
    have hc9 : (convert 22 9 (.slice (some ⟨w8.heap.size, 0, none⟩) us.length us.length)).run Try.prog w9 = .ok (.string (strOfNums us)) w9 := conv_own ho9
    have hb9' := hb8'.trans (hb9.mono hb8'.size)
    go_wp2_with fail
    refine (off_dev (hD8.belowAll hb9)).mono ?_
    rintro e w10 ⟨rfl, rfl⟩
    go_wp2_with fail
    go_ret
    exact ⟨rfl, hb9'⟩
end Go.Proofs.Ytaakamjjglpibaa.Dv
