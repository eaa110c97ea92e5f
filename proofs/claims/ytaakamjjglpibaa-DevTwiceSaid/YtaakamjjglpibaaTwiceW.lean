/-
  DevTwice's walk: synced twice is as once; trimmed to all that is there nothing is changed.
-/
import Derived.Test.YtaakamjjglpibaaDevE
import Derived.Deep.RegionWith
namespace Go.Proofs.Ytaakamjjglpibaa.Dv
open Go.RowKit

set_option maxRecDepth 100000 in
set_option maxHeartbeats 800000 in
theorem twice_walk {w : World} {A B : Option Addr} {c0 c1 : Nat} {xs ys : List Int} (tr : Bool) (hx : Came w A c0 xs) (hy : Came w B c1 ys) :
    Calls Try.prog 7 #[.slice A xs.length c0, .slice B ys.length c1, .bool tr] w fun e w' => e = .returned (.bool true) ∧ Below w.heap.size w w' := by
  have hx1 := hx.fits
  have hx2 := hx.most
  have hy1 := hy.fits
  have hy2 := hy.most
  unfold maxLen at hx2 hy2
  by_cases ha : 10000 < xs.length
  · have ha' : (10000 : Int) < (xs.length : Int) := by omega
    go_enter Try.func7, Try.ntmps7
    go_wp2_with fail
    refine (awake12 _).mono ?_
    rintro e w1 ⟨rfl, hb1⟩
    go_wp2_with fail
    refine (new_dev _).mono ?_
    rintro e w2 ⟨rfl, hD2, hb2⟩
    go_wp2_with fail
    go_ret
    exact ⟨rfl, hb1.trans (hb2.mono hb1.size)⟩
  by_cases hb : 10000 < ys.length
  · have ha' : decide ((10000 : Int) < (xs.length : Int)) = false := by simp; omega
    have hb' : (10000 : Int) < (ys.length : Int) := by omega
    go_enter Try.func7, Try.ntmps7
    go_wp2_with fail
    refine (awake12 _).mono ?_
    rintro e w1 ⟨rfl, hb1⟩
    go_wp2_with fail
    refine (new_dev _).mono ?_
    rintro e w2 ⟨rfl, hD2, hb2⟩
    go_wp2_with fail
    go_ret
    exact ⟨rfl, hb1.trans (hb2.mono hb1.size)⟩
  have ha' : decide ((10000 : Int) < (xs.length : Int)) = false := by simp; omega
  have hb' : decide ((10000 : Int) < (ys.length : Int)) = false := by simp; omega
  cases tr with
  | true =>
    go_enter Try.func7, Try.ntmps7
    go_wp2_with fail
    refine (awake12 _).mono ?_
    rintro e w1 ⟨rfl, hb1⟩
    go_wp2_with fail
    refine (new_dev _).mono ?_
    rintro e w2 ⟨rfl, hD2, hb2⟩
    have hb2' := hb1.trans (hb2.mono hb1.size)
    go_wp2_with fail
    refine (appendF (bs := []) hD2 (hx.at_ hb2') hx.byt (by simp; omega)).mono ?_
    rintro e w3 ⟨rfl, v3, hD3, hb3⟩
    have hb3' := hb2'.trans (hb3.mono hb1.size)
    go_wp2_with fail
    refine (trimF xs.length hD3 (by simp)).mono ?_
    rintro e w4 ⟨rfl, v4, hD4, hb4⟩
    have hb4' := hb3'.trans (hb4.mono hb1.size)
    go_wp2_with fail
    refine (appendF hD4 (hy.at_ hb4') hy.byt (by simp; omega)).mono ?_
    rintro e w5 ⟨rfl, v5, hD5, hb5⟩
    have hb5' := hb4'.trans (hb5.mono hb1.size)
    go_wp2_with fail
    refine (restartF (m := xs.length) 0 (by decide) hD5 (by simp)).mono ?_
    rintro e w6 ⟨rfl, v6, hD6, hb6⟩
    have hb6' := hb5'.trans (hb6.mono hb1.size)
    rw [show List.take xs.length (List.take xs.length ([] ++ xs) ++ ys) = xs from by simp] at hD6
    go_wp2_with fail
    have hca6 := conv_reads (hx.at_ hb6').drew c0
    have hss := beq_self_str xs xs rfl
    go_region_with (go_at_call 17; refine (bytes_dev hD6.drew).mono ?_; rintro e w7 ⟨rfl, ho7, hb7⟩; have hc7 : (convert 22 9 (.slice (some ⟨w6.heap.size, 0, none⟩) xs.length xs.length)).run Try.prog w7 = .ok (.string (strOfNums xs)) w7 := conv_own ho7; have hb7' := hb6'.drew.trans (hb7.mono hb6'.size); have hca7 := conv_reads (hx.at_ hb7') c0)
    all_goals
      go_simp
      go_wp2_with fail
      go_ret
      exact ⟨rfl, hb7'⟩
  | false =>
    go_enter Try.func7, Try.ntmps7
    go_wp2_with fail
    refine (awake12 _).mono ?_
    rintro e w1 ⟨rfl, hb1⟩
    go_wp2_with fail
    refine (new_dev _).mono ?_
    rintro e w2 ⟨rfl, hD2, hb2⟩
    have hb2' := hb1.trans (hb2.mono hb1.size)
    go_wp2_with fail
    refine (appendF (bs := []) hD2 (hx.at_ hb2') hx.byt (by simp; omega)).mono ?_
    rintro e w3 ⟨rfl, v3, hD3, hb3⟩
    have hb3' := hb2'.trans (hb3.mono hb1.size)
    go_wp2_with fail
    refine (syncF hD3).mono ?_
    rintro e w4 ⟨rfl, v4, hD4, hb4⟩
    have hb4' := hb3'.trans (hb4.mono hb1.size)
    go_wp2_with fail
    refine (syncF hD4).mono ?_
    rintro e w4b ⟨rfl, v4b, hD4b, hb4b⟩
    have hb4b' := hb4'.trans (hb4b.mono hb1.size)
    go_wp2_with fail
    refine (appendF hD4b (hy.at_ hb4b') hy.byt (by simp; omega)).mono ?_
    rintro e w5 ⟨rfl, v5, hD5, hb5⟩
    have hb5' := hb4b'.trans (hb5.mono hb1.size)
    go_wp2_with fail
    refine (restartF (m := xs.length) 0 (by decide) hD5 (by simp)).mono ?_
    rintro e w6 ⟨rfl, v6, hD6, hb6⟩
    have hb6' := hb5'.trans (hb6.mono hb1.size)
    rw [show List.take xs.length ([] ++ xs ++ ys) = xs from by simp] at hD6
    go_wp2_with fail
    have hca6 := conv_reads (hx.at_ hb6').drew c0
    have hss := beq_self_str xs xs rfl
    go_region_with (go_at_call 17; refine (bytes_dev hD6.drew).mono ?_; rintro e w7 ⟨rfl, ho7, hb7⟩; have hc7 : (convert 22 9 (.slice (some ⟨w6.heap.size, 0, none⟩) xs.length xs.length)).run Try.prog w7 = .ok (.string (strOfNums xs)) w7 := conv_own ho7; have hb7' := hb6'.drew.trans (hb7.mono hb6'.size); have hca7 := conv_reads (hx.at_ hb7') c0)
    all_goals
      go_simp
      go_wp2_with fail
      go_ret
      exact ⟨rfl, hb7'⟩
end Go.Proofs.Ytaakamjjglpibaa.Dv
