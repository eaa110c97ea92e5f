/-
  versolaw01's awake; UtfFixes' walk.
-/
import Derived.Test.YteijpcjhecmamaaDoorFixR
import Derived.Lib.SlBytesConst
namespace Go.Proofs.YteijpcjhecmamaaDoor.Uf
open Go.RowKit

def lit5 : List Int := [97, 13, 10, 98, 255]
theorem lit5_reads (w : World) : Reads (w.alloc (.cells #[.int .u8 97, .int .u8 13, .int .u8 10, .int .u8 98, .int .u8 255] 5 (5, 6))) (w.heap.size + 1) 1 (some ⟨w.heap.size, 0, none⟩) 5 (cellsOf lit5) := reads_new w lit5 (5, 6)
theorem lit5_fix : ((⟨(fixU (strOfNums lit5).data.toList).toArray⟩ : ByteArray).toList == [97, 10, 98, 239, 191, 189]) = true := by decide +kernel
theorem lit_low : ((⟨(lowL (⟨#[65, 98]⟩ : ByteArray).data.toList).toArray⟩ : ByteArray).toList == [97, 98]) = true := by decide +kernel
theorem lit_many : Lib.runeCount ⟨#[195, 169]⟩ = 1 := by decide +kernel

set_option maxRecDepth 100000 in
set_option maxHeartbeats 800000 in
theorem awake1 (w : World) : Calls Tryd.prog 8 #[] w fun e w' => e = .returned (.bool true) ∧ Below w.heap.size w w' := by
  have kc := fun (w : World) (C : Array Value) (n c : Nat) => Lib.run_convert_bytes_const (P := Tryd.prog) w 28 5 C n c Tryd.underlying28 Tryd.underlying5
  have hb0 : Below w.heap.size w (w.alloc (.cells #[.int .u8 97, .int .u8 13, .int .u8 10, .int .u8 98, .int .u8 255] 5 (5, 6))) := (Below.refl _ _).alloc (Nat.le_refl _) _
  have Hb0 := Lib.hid hb0
  obtain ⟨t, ht⟩ : ∃ t : ByteArray, t = ⟨(fixU (strOfNums lit5).data.toList).toArray⟩ := ⟨_, rfl⟩
  have h1 := lit5_fix
  rw [← ht] at h1
  obtain ⟨u, hu⟩ : ∃ u : ByteArray, u = ⟨(lowL (⟨#[65, 98]⟩ : ByteArray).data.toList).toArray⟩ := ⟨_, rfl⟩
  have h2 := lit_low
  rw [← hu] at h2
  have Ht := Lib.hid ht
  have Hu := Lib.hid hu
  clear ht hu hb0
  go_enter Tryd.func8, Tryd.ntmps8
  go_wp2_with fail
  refine (fix_u (lit5_reads w) (by simp) rfl (by decide)).mono ?_
  rintro e w1 ⟨rfl, hb1⟩
  rw [← Ht.out]
  have Hb1 := Lib.hid (Hb0.out.trans (hb1.mono (by simp)))
  clear hb1
  go_wp2_with fail
  refine (lower_u ⟨#[65, 98]⟩ (by decide)).mono ?_
  rintro e w2 ⟨rfl, hb2⟩
  rw [← Hu.out]
  have Hb2 := Lib.hid (Hb1.out.trans (hb2.mono Hb1.out.size))
  clear hb2
  go_wp2_with fail
  refine (many_u ⟨#[195, 169]⟩ (by decide)).mono ?_
  rintro e w3 ⟨rfl, hb3⟩
  rw [lit_many]
  have Hb3 := Lib.hid (Hb2.out.trans (hb3.mono Hb2.out.size))
  clear hb3
  go_wp2_with fail
  go_ret
  exact ⟨rfl, Hb3.out⟩

theorem str_size (xs : List Int) : (strOfNums xs).size = xs.length := by
  unfold strOfNums
  show (List.map (fun n => UInt8.ofNat n.toNat) xs).toArray.size = _
  simp

end Go.Proofs.YteijpcjhecmamaaDoor.Uf
