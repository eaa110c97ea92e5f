/-
  FlogBytes' walk: what is told of any bytes, and what they are trimmed to.
-/
import Derived.Test.YtaakamjjglpibaaFrames
import Derived.Test.YtaakamjjglpibaaLastsW
import Derived.Deep.RegionHeld3
namespace Go.Proofs.Ytaakamjjglpibaa.Dv
open Go.RowKit

set_option maxRecDepth 100000 in
set_option maxHeartbeats 3200000 in
theorem bytes_walk {w : World} {A : Option Addr} {c0 : Nat} {xs : List Int} (hx : Came w A c0 xs) (h1 : xs.length ≤ 60000) :
    Calls Try.prog 9 #[.slice A xs.length c0] w fun e w' => e = .returned (.bool true) ∧ Below w.heap.size w w' := by
  have hx1 := hx.fits
  have hx2 := hx.most
  have t1 : decide ((60000 : Int) < (xs.length : Int)) = false := by simp; omega
  obtain ⟨k1, hk1⟩ := openS_some xs xs.length
  obtain ⟨ys, hys⟩ : ∃ ys, ys = xs.take (ends xs) := ⟨_, rfl⟩
  obtain ⟨T, hT⟩ : ∃ T, T = texts xs := ⟨_, rfl⟩
  have hle := texts_le xs
  have hyl : ends xs = ys.length := by rw [hys, List.length_take]; omega
  have hyc : ys.length ≤ c0 := by omega
  have hTl : T.length ≤ 60000 := by have := texts_count xs; rw [hT]; omega
  rw [← hys] at hk1
  have Hk1 := Lib.hid hk1
  have HT := Lib.hid hT
  have Hyl := Lib.hid hyl
  have Hx : Hid (∀ w', Below w.heap.size w w' → Reads w' w.heap.size 1 A ys.length (cellsOf ys)) := by
    show ∀ w', _ → _
    intro w' hb
    have h := Reads.take (hx.at_ hb) (m := ys.length) (by omega)
    rw [← hyl, ← hys] at h
    rw [← hyl]
    exact h
  clear hk1 hys hT hle hyl
  go_enter Try.func9, Try.ntmps9
  go_wp2_with fail
  refine (awake13 _).mono ?_
  rintro e w1 ⟨rfl, hb1⟩
  go_wp2_with fail
  refine (new_dev _).mono ?_
  rintro e w2 ⟨rfl, hD2, hb2⟩
  have hb2' := hb1.trans (hb2.mono hb1.size)
  go_wp2_with fail
  refine (appendF (bs := []) (last := 0) hD2 (hx.at_ hb2') hx.byt (by simp; omega)).mono ?_
  rintro e w3 ⟨rfl, v3, hD3, hb3⟩
  rw [List.nil_append] at hD3
  have hb3' := hb2'.trans (hb3.mono hb1.size)
  go_wp2_with fail
  refine (syncF hD3).mono ?_
  rintro e w4 ⟨rfl, v4, hD4, hb4⟩
  have hb4' := hb3'.trans (hb4.mono hb1.size)
  go_wp2_with fail
  refine (openF (s := ⟨ys, k1, -1, false⟩) (l := T) hD4 HT.out.symm Hk1.out).mono ?_
  rintro e w5 ⟨L5, ao5, c5, v5, rfl, hD5, hL5, hs5, hO5, hv5⟩
  have hb5' := hb4'.trans ((hO5.devBelow hD4).mono hb1.size)
  clear hO5 hv5 hD4 hD3
  go_wp2_with fail
  refine (frames_ref rfl (hx.at_ hb5') hx.byt h1 hx1 hx2 hb5'.size).mono ?_
  rintro e w6 ⟨ao6, c6, rfl, hs6, hb6⟩
  rw [← HT.out, Hyl.out]
  rw [← HT.out] at hs6
  have hb6' := hb5'.trans (hb6.mono hb5'.size)
  have hs5' := row_below hs5 hb6
  have hD6 := hD5.belowAll hb6
  have hL6 := hL5.below hb6 hL5.lt
  clear hb6 hs5 hD5 hL5
  go_wp2_with fail
  refine (same_ref (Reads.of_own hs5') (Reads.of_own hs6) (by omega) (by omega)).mono ?_
  rintro e w8 ⟨rfl, q, hw8⟩
  rw [sameB_self T]
  have hb8 : Below w6.heap.size w6 w8 := by rw [hw8]; exact drewN_below _ _ _
  have Hb8 := Lib.hid (hb6'.trans (hb8.mono hb6'.size))
  have HD8 := Lib.hid (hD6.belowAll hb8)
  have HL8 := Lib.hid (hL6.below hb8 hL6.lt)
  have hca8 := conv_reads (Hx.out w8.drew Hb8.out.drew) c0
  have hss := beq_self_str ys ys rfl
  clear hw8 hb8 hs5' hs6 hD6 hL6 hb6' hb5' hb4' hb3' hb2' hb2 hb3 hb4 hx hx1 hx2 t1 h1 hTl hb1 Hk1 HT Hyl hD2
  go_wp2_with fail
  refine wp_region_held_drew (S := fun W => (convert 22 9 (.slice A ys.length c0)).run Try.prog W = .ok (.string (strOfNums ys)) W) (by kernel_rfl) hca8 (fun hHeld => ?_)
  refine wpAnyH_take (i := 0) (oi := { dst := some 44, op := Go.Op.move (Go.Operand.tmp 3), type := 4, pos := "law.go:93", after := #[], guard := none }) (v := ?_) rfl (by kernel_rfl) (by kernel_rfl) (by kernel_rfl) (fun _ _ _ h => h) (Or.inl ⟨by rfl, ?_⟩) (by assumption) ?_
  rotate_left
  · intro w hSw
    go_simp
    try with_reducible rfl
  simp only [Act.put, List.setIfInBounds_toArray, List.set_cons_zero, List.set_cons_succ]
  refine wpAnyH_take (i := 1) (oi := { dst := some 45, op := Go.Op.move (Go.Operand.tmp 44), type := 4, pos := "law.go:93", after := #[{ on := 0, ground := Go.Ground.data }], guard := none }) (v := ?_) rfl (by kernel_rfl) (by kernel_rfl) (by kernel_rfl) (fun _ _ _ h => h) (Or.inl ⟨by rfl, ?_⟩) (by assumption) ?_
  rotate_left
  · intro w hSw
    go_simp
    try with_reducible rfl
  simp only [Act.put, List.setIfInBounds_toArray, List.set_cons_zero, List.set_cons_succ]
  refine wpAnyH_take (i := 2) (oi := { dst := some 46, op := Go.Op.move (Go.Operand.tmp 7), type := 26, pos := "law.go:93", after := #[{ on := 1, ground := Go.Ground.guard }], guard := some (1, true) }) (v := ?_) rfl (by kernel_rfl) (by kernel_rfl) (by kernel_rfl) (fun _ _ _ h => h) (Or.inl ⟨by rfl, ?_⟩) (by assumption) ?_
  rotate_left
  · intro w hSw
    go_simp
    try with_reducible rfl
  simp only [Act.put, List.setIfInBounds_toArray, List.set_cons_zero, List.set_cons_succ]
  refine wpAnyH_take (i := 3) (oi := { dst := some 47, op := Go.Op.binOp Go.BinOp.eql 26 (Go.Operand.tmp 46) (Go.Operand.const (Go.Value.int Go.IntKind.i64 0)) 26, type := 4, pos := "law.go:93", after := #[{ on := 2, ground := Go.Ground.data }, { on := 1, ground := Go.Ground.guard }], guard := some (1, true) }) (v := ?_) rfl (by kernel_rfl) (by kernel_rfl) (by kernel_rfl) (fun _ _ _ h => h) (Or.inl ⟨by rfl, ?_⟩) (by assumption) ?_
  rotate_left
  · intro w hSw
    go_simp
    try with_reducible rfl
  simp only [Act.put, List.setIfInBounds_toArray, List.set_cons_zero, List.set_cons_succ]
  refine wpAnyH_take (i := 4) (oi := { dst := some 48, op := Go.Op.pick (Go.Operand.tmp 45) (Go.Operand.tmp 47) (Go.Operand.const (Go.Value.bool false)), type := 4, pos := "law.go:93", after := #[{ on := 1, ground := Go.Ground.data }, { on := 3, ground := Go.Ground.data }], guard := none }) (v := ?_) rfl (by kernel_rfl) (by kernel_rfl) (by kernel_rfl) (fun _ _ _ h => h) (Or.inl ⟨by rfl, ?_⟩) (by assumption) ?_
  rotate_left
  · intro w hSw
    go_simp
    try with_reducible rfl
  simp only [Act.put, List.setIfInBounds_toArray, List.set_cons_zero, List.set_cons_succ]
  refine wpAnyH_take (i := 5) (oi := { dst := some 49, op := Go.Op.move (Go.Operand.tmp 48), type := 4, pos := "law.go:93", after := #[{ on := 4, ground := Go.Ground.data }, { on := 1, ground := Go.Ground.chain }], guard := none }) (v := ?_) rfl (by kernel_rfl) (by kernel_rfl) (by kernel_rfl) (fun _ _ _ h => h) (Or.inl ⟨by rfl, ?_⟩) (by assumption) ?_
  rotate_left
  · intro w hSw
    go_simp
    try with_reducible rfl
  simp only [Act.put, List.setIfInBounds_toArray, List.set_cons_zero, List.set_cons_succ]
  refine wpAnyH_take (i := 6) (oi := { dst := some 50, op := Go.Op.move (Go.Operand.tmp 5), type := 44, pos := "law.go:93", after := #[{ on := 5, ground := Go.Ground.guard }], guard := some (5, true) }) (v := ?_) rfl (by kernel_rfl) (by kernel_rfl) (by kernel_rfl) (fun _ _ _ h => h) (Or.inl ⟨by rfl, ?_⟩) (by assumption) ?_
  rotate_left
  · intro w hSw
    go_simp
    try with_reducible rfl
  simp only [Act.put, List.setIfInBounds_toArray, List.set_cons_zero, List.set_cons_succ]
  refine wpAnyH_take (i := 7) (oi := { dst := some 51, op := Go.Op.binOp Go.BinOp.neq 44 (Go.Operand.tmp 50) (Go.Operand.const (Go.Value.pointer none)) 44, type := 4, pos := "law.go:93", after := #[{ on := 6, ground := Go.Ground.data }, { on := 5, ground := Go.Ground.guard }], guard := some (5, true) }) (v := ?_) rfl (by kernel_rfl) (by kernel_rfl) (by kernel_rfl) (fun _ _ _ h => h) (Or.inl ⟨by rfl, ?_⟩) (by assumption) ?_
  rotate_left
  · intro w hSw
    go_simp
    try with_reducible rfl
  simp only [Act.put, List.setIfInBounds_toArray, List.set_cons_zero, List.set_cons_succ]
  refine wpAnyH_take (i := 8) (oi := { dst := some 52, op := Go.Op.pick (Go.Operand.tmp 49) (Go.Operand.tmp 51) (Go.Operand.const (Go.Value.bool false)), type := 4, pos := "law.go:93", after := #[{ on := 5, ground := Go.Ground.data }, { on := 7, ground := Go.Ground.data }], guard := none }) (v := ?_) rfl (by kernel_rfl) (by kernel_rfl) (by kernel_rfl) (fun _ _ _ h => h) (Or.inl ⟨by rfl, ?_⟩) (by assumption) ?_
  rotate_left
  · intro w hSw
    go_simp
    try with_reducible rfl
  simp only [Act.put, List.setIfInBounds_toArray, List.set_cons_zero, List.set_cons_succ]
  refine wpAnyH_take (i := 9) (oi := { dst := some 53, op := Go.Op.move (Go.Operand.tmp 52), type := 4, pos := "law.go:93", after := #[{ on := 8, ground := Go.Ground.data }, { on := 5, ground := Go.Ground.chain }], guard := none }) (v := ?_) rfl (by kernel_rfl) (by kernel_rfl) (by kernel_rfl) (fun _ _ _ h => h) (Or.inl ⟨by rfl, ?_⟩) (by assumption) ?_
  rotate_left
  · intro w hSw
    go_simp
    try with_reducible rfl
  simp only [Act.put, List.setIfInBounds_toArray, List.set_cons_zero, List.set_cons_succ]
  refine wpAnyH_take (i := 10) (oi := { dst := some 54, op := Go.Op.move (Go.Operand.tmp 10), type := 4, pos := "law.go:93", after := #[{ on := 9, ground := Go.Ground.guard }], guard := some (9, true) }) (v := ?_) rfl (by kernel_rfl) (by kernel_rfl) (by kernel_rfl) (fun _ _ _ h => h) (Or.inl ⟨by rfl, ?_⟩) (by assumption) ?_
  rotate_left
  · intro w hSw
    go_simp
    try with_reducible rfl
  simp only [Act.put, List.setIfInBounds_toArray, List.set_cons_zero, List.set_cons_succ]
  refine wpAnyH_take (i := 11) (oi := { dst := some 55, op := Go.Op.pick (Go.Operand.tmp 53) (Go.Operand.tmp 54) (Go.Operand.const (Go.Value.bool false)), type := 4, pos := "law.go:93", after := #[{ on := 9, ground := Go.Ground.data }, { on := 10, ground := Go.Ground.data }], guard := none }) (v := ?_) rfl (by kernel_rfl) (by kernel_rfl) (by kernel_rfl) (fun _ _ _ h => h) (Or.inl ⟨by rfl, ?_⟩) (by assumption) ?_
  rotate_left
  · intro w hSw
    go_simp
    try with_reducible rfl
  simp only [Act.put, List.setIfInBounds_toArray, List.set_cons_zero, List.set_cons_succ]
  refine wpAnyH_take (i := 12) (oi := { dst := some 56, op := Go.Op.move (Go.Operand.tmp 55), type := 4, pos := "law.go:93", after := #[{ on := 11, ground := Go.Ground.data }, { on := 9, ground := Go.Ground.chain }], guard := none }) (v := ?_) rfl (by kernel_rfl) (by kernel_rfl) (by kernel_rfl) (fun _ _ _ h => h) (Or.inl ⟨by rfl, ?_⟩) (by assumption) ?_
  rotate_left
  · intro w hSw
    go_simp
    try with_reducible rfl
  simp only [Act.put, List.setIfInBounds_toArray, List.set_cons_zero, List.set_cons_succ]
  refine wpAnyH_take (i := 13) (oi := { dst := some 57, op := Go.Op.move (Go.Operand.tmp 5), type := 44, pos := "law.go:93", after := #[{ on := 12, ground := Go.Ground.guard }], guard := some (12, true) }) (v := ?_) rfl (by kernel_rfl) (by kernel_rfl) (by kernel_rfl) (fun _ _ _ h => h) (Or.inl ⟨by rfl, ?_⟩) (by assumption) ?_
  rotate_left
  · intro w hSw
    go_simp
    try with_reducible rfl
  simp only [Act.put, List.setIfInBounds_toArray, List.set_cons_zero, List.set_cons_succ]
  refine wpAnyH_take (i := 15) (oi := { dst := some 59, op := Go.Op.move (Go.Operand.tmp 9), type := 3, pos := "law.go:93", after := #[{ on := 12, ground := Go.Ground.guard }], guard := some (12, true) }) (v := ?_) rfl (by kernel_rfl) (by kernel_rfl) (by kernel_rfl) (fun _ _ _ h => h) (Or.inl ⟨by rfl, ?_⟩) (by assumption) ?_
  rotate_left
  · intro w hSw
    go_simp
    try with_reducible rfl
  simp only [Act.put, List.setIfInBounds_toArray, List.set_cons_zero, List.set_cons_succ]
  refine wpAnyH_ready (rs := [14]) (by kernel_rfl) (by simp) ?_
  refine AllReadyH.cons (o := { dst := some 58, op := Go.Op.call { callee := Go.Callee.value (Go.Operand.func 34), args := #[Go.Operand.tmp 57], argTypes := #[44] }, type := 3, pos := "law.go:93", after := #[{ on := 13, ground := Go.Ground.data }, { on := 12, ground := Go.Ground.chain }, { on := 12, ground := Go.Ground.guard }], guard := some (12, true) }) rfl (fun K hK => ?_) AllReadyH.nil
  go_simp
  refine (size_log HD8.out.drew HL8.out).mono ?_
  rintro e w9 ⟨rfl, hb9⟩
  have hb9' := Hb8.out.drew.trans (hb9.mono Hb8.out.size)
  have hca9 : (convert 22 9 (.slice A ys.length c0)).run Try.prog w9 = .ok (.string (strOfNums ys)) w9 := conv_reads (Hx.out w9 hb9') c0
  have HD9 := Lib.hid (HD8.out.drew.belowAll hb9)
  clear hb9
  refine hK.out _ _ hca9 (fun hHeld => ?_)
  clear hK K
  refine wpAnyH_take (i := 16) (oi := { dst := some 60, op := Go.Op.binOp Go.BinOp.eql 3 (Go.Operand.tmp 58) (Go.Operand.tmp 59) 3, type := 4, pos := "law.go:93", after := #[{ on := 14, ground := Go.Ground.data }, { on := 15, ground := Go.Ground.data }, { on := 12, ground := Go.Ground.guard }], guard := some (12, true) }) (v := ?_) rfl (by kernel_rfl) (by kernel_rfl) (by kernel_rfl) (fun _ _ _ h => h) (Or.inl ⟨by rfl, ?_⟩) (by assumption) ?_
  rotate_left
  · intro w hSw
    go_simp
    try with_reducible rfl
  simp only [Act.put, List.setIfInBounds_toArray, List.set_cons_zero, List.set_cons_succ]
  refine wpAnyH_take (i := 17) (oi := { dst := some 61, op := Go.Op.pick (Go.Operand.tmp 56) (Go.Operand.tmp 60) (Go.Operand.const (Go.Value.bool false)), type := 4, pos := "law.go:93", after := #[{ on := 12, ground := Go.Ground.data }, { on := 16, ground := Go.Ground.data }], guard := none }) (v := ?_) rfl (by kernel_rfl) (by kernel_rfl) (by kernel_rfl) (fun _ _ _ h => h) (Or.inl ⟨by rfl, ?_⟩) (by assumption) ?_
  rotate_left
  · intro w hSw
    go_simp
    try with_reducible rfl
  simp only [Act.put, List.setIfInBounds_toArray, List.set_cons_zero, List.set_cons_succ]
  refine wpAnyH_take (i := 18) (oi := { dst := some 62, op := Go.Op.move (Go.Operand.tmp 61), type := 4, pos := "law.go:93", after := #[{ on := 17, ground := Go.Ground.data }, { on := 14, ground := Go.Ground.chain }], guard := none }) (v := ?_) rfl (by kernel_rfl) (by kernel_rfl) (by kernel_rfl) (fun _ _ _ h => h) (Or.inl ⟨by rfl, ?_⟩) (by assumption) ?_
  rotate_left
  · intro w hSw
    go_simp
    try with_reducible rfl
  simp only [Act.put, List.setIfInBounds_toArray, List.set_cons_zero, List.set_cons_succ]
  refine wpAnyH_take (i := 19) (oi := { dst := some 63, op := Go.Op.move (Go.Operand.tmp 4), type := 24, pos := "law.go:93", after := #[{ on := 18, ground := Go.Ground.guard }], guard := some (18, true) }) (v := ?_) rfl (by kernel_rfl) (by kernel_rfl) (by kernel_rfl) (fun _ _ _ h => h) (Or.inl ⟨by rfl, ?_⟩) (by assumption) ?_
  rotate_left
  · intro w hSw
    go_simp
    try with_reducible rfl
  simp only [Act.put, List.setIfInBounds_toArray, List.set_cons_zero, List.set_cons_succ]
  refine wpAnyH_take (i := 22) (oi := { dst := some 66, op := Go.Op.move (Go.Operand.tmp 0), type := 22, pos := "law.go:93", after := #[{ on := 18, ground := Go.Ground.guard }], guard := some (18, true) }) (v := ?_) rfl (by kernel_rfl) (by kernel_rfl) (by kernel_rfl) (fun _ _ _ h => h) (Or.inl ⟨by rfl, ?_⟩) (by assumption) ?_
  rotate_left
  · intro w hSw
    go_simp
    try with_reducible rfl
  simp only [Act.put, List.setIfInBounds_toArray, List.set_cons_zero, List.set_cons_succ]
  refine wpAnyH_take (i := 23) (oi := { dst := some 67, op := Go.Op.move (Go.Operand.tmp 9), type := 3, pos := "law.go:93", after := #[{ on := 18, ground := Go.Ground.guard }], guard := some (18, true) }) (v := ?_) rfl (by kernel_rfl) (by kernel_rfl) (by kernel_rfl) (fun _ _ _ h => h) (Or.inl ⟨by rfl, ?_⟩) (by assumption) ?_
  rotate_left
  · intro w hSw
    go_simp
    try with_reducible rfl
  simp only [Act.put, List.setIfInBounds_toArray, List.set_cons_zero, List.set_cons_succ]
  refine wpAnyH_take (i := 24) (oi := { dst := some 68, op := Go.Op.slice 22 (Go.Operand.tmp 66) none (some (Go.Operand.tmp 67)) none, type := 22, pos := "law.go:93", after := #[{ on := 22, ground := Go.Ground.data }, { on := 23, ground := Go.Ground.data }, { on := 18, ground := Go.Ground.guard }], guard := some (18, true) }) (v := ?_) rfl (by kernel_rfl) (by kernel_rfl) (by kernel_rfl) (fun _ _ _ h => h) (Or.inl ⟨by rfl, ?_⟩) (by assumption) ?_
  rotate_left
  · intro w hSw
    go_simp
    try with_reducible rfl
  simp only [Act.put, List.setIfInBounds_toArray, List.set_cons_zero, List.set_cons_succ]
  refine wpAnyH_take (i := 25) (oi := { dst := some 69, op := Go.Op.convert 22 9 (Go.Operand.tmp 68), type := 9, pos := "law.go:93", after := #[{ on := 24, ground := Go.Ground.data }, { on := 18, ground := Go.Ground.guard }], guard := some (18, true) }) (v := ?_) rfl (by kernel_rfl) (by kernel_rfl) (by kernel_rfl) (fun _ _ _ h => h) (Or.inl ⟨by rfl, ?_⟩) (by assumption) ?_
  rotate_left
  · intro w hSw
    go_simp
    try with_reducible rfl
  simp only [Act.put, List.setIfInBounds_toArray, List.set_cons_zero, List.set_cons_succ]
  refine wpAnyH_ready (rs := [20]) (by kernel_rfl) (by simp) ?_
  refine AllReadyH.cons (o := { dst := some 64, op := Go.Op.call { callee := Go.Callee.value (Go.Operand.func 17), args := #[Go.Operand.tmp 63], argTypes := #[24] }, type := 22, pos := "law.go:93", after := #[{ on := 19, ground := Go.Ground.data }, { on := 18, ground := Go.Ground.chain }, { on := 18, ground := Go.Ground.guard }], guard := some (18, true) }) rfl (fun K hK => ?_) AllReadyH.nil
  go_simp
  refine (bytes_dev HD9.out).mono ?_
  rintro e w10 ⟨rfl, ho10, hb10⟩
  have hc10 : (convert 22 9 (.slice (some ⟨w9.heap.size, 0, none⟩) ys.length ys.length)).run Try.prog w10 = .ok (.string (strOfNums ys)) w10 := conv_own ho10
  have hb10' := hb9'.trans (hb10.mono hb9'.size)
  have hca10 : (convert 22 9 (.slice A ys.length c0)).run Try.prog w10 = .ok (.string (strOfNums ys)) w10 := conv_reads (Hx.out w10 hb10') c0
  clear ho10 hb10
  refine hK.out _ _ hca10 (fun hHeld => ?_)
  clear hK K
  refine wpAnyH_ready (rs := [21]) (by kernel_rfl) (by simp) ?_
  refine AllReadyH.cons (o := { dst := some 65, op := Go.Op.convert 22 9 (Go.Operand.tmp 64), type := 9, pos := "law.go:93", after := #[{ on := 20, ground := Go.Ground.data }, { on := 18, ground := Go.Ground.guard }], guard := some (18, true) }) rfl (fun K hK => ?_) AllReadyH.nil
  go_simp
  refine hK.out _ _ hca10 (fun hHeld => ?_)
  clear hK K
  refine wpAnyH_take (i := 26) (oi := { dst := some 70, op := Go.Op.binOp Go.BinOp.eql 9 (Go.Operand.tmp 65) (Go.Operand.tmp 69) 9, type := 4, pos := "law.go:93", after := #[{ on := 21, ground := Go.Ground.data }, { on := 25, ground := Go.Ground.data }, { on := 18, ground := Go.Ground.guard }], guard := some (18, true) }) (v := ?_) rfl (by kernel_rfl) (by kernel_rfl) (by kernel_rfl) (fun _ _ _ h => h) (Or.inl ⟨by rfl, ?_⟩) (by assumption) ?_
  rotate_left
  · intro w hSw
    go_simp
    try with_reducible rfl
  simp only [Act.put, List.setIfInBounds_toArray, List.set_cons_zero, List.set_cons_succ]
  refine wpAnyH_take (i := 27) (oi := { dst := some 71, op := Go.Op.pick (Go.Operand.tmp 62) (Go.Operand.tmp 70) (Go.Operand.const (Go.Value.bool false)), type := 4, pos := "law.go:93", after := #[{ on := 18, ground := Go.Ground.data }, { on := 26, ground := Go.Ground.data }], guard := none }) (v := ?_) rfl (by kernel_rfl) (by kernel_rfl) (by kernel_rfl) (fun _ _ _ h => h) (Or.inl ⟨by rfl, ?_⟩) (by assumption) ?_
  rotate_left
  · intro w hSw
    go_simp
    try with_reducible rfl
  simp only [Act.put, List.setIfInBounds_toArray, List.set_cons_zero, List.set_cons_succ]
  refine wpAnyH_take (i := 28) (oi := { dst := some 2, op := Go.Op.assign (Go.Operand.tmp 71), type := 4, pos := "law.go:93", after := #[{ on := 27, ground := Go.Ground.data }, { on := 20, ground := Go.Ground.chain }, { on := 0, ground := Go.Ground.phase }, { on := 1, ground := Go.Ground.phase }, { on := 2, ground := Go.Ground.phase }, { on := 3, ground := Go.Ground.phase }, { on := 4, ground := Go.Ground.phase }, { on := 5, ground := Go.Ground.phase }, { on := 6, ground := Go.Ground.phase }, { on := 7, ground := Go.Ground.phase }, { on := 8, ground := Go.Ground.phase }, { on := 9, ground := Go.Ground.phase }, { on := 10, ground := Go.Ground.phase }, { on := 11, ground := Go.Ground.phase }, { on := 12, ground := Go.Ground.phase }, { on := 13, ground := Go.Ground.phase }, { on := 14, ground := Go.Ground.phase }, { on := 15, ground := Go.Ground.phase }, { on := 16, ground := Go.Ground.phase }, { on := 17, ground := Go.Ground.phase }, { on := 18, ground := Go.Ground.phase }, { on := 19, ground := Go.Ground.phase }, { on := 20, ground := Go.Ground.phase }, { on := 21, ground := Go.Ground.phase }, { on := 22, ground := Go.Ground.phase }, { on := 23, ground := Go.Ground.phase }, { on := 24, ground := Go.Ground.phase }, { on := 25, ground := Go.Ground.phase }, { on := 26, ground := Go.Ground.phase }, { on := 27, ground := Go.Ground.phase }], guard := none }) (v := ?_) rfl (by kernel_rfl) (by kernel_rfl) (by kernel_rfl) (fun _ _ _ h => h) (Or.inl ⟨by rfl, ?_⟩) (by assumption) ?_
  rotate_left
  · intro w hSw
    go_simp
    try with_reducible rfl
  simp only [Act.put, List.setIfInBounds_toArray, List.set_cons_zero, List.set_cons_succ]
  refine wpAnyH_done (by kernel_rfl) ?_ _
  go_wp2_with fail
  go_ret
  exact ⟨rfl, hb10'⟩

set_option maxRecDepth 100000 in
theorem bytes_all {w : World} {A : Option Addr} {c0 : Nat} {xs : List Int} (hx : Came w A c0 xs) :
    Calls Try.prog 9 #[.slice A xs.length c0] w fun e w' => e = .returned (.bool true) ∧ Below w.heap.size w w' := by
  by_cases h : xs.length ≤ 60000
  · exact bytes_walk hx h
  · have t2 : decide ((60000 : Int) < (xs.length : Int)) = true := by simp; omega
    clear hx
    go_enter Try.func9, Try.ntmps9
    go_wp2_with fail
    refine (awake13 _).mono ?_
    rintro e w1 ⟨rfl, hb1⟩
    go_wp2_with fail
    refine (new_dev _).mono ?_
    rintro e w2 ⟨rfl, hD2, hb2⟩
    go_wp2_with fail
    go_ret
    exact ⟨rfl, hb1.trans (hb2.mono hb1.size)⟩
end Go.Proofs.Ytaakamjjglpibaa.Dv
