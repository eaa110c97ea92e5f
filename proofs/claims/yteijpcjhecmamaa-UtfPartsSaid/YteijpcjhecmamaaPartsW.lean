/-
  UtfParts' walk: what is cut is a beginning; with what is left it has as many characters as all.
-/
import Derived.Test.YteijpcjhecmamaaPartsP
import Derived.Deep.RegionHeld3
namespace Go.Proofs.Yteijpcjhecmamaa.Uf
open Go.RowKit

theorem drop_extract (s : ByteArray) (c : Nat) : s.extract c s.size = ⟨(s.data.toList.drop c).toArray⟩ := by
  have h : (s.extract c s.size).data.toList = s.data.toList.drop c := by
    simp only [ByteArray.data_extract, Array.toList_extract, List.extract_eq_take_drop]
    exact List.take_of_length_le (by simp)
  rw [← h]
theorem count_L (l : List UInt8) : Lib.runeCount ⟨l.toArray⟩ = cntL l := by
  rw [runeCount_L]

set_option maxRecDepth 100000 in
set_option maxHeartbeats 3200000 in
theorem parts_walk {w : World} (s : ByteArray) (n : Nat) (hs : s.size ≤ 10000) (hn : n ≤ 20000) : Calls Try.prog 5 #[.string s, .int .i64 n] w fun e w' => e = .returned (.bool true) ∧ Below w.heap.size w w' := by
  have t1 : decide ((10000 : Int) < (s.size : Int)) = false := by simp; omega
  have t2 : decide ((n : Int) < 0) = false := by simp
  have t3 : decide ((20000 : Int) < (n : Int)) = false := by simp; omega
  obtain ⟨l, hl⟩ : ∃ l, l = s.data.toList := ⟨_, rfl⟩
  have hll : l.length = s.size := by rw [hl]; simp
  obtain ⟨C, hC⟩ : ∃ C, C = cutZ l n := ⟨_, rfl⟩
  have hC2 : C = cutN l.length l n := by
    rw [hC]
    unfold cutZ
    rw [if_neg (by omega)]
    rfl
  have hp := cut_parts l.length l n (Nat.le_refl _)
  have hcl := cutN_le l.length l n
  rw [← hC2] at hp hcl
  obtain ⟨a, ha⟩ : ∃ a : ByteArray, a = ⟨(l.take C).toArray⟩ := ⟨_, rfl⟩
  have has : a.size = C := by
    rw [ha]
    show (l.take C).toArray.size = C
    simp
    omega
  obtain ⟨r, hr⟩ : ∃ r : ByteArray, r = s.extract a.size s.size := ⟨_, rfl⟩
  have hr2 : r = ⟨(l.drop C).toArray⟩ := by rw [hr, has, drop_extract, hl]
  have hrs : r.size ≤ 10000 := by
    rw [hr]
    simp
    omega
  have hax : s.extract 0 a.size = a := by rw [has, take_extract, ← hl, ha]
  obtain ⟨ca, hca⟩ : ∃ ca, ca = Lib.runeCount a := ⟨_, rfl⟩
  obtain ⟨cr, hcr⟩ : ∃ cr, cr = Lib.runeCount r := ⟨_, rfl⟩
  obtain ⟨cs, hcs⟩ : ∃ cs, cs = Lib.runeCount s := ⟨_, rfl⟩
  have hsum : ca + cr = cs := by rw [hca, hcr, hcs, ha, hr2, count_L, count_L, runeCount_L, ← hl]; exact hp.1
  have hq : ((ca : Int) + (cr : Int) == (cs : Int)) = true := by simp; omega
  have hcsl : cs ≤ 10000 := by rw [hcs]; have := Lib.runeCount_le s; omega
  have hcal : ca ≤ 10000 := by omega
  have hcrl : cr ≤ 10000 := by omega
  have hroom : a.size < s.size → n - a.size < 4 := by rw [has, ← hll]; exact hp.2
  have han : a.size ≤ n := by omega
  have hal : a.size ≤ s.size := by omega
  have hsl : ∀ W : World, (Instr.slice 9 (.string s) (some (.int .i64 (a.size : Int))) none none).run Try.prog W = .ok (.string r) W := by
    intro W
    rw [run_slice_string_from_if _ _ _ _ _ Try.underlying9, if_pos (by omega), Int.toNat_natCast, hr]
  have hw1 : IntKind.i64.wrap ((ca : Int) + (cr : Int)) = (ca : Int) + (cr : Int) := by rw [IntKind.wrap_i64]; omega
  have hw2 : IntKind.i64.wrap ((n : Int) - (a.size : Int)) = (n : Int) - (a.size : Int) := by rw [IntKind.wrap_i64]; omega
  have Hcut := Lib.hid (show (⟨(s.data.toList.take (cutZ s.data.toList n)).toArray⟩ : ByteArray) = a by rw [← hl, ← hC, ha])
  have Hroom := Lib.hid hroom
  have u1 : decide ((n : Int) < (a.size : Int)) = false := by simp; omega
  have u2 : decide ((s.size : Int) < (a.size : Int)) = false := by simp; omega
  have u3 : (!(a.toList == a.toList)) = false := by simp
  have Hc := Lib.hid (And.intro hca.symm (And.intro hcr.symm hcs.symm))
  clear hca hcr hcs hl hll hC hC2 hp hcl ha has hr hr2 hsum hroom
  go_enter Try.func5, Try.ntmps5
  go_wp2_with fail
  refine (awake1 _).mono ?_
  rintro e w1 ⟨rfl, hb1⟩
  go_wp2_with fail
  refine (cut_u s n (by omega)).mono ?_
  rintro e w2 ⟨rfl, hb2⟩
  rw [Hcut.out]
  have hb2' := Lib.hid (hb1.trans (hb2.mono hb1.size)).drew
  clear hb1 hb2
  by_cases hz : a.size = s.size
  · have g1 : ((s.size : Int) - (a.size : Int) == 0) = true := by simp; omega
    have Hz := Lib.hid hz
    clear hz
    go_wp2_with fail
    refine wp_region_held_drew (S := fun _ => True) (by kernel_rfl) trivial (fun hHeld => ?_)
    refine wpAnyH_take (i := 0) (oi := { dst := some 48, op := Go.Op.move (Go.Operand.tmp 5), type := 4, pos := "law.go:71", after := #[], guard := none }) (v := ?_) rfl (by kernel_rfl) (by kernel_rfl) (by kernel_rfl) (fun _ _ _ h => h) (Or.inl ⟨by rfl, ?_⟩) (by assumption) ?_
    rotate_left
    · intro w hSw
      go_simp
      try with_reducible rfl
    simp only [Act.put, List.setIfInBounds_toArray, List.set_cons_zero, List.set_cons_succ]
    refine wpAnyH_take (i := 1) (oi := { dst := some 49, op := Go.Op.move (Go.Operand.tmp 48), type := 4, pos := "law.go:71", after := #[{ on := 0, ground := Go.Ground.data }], guard := none }) (v := ?_) rfl (by kernel_rfl) (by kernel_rfl) (by kernel_rfl) (fun _ _ _ h => h) (Or.inl ⟨by rfl, ?_⟩) (by assumption) ?_
    rotate_left
    · intro w hSw
      go_simp
      try with_reducible rfl
    simp only [Act.put, List.setIfInBounds_toArray, List.set_cons_zero, List.set_cons_succ]
    refine wpAnyH_take (i := 2) (oi := { dst := some 50, op := Go.Op.move (Go.Operand.tmp 6), type := 9, pos := "law.go:71", after := #[{ on := 1, ground := Go.Ground.guard }], guard := some (1, true) }) (v := ?_) rfl (by kernel_rfl) (by kernel_rfl) (by kernel_rfl) (fun _ _ _ h => h) (Or.inl ⟨by rfl, ?_⟩) (by assumption) ?_
    rotate_left
    · intro w hSw
      go_simp
      try with_reducible rfl
    simp only [Act.put, List.setIfInBounds_toArray, List.set_cons_zero, List.set_cons_succ]
    refine wpAnyH_take (i := 4) (oi := { dst := some 52, op := Go.Op.move (Go.Operand.tmp 0), type := 9, pos := "law.go:71", after := #[{ on := 1, ground := Go.Ground.guard }], guard := some (1, true) }) (v := ?_) rfl (by kernel_rfl) (by kernel_rfl) (by kernel_rfl) (fun _ _ _ h => h) (Or.inl ⟨by rfl, ?_⟩) (by assumption) ?_
    rotate_left
    · intro w hSw
      go_simp
      try with_reducible rfl
    simp only [Act.put, List.setIfInBounds_toArray, List.set_cons_zero, List.set_cons_succ]
    refine wpAnyH_take (i := 5) (oi := { dst := some 53, op := Go.Op.move (Go.Operand.tmp 6), type := 9, pos := "law.go:71", after := #[{ on := 1, ground := Go.Ground.guard }], guard := some (1, true) }) (v := ?_) rfl (by kernel_rfl) (by kernel_rfl) (by kernel_rfl) (fun _ _ _ h => h) (Or.inl ⟨by rfl, ?_⟩) (by assumption) ?_
    rotate_left
    · intro w hSw
      go_simp
      try with_reducible rfl
    simp only [Act.put, List.setIfInBounds_toArray, List.set_cons_zero, List.set_cons_succ]
    refine wpAnyH_take (i := 6) (oi := { dst := some 54, op := Go.Op.call { callee := Go.Callee.builtin Go.Builtin.len, args := #[Go.Operand.tmp 53], argTypes := #[9] }, type := 3, pos := "law.go:71", after := #[{ on := 5, ground := Go.Ground.data }, { on := 1, ground := Go.Ground.guard }], guard := some (1, true) }) (v := ?_) rfl (by kernel_rfl) (by kernel_rfl) (by kernel_rfl) (fun _ _ _ h => h) (Or.inl ⟨by rfl, ?_⟩) (by assumption) ?_
    rotate_left
    · intro w hSw
      go_simp
      try with_reducible rfl
    simp only [Act.put, List.setIfInBounds_toArray, List.set_cons_zero, List.set_cons_succ]
    refine wpAnyH_take (i := 7) (oi := { dst := some 55, op := Go.Op.slice 9 (Go.Operand.tmp 52) (some (Go.Operand.tmp 54)) none none, type := 9, pos := "law.go:71", after := #[{ on := 4, ground := Go.Ground.data }, { on := 6, ground := Go.Ground.data }, { on := 1, ground := Go.Ground.guard }], guard := some (1, true) }) (v := ?_) rfl (by kernel_rfl) (by kernel_rfl) (by kernel_rfl) (fun _ _ _ h => h) (Or.inl ⟨by rfl, ?_⟩) (by assumption) ?_
    rotate_left
    · intro w hSw
      go_simp
      try with_reducible rfl
    simp only [Act.put, List.setIfInBounds_toArray, List.set_cons_zero, List.set_cons_succ]
    refine wpAnyH_take (i := 10) (oi := { dst := some 58, op := Go.Op.move (Go.Operand.tmp 0), type := 9, pos := "law.go:71", after := #[{ on := 1, ground := Go.Ground.guard }], guard := some (1, true) }) (v := ?_) rfl (by kernel_rfl) (by kernel_rfl) (by kernel_rfl) (fun _ _ _ h => h) (Or.inl ⟨by rfl, ?_⟩) (by assumption) ?_
    rotate_left
    · intro w hSw
      go_simp
      try with_reducible rfl
    simp only [Act.put, List.setIfInBounds_toArray, List.set_cons_zero, List.set_cons_succ]
    refine wpAnyH_ready (rs := [3]) (by kernel_rfl) (by simp) ?_
    refine AllReadyH.cons (o := { dst := some 51, op := Go.Op.call { callee := Go.Callee.value (Go.Operand.func 11), args := #[Go.Operand.tmp 50], argTypes := #[9] }, type := 3, pos := "law.go:71", after := #[{ on := 2, ground := Go.Ground.data }, { on := 1, ground := Go.Ground.chain }, { on := 1, ground := Go.Ground.guard }], guard := some (1, true) }) rfl (fun K hK => ?_) AllReadyH.nil
    go_simp
    refine (many_u a (by omega)).mono ?_
    rintro e w3 ⟨rfl, hb3⟩
    have hb3' := Lib.hid (hb2'.out.trans (hb3.mono hb2'.out.size))
    rw [Hc.out.1]
    clear hb3
    refine hK.out _ _ trivial (fun hHeld => ?_)
    clear hK K
    refine wpAnyH_ready (rs := [8]) (by kernel_rfl) (by simp) ?_
    refine AllReadyH.cons (o := { dst := some 56, op := Go.Op.call { callee := Go.Callee.value (Go.Operand.func 11), args := #[Go.Operand.tmp 55], argTypes := #[9] }, type := 3, pos := "law.go:71", after := #[{ on := 7, ground := Go.Ground.data }, { on := 3, ground := Go.Ground.chain }, { on := 1, ground := Go.Ground.guard }], guard := some (1, true) }) rfl (fun K hK => ?_) AllReadyH.nil
    go_simp
    refine (many_u r (by omega)).mono ?_
    rintro e w4 ⟨rfl, hb4⟩
    have hb4' := Lib.hid (hb3'.out.trans (hb4.mono hb3'.out.size))
    rw [Hc.out.2.1]
    clear hb4
    refine hK.out _ _ trivial (fun hHeld => ?_)
    clear hK K
    refine wpAnyH_take (i := 9) (oi := { dst := some 57, op := Go.Op.binOp Go.BinOp.add 3 (Go.Operand.tmp 51) (Go.Operand.tmp 56) 3, type := 3, pos := "law.go:71", after := #[{ on := 3, ground := Go.Ground.data }, { on := 8, ground := Go.Ground.data }, { on := 1, ground := Go.Ground.guard }], guard := some (1, true) }) (v := ?_) rfl (by kernel_rfl) (by kernel_rfl) (by kernel_rfl) (fun _ _ _ h => h) (Or.inl ⟨by rfl, ?_⟩) (by assumption) ?_
    rotate_left
    · intro w hSw
      go_simp
      try with_reducible rfl
    simp only [Act.put, List.setIfInBounds_toArray, List.set_cons_zero, List.set_cons_succ]
    refine wpAnyH_ready (rs := [11]) (by kernel_rfl) (by simp) ?_
    refine AllReadyH.cons (o := { dst := some 59, op := Go.Op.call { callee := Go.Callee.value (Go.Operand.func 11), args := #[Go.Operand.tmp 58], argTypes := #[9] }, type := 3, pos := "law.go:71", after := #[{ on := 10, ground := Go.Ground.data }, { on := 8, ground := Go.Ground.chain }, { on := 1, ground := Go.Ground.guard }], guard := some (1, true) }) rfl (fun K hK => ?_) AllReadyH.nil
    go_simp
    refine (many_u s (by omega)).mono ?_
    rintro e w5 ⟨rfl, hb5⟩
    have hb5' := Lib.hid (hb4'.out.trans (hb5.mono hb4'.out.size))
    rw [Hc.out.2.2]
    clear hb5
    refine hK.out _ _ trivial (fun hHeld => ?_)
    clear hK K
    refine wpAnyH_take (i := 12) (oi := { dst := some 60, op := Go.Op.binOp Go.BinOp.eql 3 (Go.Operand.tmp 57) (Go.Operand.tmp 59) 3, type := 4, pos := "law.go:71", after := #[{ on := 9, ground := Go.Ground.data }, { on := 11, ground := Go.Ground.data }, { on := 1, ground := Go.Ground.guard }], guard := some (1, true) }) (v := ?_) rfl (by kernel_rfl) (by kernel_rfl) (by kernel_rfl) (fun _ _ _ h => h) (Or.inl ⟨by rfl, ?_⟩) (by assumption) ?_
    rotate_left
    · intro w hSw
      go_simp
      try with_reducible rfl
    simp only [Act.put, List.setIfInBounds_toArray, List.set_cons_zero, List.set_cons_succ]
    refine wpAnyH_take (i := 13) (oi := { dst := some 61, op := Go.Op.pick (Go.Operand.tmp 49) (Go.Operand.tmp 60) (Go.Operand.const (Go.Value.bool false)), type := 4, pos := "law.go:71", after := #[{ on := 1, ground := Go.Ground.data }, { on := 12, ground := Go.Ground.data }], guard := none }) (v := ?_) rfl (by kernel_rfl) (by kernel_rfl) (by kernel_rfl) (fun _ _ _ h => h) (Or.inl ⟨by rfl, ?_⟩) (by assumption) ?_
    rotate_left
    · intro w hSw
      go_simp
      try with_reducible rfl
    simp only [Act.put, List.setIfInBounds_toArray, List.set_cons_zero, List.set_cons_succ]
    refine wpAnyH_take (i := 14) (oi := { dst := some 62, op := Go.Op.move (Go.Operand.tmp 61), type := 4, pos := "law.go:71", after := #[{ on := 13, ground := Go.Ground.data }, { on := 11, ground := Go.Ground.chain }], guard := none }) (v := ?_) rfl (by kernel_rfl) (by kernel_rfl) (by kernel_rfl) (fun _ _ _ h => h) (Or.inl ⟨by rfl, ?_⟩) (by assumption) ?_
    rotate_left
    · intro w hSw
      go_simp
      try with_reducible rfl
    simp only [Act.put, List.setIfInBounds_toArray, List.set_cons_zero, List.set_cons_succ]
    refine wpAnyH_take (i := 15) (oi := { dst := some 63, op := Go.Op.move (Go.Operand.tmp 7), type := 3, pos := "law.go:71", after := #[{ on := 14, ground := Go.Ground.guard }], guard := some (14, true) }) (v := ?_) rfl (by kernel_rfl) (by kernel_rfl) (by kernel_rfl) (fun _ _ _ h => h) (Or.inl ⟨by rfl, ?_⟩) (by assumption) ?_
    rotate_left
    · intro w hSw
      go_simp
      try with_reducible rfl
    simp only [Act.put, List.setIfInBounds_toArray, List.set_cons_zero, List.set_cons_succ]
    refine wpAnyH_take (i := 16) (oi := { dst := some 64, op := Go.Op.binOp Go.BinOp.eql 3 (Go.Operand.tmp 63) (Go.Operand.const (Go.Value.int Go.IntKind.i64 0)) 3, type := 4, pos := "law.go:71", after := #[{ on := 15, ground := Go.Ground.data }, { on := 14, ground := Go.Ground.guard }], guard := some (14, true) }) (v := ?_) rfl (by kernel_rfl) (by kernel_rfl) (by kernel_rfl) (fun _ _ _ h => h) (Or.inl ⟨by rfl, ?_⟩) (by assumption) ?_
    rotate_left
    · intro w hSw
      go_simp
      try with_reducible rfl
    simp only [Act.put, List.setIfInBounds_toArray, List.set_cons_zero, List.set_cons_succ]
    refine wpAnyH_take (i := 17) (oi := { dst := some 65, op := Go.Op.move (Go.Operand.tmp 64), type := 4, pos := "law.go:71", after := #[{ on := 16, ground := Go.Ground.data }, { on := 14, ground := Go.Ground.chain }, { on := 14, ground := Go.Ground.guard }], guard := some (14, true) }) (v := ?_) rfl (by kernel_rfl) (by kernel_rfl) (by kernel_rfl) (fun _ _ _ h => h) (Or.inl ⟨by rfl, ?_⟩) (by assumption) ?_
    rotate_left
    · intro w hSw
      go_simp
      try with_reducible rfl
    simp only [Act.put, List.setIfInBounds_toArray, List.set_cons_zero, List.set_cons_succ]
    refine wpAnyH_take (i := 18) (oi := { dst := some 66, op := Go.Op.move (Go.Operand.tmp 1), type := 3, pos := "law.go:71", after := #[{ on := 17, ground := Go.Ground.guard }], guard := some (17, false) }) (v := undef) rfl (by kernel_rfl) (by kernel_rfl) (by kernel_rfl) (fun _ _ _ h => h) (Or.inr ⟨by rfl, rfl⟩) (by assumption) ?_
    simp only [Act.put, List.setIfInBounds_toArray, List.set_cons_zero, List.set_cons_succ]
    refine wpAnyH_take (i := 19) (oi := { dst := some 67, op := Go.Op.move (Go.Operand.tmp 6), type := 9, pos := "law.go:71", after := #[{ on := 17, ground := Go.Ground.guard }], guard := some (17, false) }) (v := undef) rfl (by kernel_rfl) (by kernel_rfl) (by kernel_rfl) (fun _ _ _ h => h) (Or.inr ⟨by rfl, rfl⟩) (by assumption) ?_
    simp only [Act.put, List.setIfInBounds_toArray, List.set_cons_zero, List.set_cons_succ]
    refine wpAnyH_take (i := 20) (oi := { dst := some 68, op := Go.Op.call { callee := Go.Callee.builtin Go.Builtin.len, args := #[Go.Operand.tmp 67], argTypes := #[9] }, type := 3, pos := "law.go:71", after := #[{ on := 19, ground := Go.Ground.data }, { on := 17, ground := Go.Ground.guard }], guard := some (17, false) }) (v := undef) rfl (by kernel_rfl) (by kernel_rfl) (by kernel_rfl) (fun _ _ _ h => h) (Or.inr ⟨by rfl, rfl⟩) (by assumption) ?_
    simp only [Act.put, List.setIfInBounds_toArray, List.set_cons_zero, List.set_cons_succ]
    refine wpAnyH_take (i := 21) (oi := { dst := some 69, op := Go.Op.binOp Go.BinOp.sub 3 (Go.Operand.tmp 66) (Go.Operand.tmp 68) 3, type := 3, pos := "law.go:71", after := #[{ on := 18, ground := Go.Ground.data }, { on := 20, ground := Go.Ground.data }, { on := 17, ground := Go.Ground.guard }], guard := some (17, false) }) (v := undef) rfl (by kernel_rfl) (by kernel_rfl) (by kernel_rfl) (fun _ _ _ h => h) (Or.inr ⟨by rfl, rfl⟩) (by assumption) ?_
    simp only [Act.put, List.setIfInBounds_toArray, List.set_cons_zero, List.set_cons_succ]
    refine wpAnyH_take (i := 22) (oi := { dst := some 70, op := Go.Op.binOp Go.BinOp.lss 3 (Go.Operand.tmp 69) (Go.Operand.const (Go.Value.int Go.IntKind.i64 4)) 3, type := 4, pos := "law.go:71", after := #[{ on := 21, ground := Go.Ground.data }, { on := 17, ground := Go.Ground.guard }], guard := some (17, false) }) (v := undef) rfl (by kernel_rfl) (by kernel_rfl) (by kernel_rfl) (fun _ _ _ h => h) (Or.inr ⟨by rfl, rfl⟩) (by assumption) ?_
    simp only [Act.put, List.setIfInBounds_toArray, List.set_cons_zero, List.set_cons_succ]
    refine wpAnyH_take (i := 23) (oi := { dst := some 71, op := Go.Op.pick (Go.Operand.tmp 65) (Go.Operand.const (Go.Value.bool true)) (Go.Operand.tmp 70), type := 4, pos := "law.go:71", after := #[{ on := 17, ground := Go.Ground.data }, { on := 22, ground := Go.Ground.data }, { on := 14, ground := Go.Ground.guard }], guard := some (14, true) }) (v := ?_) rfl (by kernel_rfl) (by kernel_rfl) (by kernel_rfl) (fun _ _ _ h => h) (Or.inl ⟨by rfl, ?_⟩) (by assumption) ?_
    rotate_left
    · intro w hSw
      go_simp
      try with_reducible rfl
    simp only [Act.put, List.setIfInBounds_toArray, List.set_cons_zero, List.set_cons_succ]
    refine wpAnyH_take (i := 24) (oi := { dst := some 72, op := Go.Op.pick (Go.Operand.tmp 62) (Go.Operand.tmp 71) (Go.Operand.const (Go.Value.bool false)), type := 4, pos := "law.go:71", after := #[{ on := 14, ground := Go.Ground.data }, { on := 23, ground := Go.Ground.data }], guard := none }) (v := ?_) rfl (by kernel_rfl) (by kernel_rfl) (by kernel_rfl) (fun _ _ _ h => h) (Or.inl ⟨by rfl, ?_⟩) (by assumption) ?_
    rotate_left
    · intro w hSw
      go_simp
      try with_reducible rfl
    simp only [Act.put, List.setIfInBounds_toArray, List.set_cons_zero, List.set_cons_succ]
    refine wpAnyH_take (i := 25) (oi := { dst := some 4, op := Go.Op.assign (Go.Operand.tmp 72), type := 4, pos := "law.go:71", after := #[{ on := 24, ground := Go.Ground.data }, { on := 17, ground := Go.Ground.chain }, { on := 0, ground := Go.Ground.phase }, { on := 1, ground := Go.Ground.phase }, { on := 2, ground := Go.Ground.phase }, { on := 3, ground := Go.Ground.phase }, { on := 4, ground := Go.Ground.phase }, { on := 5, ground := Go.Ground.phase }, { on := 6, ground := Go.Ground.phase }, { on := 7, ground := Go.Ground.phase }, { on := 8, ground := Go.Ground.phase }, { on := 9, ground := Go.Ground.phase }, { on := 10, ground := Go.Ground.phase }, { on := 11, ground := Go.Ground.phase }, { on := 12, ground := Go.Ground.phase }, { on := 13, ground := Go.Ground.phase }, { on := 14, ground := Go.Ground.phase }, { on := 15, ground := Go.Ground.phase }, { on := 16, ground := Go.Ground.phase }, { on := 17, ground := Go.Ground.phase }, { on := 18, ground := Go.Ground.phase }, { on := 19, ground := Go.Ground.phase }, { on := 20, ground := Go.Ground.phase }, { on := 21, ground := Go.Ground.phase }, { on := 22, ground := Go.Ground.phase }, { on := 23, ground := Go.Ground.phase }, { on := 24, ground := Go.Ground.phase }], guard := none }) (v := ?_) rfl (by kernel_rfl) (by kernel_rfl) (by kernel_rfl) (fun _ _ _ h => h) (Or.inl ⟨by rfl, ?_⟩) (by assumption) ?_
    rotate_left
    · intro w hSw
      go_simp
      try with_reducible rfl
    simp only [Act.put, List.setIfInBounds_toArray, List.set_cons_zero, List.set_cons_succ]
    refine wpAnyH_done (by kernel_rfl) ?_ _
    go_wp2_with fail
    go_ret
    exact ⟨rfl, hb5'.out⟩
  · have g1 : ((s.size : Int) - (a.size : Int) == 0) = false := by simp; omega
    have g2 : decide ((n : Int) - (a.size : Int) < 4) = true := by have := Hroom.out (by omega); simp; omega
    have Hz := Lib.hid hz
    clear hz
    go_wp2_with fail
    refine wp_region_held_drew (S := fun _ => True) (by kernel_rfl) trivial (fun hHeld => ?_)
    refine wpAnyH_take (i := 0) (oi := { dst := some 48, op := Go.Op.move (Go.Operand.tmp 5), type := 4, pos := "law.go:71", after := #[], guard := none }) (v := ?_) rfl (by kernel_rfl) (by kernel_rfl) (by kernel_rfl) (fun _ _ _ h => h) (Or.inl ⟨by rfl, ?_⟩) (by assumption) ?_
    rotate_left
    · intro w hSw
      go_simp
      try with_reducible rfl
    simp only [Act.put, List.setIfInBounds_toArray, List.set_cons_zero, List.set_cons_succ]
    refine wpAnyH_take (i := 1) (oi := { dst := some 49, op := Go.Op.move (Go.Operand.tmp 48), type := 4, pos := "law.go:71", after := #[{ on := 0, ground := Go.Ground.data }], guard := none }) (v := ?_) rfl (by kernel_rfl) (by kernel_rfl) (by kernel_rfl) (fun _ _ _ h => h) (Or.inl ⟨by rfl, ?_⟩) (by assumption) ?_
    rotate_left
    · intro w hSw
      go_simp
      try with_reducible rfl
    simp only [Act.put, List.setIfInBounds_toArray, List.set_cons_zero, List.set_cons_succ]
    refine wpAnyH_take (i := 2) (oi := { dst := some 50, op := Go.Op.move (Go.Operand.tmp 6), type := 9, pos := "law.go:71", after := #[{ on := 1, ground := Go.Ground.guard }], guard := some (1, true) }) (v := ?_) rfl (by kernel_rfl) (by kernel_rfl) (by kernel_rfl) (fun _ _ _ h => h) (Or.inl ⟨by rfl, ?_⟩) (by assumption) ?_
    rotate_left
    · intro w hSw
      go_simp
      try with_reducible rfl
    simp only [Act.put, List.setIfInBounds_toArray, List.set_cons_zero, List.set_cons_succ]
    refine wpAnyH_take (i := 4) (oi := { dst := some 52, op := Go.Op.move (Go.Operand.tmp 0), type := 9, pos := "law.go:71", after := #[{ on := 1, ground := Go.Ground.guard }], guard := some (1, true) }) (v := ?_) rfl (by kernel_rfl) (by kernel_rfl) (by kernel_rfl) (fun _ _ _ h => h) (Or.inl ⟨by rfl, ?_⟩) (by assumption) ?_
    rotate_left
    · intro w hSw
      go_simp
      try with_reducible rfl
    simp only [Act.put, List.setIfInBounds_toArray, List.set_cons_zero, List.set_cons_succ]
    refine wpAnyH_take (i := 5) (oi := { dst := some 53, op := Go.Op.move (Go.Operand.tmp 6), type := 9, pos := "law.go:71", after := #[{ on := 1, ground := Go.Ground.guard }], guard := some (1, true) }) (v := ?_) rfl (by kernel_rfl) (by kernel_rfl) (by kernel_rfl) (fun _ _ _ h => h) (Or.inl ⟨by rfl, ?_⟩) (by assumption) ?_
    rotate_left
    · intro w hSw
      go_simp
      try with_reducible rfl
    simp only [Act.put, List.setIfInBounds_toArray, List.set_cons_zero, List.set_cons_succ]
    refine wpAnyH_take (i := 6) (oi := { dst := some 54, op := Go.Op.call { callee := Go.Callee.builtin Go.Builtin.len, args := #[Go.Operand.tmp 53], argTypes := #[9] }, type := 3, pos := "law.go:71", after := #[{ on := 5, ground := Go.Ground.data }, { on := 1, ground := Go.Ground.guard }], guard := some (1, true) }) (v := ?_) rfl (by kernel_rfl) (by kernel_rfl) (by kernel_rfl) (fun _ _ _ h => h) (Or.inl ⟨by rfl, ?_⟩) (by assumption) ?_
    rotate_left
    · intro w hSw
      go_simp
      try with_reducible rfl
    simp only [Act.put, List.setIfInBounds_toArray, List.set_cons_zero, List.set_cons_succ]
    refine wpAnyH_take (i := 7) (oi := { dst := some 55, op := Go.Op.slice 9 (Go.Operand.tmp 52) (some (Go.Operand.tmp 54)) none none, type := 9, pos := "law.go:71", after := #[{ on := 4, ground := Go.Ground.data }, { on := 6, ground := Go.Ground.data }, { on := 1, ground := Go.Ground.guard }], guard := some (1, true) }) (v := ?_) rfl (by kernel_rfl) (by kernel_rfl) (by kernel_rfl) (fun _ _ _ h => h) (Or.inl ⟨by rfl, ?_⟩) (by assumption) ?_
    rotate_left
    · intro w hSw
      go_simp
      try with_reducible rfl
    simp only [Act.put, List.setIfInBounds_toArray, List.set_cons_zero, List.set_cons_succ]
    refine wpAnyH_take (i := 10) (oi := { dst := some 58, op := Go.Op.move (Go.Operand.tmp 0), type := 9, pos := "law.go:71", after := #[{ on := 1, ground := Go.Ground.guard }], guard := some (1, true) }) (v := ?_) rfl (by kernel_rfl) (by kernel_rfl) (by kernel_rfl) (fun _ _ _ h => h) (Or.inl ⟨by rfl, ?_⟩) (by assumption) ?_
    rotate_left
    · intro w hSw
      go_simp
      try with_reducible rfl
    simp only [Act.put, List.setIfInBounds_toArray, List.set_cons_zero, List.set_cons_succ]
    refine wpAnyH_ready (rs := [3]) (by kernel_rfl) (by simp) ?_
    refine AllReadyH.cons (o := { dst := some 51, op := Go.Op.call { callee := Go.Callee.value (Go.Operand.func 11), args := #[Go.Operand.tmp 50], argTypes := #[9] }, type := 3, pos := "law.go:71", after := #[{ on := 2, ground := Go.Ground.data }, { on := 1, ground := Go.Ground.chain }, { on := 1, ground := Go.Ground.guard }], guard := some (1, true) }) rfl (fun K hK => ?_) AllReadyH.nil
    go_simp
    refine (many_u a (by omega)).mono ?_
    rintro e w3 ⟨rfl, hb3⟩
    have hb3' := Lib.hid (hb2'.out.trans (hb3.mono hb2'.out.size))
    rw [Hc.out.1]
    clear hb3
    refine hK.out _ _ trivial (fun hHeld => ?_)
    clear hK K
    refine wpAnyH_ready (rs := [8]) (by kernel_rfl) (by simp) ?_
    refine AllReadyH.cons (o := { dst := some 56, op := Go.Op.call { callee := Go.Callee.value (Go.Operand.func 11), args := #[Go.Operand.tmp 55], argTypes := #[9] }, type := 3, pos := "law.go:71", after := #[{ on := 7, ground := Go.Ground.data }, { on := 3, ground := Go.Ground.chain }, { on := 1, ground := Go.Ground.guard }], guard := some (1, true) }) rfl (fun K hK => ?_) AllReadyH.nil
    go_simp
    refine (many_u r (by omega)).mono ?_
    rintro e w4 ⟨rfl, hb4⟩
    have hb4' := Lib.hid (hb3'.out.trans (hb4.mono hb3'.out.size))
    rw [Hc.out.2.1]
    clear hb4
    refine hK.out _ _ trivial (fun hHeld => ?_)
    clear hK K
    refine wpAnyH_take (i := 9) (oi := { dst := some 57, op := Go.Op.binOp Go.BinOp.add 3 (Go.Operand.tmp 51) (Go.Operand.tmp 56) 3, type := 3, pos := "law.go:71", after := #[{ on := 3, ground := Go.Ground.data }, { on := 8, ground := Go.Ground.data }, { on := 1, ground := Go.Ground.guard }], guard := some (1, true) }) (v := ?_) rfl (by kernel_rfl) (by kernel_rfl) (by kernel_rfl) (fun _ _ _ h => h) (Or.inl ⟨by rfl, ?_⟩) (by assumption) ?_
    rotate_left
    · intro w hSw
      go_simp
      try with_reducible rfl
    simp only [Act.put, List.setIfInBounds_toArray, List.set_cons_zero, List.set_cons_succ]
    refine wpAnyH_ready (rs := [11]) (by kernel_rfl) (by simp) ?_
    refine AllReadyH.cons (o := { dst := some 59, op := Go.Op.call { callee := Go.Callee.value (Go.Operand.func 11), args := #[Go.Operand.tmp 58], argTypes := #[9] }, type := 3, pos := "law.go:71", after := #[{ on := 10, ground := Go.Ground.data }, { on := 8, ground := Go.Ground.chain }, { on := 1, ground := Go.Ground.guard }], guard := some (1, true) }) rfl (fun K hK => ?_) AllReadyH.nil
    go_simp
    refine (many_u s (by omega)).mono ?_
    rintro e w5 ⟨rfl, hb5⟩
    have hb5' := Lib.hid (hb4'.out.trans (hb5.mono hb4'.out.size))
    rw [Hc.out.2.2]
    clear hb5
    refine hK.out _ _ trivial (fun hHeld => ?_)
    clear hK K
    refine wpAnyH_take (i := 12) (oi := { dst := some 60, op := Go.Op.binOp Go.BinOp.eql 3 (Go.Operand.tmp 57) (Go.Operand.tmp 59) 3, type := 4, pos := "law.go:71", after := #[{ on := 9, ground := Go.Ground.data }, { on := 11, ground := Go.Ground.data }, { on := 1, ground := Go.Ground.guard }], guard := some (1, true) }) (v := ?_) rfl (by kernel_rfl) (by kernel_rfl) (by kernel_rfl) (fun _ _ _ h => h) (Or.inl ⟨by rfl, ?_⟩) (by assumption) ?_
    rotate_left
    · intro w hSw
      go_simp
      try with_reducible rfl
    simp only [Act.put, List.setIfInBounds_toArray, List.set_cons_zero, List.set_cons_succ]
    refine wpAnyH_take (i := 13) (oi := { dst := some 61, op := Go.Op.pick (Go.Operand.tmp 49) (Go.Operand.tmp 60) (Go.Operand.const (Go.Value.bool false)), type := 4, pos := "law.go:71", after := #[{ on := 1, ground := Go.Ground.data }, { on := 12, ground := Go.Ground.data }], guard := none }) (v := ?_) rfl (by kernel_rfl) (by kernel_rfl) (by kernel_rfl) (fun _ _ _ h => h) (Or.inl ⟨by rfl, ?_⟩) (by assumption) ?_
    rotate_left
    · intro w hSw
      go_simp
      try with_reducible rfl
    simp only [Act.put, List.setIfInBounds_toArray, List.set_cons_zero, List.set_cons_succ]
    refine wpAnyH_take (i := 14) (oi := { dst := some 62, op := Go.Op.move (Go.Operand.tmp 61), type := 4, pos := "law.go:71", after := #[{ on := 13, ground := Go.Ground.data }, { on := 11, ground := Go.Ground.chain }], guard := none }) (v := ?_) rfl (by kernel_rfl) (by kernel_rfl) (by kernel_rfl) (fun _ _ _ h => h) (Or.inl ⟨by rfl, ?_⟩) (by assumption) ?_
    rotate_left
    · intro w hSw
      go_simp
      try with_reducible rfl
    simp only [Act.put, List.setIfInBounds_toArray, List.set_cons_zero, List.set_cons_succ]
    refine wpAnyH_take (i := 15) (oi := { dst := some 63, op := Go.Op.move (Go.Operand.tmp 7), type := 3, pos := "law.go:71", after := #[{ on := 14, ground := Go.Ground.guard }], guard := some (14, true) }) (v := ?_) rfl (by kernel_rfl) (by kernel_rfl) (by kernel_rfl) (fun _ _ _ h => h) (Or.inl ⟨by rfl, ?_⟩) (by assumption) ?_
    rotate_left
    · intro w hSw
      go_simp
      try with_reducible rfl
    simp only [Act.put, List.setIfInBounds_toArray, List.set_cons_zero, List.set_cons_succ]
    refine wpAnyH_take (i := 16) (oi := { dst := some 64, op := Go.Op.binOp Go.BinOp.eql 3 (Go.Operand.tmp 63) (Go.Operand.const (Go.Value.int Go.IntKind.i64 0)) 3, type := 4, pos := "law.go:71", after := #[{ on := 15, ground := Go.Ground.data }, { on := 14, ground := Go.Ground.guard }], guard := some (14, true) }) (v := ?_) rfl (by kernel_rfl) (by kernel_rfl) (by kernel_rfl) (fun _ _ _ h => h) (Or.inl ⟨by rfl, ?_⟩) (by assumption) ?_
    rotate_left
    · intro w hSw
      go_simp
      try with_reducible rfl
    simp only [Act.put, List.setIfInBounds_toArray, List.set_cons_zero, List.set_cons_succ]
    refine wpAnyH_take (i := 17) (oi := { dst := some 65, op := Go.Op.move (Go.Operand.tmp 64), type := 4, pos := "law.go:71", after := #[{ on := 16, ground := Go.Ground.data }, { on := 14, ground := Go.Ground.chain }, { on := 14, ground := Go.Ground.guard }], guard := some (14, true) }) (v := ?_) rfl (by kernel_rfl) (by kernel_rfl) (by kernel_rfl) (fun _ _ _ h => h) (Or.inl ⟨by rfl, ?_⟩) (by assumption) ?_
    rotate_left
    · intro w hSw
      go_simp
      try with_reducible rfl
    simp only [Act.put, List.setIfInBounds_toArray, List.set_cons_zero, List.set_cons_succ]
    refine wpAnyH_take (i := 18) (oi := { dst := some 66, op := Go.Op.move (Go.Operand.tmp 1), type := 3, pos := "law.go:71", after := #[{ on := 17, ground := Go.Ground.guard }], guard := some (17, false) }) (v := ?_) rfl (by kernel_rfl) (by kernel_rfl) (by kernel_rfl) (fun _ _ _ h => h) (Or.inl ⟨by rfl, ?_⟩) (by assumption) ?_
    rotate_left
    · intro w hSw
      go_simp
      try with_reducible rfl
    simp only [Act.put, List.setIfInBounds_toArray, List.set_cons_zero, List.set_cons_succ]
    refine wpAnyH_take (i := 19) (oi := { dst := some 67, op := Go.Op.move (Go.Operand.tmp 6), type := 9, pos := "law.go:71", after := #[{ on := 17, ground := Go.Ground.guard }], guard := some (17, false) }) (v := ?_) rfl (by kernel_rfl) (by kernel_rfl) (by kernel_rfl) (fun _ _ _ h => h) (Or.inl ⟨by rfl, ?_⟩) (by assumption) ?_
    rotate_left
    · intro w hSw
      go_simp
      try with_reducible rfl
    simp only [Act.put, List.setIfInBounds_toArray, List.set_cons_zero, List.set_cons_succ]
    refine wpAnyH_take (i := 20) (oi := { dst := some 68, op := Go.Op.call { callee := Go.Callee.builtin Go.Builtin.len, args := #[Go.Operand.tmp 67], argTypes := #[9] }, type := 3, pos := "law.go:71", after := #[{ on := 19, ground := Go.Ground.data }, { on := 17, ground := Go.Ground.guard }], guard := some (17, false) }) (v := ?_) rfl (by kernel_rfl) (by kernel_rfl) (by kernel_rfl) (fun _ _ _ h => h) (Or.inl ⟨by rfl, ?_⟩) (by assumption) ?_
    rotate_left
    · intro w hSw
      go_simp
      try with_reducible rfl
    simp only [Act.put, List.setIfInBounds_toArray, List.set_cons_zero, List.set_cons_succ]
    refine wpAnyH_take (i := 21) (oi := { dst := some 69, op := Go.Op.binOp Go.BinOp.sub 3 (Go.Operand.tmp 66) (Go.Operand.tmp 68) 3, type := 3, pos := "law.go:71", after := #[{ on := 18, ground := Go.Ground.data }, { on := 20, ground := Go.Ground.data }, { on := 17, ground := Go.Ground.guard }], guard := some (17, false) }) (v := ?_) rfl (by kernel_rfl) (by kernel_rfl) (by kernel_rfl) (fun _ _ _ h => h) (Or.inl ⟨by rfl, ?_⟩) (by assumption) ?_
    rotate_left
    · intro w hSw
      go_simp
      try with_reducible rfl
    simp only [Act.put, List.setIfInBounds_toArray, List.set_cons_zero, List.set_cons_succ]
    refine wpAnyH_take (i := 22) (oi := { dst := some 70, op := Go.Op.binOp Go.BinOp.lss 3 (Go.Operand.tmp 69) (Go.Operand.const (Go.Value.int Go.IntKind.i64 4)) 3, type := 4, pos := "law.go:71", after := #[{ on := 21, ground := Go.Ground.data }, { on := 17, ground := Go.Ground.guard }], guard := some (17, false) }) (v := ?_) rfl (by kernel_rfl) (by kernel_rfl) (by kernel_rfl) (fun _ _ _ h => h) (Or.inl ⟨by rfl, ?_⟩) (by assumption) ?_
    rotate_left
    · intro w hSw
      go_simp
      try with_reducible rfl
    simp only [Act.put, List.setIfInBounds_toArray, List.set_cons_zero, List.set_cons_succ]
    refine wpAnyH_take (i := 23) (oi := { dst := some 71, op := Go.Op.pick (Go.Operand.tmp 65) (Go.Operand.const (Go.Value.bool true)) (Go.Operand.tmp 70), type := 4, pos := "law.go:71", after := #[{ on := 17, ground := Go.Ground.data }, { on := 22, ground := Go.Ground.data }, { on := 14, ground := Go.Ground.guard }], guard := some (14, true) }) (v := ?_) rfl (by kernel_rfl) (by kernel_rfl) (by kernel_rfl) (fun _ _ _ h => h) (Or.inl ⟨by rfl, ?_⟩) (by assumption) ?_
    rotate_left
    · intro w hSw
      go_simp
      try with_reducible rfl
    simp only [Act.put, List.setIfInBounds_toArray, List.set_cons_zero, List.set_cons_succ]
    refine wpAnyH_take (i := 24) (oi := { dst := some 72, op := Go.Op.pick (Go.Operand.tmp 62) (Go.Operand.tmp 71) (Go.Operand.const (Go.Value.bool false)), type := 4, pos := "law.go:71", after := #[{ on := 14, ground := Go.Ground.data }, { on := 23, ground := Go.Ground.data }], guard := none }) (v := ?_) rfl (by kernel_rfl) (by kernel_rfl) (by kernel_rfl) (fun _ _ _ h => h) (Or.inl ⟨by rfl, ?_⟩) (by assumption) ?_
    rotate_left
    · intro w hSw
      go_simp
      try with_reducible rfl
    simp only [Act.put, List.setIfInBounds_toArray, List.set_cons_zero, List.set_cons_succ]
    refine wpAnyH_take (i := 25) (oi := { dst := some 4, op := Go.Op.assign (Go.Operand.tmp 72), type := 4, pos := "law.go:71", after := #[{ on := 24, ground := Go.Ground.data }, { on := 17, ground := Go.Ground.chain }, { on := 0, ground := Go.Ground.phase }, { on := 1, ground := Go.Ground.phase }, { on := 2, ground := Go.Ground.phase }, { on := 3, ground := Go.Ground.phase }, { on := 4, ground := Go.Ground.phase }, { on := 5, ground := Go.Ground.phase }, { on := 6, ground := Go.Ground.phase }, { on := 7, ground := Go.Ground.phase }, { on := 8, ground := Go.Ground.phase }, { on := 9, ground := Go.Ground.phase }, { on := 10, ground := Go.Ground.phase }, { on := 11, ground := Go.Ground.phase }, { on := 12, ground := Go.Ground.phase }, { on := 13, ground := Go.Ground.phase }, { on := 14, ground := Go.Ground.phase }, { on := 15, ground := Go.Ground.phase }, { on := 16, ground := Go.Ground.phase }, { on := 17, ground := Go.Ground.phase }, { on := 18, ground := Go.Ground.phase }, { on := 19, ground := Go.Ground.phase }, { on := 20, ground := Go.Ground.phase }, { on := 21, ground := Go.Ground.phase }, { on := 22, ground := Go.Ground.phase }, { on := 23, ground := Go.Ground.phase }, { on := 24, ground := Go.Ground.phase }], guard := none }) (v := ?_) rfl (by kernel_rfl) (by kernel_rfl) (by kernel_rfl) (fun _ _ _ h => h) (Or.inl ⟨by rfl, ?_⟩) (by assumption) ?_
    rotate_left
    · intro w hSw
      go_simp
      try with_reducible rfl
    simp only [Act.put, List.setIfInBounds_toArray, List.set_cons_zero, List.set_cons_succ]
    refine wpAnyH_done (by kernel_rfl) ?_ _
    go_wp2_with fail
    go_ret
    exact ⟨rfl, hb5'.out⟩
end Go.Proofs.Yteijpcjhecmamaa.Uf
