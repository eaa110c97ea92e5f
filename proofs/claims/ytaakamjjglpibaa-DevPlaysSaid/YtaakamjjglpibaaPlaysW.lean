/-
  DevPlays' walk: any calls, one by one.
-/
import Derived.Test.YtaakamjjglpibaaPlaysC
namespace Go.Proofs.Ytaakamjjglpibaa.Dv
open Go.RowKit

/-- One of the calls, as it lies in memory. -/
def OpIn (w : World) (b off k : Nat) : Prop :=
  ∃ (o n : Int) (A : Option Addr) (c : Nat) (xs : List Int), w.cell? ⟨b, off + k * 3, none⟩ = some (.int .i64 o) ∧ w.cell? ⟨b, off + k * 3 + 1, none⟩ = some (.int .i64 n) ∧ w.cell? ⟨b, off + k * 3 + 2, none⟩ = some (.slice A xs.length c) ∧
    (Lit.int .i64 o).wf = true ∧ (Lit.int .i64 n).wf = true ∧ Came w A c xs
theorem cell_kept {w w' : World} {p : Addr} {v : Value} (hb : Below w.heap.size w w') (h : w.cell? p = some v) : w'.cell? p = some v := by
  rw [hb.cell (World.block_lt_of_cell? w p h)]
  exact h

set_option maxRecDepth 100000 in
set_option maxHeartbeats 8000000 in
theorem plays_walk {w : World} {A : Option Addr} {n c : Nat} (hops : ∀ k, k < n → ∃ b off, A = some ⟨b, off, none⟩ ∧ OpIn w b off k) :
    Calls Try.prog 8 #[.slice A n c] w fun e w' => e = .returned (.bool true) ∧ Below w.heap.size w w' := by
  go_enter Try.func8, Try.ntmps8
  go_wp2_with fail
  refine (awake12 _).mono ?_
  rintro e w1 ⟨rfl, hb1⟩
  go_wp2_with fail
  refine (new_dev _).mono ?_
  rintro e w2 ⟨rfl, hD2, hb2⟩
  go_wp2_with fail
  refine (new_ref _).mono ?_
  rintro e w3 ⟨rfl, hR3, hb3⟩
  have HP := Lib.hid (pair_new hb1 hD2 hb2 hR3 hb3)
  obtain ⟨d, hd⟩ : ∃ d, d = w1.heap.size := ⟨_, rfl⟩
  obtain ⟨r, hr⟩ : ∃ r, r = w2.heap.size := ⟨_, rfl⟩
  rw [← hd, ← hr] at HP
  rw [← hd, ← hr]
  have HO := Lib.hid hops
  clear hb1 hD2 hb2 hR3 hb3 hd hr hops
  go_wp2_with fail
  go_loopw [6] (fun i wr => ∃ (k : Nat) (s : DS) (t : RS), k ≤ n ∧ i = .int .i64 k ∧ Hid (Pair w wr d r s t)) (fun i _ => n - (intOf i).toNat)
  case atStart => exact ⟨0, DS.new, RS.new, Nat.zero_le _, rfl, HP⟩
  case round =>
    obtain ⟨k, s, t, hk, rfl, HW⟩ := hrel
    by_cases hge : n ≤ k
    · have hlt' : ¬ (k : Int) < (n : Int) := by omega
      have hb := HW.out.below
      have Hb := Lib.hid hb
      clear hb
      go_wp2_with fail
      go_ret
      exact ⟨rfl, Hb.out⟩
    have hlt : k < n := by omega
    have hlt' : (k : Int) < (n : Int) := by omega
    by_cases h100 : 100 ≤ k
    · have h100' : decide ((k : Int) < 100) = false := by simp; omega
      have hb := HW.out.below
      have Hb := Lib.hid hb
      clear hb
      go_wp2_with fail
      go_ret
      exact ⟨rfl, Hb.out⟩
    have h100' : decide ((k : Int) < 100) = true := by simp; omega
    obtain ⟨ab, aoff, rfl, o, nn, B, cb, xs, q0, q1, q2, ho, hnn, hx⟩ := HO.out k hlt
    have hb := HW.out.below
    have p0 := cell_kept hb q0
    have p1 := cell_kept hb q1
    have p2 := cell_kept hb q2
    have Hb := Lib.hid hb
    clear hb q0 q1 q2
    have HX := Lib.hid hx
    have Ho := Lib.hid ho
    have Hnn := Lib.hid hnn
    clear hx ho hnn
    by_cases hbig : 40000 < xs.length
    · have hbig' : (40000 : Int) < (xs.length : Int) := by omega
      go_wp2_with fail
      go_ret
      exact ⟨rfl, Hb.out.alloc Hb.out.size _⟩
    have hbig' : decide ((40000 : Int) < (xs.length : Int)) = false := by simp; omega
    have hbg : xs.length ≤ 40000 := by omega
    clear hbig
    by_cases hv0 : o = 0
    · have e0 : (o == 0) = true := by simp; omega
      clear hv0
      go_wp2_with fail
      obtain ⟨W0, hW0⟩ : ∃ W0, W0 = wr.alloc (.cells #[.int .i64 o, .int .i64 nn, .slice B xs.length cb] 40) := ⟨_, rfl⟩
      obtain ⟨g, hg⟩ : ∃ g, g = wr.heap.size := ⟨_, rfl⟩
      have HP0 := Lib.hid (show Pair w W0 d r s t by rw [hW0]; exact HW.out.alloc _)
      have HB0 := Lib.hid (show Blk W0 g 40 #[.int .i64 o, .int .i64 nn, .slice B xs.length cb] by rw [hW0, hg]; exact Blk.new _ _ _)
      rw [← hW0, ← hg]
      clear hW0 hg
      obtain ⟨E, hE⟩ : ∃ E, t.appendE xs = E := ⟨_, rfl⟩
      have HE := Lib.hid hE
      clear hE
      have hs := HW.out.same
      have hg0 : W0.drew.cell? ⟨g, 2, none⟩ = some (.slice B xs.length cb) := by have h := HB0.out.drew.cell 2; simpa using h
      refine wp_region_held_drew (S := fun W => W.cell? ⟨g, 2, none⟩ = some (.slice B xs.length cb)) (by kernel_rfl) hg0 (fun hHeld => ?_)
      refine wpAnyH_take (i := 0) (oi := { dst := some 47, op := Go.Op.move (Go.Operand.tmp 4), type := 24, pos := "law.go:45", after := #[], guard := none }) (v := ?_) rfl (by kernel_rfl) (by kernel_rfl) (by kernel_rfl) (fun _ _ _ h => h) (Or.inl ⟨by rfl, ?_⟩) (by assumption) ?_
      rotate_left
      · intro w hSw
        go_simp
        try with_reducible rfl
      simp only [Act.put, List.setIfInBounds_toArray, List.set_cons_zero, List.set_cons_succ]
      refine wpAnyH_take (i := 1) (oi := { dst := some 48, op := Go.Op.fieldAddr 40 (Go.Operand.tmp 7) 2, type := 0, pos := "law.go:45", after := #[], guard := none }) (v := ?_) rfl (by kernel_rfl) (by kernel_rfl) (by kernel_rfl) (fun _ _ _ h => h) (Or.inl ⟨by rfl, ?_⟩) (by assumption) ?_
      rotate_left
      · intro w hSw
        go_simp
        try with_reducible rfl
      simp only [Act.put, List.setIfInBounds_toArray, List.set_cons_zero, List.set_cons_succ]
      refine wpAnyH_take (i := 2) (oi := { dst := some 49, op := Go.Op.load 22 (Go.Operand.tmp 48), type := 22, pos := "law.go:45", after := #[{ on := 1, ground := Go.Ground.data }], guard := none }) (v := ?_) rfl (by kernel_rfl) (by kernel_rfl) (by kernel_rfl) (fun _ _ _ h => h) (Or.inl ⟨by rfl, ?_⟩) (by assumption) ?_
      rotate_left
      · intro w hSw
        go_simp
        try with_reducible rfl
      simp only [Act.put, List.setIfInBounds_toArray, List.set_cons_zero, List.set_cons_succ]
      refine wpAnyH_take (i := 4) (oi := { dst := some 51, op := Go.Op.move (Go.Operand.tmp 5), type := 37, pos := "law.go:45", after := #[], guard := none }) (v := ?_) rfl (by kernel_rfl) (by kernel_rfl) (by kernel_rfl) (fun _ _ _ h => h) (Or.inl ⟨by rfl, ?_⟩) (by assumption) ?_
      rotate_left
      · intro w hSw
        go_simp
        try with_reducible rfl
      simp only [Act.put, List.setIfInBounds_toArray, List.set_cons_zero, List.set_cons_succ]
      refine wpAnyH_take (i := 5) (oi := { dst := some 52, op := Go.Op.fieldAddr 40 (Go.Operand.tmp 7) 2, type := 0, pos := "law.go:45", after := #[], guard := none }) (v := ?_) rfl (by kernel_rfl) (by kernel_rfl) (by kernel_rfl) (fun _ _ _ h => h) (Or.inl ⟨by rfl, ?_⟩) (by assumption) ?_
      rotate_left
      · intro w hSw
        go_simp
        try with_reducible rfl
      simp only [Act.put, List.setIfInBounds_toArray, List.set_cons_zero, List.set_cons_succ]
      refine wpAnyH_take (i := 6) (oi := { dst := some 53, op := Go.Op.load 22 (Go.Operand.tmp 52), type := 22, pos := "law.go:45", after := #[{ on := 5, ground := Go.Ground.data }], guard := none }) (v := ?_) rfl (by kernel_rfl) (by kernel_rfl) (by kernel_rfl) (fun _ _ _ h => h) (Or.inl ⟨by rfl, ?_⟩) (by assumption) ?_
      rotate_left
      · intro w hSw
        go_simp
        try with_reducible rfl
      simp only [Act.put, List.setIfInBounds_toArray, List.set_cons_zero, List.set_cons_succ]
      refine wpAnyH_ready (rs := [3]) (by kernel_rfl) (by simp) ?_
      refine AllReadyH.cons (o := { dst := some 50, op := Go.Op.call { callee := Go.Callee.value (Go.Operand.func 16), args := #[Go.Operand.tmp 47, Go.Operand.tmp 49], argTypes := #[24, 22] }, type := 26, pos := "law.go:45", after := #[{ on := 0, ground := Go.Ground.data }, { on := 2, ground := Go.Ground.data }], guard := none }) rfl (fun K hK => ?_) AllReadyH.nil
      go_simp
      refine (pd_append HP0.out.drew HX.out hbg).mono ?_
      rintro e w4 ⟨rfl, hM4, hst4⟩
      rw [HE.out]
      have hB4 := hst4 _ _ HB0.out.drew
      have hg4 : w4.cell? ⟨g, 2, none⟩ = some (.slice B xs.length cb) := by have h := hB4.cell 2; simpa using h
      refine hK.out _ _ hg4 (fun hHeld => ?_)
      clear hK K
      try simp only [Act.put, List.setIfInBounds_toArray, List.set_cons_zero, List.set_cons_succ]
      refine wpAnyH_ready (rs := [7]) (by kernel_rfl) (by simp) ?_
      refine AllReadyH.cons (o := { dst := some 54, op := Go.Op.call { callee := Go.Callee.value (Go.Operand.func 24), args := #[Go.Operand.tmp 51, Go.Operand.tmp 53], argTypes := #[37, 22] }, type := 26, pos := "law.go:45", after := #[{ on := 4, ground := Go.Ground.data }, { on := 6, ground := Go.Ground.data }, { on := 3, ground := Go.Ground.chain }], guard := none }) rfl (fun K hK => ?_) AllReadyH.nil
      go_simp
      refine (pr_append hM4 hs HX.out hbg).mono ?_
      rintro e w4b ⟨rfl, hP4, hst4b⟩
      rw [HE.out]
      have hB4b := hst4b _ _ hB4
      have hg4b : w4b.cell? ⟨g, 2, none⟩ = some (.slice B xs.length cb) := by have h := hB4b.cell 2; simpa using h
      refine hK.out _ _ hg4b (fun hHeld => ?_)
      clear hK K
      try simp only [Act.put, List.setIfInBounds_toArray, List.set_cons_zero, List.set_cons_succ]
      refine wpAnyH_take (i := 8) (oi := { dst := some 55, op := Go.Op.binOp Go.BinOp.eql 26 (Go.Operand.tmp 50) (Go.Operand.tmp 54) 26, type := 4, pos := "law.go:45", after := #[{ on := 3, ground := Go.Ground.data }, { on := 7, ground := Go.Ground.data }], guard := none }) (v := ?_) rfl (by kernel_rfl) (by kernel_rfl) (by kernel_rfl) (fun _ _ _ h => h) (Or.inl ⟨by rfl, ?_⟩) (by assumption) ?_
      rotate_left
      · intro w hSw
        go_simp
        try with_reducible rfl
      simp only [Act.put, List.setIfInBounds_toArray, List.set_cons_zero, List.set_cons_succ]
      refine wpAnyH_take (i := 9) (oi := { dst := some 8, op := Go.Op.assign (Go.Operand.tmp 55), type := 4, pos := "law.go:45", after := #[{ on := 8, ground := Go.Ground.data }, { on := 7, ground := Go.Ground.chain }, { on := 0, ground := Go.Ground.phase }, { on := 1, ground := Go.Ground.phase }, { on := 2, ground := Go.Ground.phase }, { on := 3, ground := Go.Ground.phase }, { on := 4, ground := Go.Ground.phase }, { on := 5, ground := Go.Ground.phase }, { on := 6, ground := Go.Ground.phase }, { on := 7, ground := Go.Ground.phase }, { on := 8, ground := Go.Ground.phase }], guard := none }) (v := ?_) rfl (by kernel_rfl) (by kernel_rfl) (by kernel_rfl) (fun _ _ _ h => h) (Or.inl ⟨by rfl, ?_⟩) (by assumption) ?_
      rotate_left
      · intro w hSw
        go_simp
        try with_reducible rfl
      simp only [Act.put, List.setIfInBounds_toArray, List.set_cons_zero, List.set_cons_succ]
      refine wpAnyH_done (by kernel_rfl) ?_ _
      have HP4 := Lib.hid hP4
      clear hP4 hM4 hB4 hB4b hst4 hst4b hg4 hg4b hg0 hHeld hs
      go_wp2_with fail
      obtain ⟨bo, hbo⟩ : ∃ bo, (t.append xs).off = bo := ⟨_, rfl⟩
      obtain ⟨X, hX⟩ : ∃ X, X = strOfNums ((t.append xs).l ++ (t.append xs).t) := ⟨_, rfl⟩
      have Hbo := Lib.hid hbo
      have HX2 := Lib.hid hX
      clear hbo hX
      have hP0 := HP4.out.drew
      have hS0 := hP0.offCell
      rw [Hbo.out] at hS0
      refine wp_region_held_drew (S := fun W => W.cell? ⟨r, 3, none⟩ = some (.bool bo)) (by kernel_rfl) hS0 (fun hHeld => ?_)
      refine wpAnyH_take (i := 0) (oi := { dst := some 84, op := Go.Op.move (Go.Operand.tmp 8), type := 4, pos := "law.go:57", after := #[], guard := none }) (v := ?_) rfl (by kernel_rfl) (by kernel_rfl) (by kernel_rfl) (fun _ _ _ h => h) (Or.inl ⟨by rfl, ?_⟩) (by assumption) ?_
      rotate_left
      · intro w hSw
        go_simp
        try with_reducible rfl
      simp only [Act.put, List.setIfInBounds_toArray, List.set_cons_zero, List.set_cons_succ]
      refine wpAnyH_take (i := 1) (oi := { dst := some 85, op := Go.Op.unOp Go.UnOp.not 4 (Go.Operand.tmp 84), type := 4, pos := "law.go:57", after := #[{ on := 0, ground := Go.Ground.data }], guard := none }) (v := ?_) rfl (by kernel_rfl) (by kernel_rfl) (by kernel_rfl) (fun _ _ _ h => h) (Or.inl ⟨by rfl, ?_⟩) (by assumption) ?_
      rotate_left
      · intro w hSw
        go_simp
        try with_reducible rfl
      simp only [Act.put, List.setIfInBounds_toArray, List.set_cons_zero, List.set_cons_succ]
      refine wpAnyH_take (i := 2) (oi := { dst := some 86, op := Go.Op.move (Go.Operand.tmp 85), type := 4, pos := "law.go:57", after := #[{ on := 1, ground := Go.Ground.data }], guard := none }) (v := ?_) rfl (by kernel_rfl) (by kernel_rfl) (by kernel_rfl) (fun _ _ _ h => h) (Or.inl ⟨by rfl, ?_⟩) (by assumption) ?_
      rotate_left
      · intro w hSw
        go_simp
        try with_reducible rfl
      simp only [Act.put, List.setIfInBounds_toArray, List.set_cons_zero, List.set_cons_succ]
      refine wpAnyH_take (i := 3) (oi := { dst := some 87, op := Go.Op.move (Go.Operand.tmp 4), type := 24, pos := "law.go:57", after := #[{ on := 2, ground := Go.Ground.guard }], guard := some (2, false) }) (v := ?_) rfl (by kernel_rfl) (by kernel_rfl) (by kernel_rfl) (fun _ _ _ h => h) (Or.inl ⟨by rfl, ?_⟩) (by assumption) ?_
      rotate_left
      · intro w hSw
        go_simp
        try with_reducible rfl
      simp only [Act.put, List.setIfInBounds_toArray, List.set_cons_zero, List.set_cons_succ]
      refine wpAnyH_take (i := 6) (oi := { dst := some 90, op := Go.Op.move (Go.Operand.tmp 5), type := 37, pos := "law.go:57", after := #[{ on := 2, ground := Go.Ground.guard }], guard := some (2, false) }) (v := ?_) rfl (by kernel_rfl) (by kernel_rfl) (by kernel_rfl) (fun _ _ _ h => h) (Or.inl ⟨by rfl, ?_⟩) (by assumption) ?_
      rotate_left
      · intro w hSw
        go_simp
        try with_reducible rfl
      simp only [Act.put, List.setIfInBounds_toArray, List.set_cons_zero, List.set_cons_succ]
      refine wpAnyH_ready (rs := [4]) (by kernel_rfl) (by simp) ?_
      refine AllReadyH.cons (o := { dst := some 88, op := Go.Op.call { callee := Go.Callee.value (Go.Operand.func 17), args := #[Go.Operand.tmp 87], argTypes := #[24] }, type := 22, pos := "law.go:57", after := #[{ on := 3, ground := Go.Ground.data }, { on := 2, ground := Go.Ground.chain }, { on := 2, ground := Go.Ground.guard }], guard := some (2, false) }) rfl (fun K hK => ?_) AllReadyH.nil
      go_simp
      refine (pd_bytes hP0).mono ?_
      rintro e w5 ⟨A5, n5, c5, rfl, hr5, -, hP5, -, hb5⟩
      have hS5 := hP5.offCell
      rw [Hbo.out] at hS5
      have hc5 : (convert 22 9 (.slice A5 n5 c5)).run Try.prog w5 = .ok (.string X) w5 := by rw [HX2.out]; exact conv_reads hr5 c5
      refine hK.out _ _ hS5 (fun hHeld => ?_)
      clear hK K
      try simp only [Act.put, List.setIfInBounds_toArray, List.set_cons_zero, List.set_cons_succ]
      refine wpAnyH_ready (rs := [5, 7]) (by kernel_rfl) (by simp) ?_
      refine AllReadyH.cons (o := { dst := some 89, op := Go.Op.convert 22 9 (Go.Operand.tmp 88), type := 9, pos := "law.go:57", after := #[{ on := 4, ground := Go.Ground.data }, { on := 2, ground := Go.Ground.guard }], guard := some (2, false) }) rfl (fun K hK => ?_) (AllReadyH.cons (o := { dst := some 91, op := Go.Op.call { callee := Go.Callee.value (Go.Operand.func 29), args := #[Go.Operand.tmp 90], argTypes := #[37] }, type := 22, pos := "law.go:57", after := #[{ on := 6, ground := Go.Ground.data }, { on := 4, ground := Go.Ground.chain }, { on := 2, ground := Go.Ground.guard }], guard := some (2, false) }) rfl (fun K hK => ?_) AllReadyH.nil)
      · go_simp
        refine hK.out _ _ hS5 (fun hHeld => ?_)
        clear hK K
        refine wpAnyH_ready (rs := [7]) (by kernel_rfl) (by simp) ?_
        refine AllReadyH.cons (o := { dst := some 91, op := Go.Op.call { callee := Go.Callee.value (Go.Operand.func 29), args := #[Go.Operand.tmp 90], argTypes := #[37] }, type := 22, pos := "law.go:57", after := #[{ on := 6, ground := Go.Ground.data }, { on := 4, ground := Go.Ground.chain }, { on := 2, ground := Go.Ground.guard }], guard := some (2, false) }) rfl (fun K hK => ?_) AllReadyH.nil
        go_simp
        refine (pr_bytes hP5).mono ?_
        rintro e w6 ⟨A6, n6, c6, rfl, hr6, -, hP6, -, hb6⟩
        have hS6 := hP6.offCell
        rw [Hbo.out] at hS6
        have hc6 : (convert 22 9 (.slice A6 n6 c6)).run Try.prog w6 = .ok (.string X) w6 := by rw [HX2.out]; exact conv_reads hr6 c6
        have hc56 : (convert 22 9 (.slice A5 n5 c5)).run Try.prog w6 = .ok (.string X) w6 := by rw [HX2.out]; exact conv_reads (hr5.below hb6) c5
        refine hK.out _ _ hS6 (fun hHeld => ?_)
        clear hK K
        refine wpAnyH_ready (rs := [8]) (by kernel_rfl) (by simp) ?_
        refine AllReadyH.cons (o := { dst := some 92, op := Go.Op.convert 22 9 (Go.Operand.tmp 91), type := 9, pos := "law.go:57", after := #[{ on := 7, ground := Go.Ground.data }, { on := 2, ground := Go.Ground.guard }], guard := some (2, false) }) rfl (fun K hK => ?_) AllReadyH.nil
        go_simp
        refine hK.out _ _ hS6 (fun hHeld => ?_)
        clear hK K
        try simp only [Act.put, List.setIfInBounds_toArray, List.set_cons_zero, List.set_cons_succ]
        refine wpAnyH_take (i := 9) (oi := { dst := some 93, op := Go.Op.binOp Go.BinOp.neq 9 (Go.Operand.tmp 89) (Go.Operand.tmp 92) 9, type := 4, pos := "law.go:57", after := #[{ on := 5, ground := Go.Ground.data }, { on := 8, ground := Go.Ground.data }, { on := 2, ground := Go.Ground.guard }], guard := some (2, false) }) (v := ?_) rfl (by kernel_rfl) (by kernel_rfl) (by kernel_rfl) (fun _ _ _ h => h) (Or.inl ⟨by rfl, ?_⟩) (by assumption) ?_
        rotate_left
        · intro w hSw
          go_simp
          try with_reducible rfl
        simp only [Act.put, List.setIfInBounds_toArray, List.set_cons_zero, List.set_cons_succ]
        refine wpAnyH_take (i := 10) (oi := { dst := some 94, op := Go.Op.pick (Go.Operand.tmp 86) (Go.Operand.const (Go.Value.bool true)) (Go.Operand.tmp 93), type := 4, pos := "law.go:57", after := #[{ on := 2, ground := Go.Ground.data }, { on := 9, ground := Go.Ground.data }], guard := none }) (v := ?_) rfl (by kernel_rfl) (by kernel_rfl) (by kernel_rfl) (fun _ _ _ h => h) (Or.inl ⟨by rfl, ?_⟩) (by assumption) ?_
        rotate_left
        · intro w hSw
          go_simp
          try with_reducible rfl
        simp only [Act.put, List.setIfInBounds_toArray, List.set_cons_zero, List.set_cons_succ]
        refine wpAnyH_take (i := 11) (oi := { dst := some 95, op := Go.Op.move (Go.Operand.tmp 94), type := 4, pos := "law.go:57", after := #[{ on := 10, ground := Go.Ground.data }, { on := 7, ground := Go.Ground.chain }], guard := none }) (v := ?_) rfl (by kernel_rfl) (by kernel_rfl) (by kernel_rfl) (fun _ _ _ h => h) (Or.inl ⟨by rfl, ?_⟩) (by assumption) ?_
        rotate_left
        · intro w hSw
          go_simp
          try with_reducible rfl
        simp only [Act.put, List.setIfInBounds_toArray, List.set_cons_zero, List.set_cons_succ]
        refine wpAnyH_take (i := 12) (oi := { dst := some 96, op := Go.Op.move (Go.Operand.tmp 4), type := 24, pos := "law.go:57", after := #[{ on := 11, ground := Go.Ground.guard }], guard := some (11, false) }) (v := ?_) rfl (by kernel_rfl) (by kernel_rfl) (by kernel_rfl) (fun _ _ _ h => h) (Or.inl ⟨by rfl, ?_⟩) (by assumption) ?_
        rotate_left
        · intro w hSw
          go_simp
          try with_reducible rfl
        simp only [Act.put, List.setIfInBounds_toArray, List.set_cons_zero, List.set_cons_succ]
        refine wpAnyH_take (i := 14) (oi := { dst := some 98, op := Go.Op.move (Go.Operand.tmp 5), type := 37, pos := "law.go:57", after := #[{ on := 11, ground := Go.Ground.guard }], guard := some (11, false) }) (v := ?_) rfl (by kernel_rfl) (by kernel_rfl) (by kernel_rfl) (fun _ _ _ h => h) (Or.inl ⟨by rfl, ?_⟩) (by assumption) ?_
        rotate_left
        · intro w hSw
          go_simp
          try with_reducible rfl
        simp only [Act.put, List.setIfInBounds_toArray, List.set_cons_zero, List.set_cons_succ]
        refine wpAnyH_take (i := 15) (oi := { dst := some 99, op := Go.Op.nilCheck (Go.Operand.tmp 98), type := 0, pos := "law.go:57", after := #[{ on := 14, ground := Go.Ground.data }, { on := 11, ground := Go.Ground.guard }], guard := some (11, false) }) (v := ?_) rfl (by kernel_rfl) (by kernel_rfl) (by kernel_rfl) (fun _ _ _ h => h) (Or.inl ⟨by rfl, ?_⟩) (by assumption) ?_
        rotate_left
        · intro w hSw
          go_simp
          try with_reducible rfl
        simp only [Act.put, List.setIfInBounds_toArray, List.set_cons_zero, List.set_cons_succ]
        refine wpAnyH_take (i := 16) (oi := { dst := some 100, op := Go.Op.fieldAddr 42 (Go.Operand.tmp 99) 3, type := 0, pos := "law.go:57", after := #[{ on := 15, ground := Go.Ground.data }, { on := 11, ground := Go.Ground.guard }], guard := some (11, false) }) (v := ?_) rfl (by kernel_rfl) (by kernel_rfl) (by kernel_rfl) (fun _ _ _ h => h) (Or.inl ⟨by rfl, ?_⟩) (by assumption) ?_
        rotate_left
        · intro w hSw
          go_simp
          try with_reducible rfl
        simp only [Act.put, List.setIfInBounds_toArray, List.set_cons_zero, List.set_cons_succ]
        refine wpAnyH_take (i := 17) (oi := { dst := some 101, op := Go.Op.load 4 (Go.Operand.tmp 100), type := 4, pos := "law.go:57", after := #[{ on := 16, ground := Go.Ground.data }, { on := 11, ground := Go.Ground.guard }], guard := some (11, false) }) (v := ?_) rfl (by kernel_rfl) (by kernel_rfl) (by kernel_rfl) (fun _ _ _ h => h) (Or.inl ⟨by rfl, ?_⟩) (by assumption) ?_
        rotate_left
        · intro w hSw
          go_simp
          try with_reducible rfl
        simp only [Act.put, List.setIfInBounds_toArray, List.set_cons_zero, List.set_cons_succ]
        refine wpAnyH_ready (rs := [13]) (by kernel_rfl) (by simp) ?_
        refine AllReadyH.cons (o := { dst := some 97, op := Go.Op.call { callee := Go.Callee.value (Go.Operand.func 20), args := #[Go.Operand.tmp 96], argTypes := #[24] }, type := 4, pos := "law.go:57", after := #[{ on := 12, ground := Go.Ground.data }, { on := 11, ground := Go.Ground.chain }, { on := 11, ground := Go.Ground.guard }], guard := some (11, false) }) rfl (fun K hK => ?_) AllReadyH.nil
        go_simp
        refine (pd_off hP6).mono ?_
        rintro e w7 ⟨rfl, rfl⟩
        rw [Hbo.out]
        refine hK.out _ _ hS6 (fun hHeld => ?_)
        clear hK K
        try simp only [Act.put, List.setIfInBounds_toArray, List.set_cons_zero, List.set_cons_succ]
        refine wpAnyH_take (i := 18) (oi := { dst := some 102, op := Go.Op.binOp Go.BinOp.neq 4 (Go.Operand.tmp 97) (Go.Operand.tmp 101) 4, type := 4, pos := "law.go:57", after := #[{ on := 13, ground := Go.Ground.data }, { on := 17, ground := Go.Ground.data }, { on := 11, ground := Go.Ground.guard }], guard := some (11, false) }) (v := ?_) rfl (by kernel_rfl) (by kernel_rfl) (by kernel_rfl) (fun _ _ _ h => h) (Or.inl ⟨by rfl, ?_⟩) (by assumption) ?_
        rotate_left
        · intro w hSw
          go_simp
          try with_reducible rfl
        simp only [Act.put, List.setIfInBounds_toArray, List.set_cons_zero, List.set_cons_succ]
        refine wpAnyH_take (i := 19) (oi := { dst := some 103, op := Go.Op.pick (Go.Operand.tmp 95) (Go.Operand.const (Go.Value.bool true)) (Go.Operand.tmp 102), type := 4, pos := "law.go:57", after := #[{ on := 11, ground := Go.Ground.data }, { on := 18, ground := Go.Ground.data }], guard := none }) (v := ?_) rfl (by kernel_rfl) (by kernel_rfl) (by kernel_rfl) (fun _ _ _ h => h) (Or.inl ⟨by rfl, ?_⟩) (by assumption) ?_
        rotate_left
        · intro w hSw
          go_simp
          try with_reducible rfl
        simp only [Act.put, List.setIfInBounds_toArray, List.set_cons_zero, List.set_cons_succ]
        refine wpAnyH_done (by kernel_rfl) ?_ _
        have HP6 := Lib.hid hP6
        clear hP6 hP5 hP0 hS0 hS5 hS6 hc5 hc6 hc56 hr5 hr6 hb5 hb6 hHeld
        go_wp2_with fail
        go_roundw
        case rel => exact ⟨k + 1, (s.append xs), (t.append xs), by omega, by go_num, HP6⟩
        case measure => simp [intOf]; omega
      · go_simp
        refine (pr_bytes hP5).mono ?_
        rintro e w6 ⟨A6, n6, c6, rfl, hr6, -, hP6, -, hb6⟩
        have hS6 := hP6.offCell
        rw [Hbo.out] at hS6
        have hc6 : (convert 22 9 (.slice A6 n6 c6)).run Try.prog w6 = .ok (.string X) w6 := by rw [HX2.out]; exact conv_reads hr6 c6
        have hc56 : (convert 22 9 (.slice A5 n5 c5)).run Try.prog w6 = .ok (.string X) w6 := by rw [HX2.out]; exact conv_reads (hr5.below hb6) c5
        refine hK.out _ _ hS6 (fun hHeld => ?_)
        clear hK K
        try simp only [Act.put, List.setIfInBounds_toArray, List.set_cons_zero, List.set_cons_succ]
        refine wpAnyH_ready (rs := [5, 8]) (by kernel_rfl) (by simp) ?_
        refine AllReadyH.cons (o := { dst := some 89, op := Go.Op.convert 22 9 (Go.Operand.tmp 88), type := 9, pos := "law.go:57", after := #[{ on := 4, ground := Go.Ground.data }, { on := 2, ground := Go.Ground.guard }], guard := some (2, false) }) rfl (fun K hK => ?_) (AllReadyH.cons (o := { dst := some 92, op := Go.Op.convert 22 9 (Go.Operand.tmp 91), type := 9, pos := "law.go:57", after := #[{ on := 7, ground := Go.Ground.data }, { on := 2, ground := Go.Ground.guard }], guard := some (2, false) }) rfl (fun K hK => ?_) AllReadyH.nil)
        · go_simp
          refine hK.out _ _ hS6 (fun hHeld => ?_)
          clear hK K
          refine wpAnyH_ready (rs := [8]) (by kernel_rfl) (by simp) ?_
          refine AllReadyH.cons (o := { dst := some 92, op := Go.Op.convert 22 9 (Go.Operand.tmp 91), type := 9, pos := "law.go:57", after := #[{ on := 7, ground := Go.Ground.data }, { on := 2, ground := Go.Ground.guard }], guard := some (2, false) }) rfl (fun K hK => ?_) AllReadyH.nil
          go_simp
          refine hK.out _ _ hS6 (fun hHeld => ?_)
          clear hK K
          try simp only [Act.put, List.setIfInBounds_toArray, List.set_cons_zero, List.set_cons_succ]
          refine wpAnyH_take (i := 9) (oi := { dst := some 93, op := Go.Op.binOp Go.BinOp.neq 9 (Go.Operand.tmp 89) (Go.Operand.tmp 92) 9, type := 4, pos := "law.go:57", after := #[{ on := 5, ground := Go.Ground.data }, { on := 8, ground := Go.Ground.data }, { on := 2, ground := Go.Ground.guard }], guard := some (2, false) }) (v := ?_) rfl (by kernel_rfl) (by kernel_rfl) (by kernel_rfl) (fun _ _ _ h => h) (Or.inl ⟨by rfl, ?_⟩) (by assumption) ?_
          rotate_left
          · intro w hSw
            go_simp
            try with_reducible rfl
          simp only [Act.put, List.setIfInBounds_toArray, List.set_cons_zero, List.set_cons_succ]
          refine wpAnyH_take (i := 10) (oi := { dst := some 94, op := Go.Op.pick (Go.Operand.tmp 86) (Go.Operand.const (Go.Value.bool true)) (Go.Operand.tmp 93), type := 4, pos := "law.go:57", after := #[{ on := 2, ground := Go.Ground.data }, { on := 9, ground := Go.Ground.data }], guard := none }) (v := ?_) rfl (by kernel_rfl) (by kernel_rfl) (by kernel_rfl) (fun _ _ _ h => h) (Or.inl ⟨by rfl, ?_⟩) (by assumption) ?_
          rotate_left
          · intro w hSw
            go_simp
            try with_reducible rfl
          simp only [Act.put, List.setIfInBounds_toArray, List.set_cons_zero, List.set_cons_succ]
          refine wpAnyH_take (i := 11) (oi := { dst := some 95, op := Go.Op.move (Go.Operand.tmp 94), type := 4, pos := "law.go:57", after := #[{ on := 10, ground := Go.Ground.data }, { on := 7, ground := Go.Ground.chain }], guard := none }) (v := ?_) rfl (by kernel_rfl) (by kernel_rfl) (by kernel_rfl) (fun _ _ _ h => h) (Or.inl ⟨by rfl, ?_⟩) (by assumption) ?_
          rotate_left
          · intro w hSw
            go_simp
            try with_reducible rfl
          simp only [Act.put, List.setIfInBounds_toArray, List.set_cons_zero, List.set_cons_succ]
          refine wpAnyH_take (i := 12) (oi := { dst := some 96, op := Go.Op.move (Go.Operand.tmp 4), type := 24, pos := "law.go:57", after := #[{ on := 11, ground := Go.Ground.guard }], guard := some (11, false) }) (v := ?_) rfl (by kernel_rfl) (by kernel_rfl) (by kernel_rfl) (fun _ _ _ h => h) (Or.inl ⟨by rfl, ?_⟩) (by assumption) ?_
          rotate_left
          · intro w hSw
            go_simp
            try with_reducible rfl
          simp only [Act.put, List.setIfInBounds_toArray, List.set_cons_zero, List.set_cons_succ]
          refine wpAnyH_take (i := 14) (oi := { dst := some 98, op := Go.Op.move (Go.Operand.tmp 5), type := 37, pos := "law.go:57", after := #[{ on := 11, ground := Go.Ground.guard }], guard := some (11, false) }) (v := ?_) rfl (by kernel_rfl) (by kernel_rfl) (by kernel_rfl) (fun _ _ _ h => h) (Or.inl ⟨by rfl, ?_⟩) (by assumption) ?_
          rotate_left
          · intro w hSw
            go_simp
            try with_reducible rfl
          simp only [Act.put, List.setIfInBounds_toArray, List.set_cons_zero, List.set_cons_succ]
          refine wpAnyH_take (i := 15) (oi := { dst := some 99, op := Go.Op.nilCheck (Go.Operand.tmp 98), type := 0, pos := "law.go:57", after := #[{ on := 14, ground := Go.Ground.data }, { on := 11, ground := Go.Ground.guard }], guard := some (11, false) }) (v := ?_) rfl (by kernel_rfl) (by kernel_rfl) (by kernel_rfl) (fun _ _ _ h => h) (Or.inl ⟨by rfl, ?_⟩) (by assumption) ?_
          rotate_left
          · intro w hSw
            go_simp
            try with_reducible rfl
          simp only [Act.put, List.setIfInBounds_toArray, List.set_cons_zero, List.set_cons_succ]
          refine wpAnyH_take (i := 16) (oi := { dst := some 100, op := Go.Op.fieldAddr 42 (Go.Operand.tmp 99) 3, type := 0, pos := "law.go:57", after := #[{ on := 15, ground := Go.Ground.data }, { on := 11, ground := Go.Ground.guard }], guard := some (11, false) }) (v := ?_) rfl (by kernel_rfl) (by kernel_rfl) (by kernel_rfl) (fun _ _ _ h => h) (Or.inl ⟨by rfl, ?_⟩) (by assumption) ?_
          rotate_left
          · intro w hSw
            go_simp
            try with_reducible rfl
          simp only [Act.put, List.setIfInBounds_toArray, List.set_cons_zero, List.set_cons_succ]
          refine wpAnyH_take (i := 17) (oi := { dst := some 101, op := Go.Op.load 4 (Go.Operand.tmp 100), type := 4, pos := "law.go:57", after := #[{ on := 16, ground := Go.Ground.data }, { on := 11, ground := Go.Ground.guard }], guard := some (11, false) }) (v := ?_) rfl (by kernel_rfl) (by kernel_rfl) (by kernel_rfl) (fun _ _ _ h => h) (Or.inl ⟨by rfl, ?_⟩) (by assumption) ?_
          rotate_left
          · intro w hSw
            go_simp
            try with_reducible rfl
          simp only [Act.put, List.setIfInBounds_toArray, List.set_cons_zero, List.set_cons_succ]
          refine wpAnyH_ready (rs := [13]) (by kernel_rfl) (by simp) ?_
          refine AllReadyH.cons (o := { dst := some 97, op := Go.Op.call { callee := Go.Callee.value (Go.Operand.func 20), args := #[Go.Operand.tmp 96], argTypes := #[24] }, type := 4, pos := "law.go:57", after := #[{ on := 12, ground := Go.Ground.data }, { on := 11, ground := Go.Ground.chain }, { on := 11, ground := Go.Ground.guard }], guard := some (11, false) }) rfl (fun K hK => ?_) AllReadyH.nil
          go_simp
          refine (pd_off hP6).mono ?_
          rintro e w7 ⟨rfl, rfl⟩
          rw [Hbo.out]
          refine hK.out _ _ hS6 (fun hHeld => ?_)
          clear hK K
          try simp only [Act.put, List.setIfInBounds_toArray, List.set_cons_zero, List.set_cons_succ]
          refine wpAnyH_take (i := 18) (oi := { dst := some 102, op := Go.Op.binOp Go.BinOp.neq 4 (Go.Operand.tmp 97) (Go.Operand.tmp 101) 4, type := 4, pos := "law.go:57", after := #[{ on := 13, ground := Go.Ground.data }, { on := 17, ground := Go.Ground.data }, { on := 11, ground := Go.Ground.guard }], guard := some (11, false) }) (v := ?_) rfl (by kernel_rfl) (by kernel_rfl) (by kernel_rfl) (fun _ _ _ h => h) (Or.inl ⟨by rfl, ?_⟩) (by assumption) ?_
          rotate_left
          · intro w hSw
            go_simp
            try with_reducible rfl
          simp only [Act.put, List.setIfInBounds_toArray, List.set_cons_zero, List.set_cons_succ]
          refine wpAnyH_take (i := 19) (oi := { dst := some 103, op := Go.Op.pick (Go.Operand.tmp 95) (Go.Operand.const (Go.Value.bool true)) (Go.Operand.tmp 102), type := 4, pos := "law.go:57", after := #[{ on := 11, ground := Go.Ground.data }, { on := 18, ground := Go.Ground.data }], guard := none }) (v := ?_) rfl (by kernel_rfl) (by kernel_rfl) (by kernel_rfl) (fun _ _ _ h => h) (Or.inl ⟨by rfl, ?_⟩) (by assumption) ?_
          rotate_left
          · intro w hSw
            go_simp
            try with_reducible rfl
          simp only [Act.put, List.setIfInBounds_toArray, List.set_cons_zero, List.set_cons_succ]
          refine wpAnyH_done (by kernel_rfl) ?_ _
          have HP6 := Lib.hid hP6
          clear hP6 hP5 hP0 hS0 hS5 hS6 hc5 hc6 hc56 hr5 hr6 hb5 hb6 hHeld
          go_wp2_with fail
          go_roundw
          case rel => exact ⟨k + 1, (s.append xs), (t.append xs), by omega, by go_num, HP6⟩
          case measure => simp [intOf]; omega
        · go_simp
          refine hK.out _ _ hS6 (fun hHeld => ?_)
          clear hK K
          refine wpAnyH_ready (rs := [5]) (by kernel_rfl) (by simp) ?_
          refine AllReadyH.cons (o := { dst := some 89, op := Go.Op.convert 22 9 (Go.Operand.tmp 88), type := 9, pos := "law.go:57", after := #[{ on := 4, ground := Go.Ground.data }, { on := 2, ground := Go.Ground.guard }], guard := some (2, false) }) rfl (fun K hK => ?_) AllReadyH.nil
          go_simp
          refine hK.out _ _ hS6 (fun hHeld => ?_)
          clear hK K
          try simp only [Act.put, List.setIfInBounds_toArray, List.set_cons_zero, List.set_cons_succ]
          refine wpAnyH_take (i := 9) (oi := { dst := some 93, op := Go.Op.binOp Go.BinOp.neq 9 (Go.Operand.tmp 89) (Go.Operand.tmp 92) 9, type := 4, pos := "law.go:57", after := #[{ on := 5, ground := Go.Ground.data }, { on := 8, ground := Go.Ground.data }, { on := 2, ground := Go.Ground.guard }], guard := some (2, false) }) (v := ?_) rfl (by kernel_rfl) (by kernel_rfl) (by kernel_rfl) (fun _ _ _ h => h) (Or.inl ⟨by rfl, ?_⟩) (by assumption) ?_
          rotate_left
          · intro w hSw
            go_simp
            try with_reducible rfl
          simp only [Act.put, List.setIfInBounds_toArray, List.set_cons_zero, List.set_cons_succ]
          refine wpAnyH_take (i := 10) (oi := { dst := some 94, op := Go.Op.pick (Go.Operand.tmp 86) (Go.Operand.const (Go.Value.bool true)) (Go.Operand.tmp 93), type := 4, pos := "law.go:57", after := #[{ on := 2, ground := Go.Ground.data }, { on := 9, ground := Go.Ground.data }], guard := none }) (v := ?_) rfl (by kernel_rfl) (by kernel_rfl) (by kernel_rfl) (fun _ _ _ h => h) (Or.inl ⟨by rfl, ?_⟩) (by assumption) ?_
          rotate_left
          · intro w hSw
            go_simp
            try with_reducible rfl
          simp only [Act.put, List.setIfInBounds_toArray, List.set_cons_zero, List.set_cons_succ]
          refine wpAnyH_take (i := 11) (oi := { dst := some 95, op := Go.Op.move (Go.Operand.tmp 94), type := 4, pos := "law.go:57", after := #[{ on := 10, ground := Go.Ground.data }, { on := 7, ground := Go.Ground.chain }], guard := none }) (v := ?_) rfl (by kernel_rfl) (by kernel_rfl) (by kernel_rfl) (fun _ _ _ h => h) (Or.inl ⟨by rfl, ?_⟩) (by assumption) ?_
          rotate_left
          · intro w hSw
            go_simp
            try with_reducible rfl
          simp only [Act.put, List.setIfInBounds_toArray, List.set_cons_zero, List.set_cons_succ]
          refine wpAnyH_take (i := 12) (oi := { dst := some 96, op := Go.Op.move (Go.Operand.tmp 4), type := 24, pos := "law.go:57", after := #[{ on := 11, ground := Go.Ground.guard }], guard := some (11, false) }) (v := ?_) rfl (by kernel_rfl) (by kernel_rfl) (by kernel_rfl) (fun _ _ _ h => h) (Or.inl ⟨by rfl, ?_⟩) (by assumption) ?_
          rotate_left
          · intro w hSw
            go_simp
            try with_reducible rfl
          simp only [Act.put, List.setIfInBounds_toArray, List.set_cons_zero, List.set_cons_succ]
          refine wpAnyH_take (i := 14) (oi := { dst := some 98, op := Go.Op.move (Go.Operand.tmp 5), type := 37, pos := "law.go:57", after := #[{ on := 11, ground := Go.Ground.guard }], guard := some (11, false) }) (v := ?_) rfl (by kernel_rfl) (by kernel_rfl) (by kernel_rfl) (fun _ _ _ h => h) (Or.inl ⟨by rfl, ?_⟩) (by assumption) ?_
          rotate_left
          · intro w hSw
            go_simp
            try with_reducible rfl
          simp only [Act.put, List.setIfInBounds_toArray, List.set_cons_zero, List.set_cons_succ]
          refine wpAnyH_take (i := 15) (oi := { dst := some 99, op := Go.Op.nilCheck (Go.Operand.tmp 98), type := 0, pos := "law.go:57", after := #[{ on := 14, ground := Go.Ground.data }, { on := 11, ground := Go.Ground.guard }], guard := some (11, false) }) (v := ?_) rfl (by kernel_rfl) (by kernel_rfl) (by kernel_rfl) (fun _ _ _ h => h) (Or.inl ⟨by rfl, ?_⟩) (by assumption) ?_
          rotate_left
          · intro w hSw
            go_simp
            try with_reducible rfl
          simp only [Act.put, List.setIfInBounds_toArray, List.set_cons_zero, List.set_cons_succ]
          refine wpAnyH_take (i := 16) (oi := { dst := some 100, op := Go.Op.fieldAddr 42 (Go.Operand.tmp 99) 3, type := 0, pos := "law.go:57", after := #[{ on := 15, ground := Go.Ground.data }, { on := 11, ground := Go.Ground.guard }], guard := some (11, false) }) (v := ?_) rfl (by kernel_rfl) (by kernel_rfl) (by kernel_rfl) (fun _ _ _ h => h) (Or.inl ⟨by rfl, ?_⟩) (by assumption) ?_
          rotate_left
          · intro w hSw
            go_simp
            try with_reducible rfl
          simp only [Act.put, List.setIfInBounds_toArray, List.set_cons_zero, List.set_cons_succ]
          refine wpAnyH_take (i := 17) (oi := { dst := some 101, op := Go.Op.load 4 (Go.Operand.tmp 100), type := 4, pos := "law.go:57", after := #[{ on := 16, ground := Go.Ground.data }, { on := 11, ground := Go.Ground.guard }], guard := some (11, false) }) (v := ?_) rfl (by kernel_rfl) (by kernel_rfl) (by kernel_rfl) (fun _ _ _ h => h) (Or.inl ⟨by rfl, ?_⟩) (by assumption) ?_
          rotate_left
          · intro w hSw
            go_simp
            try with_reducible rfl
          simp only [Act.put, List.setIfInBounds_toArray, List.set_cons_zero, List.set_cons_succ]
          refine wpAnyH_ready (rs := [13]) (by kernel_rfl) (by simp) ?_
          refine AllReadyH.cons (o := { dst := some 97, op := Go.Op.call { callee := Go.Callee.value (Go.Operand.func 20), args := #[Go.Operand.tmp 96], argTypes := #[24] }, type := 4, pos := "law.go:57", after := #[{ on := 12, ground := Go.Ground.data }, { on := 11, ground := Go.Ground.chain }, { on := 11, ground := Go.Ground.guard }], guard := some (11, false) }) rfl (fun K hK => ?_) AllReadyH.nil
          go_simp
          refine (pd_off hP6).mono ?_
          rintro e w7 ⟨rfl, rfl⟩
          rw [Hbo.out]
          refine hK.out _ _ hS6 (fun hHeld => ?_)
          clear hK K
          try simp only [Act.put, List.setIfInBounds_toArray, List.set_cons_zero, List.set_cons_succ]
          refine wpAnyH_take (i := 18) (oi := { dst := some 102, op := Go.Op.binOp Go.BinOp.neq 4 (Go.Operand.tmp 97) (Go.Operand.tmp 101) 4, type := 4, pos := "law.go:57", after := #[{ on := 13, ground := Go.Ground.data }, { on := 17, ground := Go.Ground.data }, { on := 11, ground := Go.Ground.guard }], guard := some (11, false) }) (v := ?_) rfl (by kernel_rfl) (by kernel_rfl) (by kernel_rfl) (fun _ _ _ h => h) (Or.inl ⟨by rfl, ?_⟩) (by assumption) ?_
          rotate_left
          · intro w hSw
            go_simp
            try with_reducible rfl
          simp only [Act.put, List.setIfInBounds_toArray, List.set_cons_zero, List.set_cons_succ]
          refine wpAnyH_take (i := 19) (oi := { dst := some 103, op := Go.Op.pick (Go.Operand.tmp 95) (Go.Operand.const (Go.Value.bool true)) (Go.Operand.tmp 102), type := 4, pos := "law.go:57", after := #[{ on := 11, ground := Go.Ground.data }, { on := 18, ground := Go.Ground.data }], guard := none }) (v := ?_) rfl (by kernel_rfl) (by kernel_rfl) (by kernel_rfl) (fun _ _ _ h => h) (Or.inl ⟨by rfl, ?_⟩) (by assumption) ?_
          rotate_left
          · intro w hSw
            go_simp
            try with_reducible rfl
          simp only [Act.put, List.setIfInBounds_toArray, List.set_cons_zero, List.set_cons_succ]
          refine wpAnyH_done (by kernel_rfl) ?_ _
          have HP6 := Lib.hid hP6
          clear hP6 hP5 hP0 hS0 hS5 hS6 hc5 hc6 hc56 hr5 hr6 hb5 hb6 hHeld
          go_wp2_with fail
          go_roundw
          case rel => exact ⟨k + 1, (s.append xs), (t.append xs), by omega, by go_num, HP6⟩
          case measure => simp [intOf]; omega
    by_cases hv1 : o = 1
    · have e0 : (o == 0) = false := by simp; omega
      have e1 : (o == 1) = true := by simp; omega
      clear hv1
      go_wp2_with fail
      obtain ⟨W0, hW0⟩ : ∃ W0, W0 = wr.alloc (.cells #[.int .i64 o, .int .i64 nn, .slice B xs.length cb] 40) := ⟨_, rfl⟩
      obtain ⟨g, hg⟩ : ∃ g, g = wr.heap.size := ⟨_, rfl⟩
      have HP0 := Lib.hid (show Pair w W0 d r s t by rw [hW0]; exact HW.out.alloc _)
      have HB0 := Lib.hid (show Blk W0 g 40 #[.int .i64 o, .int .i64 nn, .slice B xs.length cb] by rw [hW0, hg]; exact Blk.new _ _ _)
      rw [← hW0, ← hg]
      clear hW0 hg
      obtain ⟨E, hE⟩ : ∃ E, t.appendE xs = E := ⟨_, rfl⟩
      have HE := Lib.hid hE
      clear hE
      have hs := HW.out.same
      have hg0 : W0.drew.cell? ⟨g, 2, none⟩ = some (.slice B xs.length cb) := by have h := HB0.out.drew.cell 2; simpa using h
      refine wp_region_held_drew (S := fun W => W.cell? ⟨g, 2, none⟩ = some (.slice B xs.length cb)) (by kernel_rfl) hg0 (fun hHeld => ?_)
      refine wpAnyH_take (i := 0) (oi := { dst := some 47, op := Go.Op.move (Go.Operand.tmp 4), type := 24, pos := "law.go:45", after := #[], guard := none }) (v := ?_) rfl (by kernel_rfl) (by kernel_rfl) (by kernel_rfl) (fun _ _ _ h => h) (Or.inl ⟨by rfl, ?_⟩) (by assumption) ?_
      rotate_left
      · intro w hSw
        go_simp
        try with_reducible rfl
      simp only [Act.put, List.setIfInBounds_toArray, List.set_cons_zero, List.set_cons_succ]
      refine wpAnyH_take (i := 1) (oi := { dst := some 48, op := Go.Op.fieldAddr 40 (Go.Operand.tmp 7) 2, type := 0, pos := "law.go:45", after := #[], guard := none }) (v := ?_) rfl (by kernel_rfl) (by kernel_rfl) (by kernel_rfl) (fun _ _ _ h => h) (Or.inl ⟨by rfl, ?_⟩) (by assumption) ?_
      rotate_left
      · intro w hSw
        go_simp
        try with_reducible rfl
      simp only [Act.put, List.setIfInBounds_toArray, List.set_cons_zero, List.set_cons_succ]
      refine wpAnyH_take (i := 2) (oi := { dst := some 49, op := Go.Op.load 22 (Go.Operand.tmp 48), type := 22, pos := "law.go:45", after := #[{ on := 1, ground := Go.Ground.data }], guard := none }) (v := ?_) rfl (by kernel_rfl) (by kernel_rfl) (by kernel_rfl) (fun _ _ _ h => h) (Or.inl ⟨by rfl, ?_⟩) (by assumption) ?_
      rotate_left
      · intro w hSw
        go_simp
        try with_reducible rfl
      simp only [Act.put, List.setIfInBounds_toArray, List.set_cons_zero, List.set_cons_succ]
      refine wpAnyH_take (i := 4) (oi := { dst := some 51, op := Go.Op.move (Go.Operand.tmp 5), type := 37, pos := "law.go:45", after := #[], guard := none }) (v := ?_) rfl (by kernel_rfl) (by kernel_rfl) (by kernel_rfl) (fun _ _ _ h => h) (Or.inl ⟨by rfl, ?_⟩) (by assumption) ?_
      rotate_left
      · intro w hSw
        go_simp
        try with_reducible rfl
      simp only [Act.put, List.setIfInBounds_toArray, List.set_cons_zero, List.set_cons_succ]
      refine wpAnyH_take (i := 5) (oi := { dst := some 52, op := Go.Op.fieldAddr 40 (Go.Operand.tmp 7) 2, type := 0, pos := "law.go:45", after := #[], guard := none }) (v := ?_) rfl (by kernel_rfl) (by kernel_rfl) (by kernel_rfl) (fun _ _ _ h => h) (Or.inl ⟨by rfl, ?_⟩) (by assumption) ?_
      rotate_left
      · intro w hSw
        go_simp
        try with_reducible rfl
      simp only [Act.put, List.setIfInBounds_toArray, List.set_cons_zero, List.set_cons_succ]
      refine wpAnyH_take (i := 6) (oi := { dst := some 53, op := Go.Op.load 22 (Go.Operand.tmp 52), type := 22, pos := "law.go:45", after := #[{ on := 5, ground := Go.Ground.data }], guard := none }) (v := ?_) rfl (by kernel_rfl) (by kernel_rfl) (by kernel_rfl) (fun _ _ _ h => h) (Or.inl ⟨by rfl, ?_⟩) (by assumption) ?_
      rotate_left
      · intro w hSw
        go_simp
        try with_reducible rfl
      simp only [Act.put, List.setIfInBounds_toArray, List.set_cons_zero, List.set_cons_succ]
      refine wpAnyH_ready (rs := [3]) (by kernel_rfl) (by simp) ?_
      refine AllReadyH.cons (o := { dst := some 50, op := Go.Op.call { callee := Go.Callee.value (Go.Operand.func 16), args := #[Go.Operand.tmp 47, Go.Operand.tmp 49], argTypes := #[24, 22] }, type := 26, pos := "law.go:45", after := #[{ on := 0, ground := Go.Ground.data }, { on := 2, ground := Go.Ground.data }], guard := none }) rfl (fun K hK => ?_) AllReadyH.nil
      go_simp
      refine (pd_append HP0.out.drew HX.out hbg).mono ?_
      rintro e w4 ⟨rfl, hM4, hst4⟩
      rw [HE.out]
      have hB4 := hst4 _ _ HB0.out.drew
      have hg4 : w4.cell? ⟨g, 2, none⟩ = some (.slice B xs.length cb) := by have h := hB4.cell 2; simpa using h
      refine hK.out _ _ hg4 (fun hHeld => ?_)
      clear hK K
      try simp only [Act.put, List.setIfInBounds_toArray, List.set_cons_zero, List.set_cons_succ]
      refine wpAnyH_ready (rs := [7]) (by kernel_rfl) (by simp) ?_
      refine AllReadyH.cons (o := { dst := some 54, op := Go.Op.call { callee := Go.Callee.value (Go.Operand.func 24), args := #[Go.Operand.tmp 51, Go.Operand.tmp 53], argTypes := #[37, 22] }, type := 26, pos := "law.go:45", after := #[{ on := 4, ground := Go.Ground.data }, { on := 6, ground := Go.Ground.data }, { on := 3, ground := Go.Ground.chain }], guard := none }) rfl (fun K hK => ?_) AllReadyH.nil
      go_simp
      refine (pr_append hM4 hs HX.out hbg).mono ?_
      rintro e w4b ⟨rfl, hP4, hst4b⟩
      rw [HE.out]
      have hB4b := hst4b _ _ hB4
      have hg4b : w4b.cell? ⟨g, 2, none⟩ = some (.slice B xs.length cb) := by have h := hB4b.cell 2; simpa using h
      refine hK.out _ _ hg4b (fun hHeld => ?_)
      clear hK K
      try simp only [Act.put, List.setIfInBounds_toArray, List.set_cons_zero, List.set_cons_succ]
      refine wpAnyH_take (i := 8) (oi := { dst := some 55, op := Go.Op.binOp Go.BinOp.eql 26 (Go.Operand.tmp 50) (Go.Operand.tmp 54) 26, type := 4, pos := "law.go:45", after := #[{ on := 3, ground := Go.Ground.data }, { on := 7, ground := Go.Ground.data }], guard := none }) (v := ?_) rfl (by kernel_rfl) (by kernel_rfl) (by kernel_rfl) (fun _ _ _ h => h) (Or.inl ⟨by rfl, ?_⟩) (by assumption) ?_
      rotate_left
      · intro w hSw
        go_simp
        try with_reducible rfl
      simp only [Act.put, List.setIfInBounds_toArray, List.set_cons_zero, List.set_cons_succ]
      refine wpAnyH_take (i := 9) (oi := { dst := some 8, op := Go.Op.assign (Go.Operand.tmp 55), type := 4, pos := "law.go:45", after := #[{ on := 8, ground := Go.Ground.data }, { on := 7, ground := Go.Ground.chain }, { on := 0, ground := Go.Ground.phase }, { on := 1, ground := Go.Ground.phase }, { on := 2, ground := Go.Ground.phase }, { on := 3, ground := Go.Ground.phase }, { on := 4, ground := Go.Ground.phase }, { on := 5, ground := Go.Ground.phase }, { on := 6, ground := Go.Ground.phase }, { on := 7, ground := Go.Ground.phase }, { on := 8, ground := Go.Ground.phase }], guard := none }) (v := ?_) rfl (by kernel_rfl) (by kernel_rfl) (by kernel_rfl) (fun _ _ _ h => h) (Or.inl ⟨by rfl, ?_⟩) (by assumption) ?_
      rotate_left
      · intro w hSw
        go_simp
        try with_reducible rfl
      simp only [Act.put, List.setIfInBounds_toArray, List.set_cons_zero, List.set_cons_succ]
      refine wpAnyH_done (by kernel_rfl) ?_ _
      have HP4 := Lib.hid hP4
      clear hP4 hM4 hB4 hB4b hst4 hst4b hg4 hg4b hg0 hHeld hs
      go_wp2_with fail
      obtain ⟨bo, hbo⟩ : ∃ bo, (t.append xs).off = bo := ⟨_, rfl⟩
      obtain ⟨X, hX⟩ : ∃ X, X = strOfNums ((t.append xs).l ++ (t.append xs).t) := ⟨_, rfl⟩
      have Hbo := Lib.hid hbo
      have HX2 := Lib.hid hX
      clear hbo hX
      have hP0 := HP4.out.drew
      have hS0 := hP0.offCell
      rw [Hbo.out] at hS0
      refine wp_region_held_drew (S := fun W => W.cell? ⟨r, 3, none⟩ = some (.bool bo)) (by kernel_rfl) hS0 (fun hHeld => ?_)
      refine wpAnyH_take (i := 0) (oi := { dst := some 84, op := Go.Op.move (Go.Operand.tmp 8), type := 4, pos := "law.go:57", after := #[], guard := none }) (v := ?_) rfl (by kernel_rfl) (by kernel_rfl) (by kernel_rfl) (fun _ _ _ h => h) (Or.inl ⟨by rfl, ?_⟩) (by assumption) ?_
      rotate_left
      · intro w hSw
        go_simp
        try with_reducible rfl
      simp only [Act.put, List.setIfInBounds_toArray, List.set_cons_zero, List.set_cons_succ]
      refine wpAnyH_take (i := 1) (oi := { dst := some 85, op := Go.Op.unOp Go.UnOp.not 4 (Go.Operand.tmp 84), type := 4, pos := "law.go:57", after := #[{ on := 0, ground := Go.Ground.data }], guard := none }) (v := ?_) rfl (by kernel_rfl) (by kernel_rfl) (by kernel_rfl) (fun _ _ _ h => h) (Or.inl ⟨by rfl, ?_⟩) (by assumption) ?_
      rotate_left
      · intro w hSw
        go_simp
        try with_reducible rfl
      simp only [Act.put, List.setIfInBounds_toArray, List.set_cons_zero, List.set_cons_succ]
      refine wpAnyH_take (i := 2) (oi := { dst := some 86, op := Go.Op.move (Go.Operand.tmp 85), type := 4, pos := "law.go:57", after := #[{ on := 1, ground := Go.Ground.data }], guard := none }) (v := ?_) rfl (by kernel_rfl) (by kernel_rfl) (by kernel_rfl) (fun _ _ _ h => h) (Or.inl ⟨by rfl, ?_⟩) (by assumption) ?_
      rotate_left
      · intro w hSw
        go_simp
        try with_reducible rfl
      simp only [Act.put, List.setIfInBounds_toArray, List.set_cons_zero, List.set_cons_succ]
      refine wpAnyH_take (i := 3) (oi := { dst := some 87, op := Go.Op.move (Go.Operand.tmp 4), type := 24, pos := "law.go:57", after := #[{ on := 2, ground := Go.Ground.guard }], guard := some (2, false) }) (v := ?_) rfl (by kernel_rfl) (by kernel_rfl) (by kernel_rfl) (fun _ _ _ h => h) (Or.inl ⟨by rfl, ?_⟩) (by assumption) ?_
      rotate_left
      · intro w hSw
        go_simp
        try with_reducible rfl
      simp only [Act.put, List.setIfInBounds_toArray, List.set_cons_zero, List.set_cons_succ]
      refine wpAnyH_take (i := 6) (oi := { dst := some 90, op := Go.Op.move (Go.Operand.tmp 5), type := 37, pos := "law.go:57", after := #[{ on := 2, ground := Go.Ground.guard }], guard := some (2, false) }) (v := ?_) rfl (by kernel_rfl) (by kernel_rfl) (by kernel_rfl) (fun _ _ _ h => h) (Or.inl ⟨by rfl, ?_⟩) (by assumption) ?_
      rotate_left
      · intro w hSw
        go_simp
        try with_reducible rfl
      simp only [Act.put, List.setIfInBounds_toArray, List.set_cons_zero, List.set_cons_succ]
      refine wpAnyH_ready (rs := [4]) (by kernel_rfl) (by simp) ?_
      refine AllReadyH.cons (o := { dst := some 88, op := Go.Op.call { callee := Go.Callee.value (Go.Operand.func 17), args := #[Go.Operand.tmp 87], argTypes := #[24] }, type := 22, pos := "law.go:57", after := #[{ on := 3, ground := Go.Ground.data }, { on := 2, ground := Go.Ground.chain }, { on := 2, ground := Go.Ground.guard }], guard := some (2, false) }) rfl (fun K hK => ?_) AllReadyH.nil
      go_simp
      refine (pd_bytes hP0).mono ?_
      rintro e w5 ⟨A5, n5, c5, rfl, hr5, -, hP5, -, hb5⟩
      have hS5 := hP5.offCell
      rw [Hbo.out] at hS5
      have hc5 : (convert 22 9 (.slice A5 n5 c5)).run Try.prog w5 = .ok (.string X) w5 := by rw [HX2.out]; exact conv_reads hr5 c5
      refine hK.out _ _ hS5 (fun hHeld => ?_)
      clear hK K
      try simp only [Act.put, List.setIfInBounds_toArray, List.set_cons_zero, List.set_cons_succ]
      refine wpAnyH_ready (rs := [5, 7]) (by kernel_rfl) (by simp) ?_
      refine AllReadyH.cons (o := { dst := some 89, op := Go.Op.convert 22 9 (Go.Operand.tmp 88), type := 9, pos := "law.go:57", after := #[{ on := 4, ground := Go.Ground.data }, { on := 2, ground := Go.Ground.guard }], guard := some (2, false) }) rfl (fun K hK => ?_) (AllReadyH.cons (o := { dst := some 91, op := Go.Op.call { callee := Go.Callee.value (Go.Operand.func 29), args := #[Go.Operand.tmp 90], argTypes := #[37] }, type := 22, pos := "law.go:57", after := #[{ on := 6, ground := Go.Ground.data }, { on := 4, ground := Go.Ground.chain }, { on := 2, ground := Go.Ground.guard }], guard := some (2, false) }) rfl (fun K hK => ?_) AllReadyH.nil)
      · go_simp
        refine hK.out _ _ hS5 (fun hHeld => ?_)
        clear hK K
        refine wpAnyH_ready (rs := [7]) (by kernel_rfl) (by simp) ?_
        refine AllReadyH.cons (o := { dst := some 91, op := Go.Op.call { callee := Go.Callee.value (Go.Operand.func 29), args := #[Go.Operand.tmp 90], argTypes := #[37] }, type := 22, pos := "law.go:57", after := #[{ on := 6, ground := Go.Ground.data }, { on := 4, ground := Go.Ground.chain }, { on := 2, ground := Go.Ground.guard }], guard := some (2, false) }) rfl (fun K hK => ?_) AllReadyH.nil
        go_simp
        refine (pr_bytes hP5).mono ?_
        rintro e w6 ⟨A6, n6, c6, rfl, hr6, -, hP6, -, hb6⟩
        have hS6 := hP6.offCell
        rw [Hbo.out] at hS6
        have hc6 : (convert 22 9 (.slice A6 n6 c6)).run Try.prog w6 = .ok (.string X) w6 := by rw [HX2.out]; exact conv_reads hr6 c6
        have hc56 : (convert 22 9 (.slice A5 n5 c5)).run Try.prog w6 = .ok (.string X) w6 := by rw [HX2.out]; exact conv_reads (hr5.below hb6) c5
        refine hK.out _ _ hS6 (fun hHeld => ?_)
        clear hK K
        refine wpAnyH_ready (rs := [8]) (by kernel_rfl) (by simp) ?_
        refine AllReadyH.cons (o := { dst := some 92, op := Go.Op.convert 22 9 (Go.Operand.tmp 91), type := 9, pos := "law.go:57", after := #[{ on := 7, ground := Go.Ground.data }, { on := 2, ground := Go.Ground.guard }], guard := some (2, false) }) rfl (fun K hK => ?_) AllReadyH.nil
        go_simp
        refine hK.out _ _ hS6 (fun hHeld => ?_)
        clear hK K
        try simp only [Act.put, List.setIfInBounds_toArray, List.set_cons_zero, List.set_cons_succ]
        refine wpAnyH_take (i := 9) (oi := { dst := some 93, op := Go.Op.binOp Go.BinOp.neq 9 (Go.Operand.tmp 89) (Go.Operand.tmp 92) 9, type := 4, pos := "law.go:57", after := #[{ on := 5, ground := Go.Ground.data }, { on := 8, ground := Go.Ground.data }, { on := 2, ground := Go.Ground.guard }], guard := some (2, false) }) (v := ?_) rfl (by kernel_rfl) (by kernel_rfl) (by kernel_rfl) (fun _ _ _ h => h) (Or.inl ⟨by rfl, ?_⟩) (by assumption) ?_
        rotate_left
        · intro w hSw
          go_simp
          try with_reducible rfl
        simp only [Act.put, List.setIfInBounds_toArray, List.set_cons_zero, List.set_cons_succ]
        refine wpAnyH_take (i := 10) (oi := { dst := some 94, op := Go.Op.pick (Go.Operand.tmp 86) (Go.Operand.const (Go.Value.bool true)) (Go.Operand.tmp 93), type := 4, pos := "law.go:57", after := #[{ on := 2, ground := Go.Ground.data }, { on := 9, ground := Go.Ground.data }], guard := none }) (v := ?_) rfl (by kernel_rfl) (by kernel_rfl) (by kernel_rfl) (fun _ _ _ h => h) (Or.inl ⟨by rfl, ?_⟩) (by assumption) ?_
        rotate_left
        · intro w hSw
          go_simp
          try with_reducible rfl
        simp only [Act.put, List.setIfInBounds_toArray, List.set_cons_zero, List.set_cons_succ]
        refine wpAnyH_take (i := 11) (oi := { dst := some 95, op := Go.Op.move (Go.Operand.tmp 94), type := 4, pos := "law.go:57", after := #[{ on := 10, ground := Go.Ground.data }, { on := 7, ground := Go.Ground.chain }], guard := none }) (v := ?_) rfl (by kernel_rfl) (by kernel_rfl) (by kernel_rfl) (fun _ _ _ h => h) (Or.inl ⟨by rfl, ?_⟩) (by assumption) ?_
        rotate_left
        · intro w hSw
          go_simp
          try with_reducible rfl
        simp only [Act.put, List.setIfInBounds_toArray, List.set_cons_zero, List.set_cons_succ]
        refine wpAnyH_take (i := 12) (oi := { dst := some 96, op := Go.Op.move (Go.Operand.tmp 4), type := 24, pos := "law.go:57", after := #[{ on := 11, ground := Go.Ground.guard }], guard := some (11, false) }) (v := ?_) rfl (by kernel_rfl) (by kernel_rfl) (by kernel_rfl) (fun _ _ _ h => h) (Or.inl ⟨by rfl, ?_⟩) (by assumption) ?_
        rotate_left
        · intro w hSw
          go_simp
          try with_reducible rfl
        simp only [Act.put, List.setIfInBounds_toArray, List.set_cons_zero, List.set_cons_succ]
        refine wpAnyH_take (i := 14) (oi := { dst := some 98, op := Go.Op.move (Go.Operand.tmp 5), type := 37, pos := "law.go:57", after := #[{ on := 11, ground := Go.Ground.guard }], guard := some (11, false) }) (v := ?_) rfl (by kernel_rfl) (by kernel_rfl) (by kernel_rfl) (fun _ _ _ h => h) (Or.inl ⟨by rfl, ?_⟩) (by assumption) ?_
        rotate_left
        · intro w hSw
          go_simp
          try with_reducible rfl
        simp only [Act.put, List.setIfInBounds_toArray, List.set_cons_zero, List.set_cons_succ]
        refine wpAnyH_take (i := 15) (oi := { dst := some 99, op := Go.Op.nilCheck (Go.Operand.tmp 98), type := 0, pos := "law.go:57", after := #[{ on := 14, ground := Go.Ground.data }, { on := 11, ground := Go.Ground.guard }], guard := some (11, false) }) (v := ?_) rfl (by kernel_rfl) (by kernel_rfl) (by kernel_rfl) (fun _ _ _ h => h) (Or.inl ⟨by rfl, ?_⟩) (by assumption) ?_
        rotate_left
        · intro w hSw
          go_simp
          try with_reducible rfl
        simp only [Act.put, List.setIfInBounds_toArray, List.set_cons_zero, List.set_cons_succ]
        refine wpAnyH_take (i := 16) (oi := { dst := some 100, op := Go.Op.fieldAddr 42 (Go.Operand.tmp 99) 3, type := 0, pos := "law.go:57", after := #[{ on := 15, ground := Go.Ground.data }, { on := 11, ground := Go.Ground.guard }], guard := some (11, false) }) (v := ?_) rfl (by kernel_rfl) (by kernel_rfl) (by kernel_rfl) (fun _ _ _ h => h) (Or.inl ⟨by rfl, ?_⟩) (by assumption) ?_
        rotate_left
        · intro w hSw
          go_simp
          try with_reducible rfl
        simp only [Act.put, List.setIfInBounds_toArray, List.set_cons_zero, List.set_cons_succ]
        refine wpAnyH_take (i := 17) (oi := { dst := some 101, op := Go.Op.load 4 (Go.Operand.tmp 100), type := 4, pos := "law.go:57", after := #[{ on := 16, ground := Go.Ground.data }, { on := 11, ground := Go.Ground.guard }], guard := some (11, false) }) (v := ?_) rfl (by kernel_rfl) (by kernel_rfl) (by kernel_rfl) (fun _ _ _ h => h) (Or.inl ⟨by rfl, ?_⟩) (by assumption) ?_
        rotate_left
        · intro w hSw
          go_simp
          try with_reducible rfl
        simp only [Act.put, List.setIfInBounds_toArray, List.set_cons_zero, List.set_cons_succ]
        refine wpAnyH_ready (rs := [13]) (by kernel_rfl) (by simp) ?_
        refine AllReadyH.cons (o := { dst := some 97, op := Go.Op.call { callee := Go.Callee.value (Go.Operand.func 20), args := #[Go.Operand.tmp 96], argTypes := #[24] }, type := 4, pos := "law.go:57", after := #[{ on := 12, ground := Go.Ground.data }, { on := 11, ground := Go.Ground.chain }, { on := 11, ground := Go.Ground.guard }], guard := some (11, false) }) rfl (fun K hK => ?_) AllReadyH.nil
        go_simp
        refine (pd_off hP6).mono ?_
        rintro e w7 ⟨rfl, rfl⟩
        rw [Hbo.out]
        refine hK.out _ _ hS6 (fun hHeld => ?_)
        clear hK K
        try simp only [Act.put, List.setIfInBounds_toArray, List.set_cons_zero, List.set_cons_succ]
        refine wpAnyH_take (i := 18) (oi := { dst := some 102, op := Go.Op.binOp Go.BinOp.neq 4 (Go.Operand.tmp 97) (Go.Operand.tmp 101) 4, type := 4, pos := "law.go:57", after := #[{ on := 13, ground := Go.Ground.data }, { on := 17, ground := Go.Ground.data }, { on := 11, ground := Go.Ground.guard }], guard := some (11, false) }) (v := ?_) rfl (by kernel_rfl) (by kernel_rfl) (by kernel_rfl) (fun _ _ _ h => h) (Or.inl ⟨by rfl, ?_⟩) (by assumption) ?_
        rotate_left
        · intro w hSw
          go_simp
          try with_reducible rfl
        simp only [Act.put, List.setIfInBounds_toArray, List.set_cons_zero, List.set_cons_succ]
        refine wpAnyH_take (i := 19) (oi := { dst := some 103, op := Go.Op.pick (Go.Operand.tmp 95) (Go.Operand.const (Go.Value.bool true)) (Go.Operand.tmp 102), type := 4, pos := "law.go:57", after := #[{ on := 11, ground := Go.Ground.data }, { on := 18, ground := Go.Ground.data }], guard := none }) (v := ?_) rfl (by kernel_rfl) (by kernel_rfl) (by kernel_rfl) (fun _ _ _ h => h) (Or.inl ⟨by rfl, ?_⟩) (by assumption) ?_
        rotate_left
        · intro w hSw
          go_simp
          try with_reducible rfl
        simp only [Act.put, List.setIfInBounds_toArray, List.set_cons_zero, List.set_cons_succ]
        refine wpAnyH_done (by kernel_rfl) ?_ _
        have HP6 := Lib.hid hP6
        clear hP6 hP5 hP0 hS0 hS5 hS6 hc5 hc6 hc56 hr5 hr6 hb5 hb6 hHeld
        go_wp2_with fail
        go_roundw
        case rel => exact ⟨k + 1, (s.append xs), (t.append xs), by omega, by go_num, HP6⟩
        case measure => simp [intOf]; omega
      · go_simp
        refine (pr_bytes hP5).mono ?_
        rintro e w6 ⟨A6, n6, c6, rfl, hr6, -, hP6, -, hb6⟩
        have hS6 := hP6.offCell
        rw [Hbo.out] at hS6
        have hc6 : (convert 22 9 (.slice A6 n6 c6)).run Try.prog w6 = .ok (.string X) w6 := by rw [HX2.out]; exact conv_reads hr6 c6
        have hc56 : (convert 22 9 (.slice A5 n5 c5)).run Try.prog w6 = .ok (.string X) w6 := by rw [HX2.out]; exact conv_reads (hr5.below hb6) c5
        refine hK.out _ _ hS6 (fun hHeld => ?_)
        clear hK K
        try simp only [Act.put, List.setIfInBounds_toArray, List.set_cons_zero, List.set_cons_succ]
        refine wpAnyH_ready (rs := [5, 8]) (by kernel_rfl) (by simp) ?_
        refine AllReadyH.cons (o := { dst := some 89, op := Go.Op.convert 22 9 (Go.Operand.tmp 88), type := 9, pos := "law.go:57", after := #[{ on := 4, ground := Go.Ground.data }, { on := 2, ground := Go.Ground.guard }], guard := some (2, false) }) rfl (fun K hK => ?_) (AllReadyH.cons (o := { dst := some 92, op := Go.Op.convert 22 9 (Go.Operand.tmp 91), type := 9, pos := "law.go:57", after := #[{ on := 7, ground := Go.Ground.data }, { on := 2, ground := Go.Ground.guard }], guard := some (2, false) }) rfl (fun K hK => ?_) AllReadyH.nil)
        · go_simp
          refine hK.out _ _ hS6 (fun hHeld => ?_)
          clear hK K
          refine wpAnyH_ready (rs := [8]) (by kernel_rfl) (by simp) ?_
          refine AllReadyH.cons (o := { dst := some 92, op := Go.Op.convert 22 9 (Go.Operand.tmp 91), type := 9, pos := "law.go:57", after := #[{ on := 7, ground := Go.Ground.data }, { on := 2, ground := Go.Ground.guard }], guard := some (2, false) }) rfl (fun K hK => ?_) AllReadyH.nil
          go_simp
          refine hK.out _ _ hS6 (fun hHeld => ?_)
          clear hK K
          try simp only [Act.put, List.setIfInBounds_toArray, List.set_cons_zero, List.set_cons_succ]
          refine wpAnyH_take (i := 9) (oi := { dst := some 93, op := Go.Op.binOp Go.BinOp.neq 9 (Go.Operand.tmp 89) (Go.Operand.tmp 92) 9, type := 4, pos := "law.go:57", after := #[{ on := 5, ground := Go.Ground.data }, { on := 8, ground := Go.Ground.data }, { on := 2, ground := Go.Ground.guard }], guard := some (2, false) }) (v := ?_) rfl (by kernel_rfl) (by kernel_rfl) (by kernel_rfl) (fun _ _ _ h => h) (Or.inl ⟨by rfl, ?_⟩) (by assumption) ?_
          rotate_left
          · intro w hSw
            go_simp
            try with_reducible rfl
          simp only [Act.put, List.setIfInBounds_toArray, List.set_cons_zero, List.set_cons_succ]
          refine wpAnyH_take (i := 10) (oi := { dst := some 94, op := Go.Op.pick (Go.Operand.tmp 86) (Go.Operand.const (Go.Value.bool true)) (Go.Operand.tmp 93), type := 4, pos := "law.go:57", after := #[{ on := 2, ground := Go.Ground.data }, { on := 9, ground := Go.Ground.data }], guard := none }) (v := ?_) rfl (by kernel_rfl) (by kernel_rfl) (by kernel_rfl) (fun _ _ _ h => h) (Or.inl ⟨by rfl, ?_⟩) (by assumption) ?_
          rotate_left
          · intro w hSw
            go_simp
            try with_reducible rfl
          simp only [Act.put, List.setIfInBounds_toArray, List.set_cons_zero, List.set_cons_succ]
          refine wpAnyH_take (i := 11) (oi := { dst := some 95, op := Go.Op.move (Go.Operand.tmp 94), type := 4, pos := "law.go:57", after := #[{ on := 10, ground := Go.Ground.data }, { on := 7, ground := Go.Ground.chain }], guard := none }) (v := ?_) rfl (by kernel_rfl) (by kernel_rfl) (by kernel_rfl) (fun _ _ _ h => h) (Or.inl ⟨by rfl, ?_⟩) (by assumption) ?_
          rotate_left
          · intro w hSw
            go_simp
            try with_reducible rfl
          simp only [Act.put, List.setIfInBounds_toArray, List.set_cons_zero, List.set_cons_succ]
          refine wpAnyH_take (i := 12) (oi := { dst := some 96, op := Go.Op.move (Go.Operand.tmp 4), type := 24, pos := "law.go:57", after := #[{ on := 11, ground := Go.Ground.guard }], guard := some (11, false) }) (v := ?_) rfl (by kernel_rfl) (by kernel_rfl) (by kernel_rfl) (fun _ _ _ h => h) (Or.inl ⟨by rfl, ?_⟩) (by assumption) ?_
          rotate_left
          · intro w hSw
            go_simp
            try with_reducible rfl
          simp only [Act.put, List.setIfInBounds_toArray, List.set_cons_zero, List.set_cons_succ]
          refine wpAnyH_take (i := 14) (oi := { dst := some 98, op := Go.Op.move (Go.Operand.tmp 5), type := 37, pos := "law.go:57", after := #[{ on := 11, ground := Go.Ground.guard }], guard := some (11, false) }) (v := ?_) rfl (by kernel_rfl) (by kernel_rfl) (by kernel_rfl) (fun _ _ _ h => h) (Or.inl ⟨by rfl, ?_⟩) (by assumption) ?_
          rotate_left
          · intro w hSw
            go_simp
            try with_reducible rfl
          simp only [Act.put, List.setIfInBounds_toArray, List.set_cons_zero, List.set_cons_succ]
          refine wpAnyH_take (i := 15) (oi := { dst := some 99, op := Go.Op.nilCheck (Go.Operand.tmp 98), type := 0, pos := "law.go:57", after := #[{ on := 14, ground := Go.Ground.data }, { on := 11, ground := Go.Ground.guard }], guard := some (11, false) }) (v := ?_) rfl (by kernel_rfl) (by kernel_rfl) (by kernel_rfl) (fun _ _ _ h => h) (Or.inl ⟨by rfl, ?_⟩) (by assumption) ?_
          rotate_left
          · intro w hSw
            go_simp
            try with_reducible rfl
          simp only [Act.put, List.setIfInBounds_toArray, List.set_cons_zero, List.set_cons_succ]
          refine wpAnyH_take (i := 16) (oi := { dst := some 100, op := Go.Op.fieldAddr 42 (Go.Operand.tmp 99) 3, type := 0, pos := "law.go:57", after := #[{ on := 15, ground := Go.Ground.data }, { on := 11, ground := Go.Ground.guard }], guard := some (11, false) }) (v := ?_) rfl (by kernel_rfl) (by kernel_rfl) (by kernel_rfl) (fun _ _ _ h => h) (Or.inl ⟨by rfl, ?_⟩) (by assumption) ?_
          rotate_left
          · intro w hSw
            go_simp
            try with_reducible rfl
          simp only [Act.put, List.setIfInBounds_toArray, List.set_cons_zero, List.set_cons_succ]
          refine wpAnyH_take (i := 17) (oi := { dst := some 101, op := Go.Op.load 4 (Go.Operand.tmp 100), type := 4, pos := "law.go:57", after := #[{ on := 16, ground := Go.Ground.data }, { on := 11, ground := Go.Ground.guard }], guard := some (11, false) }) (v := ?_) rfl (by kernel_rfl) (by kernel_rfl) (by kernel_rfl) (fun _ _ _ h => h) (Or.inl ⟨by rfl, ?_⟩) (by assumption) ?_
          rotate_left
          · intro w hSw
            go_simp
            try with_reducible rfl
          simp only [Act.put, List.setIfInBounds_toArray, List.set_cons_zero, List.set_cons_succ]
          refine wpAnyH_ready (rs := [13]) (by kernel_rfl) (by simp) ?_
          refine AllReadyH.cons (o := { dst := some 97, op := Go.Op.call { callee := Go.Callee.value (Go.Operand.func 20), args := #[Go.Operand.tmp 96], argTypes := #[24] }, type := 4, pos := "law.go:57", after := #[{ on := 12, ground := Go.Ground.data }, { on := 11, ground := Go.Ground.chain }, { on := 11, ground := Go.Ground.guard }], guard := some (11, false) }) rfl (fun K hK => ?_) AllReadyH.nil
          go_simp
          refine (pd_off hP6).mono ?_
          rintro e w7 ⟨rfl, rfl⟩
          rw [Hbo.out]
          refine hK.out _ _ hS6 (fun hHeld => ?_)
          clear hK K
          try simp only [Act.put, List.setIfInBounds_toArray, List.set_cons_zero, List.set_cons_succ]
          refine wpAnyH_take (i := 18) (oi := { dst := some 102, op := Go.Op.binOp Go.BinOp.neq 4 (Go.Operand.tmp 97) (Go.Operand.tmp 101) 4, type := 4, pos := "law.go:57", after := #[{ on := 13, ground := Go.Ground.data }, { on := 17, ground := Go.Ground.data }, { on := 11, ground := Go.Ground.guard }], guard := some (11, false) }) (v := ?_) rfl (by kernel_rfl) (by kernel_rfl) (by kernel_rfl) (fun _ _ _ h => h) (Or.inl ⟨by rfl, ?_⟩) (by assumption) ?_
          rotate_left
          · intro w hSw
            go_simp
            try with_reducible rfl
          simp only [Act.put, List.setIfInBounds_toArray, List.set_cons_zero, List.set_cons_succ]
          refine wpAnyH_take (i := 19) (oi := { dst := some 103, op := Go.Op.pick (Go.Operand.tmp 95) (Go.Operand.const (Go.Value.bool true)) (Go.Operand.tmp 102), type := 4, pos := "law.go:57", after := #[{ on := 11, ground := Go.Ground.data }, { on := 18, ground := Go.Ground.data }], guard := none }) (v := ?_) rfl (by kernel_rfl) (by kernel_rfl) (by kernel_rfl) (fun _ _ _ h => h) (Or.inl ⟨by rfl, ?_⟩) (by assumption) ?_
          rotate_left
          · intro w hSw
            go_simp
            try with_reducible rfl
          simp only [Act.put, List.setIfInBounds_toArray, List.set_cons_zero, List.set_cons_succ]
          refine wpAnyH_done (by kernel_rfl) ?_ _
          have HP6 := Lib.hid hP6
          clear hP6 hP5 hP0 hS0 hS5 hS6 hc5 hc6 hc56 hr5 hr6 hb5 hb6 hHeld
          go_wp2_with fail
          go_roundw
          case rel => exact ⟨k + 1, (s.append xs), (t.append xs), by omega, by go_num, HP6⟩
          case measure => simp [intOf]; omega
        · go_simp
          refine hK.out _ _ hS6 (fun hHeld => ?_)
          clear hK K
          refine wpAnyH_ready (rs := [5]) (by kernel_rfl) (by simp) ?_
          refine AllReadyH.cons (o := { dst := some 89, op := Go.Op.convert 22 9 (Go.Operand.tmp 88), type := 9, pos := "law.go:57", after := #[{ on := 4, ground := Go.Ground.data }, { on := 2, ground := Go.Ground.guard }], guard := some (2, false) }) rfl (fun K hK => ?_) AllReadyH.nil
          go_simp
          refine hK.out _ _ hS6 (fun hHeld => ?_)
          clear hK K
          try simp only [Act.put, List.setIfInBounds_toArray, List.set_cons_zero, List.set_cons_succ]
          refine wpAnyH_take (i := 9) (oi := { dst := some 93, op := Go.Op.binOp Go.BinOp.neq 9 (Go.Operand.tmp 89) (Go.Operand.tmp 92) 9, type := 4, pos := "law.go:57", after := #[{ on := 5, ground := Go.Ground.data }, { on := 8, ground := Go.Ground.data }, { on := 2, ground := Go.Ground.guard }], guard := some (2, false) }) (v := ?_) rfl (by kernel_rfl) (by kernel_rfl) (by kernel_rfl) (fun _ _ _ h => h) (Or.inl ⟨by rfl, ?_⟩) (by assumption) ?_
          rotate_left
          · intro w hSw
            go_simp
            try with_reducible rfl
          simp only [Act.put, List.setIfInBounds_toArray, List.set_cons_zero, List.set_cons_succ]
          refine wpAnyH_take (i := 10) (oi := { dst := some 94, op := Go.Op.pick (Go.Operand.tmp 86) (Go.Operand.const (Go.Value.bool true)) (Go.Operand.tmp 93), type := 4, pos := "law.go:57", after := #[{ on := 2, ground := Go.Ground.data }, { on := 9, ground := Go.Ground.data }], guard := none }) (v := ?_) rfl (by kernel_rfl) (by kernel_rfl) (by kernel_rfl) (fun _ _ _ h => h) (Or.inl ⟨by rfl, ?_⟩) (by assumption) ?_
          rotate_left
          · intro w hSw
            go_simp
            try with_reducible rfl
          simp only [Act.put, List.setIfInBounds_toArray, List.set_cons_zero, List.set_cons_succ]
          refine wpAnyH_take (i := 11) (oi := { dst := some 95, op := Go.Op.move (Go.Operand.tmp 94), type := 4, pos := "law.go:57", after := #[{ on := 10, ground := Go.Ground.data }, { on := 7, ground := Go.Ground.chain }], guard := none }) (v := ?_) rfl (by kernel_rfl) (by kernel_rfl) (by kernel_rfl) (fun _ _ _ h => h) (Or.inl ⟨by rfl, ?_⟩) (by assumption) ?_
          rotate_left
          · intro w hSw
            go_simp
            try with_reducible rfl
          simp only [Act.put, List.setIfInBounds_toArray, List.set_cons_zero, List.set_cons_succ]
          refine wpAnyH_take (i := 12) (oi := { dst := some 96, op := Go.Op.move (Go.Operand.tmp 4), type := 24, pos := "law.go:57", after := #[{ on := 11, ground := Go.Ground.guard }], guard := some (11, false) }) (v := ?_) rfl (by kernel_rfl) (by kernel_rfl) (by kernel_rfl) (fun _ _ _ h => h) (Or.inl ⟨by rfl, ?_⟩) (by assumption) ?_
          rotate_left
          · intro w hSw
            go_simp
            try with_reducible rfl
          simp only [Act.put, List.setIfInBounds_toArray, List.set_cons_zero, List.set_cons_succ]
          refine wpAnyH_take (i := 14) (oi := { dst := some 98, op := Go.Op.move (Go.Operand.tmp 5), type := 37, pos := "law.go:57", after := #[{ on := 11, ground := Go.Ground.guard }], guard := some (11, false) }) (v := ?_) rfl (by kernel_rfl) (by kernel_rfl) (by kernel_rfl) (fun _ _ _ h => h) (Or.inl ⟨by rfl, ?_⟩) (by assumption) ?_
          rotate_left
          · intro w hSw
            go_simp
            try with_reducible rfl
          simp only [Act.put, List.setIfInBounds_toArray, List.set_cons_zero, List.set_cons_succ]
          refine wpAnyH_take (i := 15) (oi := { dst := some 99, op := Go.Op.nilCheck (Go.Operand.tmp 98), type := 0, pos := "law.go:57", after := #[{ on := 14, ground := Go.Ground.data }, { on := 11, ground := Go.Ground.guard }], guard := some (11, false) }) (v := ?_) rfl (by kernel_rfl) (by kernel_rfl) (by kernel_rfl) (fun _ _ _ h => h) (Or.inl ⟨by rfl, ?_⟩) (by assumption) ?_
          rotate_left
          · intro w hSw
            go_simp
            try with_reducible rfl
          simp only [Act.put, List.setIfInBounds_toArray, List.set_cons_zero, List.set_cons_succ]
          refine wpAnyH_take (i := 16) (oi := { dst := some 100, op := Go.Op.fieldAddr 42 (Go.Operand.tmp 99) 3, type := 0, pos := "law.go:57", after := #[{ on := 15, ground := Go.Ground.data }, { on := 11, ground := Go.Ground.guard }], guard := some (11, false) }) (v := ?_) rfl (by kernel_rfl) (by kernel_rfl) (by kernel_rfl) (fun _ _ _ h => h) (Or.inl ⟨by rfl, ?_⟩) (by assumption) ?_
          rotate_left
          · intro w hSw
            go_simp
            try with_reducible rfl
          simp only [Act.put, List.setIfInBounds_toArray, List.set_cons_zero, List.set_cons_succ]
          refine wpAnyH_take (i := 17) (oi := { dst := some 101, op := Go.Op.load 4 (Go.Operand.tmp 100), type := 4, pos := "law.go:57", after := #[{ on := 16, ground := Go.Ground.data }, { on := 11, ground := Go.Ground.guard }], guard := some (11, false) }) (v := ?_) rfl (by kernel_rfl) (by kernel_rfl) (by kernel_rfl) (fun _ _ _ h => h) (Or.inl ⟨by rfl, ?_⟩) (by assumption) ?_
          rotate_left
          · intro w hSw
            go_simp
            try with_reducible rfl
          simp only [Act.put, List.setIfInBounds_toArray, List.set_cons_zero, List.set_cons_succ]
          refine wpAnyH_ready (rs := [13]) (by kernel_rfl) (by simp) ?_
          refine AllReadyH.cons (o := { dst := some 97, op := Go.Op.call { callee := Go.Callee.value (Go.Operand.func 20), args := #[Go.Operand.tmp 96], argTypes := #[24] }, type := 4, pos := "law.go:57", after := #[{ on := 12, ground := Go.Ground.data }, { on := 11, ground := Go.Ground.chain }, { on := 11, ground := Go.Ground.guard }], guard := some (11, false) }) rfl (fun K hK => ?_) AllReadyH.nil
          go_simp
          refine (pd_off hP6).mono ?_
          rintro e w7 ⟨rfl, rfl⟩
          rw [Hbo.out]
          refine hK.out _ _ hS6 (fun hHeld => ?_)
          clear hK K
          try simp only [Act.put, List.setIfInBounds_toArray, List.set_cons_zero, List.set_cons_succ]
          refine wpAnyH_take (i := 18) (oi := { dst := some 102, op := Go.Op.binOp Go.BinOp.neq 4 (Go.Operand.tmp 97) (Go.Operand.tmp 101) 4, type := 4, pos := "law.go:57", after := #[{ on := 13, ground := Go.Ground.data }, { on := 17, ground := Go.Ground.data }, { on := 11, ground := Go.Ground.guard }], guard := some (11, false) }) (v := ?_) rfl (by kernel_rfl) (by kernel_rfl) (by kernel_rfl) (fun _ _ _ h => h) (Or.inl ⟨by rfl, ?_⟩) (by assumption) ?_
          rotate_left
          · intro w hSw
            go_simp
            try with_reducible rfl
          simp only [Act.put, List.setIfInBounds_toArray, List.set_cons_zero, List.set_cons_succ]
          refine wpAnyH_take (i := 19) (oi := { dst := some 103, op := Go.Op.pick (Go.Operand.tmp 95) (Go.Operand.const (Go.Value.bool true)) (Go.Operand.tmp 102), type := 4, pos := "law.go:57", after := #[{ on := 11, ground := Go.Ground.data }, { on := 18, ground := Go.Ground.data }], guard := none }) (v := ?_) rfl (by kernel_rfl) (by kernel_rfl) (by kernel_rfl) (fun _ _ _ h => h) (Or.inl ⟨by rfl, ?_⟩) (by assumption) ?_
          rotate_left
          · intro w hSw
            go_simp
            try with_reducible rfl
          simp only [Act.put, List.setIfInBounds_toArray, List.set_cons_zero, List.set_cons_succ]
          refine wpAnyH_done (by kernel_rfl) ?_ _
          have HP6 := Lib.hid hP6
          clear hP6 hP5 hP0 hS0 hS5 hS6 hc5 hc6 hc56 hr5 hr6 hb5 hb6 hHeld
          go_wp2_with fail
          go_roundw
          case rel => exact ⟨k + 1, (s.append xs), (t.append xs), by omega, by go_num, HP6⟩
          case measure => simp [intOf]; omega
    by_cases hv2 : o = 2
    · have e0 : (o == 0) = false := by simp; omega
      have e1 : (o == 1) = false := by simp; omega
      have e2 : (o == 2) = true := by simp; omega
      clear hv2
      go_wp2_with fail
      obtain ⟨W0, hW0⟩ : ∃ W0, W0 = wr.alloc (.cells #[.int .i64 o, .int .i64 nn, .slice B xs.length cb] 40) := ⟨_, rfl⟩
      obtain ⟨g, hg⟩ : ∃ g, g = wr.heap.size := ⟨_, rfl⟩
      have HP0 := Lib.hid (show Pair w W0 d r s t by rw [hW0]; exact HW.out.alloc _)
      have HB0 := Lib.hid (show Blk W0 g 40 #[.int .i64 o, .int .i64 nn, .slice B xs.length cb] by rw [hW0, hg]; exact Blk.new _ _ _)
      rw [← hW0, ← hg]
      clear hW0 hg
      obtain ⟨E, hE⟩ : ∃ E, t.appendE xs = E := ⟨_, rfl⟩
      have HE := Lib.hid hE
      clear hE
      have hs := HW.out.same
      have hg0 : W0.drew.cell? ⟨g, 2, none⟩ = some (.slice B xs.length cb) := by have h := HB0.out.drew.cell 2; simpa using h
      refine wp_region_held_drew (S := fun W => W.cell? ⟨g, 2, none⟩ = some (.slice B xs.length cb)) (by kernel_rfl) hg0 (fun hHeld => ?_)
      refine wpAnyH_take (i := 0) (oi := { dst := some 47, op := Go.Op.move (Go.Operand.tmp 4), type := 24, pos := "law.go:45", after := #[], guard := none }) (v := ?_) rfl (by kernel_rfl) (by kernel_rfl) (by kernel_rfl) (fun _ _ _ h => h) (Or.inl ⟨by rfl, ?_⟩) (by assumption) ?_
      rotate_left
      · intro w hSw
        go_simp
        try with_reducible rfl
      simp only [Act.put, List.setIfInBounds_toArray, List.set_cons_zero, List.set_cons_succ]
      refine wpAnyH_take (i := 1) (oi := { dst := some 48, op := Go.Op.fieldAddr 40 (Go.Operand.tmp 7) 2, type := 0, pos := "law.go:45", after := #[], guard := none }) (v := ?_) rfl (by kernel_rfl) (by kernel_rfl) (by kernel_rfl) (fun _ _ _ h => h) (Or.inl ⟨by rfl, ?_⟩) (by assumption) ?_
      rotate_left
      · intro w hSw
        go_simp
        try with_reducible rfl
      simp only [Act.put, List.setIfInBounds_toArray, List.set_cons_zero, List.set_cons_succ]
      refine wpAnyH_take (i := 2) (oi := { dst := some 49, op := Go.Op.load 22 (Go.Operand.tmp 48), type := 22, pos := "law.go:45", after := #[{ on := 1, ground := Go.Ground.data }], guard := none }) (v := ?_) rfl (by kernel_rfl) (by kernel_rfl) (by kernel_rfl) (fun _ _ _ h => h) (Or.inl ⟨by rfl, ?_⟩) (by assumption) ?_
      rotate_left
      · intro w hSw
        go_simp
        try with_reducible rfl
      simp only [Act.put, List.setIfInBounds_toArray, List.set_cons_zero, List.set_cons_succ]
      refine wpAnyH_take (i := 4) (oi := { dst := some 51, op := Go.Op.move (Go.Operand.tmp 5), type := 37, pos := "law.go:45", after := #[], guard := none }) (v := ?_) rfl (by kernel_rfl) (by kernel_rfl) (by kernel_rfl) (fun _ _ _ h => h) (Or.inl ⟨by rfl, ?_⟩) (by assumption) ?_
      rotate_left
      · intro w hSw
        go_simp
        try with_reducible rfl
      simp only [Act.put, List.setIfInBounds_toArray, List.set_cons_zero, List.set_cons_succ]
      refine wpAnyH_take (i := 5) (oi := { dst := some 52, op := Go.Op.fieldAddr 40 (Go.Operand.tmp 7) 2, type := 0, pos := "law.go:45", after := #[], guard := none }) (v := ?_) rfl (by kernel_rfl) (by kernel_rfl) (by kernel_rfl) (fun _ _ _ h => h) (Or.inl ⟨by rfl, ?_⟩) (by assumption) ?_
      rotate_left
      · intro w hSw
        go_simp
        try with_reducible rfl
      simp only [Act.put, List.setIfInBounds_toArray, List.set_cons_zero, List.set_cons_succ]
      refine wpAnyH_take (i := 6) (oi := { dst := some 53, op := Go.Op.load 22 (Go.Operand.tmp 52), type := 22, pos := "law.go:45", after := #[{ on := 5, ground := Go.Ground.data }], guard := none }) (v := ?_) rfl (by kernel_rfl) (by kernel_rfl) (by kernel_rfl) (fun _ _ _ h => h) (Or.inl ⟨by rfl, ?_⟩) (by assumption) ?_
      rotate_left
      · intro w hSw
        go_simp
        try with_reducible rfl
      simp only [Act.put, List.setIfInBounds_toArray, List.set_cons_zero, List.set_cons_succ]
      refine wpAnyH_ready (rs := [3]) (by kernel_rfl) (by simp) ?_
      refine AllReadyH.cons (o := { dst := some 50, op := Go.Op.call { callee := Go.Callee.value (Go.Operand.func 16), args := #[Go.Operand.tmp 47, Go.Operand.tmp 49], argTypes := #[24, 22] }, type := 26, pos := "law.go:45", after := #[{ on := 0, ground := Go.Ground.data }, { on := 2, ground := Go.Ground.data }], guard := none }) rfl (fun K hK => ?_) AllReadyH.nil
      go_simp
      refine (pd_append HP0.out.drew HX.out hbg).mono ?_
      rintro e w4 ⟨rfl, hM4, hst4⟩
      rw [HE.out]
      have hB4 := hst4 _ _ HB0.out.drew
      have hg4 : w4.cell? ⟨g, 2, none⟩ = some (.slice B xs.length cb) := by have h := hB4.cell 2; simpa using h
      refine hK.out _ _ hg4 (fun hHeld => ?_)
      clear hK K
      try simp only [Act.put, List.setIfInBounds_toArray, List.set_cons_zero, List.set_cons_succ]
      refine wpAnyH_ready (rs := [7]) (by kernel_rfl) (by simp) ?_
      refine AllReadyH.cons (o := { dst := some 54, op := Go.Op.call { callee := Go.Callee.value (Go.Operand.func 24), args := #[Go.Operand.tmp 51, Go.Operand.tmp 53], argTypes := #[37, 22] }, type := 26, pos := "law.go:45", after := #[{ on := 4, ground := Go.Ground.data }, { on := 6, ground := Go.Ground.data }, { on := 3, ground := Go.Ground.chain }], guard := none }) rfl (fun K hK => ?_) AllReadyH.nil
      go_simp
      refine (pr_append hM4 hs HX.out hbg).mono ?_
      rintro e w4b ⟨rfl, hP4, hst4b⟩
      rw [HE.out]
      have hB4b := hst4b _ _ hB4
      have hg4b : w4b.cell? ⟨g, 2, none⟩ = some (.slice B xs.length cb) := by have h := hB4b.cell 2; simpa using h
      refine hK.out _ _ hg4b (fun hHeld => ?_)
      clear hK K
      try simp only [Act.put, List.setIfInBounds_toArray, List.set_cons_zero, List.set_cons_succ]
      refine wpAnyH_take (i := 8) (oi := { dst := some 55, op := Go.Op.binOp Go.BinOp.eql 26 (Go.Operand.tmp 50) (Go.Operand.tmp 54) 26, type := 4, pos := "law.go:45", after := #[{ on := 3, ground := Go.Ground.data }, { on := 7, ground := Go.Ground.data }], guard := none }) (v := ?_) rfl (by kernel_rfl) (by kernel_rfl) (by kernel_rfl) (fun _ _ _ h => h) (Or.inl ⟨by rfl, ?_⟩) (by assumption) ?_
      rotate_left
      · intro w hSw
        go_simp
        try with_reducible rfl
      simp only [Act.put, List.setIfInBounds_toArray, List.set_cons_zero, List.set_cons_succ]
      refine wpAnyH_take (i := 9) (oi := { dst := some 8, op := Go.Op.assign (Go.Operand.tmp 55), type := 4, pos := "law.go:45", after := #[{ on := 8, ground := Go.Ground.data }, { on := 7, ground := Go.Ground.chain }, { on := 0, ground := Go.Ground.phase }, { on := 1, ground := Go.Ground.phase }, { on := 2, ground := Go.Ground.phase }, { on := 3, ground := Go.Ground.phase }, { on := 4, ground := Go.Ground.phase }, { on := 5, ground := Go.Ground.phase }, { on := 6, ground := Go.Ground.phase }, { on := 7, ground := Go.Ground.phase }, { on := 8, ground := Go.Ground.phase }], guard := none }) (v := ?_) rfl (by kernel_rfl) (by kernel_rfl) (by kernel_rfl) (fun _ _ _ h => h) (Or.inl ⟨by rfl, ?_⟩) (by assumption) ?_
      rotate_left
      · intro w hSw
        go_simp
        try with_reducible rfl
      simp only [Act.put, List.setIfInBounds_toArray, List.set_cons_zero, List.set_cons_succ]
      refine wpAnyH_done (by kernel_rfl) ?_ _
      have HP4 := Lib.hid hP4
      clear hP4 hM4 hB4 hB4b hst4 hst4b hg4 hg4b hg0 hHeld hs
      go_wp2_with fail
      obtain ⟨bo, hbo⟩ : ∃ bo, (t.append xs).off = bo := ⟨_, rfl⟩
      obtain ⟨X, hX⟩ : ∃ X, X = strOfNums ((t.append xs).l ++ (t.append xs).t) := ⟨_, rfl⟩
      have Hbo := Lib.hid hbo
      have HX2 := Lib.hid hX
      clear hbo hX
      have hP0 := HP4.out.drew
      have hS0 := hP0.offCell
      rw [Hbo.out] at hS0
      refine wp_region_held_drew (S := fun W => W.cell? ⟨r, 3, none⟩ = some (.bool bo)) (by kernel_rfl) hS0 (fun hHeld => ?_)
      refine wpAnyH_take (i := 0) (oi := { dst := some 84, op := Go.Op.move (Go.Operand.tmp 8), type := 4, pos := "law.go:57", after := #[], guard := none }) (v := ?_) rfl (by kernel_rfl) (by kernel_rfl) (by kernel_rfl) (fun _ _ _ h => h) (Or.inl ⟨by rfl, ?_⟩) (by assumption) ?_
      rotate_left
      · intro w hSw
        go_simp
        try with_reducible rfl
      simp only [Act.put, List.setIfInBounds_toArray, List.set_cons_zero, List.set_cons_succ]
      refine wpAnyH_take (i := 1) (oi := { dst := some 85, op := Go.Op.unOp Go.UnOp.not 4 (Go.Operand.tmp 84), type := 4, pos := "law.go:57", after := #[{ on := 0, ground := Go.Ground.data }], guard := none }) (v := ?_) rfl (by kernel_rfl) (by kernel_rfl) (by kernel_rfl) (fun _ _ _ h => h) (Or.inl ⟨by rfl, ?_⟩) (by assumption) ?_
      rotate_left
      · intro w hSw
        go_simp
        try with_reducible rfl
      simp only [Act.put, List.setIfInBounds_toArray, List.set_cons_zero, List.set_cons_succ]
      refine wpAnyH_take (i := 2) (oi := { dst := some 86, op := Go.Op.move (Go.Operand.tmp 85), type := 4, pos := "law.go:57", after := #[{ on := 1, ground := Go.Ground.data }], guard := none }) (v := ?_) rfl (by kernel_rfl) (by kernel_rfl) (by kernel_rfl) (fun _ _ _ h => h) (Or.inl ⟨by rfl, ?_⟩) (by assumption) ?_
      rotate_left
      · intro w hSw
        go_simp
        try with_reducible rfl
      simp only [Act.put, List.setIfInBounds_toArray, List.set_cons_zero, List.set_cons_succ]
      refine wpAnyH_take (i := 3) (oi := { dst := some 87, op := Go.Op.move (Go.Operand.tmp 4), type := 24, pos := "law.go:57", after := #[{ on := 2, ground := Go.Ground.guard }], guard := some (2, false) }) (v := ?_) rfl (by kernel_rfl) (by kernel_rfl) (by kernel_rfl) (fun _ _ _ h => h) (Or.inl ⟨by rfl, ?_⟩) (by assumption) ?_
      rotate_left
      · intro w hSw
        go_simp
        try with_reducible rfl
      simp only [Act.put, List.setIfInBounds_toArray, List.set_cons_zero, List.set_cons_succ]
      refine wpAnyH_take (i := 6) (oi := { dst := some 90, op := Go.Op.move (Go.Operand.tmp 5), type := 37, pos := "law.go:57", after := #[{ on := 2, ground := Go.Ground.guard }], guard := some (2, false) }) (v := ?_) rfl (by kernel_rfl) (by kernel_rfl) (by kernel_rfl) (fun _ _ _ h => h) (Or.inl ⟨by rfl, ?_⟩) (by assumption) ?_
      rotate_left
      · intro w hSw
        go_simp
        try with_reducible rfl
      simp only [Act.put, List.setIfInBounds_toArray, List.set_cons_zero, List.set_cons_succ]
      refine wpAnyH_ready (rs := [4]) (by kernel_rfl) (by simp) ?_
      refine AllReadyH.cons (o := { dst := some 88, op := Go.Op.call { callee := Go.Callee.value (Go.Operand.func 17), args := #[Go.Operand.tmp 87], argTypes := #[24] }, type := 22, pos := "law.go:57", after := #[{ on := 3, ground := Go.Ground.data }, { on := 2, ground := Go.Ground.chain }, { on := 2, ground := Go.Ground.guard }], guard := some (2, false) }) rfl (fun K hK => ?_) AllReadyH.nil
      go_simp
      refine (pd_bytes hP0).mono ?_
      rintro e w5 ⟨A5, n5, c5, rfl, hr5, -, hP5, -, hb5⟩
      have hS5 := hP5.offCell
      rw [Hbo.out] at hS5
      have hc5 : (convert 22 9 (.slice A5 n5 c5)).run Try.prog w5 = .ok (.string X) w5 := by rw [HX2.out]; exact conv_reads hr5 c5
      refine hK.out _ _ hS5 (fun hHeld => ?_)
      clear hK K
      try simp only [Act.put, List.setIfInBounds_toArray, List.set_cons_zero, List.set_cons_succ]
      refine wpAnyH_ready (rs := [5, 7]) (by kernel_rfl) (by simp) ?_
      refine AllReadyH.cons (o := { dst := some 89, op := Go.Op.convert 22 9 (Go.Operand.tmp 88), type := 9, pos := "law.go:57", after := #[{ on := 4, ground := Go.Ground.data }, { on := 2, ground := Go.Ground.guard }], guard := some (2, false) }) rfl (fun K hK => ?_) (AllReadyH.cons (o := { dst := some 91, op := Go.Op.call { callee := Go.Callee.value (Go.Operand.func 29), args := #[Go.Operand.tmp 90], argTypes := #[37] }, type := 22, pos := "law.go:57", after := #[{ on := 6, ground := Go.Ground.data }, { on := 4, ground := Go.Ground.chain }, { on := 2, ground := Go.Ground.guard }], guard := some (2, false) }) rfl (fun K hK => ?_) AllReadyH.nil)
      · go_simp
        refine hK.out _ _ hS5 (fun hHeld => ?_)
        clear hK K
        refine wpAnyH_ready (rs := [7]) (by kernel_rfl) (by simp) ?_
        refine AllReadyH.cons (o := { dst := some 91, op := Go.Op.call { callee := Go.Callee.value (Go.Operand.func 29), args := #[Go.Operand.tmp 90], argTypes := #[37] }, type := 22, pos := "law.go:57", after := #[{ on := 6, ground := Go.Ground.data }, { on := 4, ground := Go.Ground.chain }, { on := 2, ground := Go.Ground.guard }], guard := some (2, false) }) rfl (fun K hK => ?_) AllReadyH.nil
        go_simp
        refine (pr_bytes hP5).mono ?_
        rintro e w6 ⟨A6, n6, c6, rfl, hr6, -, hP6, -, hb6⟩
        have hS6 := hP6.offCell
        rw [Hbo.out] at hS6
        have hc6 : (convert 22 9 (.slice A6 n6 c6)).run Try.prog w6 = .ok (.string X) w6 := by rw [HX2.out]; exact conv_reads hr6 c6
        have hc56 : (convert 22 9 (.slice A5 n5 c5)).run Try.prog w6 = .ok (.string X) w6 := by rw [HX2.out]; exact conv_reads (hr5.below hb6) c5
        refine hK.out _ _ hS6 (fun hHeld => ?_)
        clear hK K
        refine wpAnyH_ready (rs := [8]) (by kernel_rfl) (by simp) ?_
        refine AllReadyH.cons (o := { dst := some 92, op := Go.Op.convert 22 9 (Go.Operand.tmp 91), type := 9, pos := "law.go:57", after := #[{ on := 7, ground := Go.Ground.data }, { on := 2, ground := Go.Ground.guard }], guard := some (2, false) }) rfl (fun K hK => ?_) AllReadyH.nil
        go_simp
        refine hK.out _ _ hS6 (fun hHeld => ?_)
        clear hK K
        try simp only [Act.put, List.setIfInBounds_toArray, List.set_cons_zero, List.set_cons_succ]
        refine wpAnyH_take (i := 9) (oi := { dst := some 93, op := Go.Op.binOp Go.BinOp.neq 9 (Go.Operand.tmp 89) (Go.Operand.tmp 92) 9, type := 4, pos := "law.go:57", after := #[{ on := 5, ground := Go.Ground.data }, { on := 8, ground := Go.Ground.data }, { on := 2, ground := Go.Ground.guard }], guard := some (2, false) }) (v := ?_) rfl (by kernel_rfl) (by kernel_rfl) (by kernel_rfl) (fun _ _ _ h => h) (Or.inl ⟨by rfl, ?_⟩) (by assumption) ?_
        rotate_left
        · intro w hSw
          go_simp
          try with_reducible rfl
        simp only [Act.put, List.setIfInBounds_toArray, List.set_cons_zero, List.set_cons_succ]
        refine wpAnyH_take (i := 10) (oi := { dst := some 94, op := Go.Op.pick (Go.Operand.tmp 86) (Go.Operand.const (Go.Value.bool true)) (Go.Operand.tmp 93), type := 4, pos := "law.go:57", after := #[{ on := 2, ground := Go.Ground.data }, { on := 9, ground := Go.Ground.data }], guard := none }) (v := ?_) rfl (by kernel_rfl) (by kernel_rfl) (by kernel_rfl) (fun _ _ _ h => h) (Or.inl ⟨by rfl, ?_⟩) (by assumption) ?_
        rotate_left
        · intro w hSw
          go_simp
          try with_reducible rfl
        simp only [Act.put, List.setIfInBounds_toArray, List.set_cons_zero, List.set_cons_succ]
        refine wpAnyH_take (i := 11) (oi := { dst := some 95, op := Go.Op.move (Go.Operand.tmp 94), type := 4, pos := "law.go:57", after := #[{ on := 10, ground := Go.Ground.data }, { on := 7, ground := Go.Ground.chain }], guard := none }) (v := ?_) rfl (by kernel_rfl) (by kernel_rfl) (by kernel_rfl) (fun _ _ _ h => h) (Or.inl ⟨by rfl, ?_⟩) (by assumption) ?_
        rotate_left
        · intro w hSw
          go_simp
          try with_reducible rfl
        simp only [Act.put, List.setIfInBounds_toArray, List.set_cons_zero, List.set_cons_succ]
        refine wpAnyH_take (i := 12) (oi := { dst := some 96, op := Go.Op.move (Go.Operand.tmp 4), type := 24, pos := "law.go:57", after := #[{ on := 11, ground := Go.Ground.guard }], guard := some (11, false) }) (v := ?_) rfl (by kernel_rfl) (by kernel_rfl) (by kernel_rfl) (fun _ _ _ h => h) (Or.inl ⟨by rfl, ?_⟩) (by assumption) ?_
        rotate_left
        · intro w hSw
          go_simp
          try with_reducible rfl
        simp only [Act.put, List.setIfInBounds_toArray, List.set_cons_zero, List.set_cons_succ]
        refine wpAnyH_take (i := 14) (oi := { dst := some 98, op := Go.Op.move (Go.Operand.tmp 5), type := 37, pos := "law.go:57", after := #[{ on := 11, ground := Go.Ground.guard }], guard := some (11, false) }) (v := ?_) rfl (by kernel_rfl) (by kernel_rfl) (by kernel_rfl) (fun _ _ _ h => h) (Or.inl ⟨by rfl, ?_⟩) (by assumption) ?_
        rotate_left
        · intro w hSw
          go_simp
          try with_reducible rfl
        simp only [Act.put, List.setIfInBounds_toArray, List.set_cons_zero, List.set_cons_succ]
        refine wpAnyH_take (i := 15) (oi := { dst := some 99, op := Go.Op.nilCheck (Go.Operand.tmp 98), type := 0, pos := "law.go:57", after := #[{ on := 14, ground := Go.Ground.data }, { on := 11, ground := Go.Ground.guard }], guard := some (11, false) }) (v := ?_) rfl (by kernel_rfl) (by kernel_rfl) (by kernel_rfl) (fun _ _ _ h => h) (Or.inl ⟨by rfl, ?_⟩) (by assumption) ?_
        rotate_left
        · intro w hSw
          go_simp
          try with_reducible rfl
        simp only [Act.put, List.setIfInBounds_toArray, List.set_cons_zero, List.set_cons_succ]
        refine wpAnyH_take (i := 16) (oi := { dst := some 100, op := Go.Op.fieldAddr 42 (Go.Operand.tmp 99) 3, type := 0, pos := "law.go:57", after := #[{ on := 15, ground := Go.Ground.data }, { on := 11, ground := Go.Ground.guard }], guard := some (11, false) }) (v := ?_) rfl (by kernel_rfl) (by kernel_rfl) (by kernel_rfl) (fun _ _ _ h => h) (Or.inl ⟨by rfl, ?_⟩) (by assumption) ?_
        rotate_left
        · intro w hSw
          go_simp
          try with_reducible rfl
        simp only [Act.put, List.setIfInBounds_toArray, List.set_cons_zero, List.set_cons_succ]
        refine wpAnyH_take (i := 17) (oi := { dst := some 101, op := Go.Op.load 4 (Go.Operand.tmp 100), type := 4, pos := "law.go:57", after := #[{ on := 16, ground := Go.Ground.data }, { on := 11, ground := Go.Ground.guard }], guard := some (11, false) }) (v := ?_) rfl (by kernel_rfl) (by kernel_rfl) (by kernel_rfl) (fun _ _ _ h => h) (Or.inl ⟨by rfl, ?_⟩) (by assumption) ?_
        rotate_left
        · intro w hSw
          go_simp
          try with_reducible rfl
        simp only [Act.put, List.setIfInBounds_toArray, List.set_cons_zero, List.set_cons_succ]
        refine wpAnyH_ready (rs := [13]) (by kernel_rfl) (by simp) ?_
        refine AllReadyH.cons (o := { dst := some 97, op := Go.Op.call { callee := Go.Callee.value (Go.Operand.func 20), args := #[Go.Operand.tmp 96], argTypes := #[24] }, type := 4, pos := "law.go:57", after := #[{ on := 12, ground := Go.Ground.data }, { on := 11, ground := Go.Ground.chain }, { on := 11, ground := Go.Ground.guard }], guard := some (11, false) }) rfl (fun K hK => ?_) AllReadyH.nil
        go_simp
        refine (pd_off hP6).mono ?_
        rintro e w7 ⟨rfl, rfl⟩
        rw [Hbo.out]
        refine hK.out _ _ hS6 (fun hHeld => ?_)
        clear hK K
        try simp only [Act.put, List.setIfInBounds_toArray, List.set_cons_zero, List.set_cons_succ]
        refine wpAnyH_take (i := 18) (oi := { dst := some 102, op := Go.Op.binOp Go.BinOp.neq 4 (Go.Operand.tmp 97) (Go.Operand.tmp 101) 4, type := 4, pos := "law.go:57", after := #[{ on := 13, ground := Go.Ground.data }, { on := 17, ground := Go.Ground.data }, { on := 11, ground := Go.Ground.guard }], guard := some (11, false) }) (v := ?_) rfl (by kernel_rfl) (by kernel_rfl) (by kernel_rfl) (fun _ _ _ h => h) (Or.inl ⟨by rfl, ?_⟩) (by assumption) ?_
        rotate_left
        · intro w hSw
          go_simp
          try with_reducible rfl
        simp only [Act.put, List.setIfInBounds_toArray, List.set_cons_zero, List.set_cons_succ]
        refine wpAnyH_take (i := 19) (oi := { dst := some 103, op := Go.Op.pick (Go.Operand.tmp 95) (Go.Operand.const (Go.Value.bool true)) (Go.Operand.tmp 102), type := 4, pos := "law.go:57", after := #[{ on := 11, ground := Go.Ground.data }, { on := 18, ground := Go.Ground.data }], guard := none }) (v := ?_) rfl (by kernel_rfl) (by kernel_rfl) (by kernel_rfl) (fun _ _ _ h => h) (Or.inl ⟨by rfl, ?_⟩) (by assumption) ?_
        rotate_left
        · intro w hSw
          go_simp
          try with_reducible rfl
        simp only [Act.put, List.setIfInBounds_toArray, List.set_cons_zero, List.set_cons_succ]
        refine wpAnyH_done (by kernel_rfl) ?_ _
        have HP6 := Lib.hid hP6
        clear hP6 hP5 hP0 hS0 hS5 hS6 hc5 hc6 hc56 hr5 hr6 hb5 hb6 hHeld
        go_wp2_with fail
        go_roundw
        case rel => exact ⟨k + 1, (s.append xs), (t.append xs), by omega, by go_num, HP6⟩
        case measure => simp [intOf]; omega
      · go_simp
        refine (pr_bytes hP5).mono ?_
        rintro e w6 ⟨A6, n6, c6, rfl, hr6, -, hP6, -, hb6⟩
        have hS6 := hP6.offCell
        rw [Hbo.out] at hS6
        have hc6 : (convert 22 9 (.slice A6 n6 c6)).run Try.prog w6 = .ok (.string X) w6 := by rw [HX2.out]; exact conv_reads hr6 c6
        have hc56 : (convert 22 9 (.slice A5 n5 c5)).run Try.prog w6 = .ok (.string X) w6 := by rw [HX2.out]; exact conv_reads (hr5.below hb6) c5
        refine hK.out _ _ hS6 (fun hHeld => ?_)
        clear hK K
        try simp only [Act.put, List.setIfInBounds_toArray, List.set_cons_zero, List.set_cons_succ]
        refine wpAnyH_ready (rs := [5, 8]) (by kernel_rfl) (by simp) ?_
        refine AllReadyH.cons (o := { dst := some 89, op := Go.Op.convert 22 9 (Go.Operand.tmp 88), type := 9, pos := "law.go:57", after := #[{ on := 4, ground := Go.Ground.data }, { on := 2, ground := Go.Ground.guard }], guard := some (2, false) }) rfl (fun K hK => ?_) (AllReadyH.cons (o := { dst := some 92, op := Go.Op.convert 22 9 (Go.Operand.tmp 91), type := 9, pos := "law.go:57", after := #[{ on := 7, ground := Go.Ground.data }, { on := 2, ground := Go.Ground.guard }], guard := some (2, false) }) rfl (fun K hK => ?_) AllReadyH.nil)
        · go_simp
          refine hK.out _ _ hS6 (fun hHeld => ?_)
          clear hK K
          refine wpAnyH_ready (rs := [8]) (by kernel_rfl) (by simp) ?_
          refine AllReadyH.cons (o := { dst := some 92, op := Go.Op.convert 22 9 (Go.Operand.tmp 91), type := 9, pos := "law.go:57", after := #[{ on := 7, ground := Go.Ground.data }, { on := 2, ground := Go.Ground.guard }], guard := some (2, false) }) rfl (fun K hK => ?_) AllReadyH.nil
          go_simp
          refine hK.out _ _ hS6 (fun hHeld => ?_)
          clear hK K
          try simp only [Act.put, List.setIfInBounds_toArray, List.set_cons_zero, List.set_cons_succ]
          refine wpAnyH_take (i := 9) (oi := { dst := some 93, op := Go.Op.binOp Go.BinOp.neq 9 (Go.Operand.tmp 89) (Go.Operand.tmp 92) 9, type := 4, pos := "law.go:57", after := #[{ on := 5, ground := Go.Ground.data }, { on := 8, ground := Go.Ground.data }, { on := 2, ground := Go.Ground.guard }], guard := some (2, false) }) (v := ?_) rfl (by kernel_rfl) (by kernel_rfl) (by kernel_rfl) (fun _ _ _ h => h) (Or.inl ⟨by rfl, ?_⟩) (by assumption) ?_
          rotate_left
          · intro w hSw
            go_simp
            try with_reducible rfl
          simp only [Act.put, List.setIfInBounds_toArray, List.set_cons_zero, List.set_cons_succ]
          refine wpAnyH_take (i := 10) (oi := { dst := some 94, op := Go.Op.pick (Go.Operand.tmp 86) (Go.Operand.const (Go.Value.bool true)) (Go.Operand.tmp 93), type := 4, pos := "law.go:57", after := #[{ on := 2, ground := Go.Ground.data }, { on := 9, ground := Go.Ground.data }], guard := none }) (v := ?_) rfl (by kernel_rfl) (by kernel_rfl) (by kernel_rfl) (fun _ _ _ h => h) (Or.inl ⟨by rfl, ?_⟩) (by assumption) ?_
          rotate_left
          · intro w hSw
            go_simp
            try with_reducible rfl
          simp only [Act.put, List.setIfInBounds_toArray, List.set_cons_zero, List.set_cons_succ]
          refine wpAnyH_take (i := 11) (oi := { dst := some 95, op := Go.Op.move (Go.Operand.tmp 94), type := 4, pos := "law.go:57", after := #[{ on := 10, ground := Go.Ground.data }, { on := 7, ground := Go.Ground.chain }], guard := none }) (v := ?_) rfl (by kernel_rfl) (by kernel_rfl) (by kernel_rfl) (fun _ _ _ h => h) (Or.inl ⟨by rfl, ?_⟩) (by assumption) ?_
          rotate_left
          · intro w hSw
            go_simp
            try with_reducible rfl
          simp only [Act.put, List.setIfInBounds_toArray, List.set_cons_zero, List.set_cons_succ]
          refine wpAnyH_take (i := 12) (oi := { dst := some 96, op := Go.Op.move (Go.Operand.tmp 4), type := 24, pos := "law.go:57", after := #[{ on := 11, ground := Go.Ground.guard }], guard := some (11, false) }) (v := ?_) rfl (by kernel_rfl) (by kernel_rfl) (by kernel_rfl) (fun _ _ _ h => h) (Or.inl ⟨by rfl, ?_⟩) (by assumption) ?_
          rotate_left
          · intro w hSw
            go_simp
            try with_reducible rfl
          simp only [Act.put, List.setIfInBounds_toArray, List.set_cons_zero, List.set_cons_succ]
          refine wpAnyH_take (i := 14) (oi := { dst := some 98, op := Go.Op.move (Go.Operand.tmp 5), type := 37, pos := "law.go:57", after := #[{ on := 11, ground := Go.Ground.guard }], guard := some (11, false) }) (v := ?_) rfl (by kernel_rfl) (by kernel_rfl) (by kernel_rfl) (fun _ _ _ h => h) (Or.inl ⟨by rfl, ?_⟩) (by assumption) ?_
          rotate_left
          · intro w hSw
            go_simp
            try with_reducible rfl
          simp only [Act.put, List.setIfInBounds_toArray, List.set_cons_zero, List.set_cons_succ]
          refine wpAnyH_take (i := 15) (oi := { dst := some 99, op := Go.Op.nilCheck (Go.Operand.tmp 98), type := 0, pos := "law.go:57", after := #[{ on := 14, ground := Go.Ground.data }, { on := 11, ground := Go.Ground.guard }], guard := some (11, false) }) (v := ?_) rfl (by kernel_rfl) (by kernel_rfl) (by kernel_rfl) (fun _ _ _ h => h) (Or.inl ⟨by rfl, ?_⟩) (by assumption) ?_
          rotate_left
          · intro w hSw
            go_simp
            try with_reducible rfl
          simp only [Act.put, List.setIfInBounds_toArray, List.set_cons_zero, List.set_cons_succ]
          refine wpAnyH_take (i := 16) (oi := { dst := some 100, op := Go.Op.fieldAddr 42 (Go.Operand.tmp 99) 3, type := 0, pos := "law.go:57", after := #[{ on := 15, ground := Go.Ground.data }, { on := 11, ground := Go.Ground.guard }], guard := some (11, false) }) (v := ?_) rfl (by kernel_rfl) (by kernel_rfl) (by kernel_rfl) (fun _ _ _ h => h) (Or.inl ⟨by rfl, ?_⟩) (by assumption) ?_
          rotate_left
          · intro w hSw
            go_simp
            try with_reducible rfl
          simp only [Act.put, List.setIfInBounds_toArray, List.set_cons_zero, List.set_cons_succ]
          refine wpAnyH_take (i := 17) (oi := { dst := some 101, op := Go.Op.load 4 (Go.Operand.tmp 100), type := 4, pos := "law.go:57", after := #[{ on := 16, ground := Go.Ground.data }, { on := 11, ground := Go.Ground.guard }], guard := some (11, false) }) (v := ?_) rfl (by kernel_rfl) (by kernel_rfl) (by kernel_rfl) (fun _ _ _ h => h) (Or.inl ⟨by rfl, ?_⟩) (by assumption) ?_
          rotate_left
          · intro w hSw
            go_simp
            try with_reducible rfl
          simp only [Act.put, List.setIfInBounds_toArray, List.set_cons_zero, List.set_cons_succ]
          refine wpAnyH_ready (rs := [13]) (by kernel_rfl) (by simp) ?_
          refine AllReadyH.cons (o := { dst := some 97, op := Go.Op.call { callee := Go.Callee.value (Go.Operand.func 20), args := #[Go.Operand.tmp 96], argTypes := #[24] }, type := 4, pos := "law.go:57", after := #[{ on := 12, ground := Go.Ground.data }, { on := 11, ground := Go.Ground.chain }, { on := 11, ground := Go.Ground.guard }], guard := some (11, false) }) rfl (fun K hK => ?_) AllReadyH.nil
          go_simp
          refine (pd_off hP6).mono ?_
          rintro e w7 ⟨rfl, rfl⟩
          rw [Hbo.out]
          refine hK.out _ _ hS6 (fun hHeld => ?_)
          clear hK K
          try simp only [Act.put, List.setIfInBounds_toArray, List.set_cons_zero, List.set_cons_succ]
          refine wpAnyH_take (i := 18) (oi := { dst := some 102, op := Go.Op.binOp Go.BinOp.neq 4 (Go.Operand.tmp 97) (Go.Operand.tmp 101) 4, type := 4, pos := "law.go:57", after := #[{ on := 13, ground := Go.Ground.data }, { on := 17, ground := Go.Ground.data }, { on := 11, ground := Go.Ground.guard }], guard := some (11, false) }) (v := ?_) rfl (by kernel_rfl) (by kernel_rfl) (by kernel_rfl) (fun _ _ _ h => h) (Or.inl ⟨by rfl, ?_⟩) (by assumption) ?_
          rotate_left
          · intro w hSw
            go_simp
            try with_reducible rfl
          simp only [Act.put, List.setIfInBounds_toArray, List.set_cons_zero, List.set_cons_succ]
          refine wpAnyH_take (i := 19) (oi := { dst := some 103, op := Go.Op.pick (Go.Operand.tmp 95) (Go.Operand.const (Go.Value.bool true)) (Go.Operand.tmp 102), type := 4, pos := "law.go:57", after := #[{ on := 11, ground := Go.Ground.data }, { on := 18, ground := Go.Ground.data }], guard := none }) (v := ?_) rfl (by kernel_rfl) (by kernel_rfl) (by kernel_rfl) (fun _ _ _ h => h) (Or.inl ⟨by rfl, ?_⟩) (by assumption) ?_
          rotate_left
          · intro w hSw
            go_simp
            try with_reducible rfl
          simp only [Act.put, List.setIfInBounds_toArray, List.set_cons_zero, List.set_cons_succ]
          refine wpAnyH_done (by kernel_rfl) ?_ _
          have HP6 := Lib.hid hP6
          clear hP6 hP5 hP0 hS0 hS5 hS6 hc5 hc6 hc56 hr5 hr6 hb5 hb6 hHeld
          go_wp2_with fail
          go_roundw
          case rel => exact ⟨k + 1, (s.append xs), (t.append xs), by omega, by go_num, HP6⟩
          case measure => simp [intOf]; omega
        · go_simp
          refine hK.out _ _ hS6 (fun hHeld => ?_)
          clear hK K
          refine wpAnyH_ready (rs := [5]) (by kernel_rfl) (by simp) ?_
          refine AllReadyH.cons (o := { dst := some 89, op := Go.Op.convert 22 9 (Go.Operand.tmp 88), type := 9, pos := "law.go:57", after := #[{ on := 4, ground := Go.Ground.data }, { on := 2, ground := Go.Ground.guard }], guard := some (2, false) }) rfl (fun K hK => ?_) AllReadyH.nil
          go_simp
          refine hK.out _ _ hS6 (fun hHeld => ?_)
          clear hK K
          try simp only [Act.put, List.setIfInBounds_toArray, List.set_cons_zero, List.set_cons_succ]
          refine wpAnyH_take (i := 9) (oi := { dst := some 93, op := Go.Op.binOp Go.BinOp.neq 9 (Go.Operand.tmp 89) (Go.Operand.tmp 92) 9, type := 4, pos := "law.go:57", after := #[{ on := 5, ground := Go.Ground.data }, { on := 8, ground := Go.Ground.data }, { on := 2, ground := Go.Ground.guard }], guard := some (2, false) }) (v := ?_) rfl (by kernel_rfl) (by kernel_rfl) (by kernel_rfl) (fun _ _ _ h => h) (Or.inl ⟨by rfl, ?_⟩) (by assumption) ?_
          rotate_left
          · intro w hSw
            go_simp
            try with_reducible rfl
          simp only [Act.put, List.setIfInBounds_toArray, List.set_cons_zero, List.set_cons_succ]
          refine wpAnyH_take (i := 10) (oi := { dst := some 94, op := Go.Op.pick (Go.Operand.tmp 86) (Go.Operand.const (Go.Value.bool true)) (Go.Operand.tmp 93), type := 4, pos := "law.go:57", after := #[{ on := 2, ground := Go.Ground.data }, { on := 9, ground := Go.Ground.data }], guard := none }) (v := ?_) rfl (by kernel_rfl) (by kernel_rfl) (by kernel_rfl) (fun _ _ _ h => h) (Or.inl ⟨by rfl, ?_⟩) (by assumption) ?_
          rotate_left
          · intro w hSw
            go_simp
            try with_reducible rfl
          simp only [Act.put, List.setIfInBounds_toArray, List.set_cons_zero, List.set_cons_succ]
          refine wpAnyH_take (i := 11) (oi := { dst := some 95, op := Go.Op.move (Go.Operand.tmp 94), type := 4, pos := "law.go:57", after := #[{ on := 10, ground := Go.Ground.data }, { on := 7, ground := Go.Ground.chain }], guard := none }) (v := ?_) rfl (by kernel_rfl) (by kernel_rfl) (by kernel_rfl) (fun _ _ _ h => h) (Or.inl ⟨by rfl, ?_⟩) (by assumption) ?_
          rotate_left
          · intro w hSw
            go_simp
            try with_reducible rfl
          simp only [Act.put, List.setIfInBounds_toArray, List.set_cons_zero, List.set_cons_succ]
          refine wpAnyH_take (i := 12) (oi := { dst := some 96, op := Go.Op.move (Go.Operand.tmp 4), type := 24, pos := "law.go:57", after := #[{ on := 11, ground := Go.Ground.guard }], guard := some (11, false) }) (v := ?_) rfl (by kernel_rfl) (by kernel_rfl) (by kernel_rfl) (fun _ _ _ h => h) (Or.inl ⟨by rfl, ?_⟩) (by assumption) ?_
          rotate_left
          · intro w hSw
            go_simp
            try with_reducible rfl
          simp only [Act.put, List.setIfInBounds_toArray, List.set_cons_zero, List.set_cons_succ]
          refine wpAnyH_take (i := 14) (oi := { dst := some 98, op := Go.Op.move (Go.Operand.tmp 5), type := 37, pos := "law.go:57", after := #[{ on := 11, ground := Go.Ground.guard }], guard := some (11, false) }) (v := ?_) rfl (by kernel_rfl) (by kernel_rfl) (by kernel_rfl) (fun _ _ _ h => h) (Or.inl ⟨by rfl, ?_⟩) (by assumption) ?_
          rotate_left
          · intro w hSw
            go_simp
            try with_reducible rfl
          simp only [Act.put, List.setIfInBounds_toArray, List.set_cons_zero, List.set_cons_succ]
          refine wpAnyH_take (i := 15) (oi := { dst := some 99, op := Go.Op.nilCheck (Go.Operand.tmp 98), type := 0, pos := "law.go:57", after := #[{ on := 14, ground := Go.Ground.data }, { on := 11, ground := Go.Ground.guard }], guard := some (11, false) }) (v := ?_) rfl (by kernel_rfl) (by kernel_rfl) (by kernel_rfl) (fun _ _ _ h => h) (Or.inl ⟨by rfl, ?_⟩) (by assumption) ?_
          rotate_left
          · intro w hSw
            go_simp
            try with_reducible rfl
          simp only [Act.put, List.setIfInBounds_toArray, List.set_cons_zero, List.set_cons_succ]
          refine wpAnyH_take (i := 16) (oi := { dst := some 100, op := Go.Op.fieldAddr 42 (Go.Operand.tmp 99) 3, type := 0, pos := "law.go:57", after := #[{ on := 15, ground := Go.Ground.data }, { on := 11, ground := Go.Ground.guard }], guard := some (11, false) }) (v := ?_) rfl (by kernel_rfl) (by kernel_rfl) (by kernel_rfl) (fun _ _ _ h => h) (Or.inl ⟨by rfl, ?_⟩) (by assumption) ?_
          rotate_left
          · intro w hSw
            go_simp
            try with_reducible rfl
          simp only [Act.put, List.setIfInBounds_toArray, List.set_cons_zero, List.set_cons_succ]
          refine wpAnyH_take (i := 17) (oi := { dst := some 101, op := Go.Op.load 4 (Go.Operand.tmp 100), type := 4, pos := "law.go:57", after := #[{ on := 16, ground := Go.Ground.data }, { on := 11, ground := Go.Ground.guard }], guard := some (11, false) }) (v := ?_) rfl (by kernel_rfl) (by kernel_rfl) (by kernel_rfl) (fun _ _ _ h => h) (Or.inl ⟨by rfl, ?_⟩) (by assumption) ?_
          rotate_left
          · intro w hSw
            go_simp
            try with_reducible rfl
          simp only [Act.put, List.setIfInBounds_toArray, List.set_cons_zero, List.set_cons_succ]
          refine wpAnyH_ready (rs := [13]) (by kernel_rfl) (by simp) ?_
          refine AllReadyH.cons (o := { dst := some 97, op := Go.Op.call { callee := Go.Callee.value (Go.Operand.func 20), args := #[Go.Operand.tmp 96], argTypes := #[24] }, type := 4, pos := "law.go:57", after := #[{ on := 12, ground := Go.Ground.data }, { on := 11, ground := Go.Ground.chain }, { on := 11, ground := Go.Ground.guard }], guard := some (11, false) }) rfl (fun K hK => ?_) AllReadyH.nil
          go_simp
          refine (pd_off hP6).mono ?_
          rintro e w7 ⟨rfl, rfl⟩
          rw [Hbo.out]
          refine hK.out _ _ hS6 (fun hHeld => ?_)
          clear hK K
          try simp only [Act.put, List.setIfInBounds_toArray, List.set_cons_zero, List.set_cons_succ]
          refine wpAnyH_take (i := 18) (oi := { dst := some 102, op := Go.Op.binOp Go.BinOp.neq 4 (Go.Operand.tmp 97) (Go.Operand.tmp 101) 4, type := 4, pos := "law.go:57", after := #[{ on := 13, ground := Go.Ground.data }, { on := 17, ground := Go.Ground.data }, { on := 11, ground := Go.Ground.guard }], guard := some (11, false) }) (v := ?_) rfl (by kernel_rfl) (by kernel_rfl) (by kernel_rfl) (fun _ _ _ h => h) (Or.inl ⟨by rfl, ?_⟩) (by assumption) ?_
          rotate_left
          · intro w hSw
            go_simp
            try with_reducible rfl
          simp only [Act.put, List.setIfInBounds_toArray, List.set_cons_zero, List.set_cons_succ]
          refine wpAnyH_take (i := 19) (oi := { dst := some 103, op := Go.Op.pick (Go.Operand.tmp 95) (Go.Operand.const (Go.Value.bool true)) (Go.Operand.tmp 102), type := 4, pos := "law.go:57", after := #[{ on := 11, ground := Go.Ground.data }, { on := 18, ground := Go.Ground.data }], guard := none }) (v := ?_) rfl (by kernel_rfl) (by kernel_rfl) (by kernel_rfl) (fun _ _ _ h => h) (Or.inl ⟨by rfl, ?_⟩) (by assumption) ?_
          rotate_left
          · intro w hSw
            go_simp
            try with_reducible rfl
          simp only [Act.put, List.setIfInBounds_toArray, List.set_cons_zero, List.set_cons_succ]
          refine wpAnyH_done (by kernel_rfl) ?_ _
          have HP6 := Lib.hid hP6
          clear hP6 hP5 hP0 hS0 hS5 hS6 hc5 hc6 hc56 hr5 hr6 hb5 hb6 hHeld
          go_wp2_with fail
          go_roundw
          case rel => exact ⟨k + 1, (s.append xs), (t.append xs), by omega, by go_num, HP6⟩
          case measure => simp [intOf]; omega
    by_cases hv3 : o = 3
    · have e0 : (o == 0) = false := by simp; omega
      have e1 : (o == 1) = false := by simp; omega
      have e2 : (o == 2) = false := by simp; omega
      have e3 : (o == 3) = true := by simp; omega
      clear hv3
      go_wp2_with fail
      have hs := HW.out.same
      obtain ⟨E, hE⟩ : ∃ E, t.syncE = E := ⟨_, rfl⟩
      have HE := Lib.hid hE
      clear hE
      have HS := Lib.hid hs
      clear hs
      refine (pd_sync (HW.out.alloc _)).mono ?_
      rintro e w4 ⟨rfl, hM4, hst4⟩
      rw [HE.out]
      have HM4 := Lib.hid hM4
      clear hM4 hst4
      go_wp2_with fail
      refine (pr_sync HM4.out HS.out).mono ?_
      rintro e w4b ⟨rfl, hP4, hst4b⟩
      rw [HE.out]
      have HP4 := Lib.hid hP4
      clear hP4 hst4b
      go_wp2_with fail
      obtain ⟨bo, hbo⟩ : ∃ bo, t.sync.off = bo := ⟨_, rfl⟩
      obtain ⟨X, hX⟩ : ∃ X, X = strOfNums (t.sync.l ++ t.sync.t) := ⟨_, rfl⟩
      have Hbo := Lib.hid hbo
      have HX2 := Lib.hid hX
      clear hbo hX
      have hP0 := HP4.out.drew
      have hS0 := hP0.offCell
      rw [Hbo.out] at hS0
      refine wp_region_held_drew (S := fun W => W.cell? ⟨r, 3, none⟩ = some (.bool bo)) (by kernel_rfl) hS0 (fun hHeld => ?_)
      refine wpAnyH_take (i := 0) (oi := { dst := some 84, op := Go.Op.move (Go.Operand.tmp 8), type := 4, pos := "law.go:57", after := #[], guard := none }) (v := ?_) rfl (by kernel_rfl) (by kernel_rfl) (by kernel_rfl) (fun _ _ _ h => h) (Or.inl ⟨by rfl, ?_⟩) (by assumption) ?_
      rotate_left
      · intro w hSw
        go_simp
        try with_reducible rfl
      simp only [Act.put, List.setIfInBounds_toArray, List.set_cons_zero, List.set_cons_succ]
      refine wpAnyH_take (i := 1) (oi := { dst := some 85, op := Go.Op.unOp Go.UnOp.not 4 (Go.Operand.tmp 84), type := 4, pos := "law.go:57", after := #[{ on := 0, ground := Go.Ground.data }], guard := none }) (v := ?_) rfl (by kernel_rfl) (by kernel_rfl) (by kernel_rfl) (fun _ _ _ h => h) (Or.inl ⟨by rfl, ?_⟩) (by assumption) ?_
      rotate_left
      · intro w hSw
        go_simp
        try with_reducible rfl
      simp only [Act.put, List.setIfInBounds_toArray, List.set_cons_zero, List.set_cons_succ]
      refine wpAnyH_take (i := 2) (oi := { dst := some 86, op := Go.Op.move (Go.Operand.tmp 85), type := 4, pos := "law.go:57", after := #[{ on := 1, ground := Go.Ground.data }], guard := none }) (v := ?_) rfl (by kernel_rfl) (by kernel_rfl) (by kernel_rfl) (fun _ _ _ h => h) (Or.inl ⟨by rfl, ?_⟩) (by assumption) ?_
      rotate_left
      · intro w hSw
        go_simp
        try with_reducible rfl
      simp only [Act.put, List.setIfInBounds_toArray, List.set_cons_zero, List.set_cons_succ]
      refine wpAnyH_take (i := 3) (oi := { dst := some 87, op := Go.Op.move (Go.Operand.tmp 4), type := 24, pos := "law.go:57", after := #[{ on := 2, ground := Go.Ground.guard }], guard := some (2, false) }) (v := ?_) rfl (by kernel_rfl) (by kernel_rfl) (by kernel_rfl) (fun _ _ _ h => h) (Or.inl ⟨by rfl, ?_⟩) (by assumption) ?_
      rotate_left
      · intro w hSw
        go_simp
        try with_reducible rfl
      simp only [Act.put, List.setIfInBounds_toArray, List.set_cons_zero, List.set_cons_succ]
      refine wpAnyH_take (i := 6) (oi := { dst := some 90, op := Go.Op.move (Go.Operand.tmp 5), type := 37, pos := "law.go:57", after := #[{ on := 2, ground := Go.Ground.guard }], guard := some (2, false) }) (v := ?_) rfl (by kernel_rfl) (by kernel_rfl) (by kernel_rfl) (fun _ _ _ h => h) (Or.inl ⟨by rfl, ?_⟩) (by assumption) ?_
      rotate_left
      · intro w hSw
        go_simp
        try with_reducible rfl
      simp only [Act.put, List.setIfInBounds_toArray, List.set_cons_zero, List.set_cons_succ]
      refine wpAnyH_ready (rs := [4]) (by kernel_rfl) (by simp) ?_
      refine AllReadyH.cons (o := { dst := some 88, op := Go.Op.call { callee := Go.Callee.value (Go.Operand.func 17), args := #[Go.Operand.tmp 87], argTypes := #[24] }, type := 22, pos := "law.go:57", after := #[{ on := 3, ground := Go.Ground.data }, { on := 2, ground := Go.Ground.chain }, { on := 2, ground := Go.Ground.guard }], guard := some (2, false) }) rfl (fun K hK => ?_) AllReadyH.nil
      go_simp
      refine (pd_bytes hP0).mono ?_
      rintro e w5 ⟨A5, n5, c5, rfl, hr5, -, hP5, -, hb5⟩
      have hS5 := hP5.offCell
      rw [Hbo.out] at hS5
      have hc5 : (convert 22 9 (.slice A5 n5 c5)).run Try.prog w5 = .ok (.string X) w5 := by rw [HX2.out]; exact conv_reads hr5 c5
      refine hK.out _ _ hS5 (fun hHeld => ?_)
      clear hK K
      try simp only [Act.put, List.setIfInBounds_toArray, List.set_cons_zero, List.set_cons_succ]
      refine wpAnyH_ready (rs := [5, 7]) (by kernel_rfl) (by simp) ?_
      refine AllReadyH.cons (o := { dst := some 89, op := Go.Op.convert 22 9 (Go.Operand.tmp 88), type := 9, pos := "law.go:57", after := #[{ on := 4, ground := Go.Ground.data }, { on := 2, ground := Go.Ground.guard }], guard := some (2, false) }) rfl (fun K hK => ?_) (AllReadyH.cons (o := { dst := some 91, op := Go.Op.call { callee := Go.Callee.value (Go.Operand.func 29), args := #[Go.Operand.tmp 90], argTypes := #[37] }, type := 22, pos := "law.go:57", after := #[{ on := 6, ground := Go.Ground.data }, { on := 4, ground := Go.Ground.chain }, { on := 2, ground := Go.Ground.guard }], guard := some (2, false) }) rfl (fun K hK => ?_) AllReadyH.nil)
      · go_simp
        refine hK.out _ _ hS5 (fun hHeld => ?_)
        clear hK K
        refine wpAnyH_ready (rs := [7]) (by kernel_rfl) (by simp) ?_
        refine AllReadyH.cons (o := { dst := some 91, op := Go.Op.call { callee := Go.Callee.value (Go.Operand.func 29), args := #[Go.Operand.tmp 90], argTypes := #[37] }, type := 22, pos := "law.go:57", after := #[{ on := 6, ground := Go.Ground.data }, { on := 4, ground := Go.Ground.chain }, { on := 2, ground := Go.Ground.guard }], guard := some (2, false) }) rfl (fun K hK => ?_) AllReadyH.nil
        go_simp
        refine (pr_bytes hP5).mono ?_
        rintro e w6 ⟨A6, n6, c6, rfl, hr6, -, hP6, -, hb6⟩
        have hS6 := hP6.offCell
        rw [Hbo.out] at hS6
        have hc6 : (convert 22 9 (.slice A6 n6 c6)).run Try.prog w6 = .ok (.string X) w6 := by rw [HX2.out]; exact conv_reads hr6 c6
        have hc56 : (convert 22 9 (.slice A5 n5 c5)).run Try.prog w6 = .ok (.string X) w6 := by rw [HX2.out]; exact conv_reads (hr5.below hb6) c5
        refine hK.out _ _ hS6 (fun hHeld => ?_)
        clear hK K
        refine wpAnyH_ready (rs := [8]) (by kernel_rfl) (by simp) ?_
        refine AllReadyH.cons (o := { dst := some 92, op := Go.Op.convert 22 9 (Go.Operand.tmp 91), type := 9, pos := "law.go:57", after := #[{ on := 7, ground := Go.Ground.data }, { on := 2, ground := Go.Ground.guard }], guard := some (2, false) }) rfl (fun K hK => ?_) AllReadyH.nil
        go_simp
        refine hK.out _ _ hS6 (fun hHeld => ?_)
        clear hK K
        try simp only [Act.put, List.setIfInBounds_toArray, List.set_cons_zero, List.set_cons_succ]
        refine wpAnyH_take (i := 9) (oi := { dst := some 93, op := Go.Op.binOp Go.BinOp.neq 9 (Go.Operand.tmp 89) (Go.Operand.tmp 92) 9, type := 4, pos := "law.go:57", after := #[{ on := 5, ground := Go.Ground.data }, { on := 8, ground := Go.Ground.data }, { on := 2, ground := Go.Ground.guard }], guard := some (2, false) }) (v := ?_) rfl (by kernel_rfl) (by kernel_rfl) (by kernel_rfl) (fun _ _ _ h => h) (Or.inl ⟨by rfl, ?_⟩) (by assumption) ?_
        rotate_left
        · intro w hSw
          go_simp
          try with_reducible rfl
        simp only [Act.put, List.setIfInBounds_toArray, List.set_cons_zero, List.set_cons_succ]
        refine wpAnyH_take (i := 10) (oi := { dst := some 94, op := Go.Op.pick (Go.Operand.tmp 86) (Go.Operand.const (Go.Value.bool true)) (Go.Operand.tmp 93), type := 4, pos := "law.go:57", after := #[{ on := 2, ground := Go.Ground.data }, { on := 9, ground := Go.Ground.data }], guard := none }) (v := ?_) rfl (by kernel_rfl) (by kernel_rfl) (by kernel_rfl) (fun _ _ _ h => h) (Or.inl ⟨by rfl, ?_⟩) (by assumption) ?_
        rotate_left
        · intro w hSw
          go_simp
          try with_reducible rfl
        simp only [Act.put, List.setIfInBounds_toArray, List.set_cons_zero, List.set_cons_succ]
        refine wpAnyH_take (i := 11) (oi := { dst := some 95, op := Go.Op.move (Go.Operand.tmp 94), type := 4, pos := "law.go:57", after := #[{ on := 10, ground := Go.Ground.data }, { on := 7, ground := Go.Ground.chain }], guard := none }) (v := ?_) rfl (by kernel_rfl) (by kernel_rfl) (by kernel_rfl) (fun _ _ _ h => h) (Or.inl ⟨by rfl, ?_⟩) (by assumption) ?_
        rotate_left
        · intro w hSw
          go_simp
          try with_reducible rfl
        simp only [Act.put, List.setIfInBounds_toArray, List.set_cons_zero, List.set_cons_succ]
        refine wpAnyH_take (i := 12) (oi := { dst := some 96, op := Go.Op.move (Go.Operand.tmp 4), type := 24, pos := "law.go:57", after := #[{ on := 11, ground := Go.Ground.guard }], guard := some (11, false) }) (v := ?_) rfl (by kernel_rfl) (by kernel_rfl) (by kernel_rfl) (fun _ _ _ h => h) (Or.inl ⟨by rfl, ?_⟩) (by assumption) ?_
        rotate_left
        · intro w hSw
          go_simp
          try with_reducible rfl
        simp only [Act.put, List.setIfInBounds_toArray, List.set_cons_zero, List.set_cons_succ]
        refine wpAnyH_take (i := 14) (oi := { dst := some 98, op := Go.Op.move (Go.Operand.tmp 5), type := 37, pos := "law.go:57", after := #[{ on := 11, ground := Go.Ground.guard }], guard := some (11, false) }) (v := ?_) rfl (by kernel_rfl) (by kernel_rfl) (by kernel_rfl) (fun _ _ _ h => h) (Or.inl ⟨by rfl, ?_⟩) (by assumption) ?_
        rotate_left
        · intro w hSw
          go_simp
          try with_reducible rfl
        simp only [Act.put, List.setIfInBounds_toArray, List.set_cons_zero, List.set_cons_succ]
        refine wpAnyH_take (i := 15) (oi := { dst := some 99, op := Go.Op.nilCheck (Go.Operand.tmp 98), type := 0, pos := "law.go:57", after := #[{ on := 14, ground := Go.Ground.data }, { on := 11, ground := Go.Ground.guard }], guard := some (11, false) }) (v := ?_) rfl (by kernel_rfl) (by kernel_rfl) (by kernel_rfl) (fun _ _ _ h => h) (Or.inl ⟨by rfl, ?_⟩) (by assumption) ?_
        rotate_left
        · intro w hSw
          go_simp
          try with_reducible rfl
        simp only [Act.put, List.setIfInBounds_toArray, List.set_cons_zero, List.set_cons_succ]
        refine wpAnyH_take (i := 16) (oi := { dst := some 100, op := Go.Op.fieldAddr 42 (Go.Operand.tmp 99) 3, type := 0, pos := "law.go:57", after := #[{ on := 15, ground := Go.Ground.data }, { on := 11, ground := Go.Ground.guard }], guard := some (11, false) }) (v := ?_) rfl (by kernel_rfl) (by kernel_rfl) (by kernel_rfl) (fun _ _ _ h => h) (Or.inl ⟨by rfl, ?_⟩) (by assumption) ?_
        rotate_left
        · intro w hSw
          go_simp
          try with_reducible rfl
        simp only [Act.put, List.setIfInBounds_toArray, List.set_cons_zero, List.set_cons_succ]
        refine wpAnyH_take (i := 17) (oi := { dst := some 101, op := Go.Op.load 4 (Go.Operand.tmp 100), type := 4, pos := "law.go:57", after := #[{ on := 16, ground := Go.Ground.data }, { on := 11, ground := Go.Ground.guard }], guard := some (11, false) }) (v := ?_) rfl (by kernel_rfl) (by kernel_rfl) (by kernel_rfl) (fun _ _ _ h => h) (Or.inl ⟨by rfl, ?_⟩) (by assumption) ?_
        rotate_left
        · intro w hSw
          go_simp
          try with_reducible rfl
        simp only [Act.put, List.setIfInBounds_toArray, List.set_cons_zero, List.set_cons_succ]
        refine wpAnyH_ready (rs := [13]) (by kernel_rfl) (by simp) ?_
        refine AllReadyH.cons (o := { dst := some 97, op := Go.Op.call { callee := Go.Callee.value (Go.Operand.func 20), args := #[Go.Operand.tmp 96], argTypes := #[24] }, type := 4, pos := "law.go:57", after := #[{ on := 12, ground := Go.Ground.data }, { on := 11, ground := Go.Ground.chain }, { on := 11, ground := Go.Ground.guard }], guard := some (11, false) }) rfl (fun K hK => ?_) AllReadyH.nil
        go_simp
        refine (pd_off hP6).mono ?_
        rintro e w7 ⟨rfl, rfl⟩
        rw [Hbo.out]
        refine hK.out _ _ hS6 (fun hHeld => ?_)
        clear hK K
        try simp only [Act.put, List.setIfInBounds_toArray, List.set_cons_zero, List.set_cons_succ]
        refine wpAnyH_take (i := 18) (oi := { dst := some 102, op := Go.Op.binOp Go.BinOp.neq 4 (Go.Operand.tmp 97) (Go.Operand.tmp 101) 4, type := 4, pos := "law.go:57", after := #[{ on := 13, ground := Go.Ground.data }, { on := 17, ground := Go.Ground.data }, { on := 11, ground := Go.Ground.guard }], guard := some (11, false) }) (v := ?_) rfl (by kernel_rfl) (by kernel_rfl) (by kernel_rfl) (fun _ _ _ h => h) (Or.inl ⟨by rfl, ?_⟩) (by assumption) ?_
        rotate_left
        · intro w hSw
          go_simp
          try with_reducible rfl
        simp only [Act.put, List.setIfInBounds_toArray, List.set_cons_zero, List.set_cons_succ]
        refine wpAnyH_take (i := 19) (oi := { dst := some 103, op := Go.Op.pick (Go.Operand.tmp 95) (Go.Operand.const (Go.Value.bool true)) (Go.Operand.tmp 102), type := 4, pos := "law.go:57", after := #[{ on := 11, ground := Go.Ground.data }, { on := 18, ground := Go.Ground.data }], guard := none }) (v := ?_) rfl (by kernel_rfl) (by kernel_rfl) (by kernel_rfl) (fun _ _ _ h => h) (Or.inl ⟨by rfl, ?_⟩) (by assumption) ?_
        rotate_left
        · intro w hSw
          go_simp
          try with_reducible rfl
        simp only [Act.put, List.setIfInBounds_toArray, List.set_cons_zero, List.set_cons_succ]
        refine wpAnyH_done (by kernel_rfl) ?_ _
        have HP6 := Lib.hid hP6
        clear hP6 hP5 hP0 hS0 hS5 hS6 hc5 hc6 hc56 hr5 hr6 hb5 hb6 hHeld
        go_wp2_with fail
        go_roundw
        case rel => exact ⟨k + 1, s.sync, t.sync, by omega, by go_num, HP6⟩
        case measure => simp [intOf]; omega
      · go_simp
        refine (pr_bytes hP5).mono ?_
        rintro e w6 ⟨A6, n6, c6, rfl, hr6, -, hP6, -, hb6⟩
        have hS6 := hP6.offCell
        rw [Hbo.out] at hS6
        have hc6 : (convert 22 9 (.slice A6 n6 c6)).run Try.prog w6 = .ok (.string X) w6 := by rw [HX2.out]; exact conv_reads hr6 c6
        have hc56 : (convert 22 9 (.slice A5 n5 c5)).run Try.prog w6 = .ok (.string X) w6 := by rw [HX2.out]; exact conv_reads (hr5.below hb6) c5
        refine hK.out _ _ hS6 (fun hHeld => ?_)
        clear hK K
        try simp only [Act.put, List.setIfInBounds_toArray, List.set_cons_zero, List.set_cons_succ]
        refine wpAnyH_ready (rs := [5, 8]) (by kernel_rfl) (by simp) ?_
        refine AllReadyH.cons (o := { dst := some 89, op := Go.Op.convert 22 9 (Go.Operand.tmp 88), type := 9, pos := "law.go:57", after := #[{ on := 4, ground := Go.Ground.data }, { on := 2, ground := Go.Ground.guard }], guard := some (2, false) }) rfl (fun K hK => ?_) (AllReadyH.cons (o := { dst := some 92, op := Go.Op.convert 22 9 (Go.Operand.tmp 91), type := 9, pos := "law.go:57", after := #[{ on := 7, ground := Go.Ground.data }, { on := 2, ground := Go.Ground.guard }], guard := some (2, false) }) rfl (fun K hK => ?_) AllReadyH.nil)
        · go_simp
          refine hK.out _ _ hS6 (fun hHeld => ?_)
          clear hK K
          refine wpAnyH_ready (rs := [8]) (by kernel_rfl) (by simp) ?_
          refine AllReadyH.cons (o := { dst := some 92, op := Go.Op.convert 22 9 (Go.Operand.tmp 91), type := 9, pos := "law.go:57", after := #[{ on := 7, ground := Go.Ground.data }, { on := 2, ground := Go.Ground.guard }], guard := some (2, false) }) rfl (fun K hK => ?_) AllReadyH.nil
          go_simp
          refine hK.out _ _ hS6 (fun hHeld => ?_)
          clear hK K
          try simp only [Act.put, List.setIfInBounds_toArray, List.set_cons_zero, List.set_cons_succ]
          refine wpAnyH_take (i := 9) (oi := { dst := some 93, op := Go.Op.binOp Go.BinOp.neq 9 (Go.Operand.tmp 89) (Go.Operand.tmp 92) 9, type := 4, pos := "law.go:57", after := #[{ on := 5, ground := Go.Ground.data }, { on := 8, ground := Go.Ground.data }, { on := 2, ground := Go.Ground.guard }], guard := some (2, false) }) (v := ?_) rfl (by kernel_rfl) (by kernel_rfl) (by kernel_rfl) (fun _ _ _ h => h) (Or.inl ⟨by rfl, ?_⟩) (by assumption) ?_
          rotate_left
          · intro w hSw
            go_simp
            try with_reducible rfl
          simp only [Act.put, List.setIfInBounds_toArray, List.set_cons_zero, List.set_cons_succ]
          refine wpAnyH_take (i := 10) (oi := { dst := some 94, op := Go.Op.pick (Go.Operand.tmp 86) (Go.Operand.const (Go.Value.bool true)) (Go.Operand.tmp 93), type := 4, pos := "law.go:57", after := #[{ on := 2, ground := Go.Ground.data }, { on := 9, ground := Go.Ground.data }], guard := none }) (v := ?_) rfl (by kernel_rfl) (by kernel_rfl) (by kernel_rfl) (fun _ _ _ h => h) (Or.inl ⟨by rfl, ?_⟩) (by assumption) ?_
          rotate_left
          · intro w hSw
            go_simp
            try with_reducible rfl
          simp only [Act.put, List.setIfInBounds_toArray, List.set_cons_zero, List.set_cons_succ]
          refine wpAnyH_take (i := 11) (oi := { dst := some 95, op := Go.Op.move (Go.Operand.tmp 94), type := 4, pos := "law.go:57", after := #[{ on := 10, ground := Go.Ground.data }, { on := 7, ground := Go.Ground.chain }], guard := none }) (v := ?_) rfl (by kernel_rfl) (by kernel_rfl) (by kernel_rfl) (fun _ _ _ h => h) (Or.inl ⟨by rfl, ?_⟩) (by assumption) ?_
          rotate_left
          · intro w hSw
            go_simp
            try with_reducible rfl
          simp only [Act.put, List.setIfInBounds_toArray, List.set_cons_zero, List.set_cons_succ]
          refine wpAnyH_take (i := 12) (oi := { dst := some 96, op := Go.Op.move (Go.Operand.tmp 4), type := 24, pos := "law.go:57", after := #[{ on := 11, ground := Go.Ground.guard }], guard := some (11, false) }) (v := ?_) rfl (by kernel_rfl) (by kernel_rfl) (by kernel_rfl) (fun _ _ _ h => h) (Or.inl ⟨by rfl, ?_⟩) (by assumption) ?_
          rotate_left
          · intro w hSw
            go_simp
            try with_reducible rfl
          simp only [Act.put, List.setIfInBounds_toArray, List.set_cons_zero, List.set_cons_succ]
          refine wpAnyH_take (i := 14) (oi := { dst := some 98, op := Go.Op.move (Go.Operand.tmp 5), type := 37, pos := "law.go:57", after := #[{ on := 11, ground := Go.Ground.guard }], guard := some (11, false) }) (v := ?_) rfl (by kernel_rfl) (by kernel_rfl) (by kernel_rfl) (fun _ _ _ h => h) (Or.inl ⟨by rfl, ?_⟩) (by assumption) ?_
          rotate_left
          · intro w hSw
            go_simp
            try with_reducible rfl
          simp only [Act.put, List.setIfInBounds_toArray, List.set_cons_zero, List.set_cons_succ]
          refine wpAnyH_take (i := 15) (oi := { dst := some 99, op := Go.Op.nilCheck (Go.Operand.tmp 98), type := 0, pos := "law.go:57", after := #[{ on := 14, ground := Go.Ground.data }, { on := 11, ground := Go.Ground.guard }], guard := some (11, false) }) (v := ?_) rfl (by kernel_rfl) (by kernel_rfl) (by kernel_rfl) (fun _ _ _ h => h) (Or.inl ⟨by rfl, ?_⟩) (by assumption) ?_
          rotate_left
          · intro w hSw
            go_simp
            try with_reducible rfl
          simp only [Act.put, List.setIfInBounds_toArray, List.set_cons_zero, List.set_cons_succ]
          refine wpAnyH_take (i := 16) (oi := { dst := some 100, op := Go.Op.fieldAddr 42 (Go.Operand.tmp 99) 3, type := 0, pos := "law.go:57", after := #[{ on := 15, ground := Go.Ground.data }, { on := 11, ground := Go.Ground.guard }], guard := some (11, false) }) (v := ?_) rfl (by kernel_rfl) (by kernel_rfl) (by kernel_rfl) (fun _ _ _ h => h) (Or.inl ⟨by rfl, ?_⟩) (by assumption) ?_
          rotate_left
          · intro w hSw
            go_simp
            try with_reducible rfl
          simp only [Act.put, List.setIfInBounds_toArray, List.set_cons_zero, List.set_cons_succ]
          refine wpAnyH_take (i := 17) (oi := { dst := some 101, op := Go.Op.load 4 (Go.Operand.tmp 100), type := 4, pos := "law.go:57", after := #[{ on := 16, ground := Go.Ground.data }, { on := 11, ground := Go.Ground.guard }], guard := some (11, false) }) (v := ?_) rfl (by kernel_rfl) (by kernel_rfl) (by kernel_rfl) (fun _ _ _ h => h) (Or.inl ⟨by rfl, ?_⟩) (by assumption) ?_
          rotate_left
          · intro w hSw
            go_simp
            try with_reducible rfl
          simp only [Act.put, List.setIfInBounds_toArray, List.set_cons_zero, List.set_cons_succ]
          refine wpAnyH_ready (rs := [13]) (by kernel_rfl) (by simp) ?_
          refine AllReadyH.cons (o := { dst := some 97, op := Go.Op.call { callee := Go.Callee.value (Go.Operand.func 20), args := #[Go.Operand.tmp 96], argTypes := #[24] }, type := 4, pos := "law.go:57", after := #[{ on := 12, ground := Go.Ground.data }, { on := 11, ground := Go.Ground.chain }, { on := 11, ground := Go.Ground.guard }], guard := some (11, false) }) rfl (fun K hK => ?_) AllReadyH.nil
          go_simp
          refine (pd_off hP6).mono ?_
          rintro e w7 ⟨rfl, rfl⟩
          rw [Hbo.out]
          refine hK.out _ _ hS6 (fun hHeld => ?_)
          clear hK K
          try simp only [Act.put, List.setIfInBounds_toArray, List.set_cons_zero, List.set_cons_succ]
          refine wpAnyH_take (i := 18) (oi := { dst := some 102, op := Go.Op.binOp Go.BinOp.neq 4 (Go.Operand.tmp 97) (Go.Operand.tmp 101) 4, type := 4, pos := "law.go:57", after := #[{ on := 13, ground := Go.Ground.data }, { on := 17, ground := Go.Ground.data }, { on := 11, ground := Go.Ground.guard }], guard := some (11, false) }) (v := ?_) rfl (by kernel_rfl) (by kernel_rfl) (by kernel_rfl) (fun _ _ _ h => h) (Or.inl ⟨by rfl, ?_⟩) (by assumption) ?_
          rotate_left
          · intro w hSw
            go_simp
            try with_reducible rfl
          simp only [Act.put, List.setIfInBounds_toArray, List.set_cons_zero, List.set_cons_succ]
          refine wpAnyH_take (i := 19) (oi := { dst := some 103, op := Go.Op.pick (Go.Operand.tmp 95) (Go.Operand.const (Go.Value.bool true)) (Go.Operand.tmp 102), type := 4, pos := "law.go:57", after := #[{ on := 11, ground := Go.Ground.data }, { on := 18, ground := Go.Ground.data }], guard := none }) (v := ?_) rfl (by kernel_rfl) (by kernel_rfl) (by kernel_rfl) (fun _ _ _ h => h) (Or.inl ⟨by rfl, ?_⟩) (by assumption) ?_
          rotate_left
          · intro w hSw
            go_simp
            try with_reducible rfl
          simp only [Act.put, List.setIfInBounds_toArray, List.set_cons_zero, List.set_cons_succ]
          refine wpAnyH_done (by kernel_rfl) ?_ _
          have HP6 := Lib.hid hP6
          clear hP6 hP5 hP0 hS0 hS5 hS6 hc5 hc6 hc56 hr5 hr6 hb5 hb6 hHeld
          go_wp2_with fail
          go_roundw
          case rel => exact ⟨k + 1, s.sync, t.sync, by omega, by go_num, HP6⟩
          case measure => simp [intOf]; omega
        · go_simp
          refine hK.out _ _ hS6 (fun hHeld => ?_)
          clear hK K
          refine wpAnyH_ready (rs := [5]) (by kernel_rfl) (by simp) ?_
          refine AllReadyH.cons (o := { dst := some 89, op := Go.Op.convert 22 9 (Go.Operand.tmp 88), type := 9, pos := "law.go:57", after := #[{ on := 4, ground := Go.Ground.data }, { on := 2, ground := Go.Ground.guard }], guard := some (2, false) }) rfl (fun K hK => ?_) AllReadyH.nil
          go_simp
          refine hK.out _ _ hS6 (fun hHeld => ?_)
          clear hK K
          try simp only [Act.put, List.setIfInBounds_toArray, List.set_cons_zero, List.set_cons_succ]
          refine wpAnyH_take (i := 9) (oi := { dst := some 93, op := Go.Op.binOp Go.BinOp.neq 9 (Go.Operand.tmp 89) (Go.Operand.tmp 92) 9, type := 4, pos := "law.go:57", after := #[{ on := 5, ground := Go.Ground.data }, { on := 8, ground := Go.Ground.data }, { on := 2, ground := Go.Ground.guard }], guard := some (2, false) }) (v := ?_) rfl (by kernel_rfl) (by kernel_rfl) (by kernel_rfl) (fun _ _ _ h => h) (Or.inl ⟨by rfl, ?_⟩) (by assumption) ?_
          rotate_left
          · intro w hSw
            go_simp
            try with_reducible rfl
          simp only [Act.put, List.setIfInBounds_toArray, List.set_cons_zero, List.set_cons_succ]
          refine wpAnyH_take (i := 10) (oi := { dst := some 94, op := Go.Op.pick (Go.Operand.tmp 86) (Go.Operand.const (Go.Value.bool true)) (Go.Operand.tmp 93), type := 4, pos := "law.go:57", after := #[{ on := 2, ground := Go.Ground.data }, { on := 9, ground := Go.Ground.data }], guard := none }) (v := ?_) rfl (by kernel_rfl) (by kernel_rfl) (by kernel_rfl) (fun _ _ _ h => h) (Or.inl ⟨by rfl, ?_⟩) (by assumption) ?_
          rotate_left
          · intro w hSw
            go_simp
            try with_reducible rfl
          simp only [Act.put, List.setIfInBounds_toArray, List.set_cons_zero, List.set_cons_succ]
          refine wpAnyH_take (i := 11) (oi := { dst := some 95, op := Go.Op.move (Go.Operand.tmp 94), type := 4, pos := "law.go:57", after := #[{ on := 10, ground := Go.Ground.data }, { on := 7, ground := Go.Ground.chain }], guard := none }) (v := ?_) rfl (by kernel_rfl) (by kernel_rfl) (by kernel_rfl) (fun _ _ _ h => h) (Or.inl ⟨by rfl, ?_⟩) (by assumption) ?_
          rotate_left
          · intro w hSw
            go_simp
            try with_reducible rfl
          simp only [Act.put, List.setIfInBounds_toArray, List.set_cons_zero, List.set_cons_succ]
          refine wpAnyH_take (i := 12) (oi := { dst := some 96, op := Go.Op.move (Go.Operand.tmp 4), type := 24, pos := "law.go:57", after := #[{ on := 11, ground := Go.Ground.guard }], guard := some (11, false) }) (v := ?_) rfl (by kernel_rfl) (by kernel_rfl) (by kernel_rfl) (fun _ _ _ h => h) (Or.inl ⟨by rfl, ?_⟩) (by assumption) ?_
          rotate_left
          · intro w hSw
            go_simp
            try with_reducible rfl
          simp only [Act.put, List.setIfInBounds_toArray, List.set_cons_zero, List.set_cons_succ]
          refine wpAnyH_take (i := 14) (oi := { dst := some 98, op := Go.Op.move (Go.Operand.tmp 5), type := 37, pos := "law.go:57", after := #[{ on := 11, ground := Go.Ground.guard }], guard := some (11, false) }) (v := ?_) rfl (by kernel_rfl) (by kernel_rfl) (by kernel_rfl) (fun _ _ _ h => h) (Or.inl ⟨by rfl, ?_⟩) (by assumption) ?_
          rotate_left
          · intro w hSw
            go_simp
            try with_reducible rfl
          simp only [Act.put, List.setIfInBounds_toArray, List.set_cons_zero, List.set_cons_succ]
          refine wpAnyH_take (i := 15) (oi := { dst := some 99, op := Go.Op.nilCheck (Go.Operand.tmp 98), type := 0, pos := "law.go:57", after := #[{ on := 14, ground := Go.Ground.data }, { on := 11, ground := Go.Ground.guard }], guard := some (11, false) }) (v := ?_) rfl (by kernel_rfl) (by kernel_rfl) (by kernel_rfl) (fun _ _ _ h => h) (Or.inl ⟨by rfl, ?_⟩) (by assumption) ?_
          rotate_left
          · intro w hSw
            go_simp
            try with_reducible rfl
          simp only [Act.put, List.setIfInBounds_toArray, List.set_cons_zero, List.set_cons_succ]
          refine wpAnyH_take (i := 16) (oi := { dst := some 100, op := Go.Op.fieldAddr 42 (Go.Operand.tmp 99) 3, type := 0, pos := "law.go:57", after := #[{ on := 15, ground := Go.Ground.data }, { on := 11, ground := Go.Ground.guard }], guard := some (11, false) }) (v := ?_) rfl (by kernel_rfl) (by kernel_rfl) (by kernel_rfl) (fun _ _ _ h => h) (Or.inl ⟨by rfl, ?_⟩) (by assumption) ?_
          rotate_left
          · intro w hSw
            go_simp
            try with_reducible rfl
          simp only [Act.put, List.setIfInBounds_toArray, List.set_cons_zero, List.set_cons_succ]
          refine wpAnyH_take (i := 17) (oi := { dst := some 101, op := Go.Op.load 4 (Go.Operand.tmp 100), type := 4, pos := "law.go:57", after := #[{ on := 16, ground := Go.Ground.data }, { on := 11, ground := Go.Ground.guard }], guard := some (11, false) }) (v := ?_) rfl (by kernel_rfl) (by kernel_rfl) (by kernel_rfl) (fun _ _ _ h => h) (Or.inl ⟨by rfl, ?_⟩) (by assumption) ?_
          rotate_left
          · intro w hSw
            go_simp
            try with_reducible rfl
          simp only [Act.put, List.setIfInBounds_toArray, List.set_cons_zero, List.set_cons_succ]
          refine wpAnyH_ready (rs := [13]) (by kernel_rfl) (by simp) ?_
          refine AllReadyH.cons (o := { dst := some 97, op := Go.Op.call { callee := Go.Callee.value (Go.Operand.func 20), args := #[Go.Operand.tmp 96], argTypes := #[24] }, type := 4, pos := "law.go:57", after := #[{ on := 12, ground := Go.Ground.data }, { on := 11, ground := Go.Ground.chain }, { on := 11, ground := Go.Ground.guard }], guard := some (11, false) }) rfl (fun K hK => ?_) AllReadyH.nil
          go_simp
          refine (pd_off hP6).mono ?_
          rintro e w7 ⟨rfl, rfl⟩
          rw [Hbo.out]
          refine hK.out _ _ hS6 (fun hHeld => ?_)
          clear hK K
          try simp only [Act.put, List.setIfInBounds_toArray, List.set_cons_zero, List.set_cons_succ]
          refine wpAnyH_take (i := 18) (oi := { dst := some 102, op := Go.Op.binOp Go.BinOp.neq 4 (Go.Operand.tmp 97) (Go.Operand.tmp 101) 4, type := 4, pos := "law.go:57", after := #[{ on := 13, ground := Go.Ground.data }, { on := 17, ground := Go.Ground.data }, { on := 11, ground := Go.Ground.guard }], guard := some (11, false) }) (v := ?_) rfl (by kernel_rfl) (by kernel_rfl) (by kernel_rfl) (fun _ _ _ h => h) (Or.inl ⟨by rfl, ?_⟩) (by assumption) ?_
          rotate_left
          · intro w hSw
            go_simp
            try with_reducible rfl
          simp only [Act.put, List.setIfInBounds_toArray, List.set_cons_zero, List.set_cons_succ]
          refine wpAnyH_take (i := 19) (oi := { dst := some 103, op := Go.Op.pick (Go.Operand.tmp 95) (Go.Operand.const (Go.Value.bool true)) (Go.Operand.tmp 102), type := 4, pos := "law.go:57", after := #[{ on := 11, ground := Go.Ground.data }, { on := 18, ground := Go.Ground.data }], guard := none }) (v := ?_) rfl (by kernel_rfl) (by kernel_rfl) (by kernel_rfl) (fun _ _ _ h => h) (Or.inl ⟨by rfl, ?_⟩) (by assumption) ?_
          rotate_left
          · intro w hSw
            go_simp
            try with_reducible rfl
          simp only [Act.put, List.setIfInBounds_toArray, List.set_cons_zero, List.set_cons_succ]
          refine wpAnyH_done (by kernel_rfl) ?_ _
          have HP6 := Lib.hid hP6
          clear hP6 hP5 hP0 hS0 hS5 hS6 hc5 hc6 hc56 hr5 hr6 hb5 hb6 hHeld
          go_wp2_with fail
          go_roundw
          case rel => exact ⟨k + 1, s.sync, t.sync, by omega, by go_num, HP6⟩
          case measure => simp [intOf]; omega
    by_cases hv4 : o = 4
    · have e0 : (o == 0) = false := by simp; omega
      have e1 : (o == 1) = false := by simp; omega
      have e2 : (o == 2) = false := by simp; omega
      have e3 : (o == 3) = false := by simp; omega
      have e4 : (o == 4) = true := by simp; omega
      clear hv4
      go_wp2_with fail
      obtain ⟨W0, hW0⟩ : ∃ W0, W0 = wr.alloc (.cells #[.int .i64 o, .int .i64 nn, .slice B xs.length cb] 40) := ⟨_, rfl⟩
      obtain ⟨g, hg⟩ : ∃ g, g = wr.heap.size := ⟨_, rfl⟩
      have HP0 := Lib.hid (show Pair w W0 d r s t by rw [hW0]; exact HW.out.alloc _)
      have HB0 := Lib.hid (show Blk W0 g 40 #[.int .i64 o, .int .i64 nn, .slice B xs.length cb] by rw [hW0, hg]; exact Blk.new _ _ _)
      rw [← hW0, ← hg]
      clear hW0 hg
      obtain ⟨E, hE⟩ : ∃ E, t.trimE nn = E := ⟨_, rfl⟩
      have HE := Lib.hid hE
      clear hE
      have hs := HW.out.same
      have hg0 : W0.drew.cell? ⟨g, 1, none⟩ = some (.int .i64 nn) := by have h := HB0.out.drew.cell 1; simpa using h
      refine wp_region_held_drew (S := fun W => W.cell? ⟨g, 1, none⟩ = some (.int .i64 nn)) (by kernel_rfl) hg0 (fun hHeld => ?_)
      refine wpAnyH_take (i := 0) (oi := { dst := some 65, op := Go.Op.move (Go.Operand.tmp 4), type := 24, pos := "law.go:49", after := #[], guard := none }) (v := ?_) rfl (by kernel_rfl) (by kernel_rfl) (by kernel_rfl) (fun _ _ _ h => h) (Or.inl ⟨by rfl, ?_⟩) (by assumption) ?_
      rotate_left
      · intro w hSw
        go_simp
        try with_reducible rfl
      simp only [Act.put, List.setIfInBounds_toArray, List.set_cons_zero, List.set_cons_succ]
      refine wpAnyH_take (i := 1) (oi := { dst := some 66, op := Go.Op.fieldAddr 40 (Go.Operand.tmp 7) 1, type := 0, pos := "law.go:49", after := #[], guard := none }) (v := ?_) rfl (by kernel_rfl) (by kernel_rfl) (by kernel_rfl) (fun _ _ _ h => h) (Or.inl ⟨by rfl, ?_⟩) (by assumption) ?_
      rotate_left
      · intro w hSw
        go_simp
        try with_reducible rfl
      simp only [Act.put, List.setIfInBounds_toArray, List.set_cons_zero, List.set_cons_succ]
      refine wpAnyH_take (i := 2) (oi := { dst := some 67, op := Go.Op.load 3 (Go.Operand.tmp 66), type := 3, pos := "law.go:49", after := #[{ on := 1, ground := Go.Ground.data }], guard := none }) (v := ?_) rfl (by kernel_rfl) (by kernel_rfl) (by kernel_rfl) (fun _ _ _ h => h) (Or.inl ⟨by rfl, ?_⟩) (by assumption) ?_
      rotate_left
      · intro w hSw
        go_simp
        try with_reducible rfl
      simp only [Act.put, List.setIfInBounds_toArray, List.set_cons_zero, List.set_cons_succ]
      refine wpAnyH_take (i := 4) (oi := { dst := some 69, op := Go.Op.move (Go.Operand.tmp 5), type := 37, pos := "law.go:49", after := #[], guard := none }) (v := ?_) rfl (by kernel_rfl) (by kernel_rfl) (by kernel_rfl) (fun _ _ _ h => h) (Or.inl ⟨by rfl, ?_⟩) (by assumption) ?_
      rotate_left
      · intro w hSw
        go_simp
        try with_reducible rfl
      simp only [Act.put, List.setIfInBounds_toArray, List.set_cons_zero, List.set_cons_succ]
      refine wpAnyH_take (i := 5) (oi := { dst := some 70, op := Go.Op.fieldAddr 40 (Go.Operand.tmp 7) 1, type := 0, pos := "law.go:49", after := #[], guard := none }) (v := ?_) rfl (by kernel_rfl) (by kernel_rfl) (by kernel_rfl) (fun _ _ _ h => h) (Or.inl ⟨by rfl, ?_⟩) (by assumption) ?_
      rotate_left
      · intro w hSw
        go_simp
        try with_reducible rfl
      simp only [Act.put, List.setIfInBounds_toArray, List.set_cons_zero, List.set_cons_succ]
      refine wpAnyH_take (i := 6) (oi := { dst := some 71, op := Go.Op.load 3 (Go.Operand.tmp 70), type := 3, pos := "law.go:49", after := #[{ on := 5, ground := Go.Ground.data }], guard := none }) (v := ?_) rfl (by kernel_rfl) (by kernel_rfl) (by kernel_rfl) (fun _ _ _ h => h) (Or.inl ⟨by rfl, ?_⟩) (by assumption) ?_
      rotate_left
      · intro w hSw
        go_simp
        try with_reducible rfl
      simp only [Act.put, List.setIfInBounds_toArray, List.set_cons_zero, List.set_cons_succ]
      refine wpAnyH_ready (rs := [3]) (by kernel_rfl) (by simp) ?_
      refine AllReadyH.cons (o := { dst := some 68, op := Go.Op.call { callee := Go.Callee.value (Go.Operand.func 22), args := #[Go.Operand.tmp 65, Go.Operand.tmp 67], argTypes := #[24, 3] }, type := 26, pos := "law.go:49", after := #[{ on := 0, ground := Go.Ground.data }, { on := 2, ground := Go.Ground.data }], guard := none }) rfl (fun K hK => ?_) AllReadyH.nil
      go_simp
      refine (pd_trim nn HP0.out.drew).mono ?_
      rintro e w4 ⟨rfl, hM4, hst4⟩
      rw [HE.out]
      have hB4 := hst4 _ _ HB0.out.drew
      have hg4 : w4.cell? ⟨g, 1, none⟩ = some (.int .i64 nn) := by have h := hB4.cell 1; simpa using h
      refine hK.out _ _ hg4 (fun hHeld => ?_)
      clear hK K
      try simp only [Act.put, List.setIfInBounds_toArray, List.set_cons_zero, List.set_cons_succ]
      refine wpAnyH_ready (rs := [7]) (by kernel_rfl) (by simp) ?_
      refine AllReadyH.cons (o := { dst := some 72, op := Go.Op.call { callee := Go.Callee.value (Go.Operand.func 26), args := #[Go.Operand.tmp 69, Go.Operand.tmp 71], argTypes := #[37, 3] }, type := 26, pos := "law.go:49", after := #[{ on := 4, ground := Go.Ground.data }, { on := 6, ground := Go.Ground.data }, { on := 3, ground := Go.Ground.chain }], guard := none }) rfl (fun K hK => ?_) AllReadyH.nil
      go_simp
      refine (pr_trim nn Hnn.out hM4 hs).mono ?_
      rintro e w4b ⟨rfl, hP4, hst4b⟩
      rw [HE.out]
      have hB4b := hst4b _ _ hB4
      have hg4b : w4b.cell? ⟨g, 1, none⟩ = some (.int .i64 nn) := by have h := hB4b.cell 1; simpa using h
      refine hK.out _ _ hg4b (fun hHeld => ?_)
      clear hK K
      try simp only [Act.put, List.setIfInBounds_toArray, List.set_cons_zero, List.set_cons_succ]
      refine wpAnyH_take (i := 8) (oi := { dst := some 73, op := Go.Op.binOp Go.BinOp.eql 26 (Go.Operand.tmp 68) (Go.Operand.tmp 72) 26, type := 4, pos := "law.go:49", after := #[{ on := 3, ground := Go.Ground.data }, { on := 7, ground := Go.Ground.data }], guard := none }) (v := ?_) rfl (by kernel_rfl) (by kernel_rfl) (by kernel_rfl) (fun _ _ _ h => h) (Or.inl ⟨by rfl, ?_⟩) (by assumption) ?_
      rotate_left
      · intro w hSw
        go_simp
        try with_reducible rfl
      simp only [Act.put, List.setIfInBounds_toArray, List.set_cons_zero, List.set_cons_succ]
      refine wpAnyH_take (i := 9) (oi := { dst := some 8, op := Go.Op.assign (Go.Operand.tmp 73), type := 4, pos := "law.go:49", after := #[{ on := 8, ground := Go.Ground.data }, { on := 7, ground := Go.Ground.chain }, { on := 0, ground := Go.Ground.phase }, { on := 1, ground := Go.Ground.phase }, { on := 2, ground := Go.Ground.phase }, { on := 3, ground := Go.Ground.phase }, { on := 4, ground := Go.Ground.phase }, { on := 5, ground := Go.Ground.phase }, { on := 6, ground := Go.Ground.phase }, { on := 7, ground := Go.Ground.phase }, { on := 8, ground := Go.Ground.phase }], guard := none }) (v := ?_) rfl (by kernel_rfl) (by kernel_rfl) (by kernel_rfl) (fun _ _ _ h => h) (Or.inl ⟨by rfl, ?_⟩) (by assumption) ?_
      rotate_left
      · intro w hSw
        go_simp
        try with_reducible rfl
      simp only [Act.put, List.setIfInBounds_toArray, List.set_cons_zero, List.set_cons_succ]
      refine wpAnyH_done (by kernel_rfl) ?_ _
      have HP4 := Lib.hid hP4
      clear hP4 hM4 hB4 hB4b hst4 hst4b hg4 hg4b hg0 hHeld hs
      go_wp2_with fail
      obtain ⟨bo, hbo⟩ : ∃ bo, (t.trim nn).off = bo := ⟨_, rfl⟩
      obtain ⟨X, hX⟩ : ∃ X, X = strOfNums ((t.trim nn).l ++ (t.trim nn).t) := ⟨_, rfl⟩
      have Hbo := Lib.hid hbo
      have HX2 := Lib.hid hX
      clear hbo hX
      have hP0 := HP4.out.drew
      have hS0 := hP0.offCell
      rw [Hbo.out] at hS0
      refine wp_region_held_drew (S := fun W => W.cell? ⟨r, 3, none⟩ = some (.bool bo)) (by kernel_rfl) hS0 (fun hHeld => ?_)
      refine wpAnyH_take (i := 0) (oi := { dst := some 84, op := Go.Op.move (Go.Operand.tmp 8), type := 4, pos := "law.go:57", after := #[], guard := none }) (v := ?_) rfl (by kernel_rfl) (by kernel_rfl) (by kernel_rfl) (fun _ _ _ h => h) (Or.inl ⟨by rfl, ?_⟩) (by assumption) ?_
      rotate_left
      · intro w hSw
        go_simp
        try with_reducible rfl
      simp only [Act.put, List.setIfInBounds_toArray, List.set_cons_zero, List.set_cons_succ]
      refine wpAnyH_take (i := 1) (oi := { dst := some 85, op := Go.Op.unOp Go.UnOp.not 4 (Go.Operand.tmp 84), type := 4, pos := "law.go:57", after := #[{ on := 0, ground := Go.Ground.data }], guard := none }) (v := ?_) rfl (by kernel_rfl) (by kernel_rfl) (by kernel_rfl) (fun _ _ _ h => h) (Or.inl ⟨by rfl, ?_⟩) (by assumption) ?_
      rotate_left
      · intro w hSw
        go_simp
        try with_reducible rfl
      simp only [Act.put, List.setIfInBounds_toArray, List.set_cons_zero, List.set_cons_succ]
      refine wpAnyH_take (i := 2) (oi := { dst := some 86, op := Go.Op.move (Go.Operand.tmp 85), type := 4, pos := "law.go:57", after := #[{ on := 1, ground := Go.Ground.data }], guard := none }) (v := ?_) rfl (by kernel_rfl) (by kernel_rfl) (by kernel_rfl) (fun _ _ _ h => h) (Or.inl ⟨by rfl, ?_⟩) (by assumption) ?_
      rotate_left
      · intro w hSw
        go_simp
        try with_reducible rfl
      simp only [Act.put, List.setIfInBounds_toArray, List.set_cons_zero, List.set_cons_succ]
      refine wpAnyH_take (i := 3) (oi := { dst := some 87, op := Go.Op.move (Go.Operand.tmp 4), type := 24, pos := "law.go:57", after := #[{ on := 2, ground := Go.Ground.guard }], guard := some (2, false) }) (v := ?_) rfl (by kernel_rfl) (by kernel_rfl) (by kernel_rfl) (fun _ _ _ h => h) (Or.inl ⟨by rfl, ?_⟩) (by assumption) ?_
      rotate_left
      · intro w hSw
        go_simp
        try with_reducible rfl
      simp only [Act.put, List.setIfInBounds_toArray, List.set_cons_zero, List.set_cons_succ]
      refine wpAnyH_take (i := 6) (oi := { dst := some 90, op := Go.Op.move (Go.Operand.tmp 5), type := 37, pos := "law.go:57", after := #[{ on := 2, ground := Go.Ground.guard }], guard := some (2, false) }) (v := ?_) rfl (by kernel_rfl) (by kernel_rfl) (by kernel_rfl) (fun _ _ _ h => h) (Or.inl ⟨by rfl, ?_⟩) (by assumption) ?_
      rotate_left
      · intro w hSw
        go_simp
        try with_reducible rfl
      simp only [Act.put, List.setIfInBounds_toArray, List.set_cons_zero, List.set_cons_succ]
      refine wpAnyH_ready (rs := [4]) (by kernel_rfl) (by simp) ?_
      refine AllReadyH.cons (o := { dst := some 88, op := Go.Op.call { callee := Go.Callee.value (Go.Operand.func 17), args := #[Go.Operand.tmp 87], argTypes := #[24] }, type := 22, pos := "law.go:57", after := #[{ on := 3, ground := Go.Ground.data }, { on := 2, ground := Go.Ground.chain }, { on := 2, ground := Go.Ground.guard }], guard := some (2, false) }) rfl (fun K hK => ?_) AllReadyH.nil
      go_simp
      refine (pd_bytes hP0).mono ?_
      rintro e w5 ⟨A5, n5, c5, rfl, hr5, -, hP5, -, hb5⟩
      have hS5 := hP5.offCell
      rw [Hbo.out] at hS5
      have hc5 : (convert 22 9 (.slice A5 n5 c5)).run Try.prog w5 = .ok (.string X) w5 := by rw [HX2.out]; exact conv_reads hr5 c5
      refine hK.out _ _ hS5 (fun hHeld => ?_)
      clear hK K
      try simp only [Act.put, List.setIfInBounds_toArray, List.set_cons_zero, List.set_cons_succ]
      refine wpAnyH_ready (rs := [5, 7]) (by kernel_rfl) (by simp) ?_
      refine AllReadyH.cons (o := { dst := some 89, op := Go.Op.convert 22 9 (Go.Operand.tmp 88), type := 9, pos := "law.go:57", after := #[{ on := 4, ground := Go.Ground.data }, { on := 2, ground := Go.Ground.guard }], guard := some (2, false) }) rfl (fun K hK => ?_) (AllReadyH.cons (o := { dst := some 91, op := Go.Op.call { callee := Go.Callee.value (Go.Operand.func 29), args := #[Go.Operand.tmp 90], argTypes := #[37] }, type := 22, pos := "law.go:57", after := #[{ on := 6, ground := Go.Ground.data }, { on := 4, ground := Go.Ground.chain }, { on := 2, ground := Go.Ground.guard }], guard := some (2, false) }) rfl (fun K hK => ?_) AllReadyH.nil)
      · go_simp
        refine hK.out _ _ hS5 (fun hHeld => ?_)
        clear hK K
        refine wpAnyH_ready (rs := [7]) (by kernel_rfl) (by simp) ?_
        refine AllReadyH.cons (o := { dst := some 91, op := Go.Op.call { callee := Go.Callee.value (Go.Operand.func 29), args := #[Go.Operand.tmp 90], argTypes := #[37] }, type := 22, pos := "law.go:57", after := #[{ on := 6, ground := Go.Ground.data }, { on := 4, ground := Go.Ground.chain }, { on := 2, ground := Go.Ground.guard }], guard := some (2, false) }) rfl (fun K hK => ?_) AllReadyH.nil
        go_simp
        refine (pr_bytes hP5).mono ?_
        rintro e w6 ⟨A6, n6, c6, rfl, hr6, -, hP6, -, hb6⟩
        have hS6 := hP6.offCell
        rw [Hbo.out] at hS6
        have hc6 : (convert 22 9 (.slice A6 n6 c6)).run Try.prog w6 = .ok (.string X) w6 := by rw [HX2.out]; exact conv_reads hr6 c6
        have hc56 : (convert 22 9 (.slice A5 n5 c5)).run Try.prog w6 = .ok (.string X) w6 := by rw [HX2.out]; exact conv_reads (hr5.below hb6) c5
        refine hK.out _ _ hS6 (fun hHeld => ?_)
        clear hK K
        refine wpAnyH_ready (rs := [8]) (by kernel_rfl) (by simp) ?_
        refine AllReadyH.cons (o := { dst := some 92, op := Go.Op.convert 22 9 (Go.Operand.tmp 91), type := 9, pos := "law.go:57", after := #[{ on := 7, ground := Go.Ground.data }, { on := 2, ground := Go.Ground.guard }], guard := some (2, false) }) rfl (fun K hK => ?_) AllReadyH.nil
        go_simp
        refine hK.out _ _ hS6 (fun hHeld => ?_)
        clear hK K
        try simp only [Act.put, List.setIfInBounds_toArray, List.set_cons_zero, List.set_cons_succ]
        refine wpAnyH_take (i := 9) (oi := { dst := some 93, op := Go.Op.binOp Go.BinOp.neq 9 (Go.Operand.tmp 89) (Go.Operand.tmp 92) 9, type := 4, pos := "law.go:57", after := #[{ on := 5, ground := Go.Ground.data }, { on := 8, ground := Go.Ground.data }, { on := 2, ground := Go.Ground.guard }], guard := some (2, false) }) (v := ?_) rfl (by kernel_rfl) (by kernel_rfl) (by kernel_rfl) (fun _ _ _ h => h) (Or.inl ⟨by rfl, ?_⟩) (by assumption) ?_
        rotate_left
        · intro w hSw
          go_simp
          try with_reducible rfl
        simp only [Act.put, List.setIfInBounds_toArray, List.set_cons_zero, List.set_cons_succ]
        refine wpAnyH_take (i := 10) (oi := { dst := some 94, op := Go.Op.pick (Go.Operand.tmp 86) (Go.Operand.const (Go.Value.bool true)) (Go.Operand.tmp 93), type := 4, pos := "law.go:57", after := #[{ on := 2, ground := Go.Ground.data }, { on := 9, ground := Go.Ground.data }], guard := none }) (v := ?_) rfl (by kernel_rfl) (by kernel_rfl) (by kernel_rfl) (fun _ _ _ h => h) (Or.inl ⟨by rfl, ?_⟩) (by assumption) ?_
        rotate_left
        · intro w hSw
          go_simp
          try with_reducible rfl
        simp only [Act.put, List.setIfInBounds_toArray, List.set_cons_zero, List.set_cons_succ]
        refine wpAnyH_take (i := 11) (oi := { dst := some 95, op := Go.Op.move (Go.Operand.tmp 94), type := 4, pos := "law.go:57", after := #[{ on := 10, ground := Go.Ground.data }, { on := 7, ground := Go.Ground.chain }], guard := none }) (v := ?_) rfl (by kernel_rfl) (by kernel_rfl) (by kernel_rfl) (fun _ _ _ h => h) (Or.inl ⟨by rfl, ?_⟩) (by assumption) ?_
        rotate_left
        · intro w hSw
          go_simp
          try with_reducible rfl
        simp only [Act.put, List.setIfInBounds_toArray, List.set_cons_zero, List.set_cons_succ]
        refine wpAnyH_take (i := 12) (oi := { dst := some 96, op := Go.Op.move (Go.Operand.tmp 4), type := 24, pos := "law.go:57", after := #[{ on := 11, ground := Go.Ground.guard }], guard := some (11, false) }) (v := ?_) rfl (by kernel_rfl) (by kernel_rfl) (by kernel_rfl) (fun _ _ _ h => h) (Or.inl ⟨by rfl, ?_⟩) (by assumption) ?_
        rotate_left
        · intro w hSw
          go_simp
          try with_reducible rfl
        simp only [Act.put, List.setIfInBounds_toArray, List.set_cons_zero, List.set_cons_succ]
        refine wpAnyH_take (i := 14) (oi := { dst := some 98, op := Go.Op.move (Go.Operand.tmp 5), type := 37, pos := "law.go:57", after := #[{ on := 11, ground := Go.Ground.guard }], guard := some (11, false) }) (v := ?_) rfl (by kernel_rfl) (by kernel_rfl) (by kernel_rfl) (fun _ _ _ h => h) (Or.inl ⟨by rfl, ?_⟩) (by assumption) ?_
        rotate_left
        · intro w hSw
          go_simp
          try with_reducible rfl
        simp only [Act.put, List.setIfInBounds_toArray, List.set_cons_zero, List.set_cons_succ]
        refine wpAnyH_take (i := 15) (oi := { dst := some 99, op := Go.Op.nilCheck (Go.Operand.tmp 98), type := 0, pos := "law.go:57", after := #[{ on := 14, ground := Go.Ground.data }, { on := 11, ground := Go.Ground.guard }], guard := some (11, false) }) (v := ?_) rfl (by kernel_rfl) (by kernel_rfl) (by kernel_rfl) (fun _ _ _ h => h) (Or.inl ⟨by rfl, ?_⟩) (by assumption) ?_
        rotate_left
        · intro w hSw
          go_simp
          try with_reducible rfl
        simp only [Act.put, List.setIfInBounds_toArray, List.set_cons_zero, List.set_cons_succ]
        refine wpAnyH_take (i := 16) (oi := { dst := some 100, op := Go.Op.fieldAddr 42 (Go.Operand.tmp 99) 3, type := 0, pos := "law.go:57", after := #[{ on := 15, ground := Go.Ground.data }, { on := 11, ground := Go.Ground.guard }], guard := some (11, false) }) (v := ?_) rfl (by kernel_rfl) (by kernel_rfl) (by kernel_rfl) (fun _ _ _ h => h) (Or.inl ⟨by rfl, ?_⟩) (by assumption) ?_
        rotate_left
        · intro w hSw
          go_simp
          try with_reducible rfl
        simp only [Act.put, List.setIfInBounds_toArray, List.set_cons_zero, List.set_cons_succ]
        refine wpAnyH_take (i := 17) (oi := { dst := some 101, op := Go.Op.load 4 (Go.Operand.tmp 100), type := 4, pos := "law.go:57", after := #[{ on := 16, ground := Go.Ground.data }, { on := 11, ground := Go.Ground.guard }], guard := some (11, false) }) (v := ?_) rfl (by kernel_rfl) (by kernel_rfl) (by kernel_rfl) (fun _ _ _ h => h) (Or.inl ⟨by rfl, ?_⟩) (by assumption) ?_
        rotate_left
        · intro w hSw
          go_simp
          try with_reducible rfl
        simp only [Act.put, List.setIfInBounds_toArray, List.set_cons_zero, List.set_cons_succ]
        refine wpAnyH_ready (rs := [13]) (by kernel_rfl) (by simp) ?_
        refine AllReadyH.cons (o := { dst := some 97, op := Go.Op.call { callee := Go.Callee.value (Go.Operand.func 20), args := #[Go.Operand.tmp 96], argTypes := #[24] }, type := 4, pos := "law.go:57", after := #[{ on := 12, ground := Go.Ground.data }, { on := 11, ground := Go.Ground.chain }, { on := 11, ground := Go.Ground.guard }], guard := some (11, false) }) rfl (fun K hK => ?_) AllReadyH.nil
        go_simp
        refine (pd_off hP6).mono ?_
        rintro e w7 ⟨rfl, rfl⟩
        rw [Hbo.out]
        refine hK.out _ _ hS6 (fun hHeld => ?_)
        clear hK K
        try simp only [Act.put, List.setIfInBounds_toArray, List.set_cons_zero, List.set_cons_succ]
        refine wpAnyH_take (i := 18) (oi := { dst := some 102, op := Go.Op.binOp Go.BinOp.neq 4 (Go.Operand.tmp 97) (Go.Operand.tmp 101) 4, type := 4, pos := "law.go:57", after := #[{ on := 13, ground := Go.Ground.data }, { on := 17, ground := Go.Ground.data }, { on := 11, ground := Go.Ground.guard }], guard := some (11, false) }) (v := ?_) rfl (by kernel_rfl) (by kernel_rfl) (by kernel_rfl) (fun _ _ _ h => h) (Or.inl ⟨by rfl, ?_⟩) (by assumption) ?_
        rotate_left
        · intro w hSw
          go_simp
          try with_reducible rfl
        simp only [Act.put, List.setIfInBounds_toArray, List.set_cons_zero, List.set_cons_succ]
        refine wpAnyH_take (i := 19) (oi := { dst := some 103, op := Go.Op.pick (Go.Operand.tmp 95) (Go.Operand.const (Go.Value.bool true)) (Go.Operand.tmp 102), type := 4, pos := "law.go:57", after := #[{ on := 11, ground := Go.Ground.data }, { on := 18, ground := Go.Ground.data }], guard := none }) (v := ?_) rfl (by kernel_rfl) (by kernel_rfl) (by kernel_rfl) (fun _ _ _ h => h) (Or.inl ⟨by rfl, ?_⟩) (by assumption) ?_
        rotate_left
        · intro w hSw
          go_simp
          try with_reducible rfl
        simp only [Act.put, List.setIfInBounds_toArray, List.set_cons_zero, List.set_cons_succ]
        refine wpAnyH_done (by kernel_rfl) ?_ _
        have HP6 := Lib.hid hP6
        clear hP6 hP5 hP0 hS0 hS5 hS6 hc5 hc6 hc56 hr5 hr6 hb5 hb6 hHeld
        go_wp2_with fail
        go_roundw
        case rel => exact ⟨k + 1, (s.trim nn), (t.trim nn), by omega, by go_num, HP6⟩
        case measure => simp [intOf]; omega
      · go_simp
        refine (pr_bytes hP5).mono ?_
        rintro e w6 ⟨A6, n6, c6, rfl, hr6, -, hP6, -, hb6⟩
        have hS6 := hP6.offCell
        rw [Hbo.out] at hS6
        have hc6 : (convert 22 9 (.slice A6 n6 c6)).run Try.prog w6 = .ok (.string X) w6 := by rw [HX2.out]; exact conv_reads hr6 c6
        have hc56 : (convert 22 9 (.slice A5 n5 c5)).run Try.prog w6 = .ok (.string X) w6 := by rw [HX2.out]; exact conv_reads (hr5.below hb6) c5
        refine hK.out _ _ hS6 (fun hHeld => ?_)
        clear hK K
        try simp only [Act.put, List.setIfInBounds_toArray, List.set_cons_zero, List.set_cons_succ]
        refine wpAnyH_ready (rs := [5, 8]) (by kernel_rfl) (by simp) ?_
        refine AllReadyH.cons (o := { dst := some 89, op := Go.Op.convert 22 9 (Go.Operand.tmp 88), type := 9, pos := "law.go:57", after := #[{ on := 4, ground := Go.Ground.data }, { on := 2, ground := Go.Ground.guard }], guard := some (2, false) }) rfl (fun K hK => ?_) (AllReadyH.cons (o := { dst := some 92, op := Go.Op.convert 22 9 (Go.Operand.tmp 91), type := 9, pos := "law.go:57", after := #[{ on := 7, ground := Go.Ground.data }, { on := 2, ground := Go.Ground.guard }], guard := some (2, false) }) rfl (fun K hK => ?_) AllReadyH.nil)
        · go_simp
          refine hK.out _ _ hS6 (fun hHeld => ?_)
          clear hK K
          refine wpAnyH_ready (rs := [8]) (by kernel_rfl) (by simp) ?_
          refine AllReadyH.cons (o := { dst := some 92, op := Go.Op.convert 22 9 (Go.Operand.tmp 91), type := 9, pos := "law.go:57", after := #[{ on := 7, ground := Go.Ground.data }, { on := 2, ground := Go.Ground.guard }], guard := some (2, false) }) rfl (fun K hK => ?_) AllReadyH.nil
          go_simp
          refine hK.out _ _ hS6 (fun hHeld => ?_)
          clear hK K
          try simp only [Act.put, List.setIfInBounds_toArray, List.set_cons_zero, List.set_cons_succ]
          refine wpAnyH_take (i := 9) (oi := { dst := some 93, op := Go.Op.binOp Go.BinOp.neq 9 (Go.Operand.tmp 89) (Go.Operand.tmp 92) 9, type := 4, pos := "law.go:57", after := #[{ on := 5, ground := Go.Ground.data }, { on := 8, ground := Go.Ground.data }, { on := 2, ground := Go.Ground.guard }], guard := some (2, false) }) (v := ?_) rfl (by kernel_rfl) (by kernel_rfl) (by kernel_rfl) (fun _ _ _ h => h) (Or.inl ⟨by rfl, ?_⟩) (by assumption) ?_
          rotate_left
          · intro w hSw
            go_simp
            try with_reducible rfl
          simp only [Act.put, List.setIfInBounds_toArray, List.set_cons_zero, List.set_cons_succ]
          refine wpAnyH_take (i := 10) (oi := { dst := some 94, op := Go.Op.pick (Go.Operand.tmp 86) (Go.Operand.const (Go.Value.bool true)) (Go.Operand.tmp 93), type := 4, pos := "law.go:57", after := #[{ on := 2, ground := Go.Ground.data }, { on := 9, ground := Go.Ground.data }], guard := none }) (v := ?_) rfl (by kernel_rfl) (by kernel_rfl) (by kernel_rfl) (fun _ _ _ h => h) (Or.inl ⟨by rfl, ?_⟩) (by assumption) ?_
          rotate_left
          · intro w hSw
            go_simp
            try with_reducible rfl
          simp only [Act.put, List.setIfInBounds_toArray, List.set_cons_zero, List.set_cons_succ]
          refine wpAnyH_take (i := 11) (oi := { dst := some 95, op := Go.Op.move (Go.Operand.tmp 94), type := 4, pos := "law.go:57", after := #[{ on := 10, ground := Go.Ground.data }, { on := 7, ground := Go.Ground.chain }], guard := none }) (v := ?_) rfl (by kernel_rfl) (by kernel_rfl) (by kernel_rfl) (fun _ _ _ h => h) (Or.inl ⟨by rfl, ?_⟩) (by assumption) ?_
          rotate_left
          · intro w hSw
            go_simp
            try with_reducible rfl
          simp only [Act.put, List.setIfInBounds_toArray, List.set_cons_zero, List.set_cons_succ]
          refine wpAnyH_take (i := 12) (oi := { dst := some 96, op := Go.Op.move (Go.Operand.tmp 4), type := 24, pos := "law.go:57", after := #[{ on := 11, ground := Go.Ground.guard }], guard := some (11, false) }) (v := ?_) rfl (by kernel_rfl) (by kernel_rfl) (by kernel_rfl) (fun _ _ _ h => h) (Or.inl ⟨by rfl, ?_⟩) (by assumption) ?_
          rotate_left
          · intro w hSw
            go_simp
            try with_reducible rfl
          simp only [Act.put, List.setIfInBounds_toArray, List.set_cons_zero, List.set_cons_succ]
          refine wpAnyH_take (i := 14) (oi := { dst := some 98, op := Go.Op.move (Go.Operand.tmp 5), type := 37, pos := "law.go:57", after := #[{ on := 11, ground := Go.Ground.guard }], guard := some (11, false) }) (v := ?_) rfl (by kernel_rfl) (by kernel_rfl) (by kernel_rfl) (fun _ _ _ h => h) (Or.inl ⟨by rfl, ?_⟩) (by assumption) ?_
          rotate_left
          · intro w hSw
            go_simp
            try with_reducible rfl
          simp only [Act.put, List.setIfInBounds_toArray, List.set_cons_zero, List.set_cons_succ]
          refine wpAnyH_take (i := 15) (oi := { dst := some 99, op := Go.Op.nilCheck (Go.Operand.tmp 98), type := 0, pos := "law.go:57", after := #[{ on := 14, ground := Go.Ground.data }, { on := 11, ground := Go.Ground.guard }], guard := some (11, false) }) (v := ?_) rfl (by kernel_rfl) (by kernel_rfl) (by kernel_rfl) (fun _ _ _ h => h) (Or.inl ⟨by rfl, ?_⟩) (by assumption) ?_
          rotate_left
          · intro w hSw
            go_simp
            try with_reducible rfl
          simp only [Act.put, List.setIfInBounds_toArray, List.set_cons_zero, List.set_cons_succ]
          refine wpAnyH_take (i := 16) (oi := { dst := some 100, op := Go.Op.fieldAddr 42 (Go.Operand.tmp 99) 3, type := 0, pos := "law.go:57", after := #[{ on := 15, ground := Go.Ground.data }, { on := 11, ground := Go.Ground.guard }], guard := some (11, false) }) (v := ?_) rfl (by kernel_rfl) (by kernel_rfl) (by kernel_rfl) (fun _ _ _ h => h) (Or.inl ⟨by rfl, ?_⟩) (by assumption) ?_
          rotate_left
          · intro w hSw
            go_simp
            try with_reducible rfl
          simp only [Act.put, List.setIfInBounds_toArray, List.set_cons_zero, List.set_cons_succ]
          refine wpAnyH_take (i := 17) (oi := { dst := some 101, op := Go.Op.load 4 (Go.Operand.tmp 100), type := 4, pos := "law.go:57", after := #[{ on := 16, ground := Go.Ground.data }, { on := 11, ground := Go.Ground.guard }], guard := some (11, false) }) (v := ?_) rfl (by kernel_rfl) (by kernel_rfl) (by kernel_rfl) (fun _ _ _ h => h) (Or.inl ⟨by rfl, ?_⟩) (by assumption) ?_
          rotate_left
          · intro w hSw
            go_simp
            try with_reducible rfl
          simp only [Act.put, List.setIfInBounds_toArray, List.set_cons_zero, List.set_cons_succ]
          refine wpAnyH_ready (rs := [13]) (by kernel_rfl) (by simp) ?_
          refine AllReadyH.cons (o := { dst := some 97, op := Go.Op.call { callee := Go.Callee.value (Go.Operand.func 20), args := #[Go.Operand.tmp 96], argTypes := #[24] }, type := 4, pos := "law.go:57", after := #[{ on := 12, ground := Go.Ground.data }, { on := 11, ground := Go.Ground.chain }, { on := 11, ground := Go.Ground.guard }], guard := some (11, false) }) rfl (fun K hK => ?_) AllReadyH.nil
          go_simp
          refine (pd_off hP6).mono ?_
          rintro e w7 ⟨rfl, rfl⟩
          rw [Hbo.out]
          refine hK.out _ _ hS6 (fun hHeld => ?_)
          clear hK K
          try simp only [Act.put, List.setIfInBounds_toArray, List.set_cons_zero, List.set_cons_succ]
          refine wpAnyH_take (i := 18) (oi := { dst := some 102, op := Go.Op.binOp Go.BinOp.neq 4 (Go.Operand.tmp 97) (Go.Operand.tmp 101) 4, type := 4, pos := "law.go:57", after := #[{ on := 13, ground := Go.Ground.data }, { on := 17, ground := Go.Ground.data }, { on := 11, ground := Go.Ground.guard }], guard := some (11, false) }) (v := ?_) rfl (by kernel_rfl) (by kernel_rfl) (by kernel_rfl) (fun _ _ _ h => h) (Or.inl ⟨by rfl, ?_⟩) (by assumption) ?_
          rotate_left
          · intro w hSw
            go_simp
            try with_reducible rfl
          simp only [Act.put, List.setIfInBounds_toArray, List.set_cons_zero, List.set_cons_succ]
          refine wpAnyH_take (i := 19) (oi := { dst := some 103, op := Go.Op.pick (Go.Operand.tmp 95) (Go.Operand.const (Go.Value.bool true)) (Go.Operand.tmp 102), type := 4, pos := "law.go:57", after := #[{ on := 11, ground := Go.Ground.data }, { on := 18, ground := Go.Ground.data }], guard := none }) (v := ?_) rfl (by kernel_rfl) (by kernel_rfl) (by kernel_rfl) (fun _ _ _ h => h) (Or.inl ⟨by rfl, ?_⟩) (by assumption) ?_
          rotate_left
          · intro w hSw
            go_simp
            try with_reducible rfl
          simp only [Act.put, List.setIfInBounds_toArray, List.set_cons_zero, List.set_cons_succ]
          refine wpAnyH_done (by kernel_rfl) ?_ _
          have HP6 := Lib.hid hP6
          clear hP6 hP5 hP0 hS0 hS5 hS6 hc5 hc6 hc56 hr5 hr6 hb5 hb6 hHeld
          go_wp2_with fail
          go_roundw
          case rel => exact ⟨k + 1, (s.trim nn), (t.trim nn), by omega, by go_num, HP6⟩
          case measure => simp [intOf]; omega
        · go_simp
          refine hK.out _ _ hS6 (fun hHeld => ?_)
          clear hK K
          refine wpAnyH_ready (rs := [5]) (by kernel_rfl) (by simp) ?_
          refine AllReadyH.cons (o := { dst := some 89, op := Go.Op.convert 22 9 (Go.Operand.tmp 88), type := 9, pos := "law.go:57", after := #[{ on := 4, ground := Go.Ground.data }, { on := 2, ground := Go.Ground.guard }], guard := some (2, false) }) rfl (fun K hK => ?_) AllReadyH.nil
          go_simp
          refine hK.out _ _ hS6 (fun hHeld => ?_)
          clear hK K
          try simp only [Act.put, List.setIfInBounds_toArray, List.set_cons_zero, List.set_cons_succ]
          refine wpAnyH_take (i := 9) (oi := { dst := some 93, op := Go.Op.binOp Go.BinOp.neq 9 (Go.Operand.tmp 89) (Go.Operand.tmp 92) 9, type := 4, pos := "law.go:57", after := #[{ on := 5, ground := Go.Ground.data }, { on := 8, ground := Go.Ground.data }, { on := 2, ground := Go.Ground.guard }], guard := some (2, false) }) (v := ?_) rfl (by kernel_rfl) (by kernel_rfl) (by kernel_rfl) (fun _ _ _ h => h) (Or.inl ⟨by rfl, ?_⟩) (by assumption) ?_
          rotate_left
          · intro w hSw
            go_simp
            try with_reducible rfl
          simp only [Act.put, List.setIfInBounds_toArray, List.set_cons_zero, List.set_cons_succ]
          refine wpAnyH_take (i := 10) (oi := { dst := some 94, op := Go.Op.pick (Go.Operand.tmp 86) (Go.Operand.const (Go.Value.bool true)) (Go.Operand.tmp 93), type := 4, pos := "law.go:57", after := #[{ on := 2, ground := Go.Ground.data }, { on := 9, ground := Go.Ground.data }], guard := none }) (v := ?_) rfl (by kernel_rfl) (by kernel_rfl) (by kernel_rfl) (fun _ _ _ h => h) (Or.inl ⟨by rfl, ?_⟩) (by assumption) ?_
          rotate_left
          · intro w hSw
            go_simp
            try with_reducible rfl
          simp only [Act.put, List.setIfInBounds_toArray, List.set_cons_zero, List.set_cons_succ]
          refine wpAnyH_take (i := 11) (oi := { dst := some 95, op := Go.Op.move (Go.Operand.tmp 94), type := 4, pos := "law.go:57", after := #[{ on := 10, ground := Go.Ground.data }, { on := 7, ground := Go.Ground.chain }], guard := none }) (v := ?_) rfl (by kernel_rfl) (by kernel_rfl) (by kernel_rfl) (fun _ _ _ h => h) (Or.inl ⟨by rfl, ?_⟩) (by assumption) ?_
          rotate_left
          · intro w hSw
            go_simp
            try with_reducible rfl
          simp only [Act.put, List.setIfInBounds_toArray, List.set_cons_zero, List.set_cons_succ]
          refine wpAnyH_take (i := 12) (oi := { dst := some 96, op := Go.Op.move (Go.Operand.tmp 4), type := 24, pos := "law.go:57", after := #[{ on := 11, ground := Go.Ground.guard }], guard := some (11, false) }) (v := ?_) rfl (by kernel_rfl) (by kernel_rfl) (by kernel_rfl) (fun _ _ _ h => h) (Or.inl ⟨by rfl, ?_⟩) (by assumption) ?_
          rotate_left
          · intro w hSw
            go_simp
            try with_reducible rfl
          simp only [Act.put, List.setIfInBounds_toArray, List.set_cons_zero, List.set_cons_succ]
          refine wpAnyH_take (i := 14) (oi := { dst := some 98, op := Go.Op.move (Go.Operand.tmp 5), type := 37, pos := "law.go:57", after := #[{ on := 11, ground := Go.Ground.guard }], guard := some (11, false) }) (v := ?_) rfl (by kernel_rfl) (by kernel_rfl) (by kernel_rfl) (fun _ _ _ h => h) (Or.inl ⟨by rfl, ?_⟩) (by assumption) ?_
          rotate_left
          · intro w hSw
            go_simp
            try with_reducible rfl
          simp only [Act.put, List.setIfInBounds_toArray, List.set_cons_zero, List.set_cons_succ]
          refine wpAnyH_take (i := 15) (oi := { dst := some 99, op := Go.Op.nilCheck (Go.Operand.tmp 98), type := 0, pos := "law.go:57", after := #[{ on := 14, ground := Go.Ground.data }, { on := 11, ground := Go.Ground.guard }], guard := some (11, false) }) (v := ?_) rfl (by kernel_rfl) (by kernel_rfl) (by kernel_rfl) (fun _ _ _ h => h) (Or.inl ⟨by rfl, ?_⟩) (by assumption) ?_
          rotate_left
          · intro w hSw
            go_simp
            try with_reducible rfl
          simp only [Act.put, List.setIfInBounds_toArray, List.set_cons_zero, List.set_cons_succ]
          refine wpAnyH_take (i := 16) (oi := { dst := some 100, op := Go.Op.fieldAddr 42 (Go.Operand.tmp 99) 3, type := 0, pos := "law.go:57", after := #[{ on := 15, ground := Go.Ground.data }, { on := 11, ground := Go.Ground.guard }], guard := some (11, false) }) (v := ?_) rfl (by kernel_rfl) (by kernel_rfl) (by kernel_rfl) (fun _ _ _ h => h) (Or.inl ⟨by rfl, ?_⟩) (by assumption) ?_
          rotate_left
          · intro w hSw
            go_simp
            try with_reducible rfl
          simp only [Act.put, List.setIfInBounds_toArray, List.set_cons_zero, List.set_cons_succ]
          refine wpAnyH_take (i := 17) (oi := { dst := some 101, op := Go.Op.load 4 (Go.Operand.tmp 100), type := 4, pos := "law.go:57", after := #[{ on := 16, ground := Go.Ground.data }, { on := 11, ground := Go.Ground.guard }], guard := some (11, false) }) (v := ?_) rfl (by kernel_rfl) (by kernel_rfl) (by kernel_rfl) (fun _ _ _ h => h) (Or.inl ⟨by rfl, ?_⟩) (by assumption) ?_
          rotate_left
          · intro w hSw
            go_simp
            try with_reducible rfl
          simp only [Act.put, List.setIfInBounds_toArray, List.set_cons_zero, List.set_cons_succ]
          refine wpAnyH_ready (rs := [13]) (by kernel_rfl) (by simp) ?_
          refine AllReadyH.cons (o := { dst := some 97, op := Go.Op.call { callee := Go.Callee.value (Go.Operand.func 20), args := #[Go.Operand.tmp 96], argTypes := #[24] }, type := 4, pos := "law.go:57", after := #[{ on := 12, ground := Go.Ground.data }, { on := 11, ground := Go.Ground.chain }, { on := 11, ground := Go.Ground.guard }], guard := some (11, false) }) rfl (fun K hK => ?_) AllReadyH.nil
          go_simp
          refine (pd_off hP6).mono ?_
          rintro e w7 ⟨rfl, rfl⟩
          rw [Hbo.out]
          refine hK.out _ _ hS6 (fun hHeld => ?_)
          clear hK K
          try simp only [Act.put, List.setIfInBounds_toArray, List.set_cons_zero, List.set_cons_succ]
          refine wpAnyH_take (i := 18) (oi := { dst := some 102, op := Go.Op.binOp Go.BinOp.neq 4 (Go.Operand.tmp 97) (Go.Operand.tmp 101) 4, type := 4, pos := "law.go:57", after := #[{ on := 13, ground := Go.Ground.data }, { on := 17, ground := Go.Ground.data }, { on := 11, ground := Go.Ground.guard }], guard := some (11, false) }) (v := ?_) rfl (by kernel_rfl) (by kernel_rfl) (by kernel_rfl) (fun _ _ _ h => h) (Or.inl ⟨by rfl, ?_⟩) (by assumption) ?_
          rotate_left
          · intro w hSw
            go_simp
            try with_reducible rfl
          simp only [Act.put, List.setIfInBounds_toArray, List.set_cons_zero, List.set_cons_succ]
          refine wpAnyH_take (i := 19) (oi := { dst := some 103, op := Go.Op.pick (Go.Operand.tmp 95) (Go.Operand.const (Go.Value.bool true)) (Go.Operand.tmp 102), type := 4, pos := "law.go:57", after := #[{ on := 11, ground := Go.Ground.data }, { on := 18, ground := Go.Ground.data }], guard := none }) (v := ?_) rfl (by kernel_rfl) (by kernel_rfl) (by kernel_rfl) (fun _ _ _ h => h) (Or.inl ⟨by rfl, ?_⟩) (by assumption) ?_
          rotate_left
          · intro w hSw
            go_simp
            try with_reducible rfl
          simp only [Act.put, List.setIfInBounds_toArray, List.set_cons_zero, List.set_cons_succ]
          refine wpAnyH_done (by kernel_rfl) ?_ _
          have HP6 := Lib.hid hP6
          clear hP6 hP5 hP0 hS0 hS5 hS6 hc5 hc6 hc56 hr5 hr6 hb5 hb6 hHeld
          go_wp2_with fail
          go_roundw
          case rel => exact ⟨k + 1, (s.trim nn), (t.trim nn), by omega, by go_num, HP6⟩
          case measure => simp [intOf]; omega
    by_cases hv5 : o = 5
    · have e0 : (o == 0) = false := by simp; omega
      have e1 : (o == 1) = false := by simp; omega
      have e2 : (o == 2) = false := by simp; omega
      have e3 : (o == 3) = false := by simp; omega
      have e4 : (o == 4) = false := by simp; omega
      have e5 : (o == 5) = true := by simp; omega
      clear hv5
      go_wp2_with fail
      have hs := HW.out.same
      have HS := Lib.hid hs
      clear hs
      refine (pd_arm nn Hnn.out (HW.out.alloc _)).mono ?_
      rintro e w4 ⟨rfl, hM4, hst4⟩
      have hB4 := hst4 _ _ (Blk.new wr 40 #[.int .i64 o, .int .i64 nn, .slice B xs.length cb])
      have hg4 : w4.cell? ⟨wr.heap.size, 1, none⟩ = some (.int .i64 nn) := by have h := hB4.cell 1; simpa using h
      have HM4 := Lib.hid hM4
      clear hM4 hst4 hB4
      go_wp2_with fail
      refine (pr_arm nn Hnn.out HM4.out HS.out).mono ?_
      rintro e w4b ⟨rfl, hP4, hst4b⟩
      have HP4 := Lib.hid hP4
      clear hP4 hst4b
      go_wp2_with fail
      obtain ⟨bo, hbo⟩ : ∃ bo, (t.arm nn).off = bo := ⟨_, rfl⟩
      obtain ⟨X, hX⟩ : ∃ X, X = strOfNums ((t.arm nn).l ++ (t.arm nn).t) := ⟨_, rfl⟩
      have Hbo := Lib.hid hbo
      have HX2 := Lib.hid hX
      clear hbo hX
      have hP0 := HP4.out.drew
      have hS0 := hP0.offCell
      rw [Hbo.out] at hS0
      refine wp_region_held_drew (S := fun W => W.cell? ⟨r, 3, none⟩ = some (.bool bo)) (by kernel_rfl) hS0 (fun hHeld => ?_)
      refine wpAnyH_take (i := 0) (oi := { dst := some 84, op := Go.Op.move (Go.Operand.tmp 8), type := 4, pos := "law.go:57", after := #[], guard := none }) (v := ?_) rfl (by kernel_rfl) (by kernel_rfl) (by kernel_rfl) (fun _ _ _ h => h) (Or.inl ⟨by rfl, ?_⟩) (by assumption) ?_
      rotate_left
      · intro w hSw
        go_simp
        try with_reducible rfl
      simp only [Act.put, List.setIfInBounds_toArray, List.set_cons_zero, List.set_cons_succ]
      refine wpAnyH_take (i := 1) (oi := { dst := some 85, op := Go.Op.unOp Go.UnOp.not 4 (Go.Operand.tmp 84), type := 4, pos := "law.go:57", after := #[{ on := 0, ground := Go.Ground.data }], guard := none }) (v := ?_) rfl (by kernel_rfl) (by kernel_rfl) (by kernel_rfl) (fun _ _ _ h => h) (Or.inl ⟨by rfl, ?_⟩) (by assumption) ?_
      rotate_left
      · intro w hSw
        go_simp
        try with_reducible rfl
      simp only [Act.put, List.setIfInBounds_toArray, List.set_cons_zero, List.set_cons_succ]
      refine wpAnyH_take (i := 2) (oi := { dst := some 86, op := Go.Op.move (Go.Operand.tmp 85), type := 4, pos := "law.go:57", after := #[{ on := 1, ground := Go.Ground.data }], guard := none }) (v := ?_) rfl (by kernel_rfl) (by kernel_rfl) (by kernel_rfl) (fun _ _ _ h => h) (Or.inl ⟨by rfl, ?_⟩) (by assumption) ?_
      rotate_left
      · intro w hSw
        go_simp
        try with_reducible rfl
      simp only [Act.put, List.setIfInBounds_toArray, List.set_cons_zero, List.set_cons_succ]
      refine wpAnyH_take (i := 3) (oi := { dst := some 87, op := Go.Op.move (Go.Operand.tmp 4), type := 24, pos := "law.go:57", after := #[{ on := 2, ground := Go.Ground.guard }], guard := some (2, false) }) (v := ?_) rfl (by kernel_rfl) (by kernel_rfl) (by kernel_rfl) (fun _ _ _ h => h) (Or.inl ⟨by rfl, ?_⟩) (by assumption) ?_
      rotate_left
      · intro w hSw
        go_simp
        try with_reducible rfl
      simp only [Act.put, List.setIfInBounds_toArray, List.set_cons_zero, List.set_cons_succ]
      refine wpAnyH_take (i := 6) (oi := { dst := some 90, op := Go.Op.move (Go.Operand.tmp 5), type := 37, pos := "law.go:57", after := #[{ on := 2, ground := Go.Ground.guard }], guard := some (2, false) }) (v := ?_) rfl (by kernel_rfl) (by kernel_rfl) (by kernel_rfl) (fun _ _ _ h => h) (Or.inl ⟨by rfl, ?_⟩) (by assumption) ?_
      rotate_left
      · intro w hSw
        go_simp
        try with_reducible rfl
      simp only [Act.put, List.setIfInBounds_toArray, List.set_cons_zero, List.set_cons_succ]
      refine wpAnyH_ready (rs := [4]) (by kernel_rfl) (by simp) ?_
      refine AllReadyH.cons (o := { dst := some 88, op := Go.Op.call { callee := Go.Callee.value (Go.Operand.func 17), args := #[Go.Operand.tmp 87], argTypes := #[24] }, type := 22, pos := "law.go:57", after := #[{ on := 3, ground := Go.Ground.data }, { on := 2, ground := Go.Ground.chain }, { on := 2, ground := Go.Ground.guard }], guard := some (2, false) }) rfl (fun K hK => ?_) AllReadyH.nil
      go_simp
      refine (pd_bytes hP0).mono ?_
      rintro e w5 ⟨A5, n5, c5, rfl, hr5, -, hP5, -, hb5⟩
      have hS5 := hP5.offCell
      rw [Hbo.out] at hS5
      have hc5 : (convert 22 9 (.slice A5 n5 c5)).run Try.prog w5 = .ok (.string X) w5 := by rw [HX2.out]; exact conv_reads hr5 c5
      refine hK.out _ _ hS5 (fun hHeld => ?_)
      clear hK K
      try simp only [Act.put, List.setIfInBounds_toArray, List.set_cons_zero, List.set_cons_succ]
      refine wpAnyH_ready (rs := [5, 7]) (by kernel_rfl) (by simp) ?_
      refine AllReadyH.cons (o := { dst := some 89, op := Go.Op.convert 22 9 (Go.Operand.tmp 88), type := 9, pos := "law.go:57", after := #[{ on := 4, ground := Go.Ground.data }, { on := 2, ground := Go.Ground.guard }], guard := some (2, false) }) rfl (fun K hK => ?_) (AllReadyH.cons (o := { dst := some 91, op := Go.Op.call { callee := Go.Callee.value (Go.Operand.func 29), args := #[Go.Operand.tmp 90], argTypes := #[37] }, type := 22, pos := "law.go:57", after := #[{ on := 6, ground := Go.Ground.data }, { on := 4, ground := Go.Ground.chain }, { on := 2, ground := Go.Ground.guard }], guard := some (2, false) }) rfl (fun K hK => ?_) AllReadyH.nil)
      · go_simp
        refine hK.out _ _ hS5 (fun hHeld => ?_)
        clear hK K
        refine wpAnyH_ready (rs := [7]) (by kernel_rfl) (by simp) ?_
        refine AllReadyH.cons (o := { dst := some 91, op := Go.Op.call { callee := Go.Callee.value (Go.Operand.func 29), args := #[Go.Operand.tmp 90], argTypes := #[37] }, type := 22, pos := "law.go:57", after := #[{ on := 6, ground := Go.Ground.data }, { on := 4, ground := Go.Ground.chain }, { on := 2, ground := Go.Ground.guard }], guard := some (2, false) }) rfl (fun K hK => ?_) AllReadyH.nil
        go_simp
        refine (pr_bytes hP5).mono ?_
        rintro e w6 ⟨A6, n6, c6, rfl, hr6, -, hP6, -, hb6⟩
        have hS6 := hP6.offCell
        rw [Hbo.out] at hS6
        have hc6 : (convert 22 9 (.slice A6 n6 c6)).run Try.prog w6 = .ok (.string X) w6 := by rw [HX2.out]; exact conv_reads hr6 c6
        have hc56 : (convert 22 9 (.slice A5 n5 c5)).run Try.prog w6 = .ok (.string X) w6 := by rw [HX2.out]; exact conv_reads (hr5.below hb6) c5
        refine hK.out _ _ hS6 (fun hHeld => ?_)
        clear hK K
        refine wpAnyH_ready (rs := [8]) (by kernel_rfl) (by simp) ?_
        refine AllReadyH.cons (o := { dst := some 92, op := Go.Op.convert 22 9 (Go.Operand.tmp 91), type := 9, pos := "law.go:57", after := #[{ on := 7, ground := Go.Ground.data }, { on := 2, ground := Go.Ground.guard }], guard := some (2, false) }) rfl (fun K hK => ?_) AllReadyH.nil
        go_simp
        refine hK.out _ _ hS6 (fun hHeld => ?_)
        clear hK K
        try simp only [Act.put, List.setIfInBounds_toArray, List.set_cons_zero, List.set_cons_succ]
        refine wpAnyH_take (i := 9) (oi := { dst := some 93, op := Go.Op.binOp Go.BinOp.neq 9 (Go.Operand.tmp 89) (Go.Operand.tmp 92) 9, type := 4, pos := "law.go:57", after := #[{ on := 5, ground := Go.Ground.data }, { on := 8, ground := Go.Ground.data }, { on := 2, ground := Go.Ground.guard }], guard := some (2, false) }) (v := ?_) rfl (by kernel_rfl) (by kernel_rfl) (by kernel_rfl) (fun _ _ _ h => h) (Or.inl ⟨by rfl, ?_⟩) (by assumption) ?_
        rotate_left
        · intro w hSw
          go_simp
          try with_reducible rfl
        simp only [Act.put, List.setIfInBounds_toArray, List.set_cons_zero, List.set_cons_succ]
        refine wpAnyH_take (i := 10) (oi := { dst := some 94, op := Go.Op.pick (Go.Operand.tmp 86) (Go.Operand.const (Go.Value.bool true)) (Go.Operand.tmp 93), type := 4, pos := "law.go:57", after := #[{ on := 2, ground := Go.Ground.data }, { on := 9, ground := Go.Ground.data }], guard := none }) (v := ?_) rfl (by kernel_rfl) (by kernel_rfl) (by kernel_rfl) (fun _ _ _ h => h) (Or.inl ⟨by rfl, ?_⟩) (by assumption) ?_
        rotate_left
        · intro w hSw
          go_simp
          try with_reducible rfl
        simp only [Act.put, List.setIfInBounds_toArray, List.set_cons_zero, List.set_cons_succ]
        refine wpAnyH_take (i := 11) (oi := { dst := some 95, op := Go.Op.move (Go.Operand.tmp 94), type := 4, pos := "law.go:57", after := #[{ on := 10, ground := Go.Ground.data }, { on := 7, ground := Go.Ground.chain }], guard := none }) (v := ?_) rfl (by kernel_rfl) (by kernel_rfl) (by kernel_rfl) (fun _ _ _ h => h) (Or.inl ⟨by rfl, ?_⟩) (by assumption) ?_
        rotate_left
        · intro w hSw
          go_simp
          try with_reducible rfl
        simp only [Act.put, List.setIfInBounds_toArray, List.set_cons_zero, List.set_cons_succ]
        refine wpAnyH_take (i := 12) (oi := { dst := some 96, op := Go.Op.move (Go.Operand.tmp 4), type := 24, pos := "law.go:57", after := #[{ on := 11, ground := Go.Ground.guard }], guard := some (11, false) }) (v := ?_) rfl (by kernel_rfl) (by kernel_rfl) (by kernel_rfl) (fun _ _ _ h => h) (Or.inl ⟨by rfl, ?_⟩) (by assumption) ?_
        rotate_left
        · intro w hSw
          go_simp
          try with_reducible rfl
        simp only [Act.put, List.setIfInBounds_toArray, List.set_cons_zero, List.set_cons_succ]
        refine wpAnyH_take (i := 14) (oi := { dst := some 98, op := Go.Op.move (Go.Operand.tmp 5), type := 37, pos := "law.go:57", after := #[{ on := 11, ground := Go.Ground.guard }], guard := some (11, false) }) (v := ?_) rfl (by kernel_rfl) (by kernel_rfl) (by kernel_rfl) (fun _ _ _ h => h) (Or.inl ⟨by rfl, ?_⟩) (by assumption) ?_
        rotate_left
        · intro w hSw
          go_simp
          try with_reducible rfl
        simp only [Act.put, List.setIfInBounds_toArray, List.set_cons_zero, List.set_cons_succ]
        refine wpAnyH_take (i := 15) (oi := { dst := some 99, op := Go.Op.nilCheck (Go.Operand.tmp 98), type := 0, pos := "law.go:57", after := #[{ on := 14, ground := Go.Ground.data }, { on := 11, ground := Go.Ground.guard }], guard := some (11, false) }) (v := ?_) rfl (by kernel_rfl) (by kernel_rfl) (by kernel_rfl) (fun _ _ _ h => h) (Or.inl ⟨by rfl, ?_⟩) (by assumption) ?_
        rotate_left
        · intro w hSw
          go_simp
          try with_reducible rfl
        simp only [Act.put, List.setIfInBounds_toArray, List.set_cons_zero, List.set_cons_succ]
        refine wpAnyH_take (i := 16) (oi := { dst := some 100, op := Go.Op.fieldAddr 42 (Go.Operand.tmp 99) 3, type := 0, pos := "law.go:57", after := #[{ on := 15, ground := Go.Ground.data }, { on := 11, ground := Go.Ground.guard }], guard := some (11, false) }) (v := ?_) rfl (by kernel_rfl) (by kernel_rfl) (by kernel_rfl) (fun _ _ _ h => h) (Or.inl ⟨by rfl, ?_⟩) (by assumption) ?_
        rotate_left
        · intro w hSw
          go_simp
          try with_reducible rfl
        simp only [Act.put, List.setIfInBounds_toArray, List.set_cons_zero, List.set_cons_succ]
        refine wpAnyH_take (i := 17) (oi := { dst := some 101, op := Go.Op.load 4 (Go.Operand.tmp 100), type := 4, pos := "law.go:57", after := #[{ on := 16, ground := Go.Ground.data }, { on := 11, ground := Go.Ground.guard }], guard := some (11, false) }) (v := ?_) rfl (by kernel_rfl) (by kernel_rfl) (by kernel_rfl) (fun _ _ _ h => h) (Or.inl ⟨by rfl, ?_⟩) (by assumption) ?_
        rotate_left
        · intro w hSw
          go_simp
          try with_reducible rfl
        simp only [Act.put, List.setIfInBounds_toArray, List.set_cons_zero, List.set_cons_succ]
        refine wpAnyH_ready (rs := [13]) (by kernel_rfl) (by simp) ?_
        refine AllReadyH.cons (o := { dst := some 97, op := Go.Op.call { callee := Go.Callee.value (Go.Operand.func 20), args := #[Go.Operand.tmp 96], argTypes := #[24] }, type := 4, pos := "law.go:57", after := #[{ on := 12, ground := Go.Ground.data }, { on := 11, ground := Go.Ground.chain }, { on := 11, ground := Go.Ground.guard }], guard := some (11, false) }) rfl (fun K hK => ?_) AllReadyH.nil
        go_simp
        refine (pd_off hP6).mono ?_
        rintro e w7 ⟨rfl, rfl⟩
        rw [Hbo.out]
        refine hK.out _ _ hS6 (fun hHeld => ?_)
        clear hK K
        try simp only [Act.put, List.setIfInBounds_toArray, List.set_cons_zero, List.set_cons_succ]
        refine wpAnyH_take (i := 18) (oi := { dst := some 102, op := Go.Op.binOp Go.BinOp.neq 4 (Go.Operand.tmp 97) (Go.Operand.tmp 101) 4, type := 4, pos := "law.go:57", after := #[{ on := 13, ground := Go.Ground.data }, { on := 17, ground := Go.Ground.data }, { on := 11, ground := Go.Ground.guard }], guard := some (11, false) }) (v := ?_) rfl (by kernel_rfl) (by kernel_rfl) (by kernel_rfl) (fun _ _ _ h => h) (Or.inl ⟨by rfl, ?_⟩) (by assumption) ?_
        rotate_left
        · intro w hSw
          go_simp
          try with_reducible rfl
        simp only [Act.put, List.setIfInBounds_toArray, List.set_cons_zero, List.set_cons_succ]
        refine wpAnyH_take (i := 19) (oi := { dst := some 103, op := Go.Op.pick (Go.Operand.tmp 95) (Go.Operand.const (Go.Value.bool true)) (Go.Operand.tmp 102), type := 4, pos := "law.go:57", after := #[{ on := 11, ground := Go.Ground.data }, { on := 18, ground := Go.Ground.data }], guard := none }) (v := ?_) rfl (by kernel_rfl) (by kernel_rfl) (by kernel_rfl) (fun _ _ _ h => h) (Or.inl ⟨by rfl, ?_⟩) (by assumption) ?_
        rotate_left
        · intro w hSw
          go_simp
          try with_reducible rfl
        simp only [Act.put, List.setIfInBounds_toArray, List.set_cons_zero, List.set_cons_succ]
        refine wpAnyH_done (by kernel_rfl) ?_ _
        have HP6 := Lib.hid hP6
        clear hP6 hP5 hP0 hS0 hS5 hS6 hc5 hc6 hc56 hr5 hr6 hb5 hb6 hHeld
        go_wp2_with fail
        go_roundw
        case rel => exact ⟨k + 1, (s.arm nn), (t.arm nn), by omega, by go_num, HP6⟩
        case measure => simp [intOf]; omega
      · go_simp
        refine (pr_bytes hP5).mono ?_
        rintro e w6 ⟨A6, n6, c6, rfl, hr6, -, hP6, -, hb6⟩
        have hS6 := hP6.offCell
        rw [Hbo.out] at hS6
        have hc6 : (convert 22 9 (.slice A6 n6 c6)).run Try.prog w6 = .ok (.string X) w6 := by rw [HX2.out]; exact conv_reads hr6 c6
        have hc56 : (convert 22 9 (.slice A5 n5 c5)).run Try.prog w6 = .ok (.string X) w6 := by rw [HX2.out]; exact conv_reads (hr5.below hb6) c5
        refine hK.out _ _ hS6 (fun hHeld => ?_)
        clear hK K
        try simp only [Act.put, List.setIfInBounds_toArray, List.set_cons_zero, List.set_cons_succ]
        refine wpAnyH_ready (rs := [5, 8]) (by kernel_rfl) (by simp) ?_
        refine AllReadyH.cons (o := { dst := some 89, op := Go.Op.convert 22 9 (Go.Operand.tmp 88), type := 9, pos := "law.go:57", after := #[{ on := 4, ground := Go.Ground.data }, { on := 2, ground := Go.Ground.guard }], guard := some (2, false) }) rfl (fun K hK => ?_) (AllReadyH.cons (o := { dst := some 92, op := Go.Op.convert 22 9 (Go.Operand.tmp 91), type := 9, pos := "law.go:57", after := #[{ on := 7, ground := Go.Ground.data }, { on := 2, ground := Go.Ground.guard }], guard := some (2, false) }) rfl (fun K hK => ?_) AllReadyH.nil)
        · go_simp
          refine hK.out _ _ hS6 (fun hHeld => ?_)
          clear hK K
          refine wpAnyH_ready (rs := [8]) (by kernel_rfl) (by simp) ?_
          refine AllReadyH.cons (o := { dst := some 92, op := Go.Op.convert 22 9 (Go.Operand.tmp 91), type := 9, pos := "law.go:57", after := #[{ on := 7, ground := Go.Ground.data }, { on := 2, ground := Go.Ground.guard }], guard := some (2, false) }) rfl (fun K hK => ?_) AllReadyH.nil
          go_simp
          refine hK.out _ _ hS6 (fun hHeld => ?_)
          clear hK K
          try simp only [Act.put, List.setIfInBounds_toArray, List.set_cons_zero, List.set_cons_succ]
          refine wpAnyH_take (i := 9) (oi := { dst := some 93, op := Go.Op.binOp Go.BinOp.neq 9 (Go.Operand.tmp 89) (Go.Operand.tmp 92) 9, type := 4, pos := "law.go:57", after := #[{ on := 5, ground := Go.Ground.data }, { on := 8, ground := Go.Ground.data }, { on := 2, ground := Go.Ground.guard }], guard := some (2, false) }) (v := ?_) rfl (by kernel_rfl) (by kernel_rfl) (by kernel_rfl) (fun _ _ _ h => h) (Or.inl ⟨by rfl, ?_⟩) (by assumption) ?_
          rotate_left
          · intro w hSw
            go_simp
            try with_reducible rfl
          simp only [Act.put, List.setIfInBounds_toArray, List.set_cons_zero, List.set_cons_succ]
          refine wpAnyH_take (i := 10) (oi := { dst := some 94, op := Go.Op.pick (Go.Operand.tmp 86) (Go.Operand.const (Go.Value.bool true)) (Go.Operand.tmp 93), type := 4, pos := "law.go:57", after := #[{ on := 2, ground := Go.Ground.data }, { on := 9, ground := Go.Ground.data }], guard := none }) (v := ?_) rfl (by kernel_rfl) (by kernel_rfl) (by kernel_rfl) (fun _ _ _ h => h) (Or.inl ⟨by rfl, ?_⟩) (by assumption) ?_
          rotate_left
          · intro w hSw
            go_simp
            try with_reducible rfl
          simp only [Act.put, List.setIfInBounds_toArray, List.set_cons_zero, List.set_cons_succ]
          refine wpAnyH_take (i := 11) (oi := { dst := some 95, op := Go.Op.move (Go.Operand.tmp 94), type := 4, pos := "law.go:57", after := #[{ on := 10, ground := Go.Ground.data }, { on := 7, ground := Go.Ground.chain }], guard := none }) (v := ?_) rfl (by kernel_rfl) (by kernel_rfl) (by kernel_rfl) (fun _ _ _ h => h) (Or.inl ⟨by rfl, ?_⟩) (by assumption) ?_
          rotate_left
          · intro w hSw
            go_simp
            try with_reducible rfl
          simp only [Act.put, List.setIfInBounds_toArray, List.set_cons_zero, List.set_cons_succ]
          refine wpAnyH_take (i := 12) (oi := { dst := some 96, op := Go.Op.move (Go.Operand.tmp 4), type := 24, pos := "law.go:57", after := #[{ on := 11, ground := Go.Ground.guard }], guard := some (11, false) }) (v := ?_) rfl (by kernel_rfl) (by kernel_rfl) (by kernel_rfl) (fun _ _ _ h => h) (Or.inl ⟨by rfl, ?_⟩) (by assumption) ?_
          rotate_left
          · intro w hSw
            go_simp
            try with_reducible rfl
          simp only [Act.put, List.setIfInBounds_toArray, List.set_cons_zero, List.set_cons_succ]
          refine wpAnyH_take (i := 14) (oi := { dst := some 98, op := Go.Op.move (Go.Operand.tmp 5), type := 37, pos := "law.go:57", after := #[{ on := 11, ground := Go.Ground.guard }], guard := some (11, false) }) (v := ?_) rfl (by kernel_rfl) (by kernel_rfl) (by kernel_rfl) (fun _ _ _ h => h) (Or.inl ⟨by rfl, ?_⟩) (by assumption) ?_
          rotate_left
          · intro w hSw
            go_simp
            try with_reducible rfl
          simp only [Act.put, List.setIfInBounds_toArray, List.set_cons_zero, List.set_cons_succ]
          refine wpAnyH_take (i := 15) (oi := { dst := some 99, op := Go.Op.nilCheck (Go.Operand.tmp 98), type := 0, pos := "law.go:57", after := #[{ on := 14, ground := Go.Ground.data }, { on := 11, ground := Go.Ground.guard }], guard := some (11, false) }) (v := ?_) rfl (by kernel_rfl) (by kernel_rfl) (by kernel_rfl) (fun _ _ _ h => h) (Or.inl ⟨by rfl, ?_⟩) (by assumption) ?_
          rotate_left
          · intro w hSw
            go_simp
            try with_reducible rfl
          simp only [Act.put, List.setIfInBounds_toArray, List.set_cons_zero, List.set_cons_succ]
          refine wpAnyH_take (i := 16) (oi := { dst := some 100, op := Go.Op.fieldAddr 42 (Go.Operand.tmp 99) 3, type := 0, pos := "law.go:57", after := #[{ on := 15, ground := Go.Ground.data }, { on := 11, ground := Go.Ground.guard }], guard := some (11, false) }) (v := ?_) rfl (by kernel_rfl) (by kernel_rfl) (by kernel_rfl) (fun _ _ _ h => h) (Or.inl ⟨by rfl, ?_⟩) (by assumption) ?_
          rotate_left
          · intro w hSw
            go_simp
            try with_reducible rfl
          simp only [Act.put, List.setIfInBounds_toArray, List.set_cons_zero, List.set_cons_succ]
          refine wpAnyH_take (i := 17) (oi := { dst := some 101, op := Go.Op.load 4 (Go.Operand.tmp 100), type := 4, pos := "law.go:57", after := #[{ on := 16, ground := Go.Ground.data }, { on := 11, ground := Go.Ground.guard }], guard := some (11, false) }) (v := ?_) rfl (by kernel_rfl) (by kernel_rfl) (by kernel_rfl) (fun _ _ _ h => h) (Or.inl ⟨by rfl, ?_⟩) (by assumption) ?_
          rotate_left
          · intro w hSw
            go_simp
            try with_reducible rfl
          simp only [Act.put, List.setIfInBounds_toArray, List.set_cons_zero, List.set_cons_succ]
          refine wpAnyH_ready (rs := [13]) (by kernel_rfl) (by simp) ?_
          refine AllReadyH.cons (o := { dst := some 97, op := Go.Op.call { callee := Go.Callee.value (Go.Operand.func 20), args := #[Go.Operand.tmp 96], argTypes := #[24] }, type := 4, pos := "law.go:57", after := #[{ on := 12, ground := Go.Ground.data }, { on := 11, ground := Go.Ground.chain }, { on := 11, ground := Go.Ground.guard }], guard := some (11, false) }) rfl (fun K hK => ?_) AllReadyH.nil
          go_simp
          refine (pd_off hP6).mono ?_
          rintro e w7 ⟨rfl, rfl⟩
          rw [Hbo.out]
          refine hK.out _ _ hS6 (fun hHeld => ?_)
          clear hK K
          try simp only [Act.put, List.setIfInBounds_toArray, List.set_cons_zero, List.set_cons_succ]
          refine wpAnyH_take (i := 18) (oi := { dst := some 102, op := Go.Op.binOp Go.BinOp.neq 4 (Go.Operand.tmp 97) (Go.Operand.tmp 101) 4, type := 4, pos := "law.go:57", after := #[{ on := 13, ground := Go.Ground.data }, { on := 17, ground := Go.Ground.data }, { on := 11, ground := Go.Ground.guard }], guard := some (11, false) }) (v := ?_) rfl (by kernel_rfl) (by kernel_rfl) (by kernel_rfl) (fun _ _ _ h => h) (Or.inl ⟨by rfl, ?_⟩) (by assumption) ?_
          rotate_left
          · intro w hSw
            go_simp
            try with_reducible rfl
          simp only [Act.put, List.setIfInBounds_toArray, List.set_cons_zero, List.set_cons_succ]
          refine wpAnyH_take (i := 19) (oi := { dst := some 103, op := Go.Op.pick (Go.Operand.tmp 95) (Go.Operand.const (Go.Value.bool true)) (Go.Operand.tmp 102), type := 4, pos := "law.go:57", after := #[{ on := 11, ground := Go.Ground.data }, { on := 18, ground := Go.Ground.data }], guard := none }) (v := ?_) rfl (by kernel_rfl) (by kernel_rfl) (by kernel_rfl) (fun _ _ _ h => h) (Or.inl ⟨by rfl, ?_⟩) (by assumption) ?_
          rotate_left
          · intro w hSw
            go_simp
            try with_reducible rfl
          simp only [Act.put, List.setIfInBounds_toArray, List.set_cons_zero, List.set_cons_succ]
          refine wpAnyH_done (by kernel_rfl) ?_ _
          have HP6 := Lib.hid hP6
          clear hP6 hP5 hP0 hS0 hS5 hS6 hc5 hc6 hc56 hr5 hr6 hb5 hb6 hHeld
          go_wp2_with fail
          go_roundw
          case rel => exact ⟨k + 1, (s.arm nn), (t.arm nn), by omega, by go_num, HP6⟩
          case measure => simp [intOf]; omega
        · go_simp
          refine hK.out _ _ hS6 (fun hHeld => ?_)
          clear hK K
          refine wpAnyH_ready (rs := [5]) (by kernel_rfl) (by simp) ?_
          refine AllReadyH.cons (o := { dst := some 89, op := Go.Op.convert 22 9 (Go.Operand.tmp 88), type := 9, pos := "law.go:57", after := #[{ on := 4, ground := Go.Ground.data }, { on := 2, ground := Go.Ground.guard }], guard := some (2, false) }) rfl (fun K hK => ?_) AllReadyH.nil
          go_simp
          refine hK.out _ _ hS6 (fun hHeld => ?_)
          clear hK K
          try simp only [Act.put, List.setIfInBounds_toArray, List.set_cons_zero, List.set_cons_succ]
          refine wpAnyH_take (i := 9) (oi := { dst := some 93, op := Go.Op.binOp Go.BinOp.neq 9 (Go.Operand.tmp 89) (Go.Operand.tmp 92) 9, type := 4, pos := "law.go:57", after := #[{ on := 5, ground := Go.Ground.data }, { on := 8, ground := Go.Ground.data }, { on := 2, ground := Go.Ground.guard }], guard := some (2, false) }) (v := ?_) rfl (by kernel_rfl) (by kernel_rfl) (by kernel_rfl) (fun _ _ _ h => h) (Or.inl ⟨by rfl, ?_⟩) (by assumption) ?_
          rotate_left
          · intro w hSw
            go_simp
            try with_reducible rfl
          simp only [Act.put, List.setIfInBounds_toArray, List.set_cons_zero, List.set_cons_succ]
          refine wpAnyH_take (i := 10) (oi := { dst := some 94, op := Go.Op.pick (Go.Operand.tmp 86) (Go.Operand.const (Go.Value.bool true)) (Go.Operand.tmp 93), type := 4, pos := "law.go:57", after := #[{ on := 2, ground := Go.Ground.data }, { on := 9, ground := Go.Ground.data }], guard := none }) (v := ?_) rfl (by kernel_rfl) (by kernel_rfl) (by kernel_rfl) (fun _ _ _ h => h) (Or.inl ⟨by rfl, ?_⟩) (by assumption) ?_
          rotate_left
          · intro w hSw
            go_simp
            try with_reducible rfl
          simp only [Act.put, List.setIfInBounds_toArray, List.set_cons_zero, List.set_cons_succ]
          refine wpAnyH_take (i := 11) (oi := { dst := some 95, op := Go.Op.move (Go.Operand.tmp 94), type := 4, pos := "law.go:57", after := #[{ on := 10, ground := Go.Ground.data }, { on := 7, ground := Go.Ground.chain }], guard := none }) (v := ?_) rfl (by kernel_rfl) (by kernel_rfl) (by kernel_rfl) (fun _ _ _ h => h) (Or.inl ⟨by rfl, ?_⟩) (by assumption) ?_
          rotate_left
          · intro w hSw
            go_simp
            try with_reducible rfl
          simp only [Act.put, List.setIfInBounds_toArray, List.set_cons_zero, List.set_cons_succ]
          refine wpAnyH_take (i := 12) (oi := { dst := some 96, op := Go.Op.move (Go.Operand.tmp 4), type := 24, pos := "law.go:57", after := #[{ on := 11, ground := Go.Ground.guard }], guard := some (11, false) }) (v := ?_) rfl (by kernel_rfl) (by kernel_rfl) (by kernel_rfl) (fun _ _ _ h => h) (Or.inl ⟨by rfl, ?_⟩) (by assumption) ?_
          rotate_left
          · intro w hSw
            go_simp
            try with_reducible rfl
          simp only [Act.put, List.setIfInBounds_toArray, List.set_cons_zero, List.set_cons_succ]
          refine wpAnyH_take (i := 14) (oi := { dst := some 98, op := Go.Op.move (Go.Operand.tmp 5), type := 37, pos := "law.go:57", after := #[{ on := 11, ground := Go.Ground.guard }], guard := some (11, false) }) (v := ?_) rfl (by kernel_rfl) (by kernel_rfl) (by kernel_rfl) (fun _ _ _ h => h) (Or.inl ⟨by rfl, ?_⟩) (by assumption) ?_
          rotate_left
          · intro w hSw
            go_simp
            try with_reducible rfl
          simp only [Act.put, List.setIfInBounds_toArray, List.set_cons_zero, List.set_cons_succ]
          refine wpAnyH_take (i := 15) (oi := { dst := some 99, op := Go.Op.nilCheck (Go.Operand.tmp 98), type := 0, pos := "law.go:57", after := #[{ on := 14, ground := Go.Ground.data }, { on := 11, ground := Go.Ground.guard }], guard := some (11, false) }) (v := ?_) rfl (by kernel_rfl) (by kernel_rfl) (by kernel_rfl) (fun _ _ _ h => h) (Or.inl ⟨by rfl, ?_⟩) (by assumption) ?_
          rotate_left
          · intro w hSw
            go_simp
            try with_reducible rfl
          simp only [Act.put, List.setIfInBounds_toArray, List.set_cons_zero, List.set_cons_succ]
          refine wpAnyH_take (i := 16) (oi := { dst := some 100, op := Go.Op.fieldAddr 42 (Go.Operand.tmp 99) 3, type := 0, pos := "law.go:57", after := #[{ on := 15, ground := Go.Ground.data }, { on := 11, ground := Go.Ground.guard }], guard := some (11, false) }) (v := ?_) rfl (by kernel_rfl) (by kernel_rfl) (by kernel_rfl) (fun _ _ _ h => h) (Or.inl ⟨by rfl, ?_⟩) (by assumption) ?_
          rotate_left
          · intro w hSw
            go_simp
            try with_reducible rfl
          simp only [Act.put, List.setIfInBounds_toArray, List.set_cons_zero, List.set_cons_succ]
          refine wpAnyH_take (i := 17) (oi := { dst := some 101, op := Go.Op.load 4 (Go.Operand.tmp 100), type := 4, pos := "law.go:57", after := #[{ on := 16, ground := Go.Ground.data }, { on := 11, ground := Go.Ground.guard }], guard := some (11, false) }) (v := ?_) rfl (by kernel_rfl) (by kernel_rfl) (by kernel_rfl) (fun _ _ _ h => h) (Or.inl ⟨by rfl, ?_⟩) (by assumption) ?_
          rotate_left
          · intro w hSw
            go_simp
            try with_reducible rfl
          simp only [Act.put, List.setIfInBounds_toArray, List.set_cons_zero, List.set_cons_succ]
          refine wpAnyH_ready (rs := [13]) (by kernel_rfl) (by simp) ?_
          refine AllReadyH.cons (o := { dst := some 97, op := Go.Op.call { callee := Go.Callee.value (Go.Operand.func 20), args := #[Go.Operand.tmp 96], argTypes := #[24] }, type := 4, pos := "law.go:57", after := #[{ on := 12, ground := Go.Ground.data }, { on := 11, ground := Go.Ground.chain }, { on := 11, ground := Go.Ground.guard }], guard := some (11, false) }) rfl (fun K hK => ?_) AllReadyH.nil
          go_simp
          refine (pd_off hP6).mono ?_
          rintro e w7 ⟨rfl, rfl⟩
          rw [Hbo.out]
          refine hK.out _ _ hS6 (fun hHeld => ?_)
          clear hK K
          try simp only [Act.put, List.setIfInBounds_toArray, List.set_cons_zero, List.set_cons_succ]
          refine wpAnyH_take (i := 18) (oi := { dst := some 102, op := Go.Op.binOp Go.BinOp.neq 4 (Go.Operand.tmp 97) (Go.Operand.tmp 101) 4, type := 4, pos := "law.go:57", after := #[{ on := 13, ground := Go.Ground.data }, { on := 17, ground := Go.Ground.data }, { on := 11, ground := Go.Ground.guard }], guard := some (11, false) }) (v := ?_) rfl (by kernel_rfl) (by kernel_rfl) (by kernel_rfl) (fun _ _ _ h => h) (Or.inl ⟨by rfl, ?_⟩) (by assumption) ?_
          rotate_left
          · intro w hSw
            go_simp
            try with_reducible rfl
          simp only [Act.put, List.setIfInBounds_toArray, List.set_cons_zero, List.set_cons_succ]
          refine wpAnyH_take (i := 19) (oi := { dst := some 103, op := Go.Op.pick (Go.Operand.tmp 95) (Go.Operand.const (Go.Value.bool true)) (Go.Operand.tmp 102), type := 4, pos := "law.go:57", after := #[{ on := 11, ground := Go.Ground.data }, { on := 18, ground := Go.Ground.data }], guard := none }) (v := ?_) rfl (by kernel_rfl) (by kernel_rfl) (by kernel_rfl) (fun _ _ _ h => h) (Or.inl ⟨by rfl, ?_⟩) (by assumption) ?_
          rotate_left
          · intro w hSw
            go_simp
            try with_reducible rfl
          simp only [Act.put, List.setIfInBounds_toArray, List.set_cons_zero, List.set_cons_succ]
          refine wpAnyH_done (by kernel_rfl) ?_ _
          have HP6 := Lib.hid hP6
          clear hP6 hP5 hP0 hS0 hS5 hS6 hc5 hc6 hc56 hr5 hr6 hb5 hb6 hHeld
          go_wp2_with fail
          go_roundw
          case rel => exact ⟨k + 1, (s.arm nn), (t.arm nn), by omega, by go_num, HP6⟩
          case measure => simp [intOf]; omega
    have e0 : (o == 0) = false := by simp; omega
    have e1 : (o == 1) = false := by simp; omega
    have e2 : (o == 2) = false := by simp; omega
    have e3 : (o == 3) = false := by simp; omega
    have e4 : (o == 4) = false := by simp; omega
    have e5 : (o == 5) = false := by simp; omega
    go_wp2_with fail
    have hs := HW.out.same
    have HS := Lib.hid hs
    clear hs
    refine (pd_restart nn Hnn.out (HW.out.alloc _)).mono ?_
    rintro e w4 ⟨rfl, hM4, hst4⟩
    have hB4 := hst4 _ _ (Blk.new wr 40 #[.int .i64 o, .int .i64 nn, .slice B xs.length cb])
    have hg4 : w4.cell? ⟨wr.heap.size, 1, none⟩ = some (.int .i64 nn) := by have h := hB4.cell 1; simpa using h
    have HM4 := Lib.hid hM4
    clear hM4 hst4 hB4
    go_wp2_with fail
    refine (pr_restart nn Hnn.out HM4.out HS.out).mono ?_
    rintro e w4b ⟨rfl, hP4, hst4b⟩
    have HP4 := Lib.hid hP4
    clear hP4 hst4b
    go_wp2_with fail
    obtain ⟨bo, hbo⟩ : ∃ bo, (t.restart nn).off = bo := ⟨_, rfl⟩
    obtain ⟨X, hX⟩ : ∃ X, X = strOfNums ((t.restart nn).l ++ (t.restart nn).t) := ⟨_, rfl⟩
    have Hbo := Lib.hid hbo
    have HX2 := Lib.hid hX
    clear hbo hX
    have hP0 := HP4.out.drew
    have hS0 := hP0.offCell
    rw [Hbo.out] at hS0
    refine wp_region_held_drew (S := fun W => W.cell? ⟨r, 3, none⟩ = some (.bool bo)) (by kernel_rfl) hS0 (fun hHeld => ?_)
    refine wpAnyH_take (i := 0) (oi := { dst := some 84, op := Go.Op.move (Go.Operand.tmp 8), type := 4, pos := "law.go:57", after := #[], guard := none }) (v := ?_) rfl (by kernel_rfl) (by kernel_rfl) (by kernel_rfl) (fun _ _ _ h => h) (Or.inl ⟨by rfl, ?_⟩) (by assumption) ?_
    rotate_left
    · intro w hSw
      go_simp
      try with_reducible rfl
    simp only [Act.put, List.setIfInBounds_toArray, List.set_cons_zero, List.set_cons_succ]
    refine wpAnyH_take (i := 1) (oi := { dst := some 85, op := Go.Op.unOp Go.UnOp.not 4 (Go.Operand.tmp 84), type := 4, pos := "law.go:57", after := #[{ on := 0, ground := Go.Ground.data }], guard := none }) (v := ?_) rfl (by kernel_rfl) (by kernel_rfl) (by kernel_rfl) (fun _ _ _ h => h) (Or.inl ⟨by rfl, ?_⟩) (by assumption) ?_
    rotate_left
    · intro w hSw
      go_simp
      try with_reducible rfl
    simp only [Act.put, List.setIfInBounds_toArray, List.set_cons_zero, List.set_cons_succ]
    refine wpAnyH_take (i := 2) (oi := { dst := some 86, op := Go.Op.move (Go.Operand.tmp 85), type := 4, pos := "law.go:57", after := #[{ on := 1, ground := Go.Ground.data }], guard := none }) (v := ?_) rfl (by kernel_rfl) (by kernel_rfl) (by kernel_rfl) (fun _ _ _ h => h) (Or.inl ⟨by rfl, ?_⟩) (by assumption) ?_
    rotate_left
    · intro w hSw
      go_simp
      try with_reducible rfl
    simp only [Act.put, List.setIfInBounds_toArray, List.set_cons_zero, List.set_cons_succ]
    refine wpAnyH_take (i := 3) (oi := { dst := some 87, op := Go.Op.move (Go.Operand.tmp 4), type := 24, pos := "law.go:57", after := #[{ on := 2, ground := Go.Ground.guard }], guard := some (2, false) }) (v := ?_) rfl (by kernel_rfl) (by kernel_rfl) (by kernel_rfl) (fun _ _ _ h => h) (Or.inl ⟨by rfl, ?_⟩) (by assumption) ?_
    rotate_left
    · intro w hSw
      go_simp
      try with_reducible rfl
    simp only [Act.put, List.setIfInBounds_toArray, List.set_cons_zero, List.set_cons_succ]
    refine wpAnyH_take (i := 6) (oi := { dst := some 90, op := Go.Op.move (Go.Operand.tmp 5), type := 37, pos := "law.go:57", after := #[{ on := 2, ground := Go.Ground.guard }], guard := some (2, false) }) (v := ?_) rfl (by kernel_rfl) (by kernel_rfl) (by kernel_rfl) (fun _ _ _ h => h) (Or.inl ⟨by rfl, ?_⟩) (by assumption) ?_
    rotate_left
    · intro w hSw
      go_simp
      try with_reducible rfl
    simp only [Act.put, List.setIfInBounds_toArray, List.set_cons_zero, List.set_cons_succ]
    refine wpAnyH_ready (rs := [4]) (by kernel_rfl) (by simp) ?_
    refine AllReadyH.cons (o := { dst := some 88, op := Go.Op.call { callee := Go.Callee.value (Go.Operand.func 17), args := #[Go.Operand.tmp 87], argTypes := #[24] }, type := 22, pos := "law.go:57", after := #[{ on := 3, ground := Go.Ground.data }, { on := 2, ground := Go.Ground.chain }, { on := 2, ground := Go.Ground.guard }], guard := some (2, false) }) rfl (fun K hK => ?_) AllReadyH.nil
    go_simp
    refine (pd_bytes hP0).mono ?_
    rintro e w5 ⟨A5, n5, c5, rfl, hr5, -, hP5, -, hb5⟩
    have hS5 := hP5.offCell
    rw [Hbo.out] at hS5
    have hc5 : (convert 22 9 (.slice A5 n5 c5)).run Try.prog w5 = .ok (.string X) w5 := by rw [HX2.out]; exact conv_reads hr5 c5
    refine hK.out _ _ hS5 (fun hHeld => ?_)
    clear hK K
    try simp only [Act.put, List.setIfInBounds_toArray, List.set_cons_zero, List.set_cons_succ]
    refine wpAnyH_ready (rs := [5, 7]) (by kernel_rfl) (by simp) ?_
    refine AllReadyH.cons (o := { dst := some 89, op := Go.Op.convert 22 9 (Go.Operand.tmp 88), type := 9, pos := "law.go:57", after := #[{ on := 4, ground := Go.Ground.data }, { on := 2, ground := Go.Ground.guard }], guard := some (2, false) }) rfl (fun K hK => ?_) (AllReadyH.cons (o := { dst := some 91, op := Go.Op.call { callee := Go.Callee.value (Go.Operand.func 29), args := #[Go.Operand.tmp 90], argTypes := #[37] }, type := 22, pos := "law.go:57", after := #[{ on := 6, ground := Go.Ground.data }, { on := 4, ground := Go.Ground.chain }, { on := 2, ground := Go.Ground.guard }], guard := some (2, false) }) rfl (fun K hK => ?_) AllReadyH.nil)
    · go_simp
      refine hK.out _ _ hS5 (fun hHeld => ?_)
      clear hK K
      refine wpAnyH_ready (rs := [7]) (by kernel_rfl) (by simp) ?_
      refine AllReadyH.cons (o := { dst := some 91, op := Go.Op.call { callee := Go.Callee.value (Go.Operand.func 29), args := #[Go.Operand.tmp 90], argTypes := #[37] }, type := 22, pos := "law.go:57", after := #[{ on := 6, ground := Go.Ground.data }, { on := 4, ground := Go.Ground.chain }, { on := 2, ground := Go.Ground.guard }], guard := some (2, false) }) rfl (fun K hK => ?_) AllReadyH.nil
      go_simp
      refine (pr_bytes hP5).mono ?_
      rintro e w6 ⟨A6, n6, c6, rfl, hr6, -, hP6, -, hb6⟩
      have hS6 := hP6.offCell
      rw [Hbo.out] at hS6
      have hc6 : (convert 22 9 (.slice A6 n6 c6)).run Try.prog w6 = .ok (.string X) w6 := by rw [HX2.out]; exact conv_reads hr6 c6
      have hc56 : (convert 22 9 (.slice A5 n5 c5)).run Try.prog w6 = .ok (.string X) w6 := by rw [HX2.out]; exact conv_reads (hr5.below hb6) c5
      refine hK.out _ _ hS6 (fun hHeld => ?_)
      clear hK K
      refine wpAnyH_ready (rs := [8]) (by kernel_rfl) (by simp) ?_
      refine AllReadyH.cons (o := { dst := some 92, op := Go.Op.convert 22 9 (Go.Operand.tmp 91), type := 9, pos := "law.go:57", after := #[{ on := 7, ground := Go.Ground.data }, { on := 2, ground := Go.Ground.guard }], guard := some (2, false) }) rfl (fun K hK => ?_) AllReadyH.nil
      go_simp
      refine hK.out _ _ hS6 (fun hHeld => ?_)
      clear hK K
      try simp only [Act.put, List.setIfInBounds_toArray, List.set_cons_zero, List.set_cons_succ]
      refine wpAnyH_take (i := 9) (oi := { dst := some 93, op := Go.Op.binOp Go.BinOp.neq 9 (Go.Operand.tmp 89) (Go.Operand.tmp 92) 9, type := 4, pos := "law.go:57", after := #[{ on := 5, ground := Go.Ground.data }, { on := 8, ground := Go.Ground.data }, { on := 2, ground := Go.Ground.guard }], guard := some (2, false) }) (v := ?_) rfl (by kernel_rfl) (by kernel_rfl) (by kernel_rfl) (fun _ _ _ h => h) (Or.inl ⟨by rfl, ?_⟩) (by assumption) ?_
      rotate_left
      · intro w hSw
        go_simp
        try with_reducible rfl
      simp only [Act.put, List.setIfInBounds_toArray, List.set_cons_zero, List.set_cons_succ]
      refine wpAnyH_take (i := 10) (oi := { dst := some 94, op := Go.Op.pick (Go.Operand.tmp 86) (Go.Operand.const (Go.Value.bool true)) (Go.Operand.tmp 93), type := 4, pos := "law.go:57", after := #[{ on := 2, ground := Go.Ground.data }, { on := 9, ground := Go.Ground.data }], guard := none }) (v := ?_) rfl (by kernel_rfl) (by kernel_rfl) (by kernel_rfl) (fun _ _ _ h => h) (Or.inl ⟨by rfl, ?_⟩) (by assumption) ?_
      rotate_left
      · intro w hSw
        go_simp
        try with_reducible rfl
      simp only [Act.put, List.setIfInBounds_toArray, List.set_cons_zero, List.set_cons_succ]
      refine wpAnyH_take (i := 11) (oi := { dst := some 95, op := Go.Op.move (Go.Operand.tmp 94), type := 4, pos := "law.go:57", after := #[{ on := 10, ground := Go.Ground.data }, { on := 7, ground := Go.Ground.chain }], guard := none }) (v := ?_) rfl (by kernel_rfl) (by kernel_rfl) (by kernel_rfl) (fun _ _ _ h => h) (Or.inl ⟨by rfl, ?_⟩) (by assumption) ?_
      rotate_left
      · intro w hSw
        go_simp
        try with_reducible rfl
      simp only [Act.put, List.setIfInBounds_toArray, List.set_cons_zero, List.set_cons_succ]
      refine wpAnyH_take (i := 12) (oi := { dst := some 96, op := Go.Op.move (Go.Operand.tmp 4), type := 24, pos := "law.go:57", after := #[{ on := 11, ground := Go.Ground.guard }], guard := some (11, false) }) (v := ?_) rfl (by kernel_rfl) (by kernel_rfl) (by kernel_rfl) (fun _ _ _ h => h) (Or.inl ⟨by rfl, ?_⟩) (by assumption) ?_
      rotate_left
      · intro w hSw
        go_simp
        try with_reducible rfl
      simp only [Act.put, List.setIfInBounds_toArray, List.set_cons_zero, List.set_cons_succ]
      refine wpAnyH_take (i := 14) (oi := { dst := some 98, op := Go.Op.move (Go.Operand.tmp 5), type := 37, pos := "law.go:57", after := #[{ on := 11, ground := Go.Ground.guard }], guard := some (11, false) }) (v := ?_) rfl (by kernel_rfl) (by kernel_rfl) (by kernel_rfl) (fun _ _ _ h => h) (Or.inl ⟨by rfl, ?_⟩) (by assumption) ?_
      rotate_left
      · intro w hSw
        go_simp
        try with_reducible rfl
      simp only [Act.put, List.setIfInBounds_toArray, List.set_cons_zero, List.set_cons_succ]
      refine wpAnyH_take (i := 15) (oi := { dst := some 99, op := Go.Op.nilCheck (Go.Operand.tmp 98), type := 0, pos := "law.go:57", after := #[{ on := 14, ground := Go.Ground.data }, { on := 11, ground := Go.Ground.guard }], guard := some (11, false) }) (v := ?_) rfl (by kernel_rfl) (by kernel_rfl) (by kernel_rfl) (fun _ _ _ h => h) (Or.inl ⟨by rfl, ?_⟩) (by assumption) ?_
      rotate_left
      · intro w hSw
        go_simp
        try with_reducible rfl
      simp only [Act.put, List.setIfInBounds_toArray, List.set_cons_zero, List.set_cons_succ]
      refine wpAnyH_take (i := 16) (oi := { dst := some 100, op := Go.Op.fieldAddr 42 (Go.Operand.tmp 99) 3, type := 0, pos := "law.go:57", after := #[{ on := 15, ground := Go.Ground.data }, { on := 11, ground := Go.Ground.guard }], guard := some (11, false) }) (v := ?_) rfl (by kernel_rfl) (by kernel_rfl) (by kernel_rfl) (fun _ _ _ h => h) (Or.inl ⟨by rfl, ?_⟩) (by assumption) ?_
      rotate_left
      · intro w hSw
        go_simp
        try with_reducible rfl
      simp only [Act.put, List.setIfInBounds_toArray, List.set_cons_zero, List.set_cons_succ]
      refine wpAnyH_take (i := 17) (oi := { dst := some 101, op := Go.Op.load 4 (Go.Operand.tmp 100), type := 4, pos := "law.go:57", after := #[{ on := 16, ground := Go.Ground.data }, { on := 11, ground := Go.Ground.guard }], guard := some (11, false) }) (v := ?_) rfl (by kernel_rfl) (by kernel_rfl) (by kernel_rfl) (fun _ _ _ h => h) (Or.inl ⟨by rfl, ?_⟩) (by assumption) ?_
      rotate_left
      · intro w hSw
        go_simp
        try with_reducible rfl
      simp only [Act.put, List.setIfInBounds_toArray, List.set_cons_zero, List.set_cons_succ]
      refine wpAnyH_ready (rs := [13]) (by kernel_rfl) (by simp) ?_
      refine AllReadyH.cons (o := { dst := some 97, op := Go.Op.call { callee := Go.Callee.value (Go.Operand.func 20), args := #[Go.Operand.tmp 96], argTypes := #[24] }, type := 4, pos := "law.go:57", after := #[{ on := 12, ground := Go.Ground.data }, { on := 11, ground := Go.Ground.chain }, { on := 11, ground := Go.Ground.guard }], guard := some (11, false) }) rfl (fun K hK => ?_) AllReadyH.nil
      go_simp
      refine (pd_off hP6).mono ?_
      rintro e w7 ⟨rfl, rfl⟩
      rw [Hbo.out]
      refine hK.out _ _ hS6 (fun hHeld => ?_)
      clear hK K
      try simp only [Act.put, List.setIfInBounds_toArray, List.set_cons_zero, List.set_cons_succ]
      refine wpAnyH_take (i := 18) (oi := { dst := some 102, op := Go.Op.binOp Go.BinOp.neq 4 (Go.Operand.tmp 97) (Go.Operand.tmp 101) 4, type := 4, pos := "law.go:57", after := #[{ on := 13, ground := Go.Ground.data }, { on := 17, ground := Go.Ground.data }, { on := 11, ground := Go.Ground.guard }], guard := some (11, false) }) (v := ?_) rfl (by kernel_rfl) (by kernel_rfl) (by kernel_rfl) (fun _ _ _ h => h) (Or.inl ⟨by rfl, ?_⟩) (by assumption) ?_
      rotate_left
      · intro w hSw
        go_simp
        try with_reducible rfl
      simp only [Act.put, List.setIfInBounds_toArray, List.set_cons_zero, List.set_cons_succ]
      refine wpAnyH_take (i := 19) (oi := { dst := some 103, op := Go.Op.pick (Go.Operand.tmp 95) (Go.Operand.const (Go.Value.bool true)) (Go.Operand.tmp 102), type := 4, pos := "law.go:57", after := #[{ on := 11, ground := Go.Ground.data }, { on := 18, ground := Go.Ground.data }], guard := none }) (v := ?_) rfl (by kernel_rfl) (by kernel_rfl) (by kernel_rfl) (fun _ _ _ h => h) (Or.inl ⟨by rfl, ?_⟩) (by assumption) ?_
      rotate_left
      · intro w hSw
        go_simp
        try with_reducible rfl
      simp only [Act.put, List.setIfInBounds_toArray, List.set_cons_zero, List.set_cons_succ]
      refine wpAnyH_done (by kernel_rfl) ?_ _
      have HP6 := Lib.hid hP6
      clear hP6 hP5 hP0 hS0 hS5 hS6 hc5 hc6 hc56 hr5 hr6 hb5 hb6 hHeld
      go_wp2_with fail
      go_roundw
      case rel => exact ⟨k + 1, (s.restart nn), (t.restart nn), by omega, by go_num, HP6⟩
      case measure => simp [intOf]; omega
    · go_simp
      refine (pr_bytes hP5).mono ?_
      rintro e w6 ⟨A6, n6, c6, rfl, hr6, -, hP6, -, hb6⟩
      have hS6 := hP6.offCell
      rw [Hbo.out] at hS6
      have hc6 : (convert 22 9 (.slice A6 n6 c6)).run Try.prog w6 = .ok (.string X) w6 := by rw [HX2.out]; exact conv_reads hr6 c6
      have hc56 : (convert 22 9 (.slice A5 n5 c5)).run Try.prog w6 = .ok (.string X) w6 := by rw [HX2.out]; exact conv_reads (hr5.below hb6) c5
      refine hK.out _ _ hS6 (fun hHeld => ?_)
      clear hK K
      try simp only [Act.put, List.setIfInBounds_toArray, List.set_cons_zero, List.set_cons_succ]
      refine wpAnyH_ready (rs := [5, 8]) (by kernel_rfl) (by simp) ?_
      refine AllReadyH.cons (o := { dst := some 89, op := Go.Op.convert 22 9 (Go.Operand.tmp 88), type := 9, pos := "law.go:57", after := #[{ on := 4, ground := Go.Ground.data }, { on := 2, ground := Go.Ground.guard }], guard := some (2, false) }) rfl (fun K hK => ?_) (AllReadyH.cons (o := { dst := some 92, op := Go.Op.convert 22 9 (Go.Operand.tmp 91), type := 9, pos := "law.go:57", after := #[{ on := 7, ground := Go.Ground.data }, { on := 2, ground := Go.Ground.guard }], guard := some (2, false) }) rfl (fun K hK => ?_) AllReadyH.nil)
      · go_simp
        refine hK.out _ _ hS6 (fun hHeld => ?_)
        clear hK K
        refine wpAnyH_ready (rs := [8]) (by kernel_rfl) (by simp) ?_
        refine AllReadyH.cons (o := { dst := some 92, op := Go.Op.convert 22 9 (Go.Operand.tmp 91), type := 9, pos := "law.go:57", after := #[{ on := 7, ground := Go.Ground.data }, { on := 2, ground := Go.Ground.guard }], guard := some (2, false) }) rfl (fun K hK => ?_) AllReadyH.nil
        go_simp
        refine hK.out _ _ hS6 (fun hHeld => ?_)
        clear hK K
        try simp only [Act.put, List.setIfInBounds_toArray, List.set_cons_zero, List.set_cons_succ]
        refine wpAnyH_take (i := 9) (oi := { dst := some 93, op := Go.Op.binOp Go.BinOp.neq 9 (Go.Operand.tmp 89) (Go.Operand.tmp 92) 9, type := 4, pos := "law.go:57", after := #[{ on := 5, ground := Go.Ground.data }, { on := 8, ground := Go.Ground.data }, { on := 2, ground := Go.Ground.guard }], guard := some (2, false) }) (v := ?_) rfl (by kernel_rfl) (by kernel_rfl) (by kernel_rfl) (fun _ _ _ h => h) (Or.inl ⟨by rfl, ?_⟩) (by assumption) ?_
        rotate_left
        · intro w hSw
          go_simp
          try with_reducible rfl
        simp only [Act.put, List.setIfInBounds_toArray, List.set_cons_zero, List.set_cons_succ]
        refine wpAnyH_take (i := 10) (oi := { dst := some 94, op := Go.Op.pick (Go.Operand.tmp 86) (Go.Operand.const (Go.Value.bool true)) (Go.Operand.tmp 93), type := 4, pos := "law.go:57", after := #[{ on := 2, ground := Go.Ground.data }, { on := 9, ground := Go.Ground.data }], guard := none }) (v := ?_) rfl (by kernel_rfl) (by kernel_rfl) (by kernel_rfl) (fun _ _ _ h => h) (Or.inl ⟨by rfl, ?_⟩) (by assumption) ?_
        rotate_left
        · intro w hSw
          go_simp
          try with_reducible rfl
        simp only [Act.put, List.setIfInBounds_toArray, List.set_cons_zero, List.set_cons_succ]
        refine wpAnyH_take (i := 11) (oi := { dst := some 95, op := Go.Op.move (Go.Operand.tmp 94), type := 4, pos := "law.go:57", after := #[{ on := 10, ground := Go.Ground.data }, { on := 7, ground := Go.Ground.chain }], guard := none }) (v := ?_) rfl (by kernel_rfl) (by kernel_rfl) (by kernel_rfl) (fun _ _ _ h => h) (Or.inl ⟨by rfl, ?_⟩) (by assumption) ?_
        rotate_left
        · intro w hSw
          go_simp
          try with_reducible rfl
        simp only [Act.put, List.setIfInBounds_toArray, List.set_cons_zero, List.set_cons_succ]
        refine wpAnyH_take (i := 12) (oi := { dst := some 96, op := Go.Op.move (Go.Operand.tmp 4), type := 24, pos := "law.go:57", after := #[{ on := 11, ground := Go.Ground.guard }], guard := some (11, false) }) (v := ?_) rfl (by kernel_rfl) (by kernel_rfl) (by kernel_rfl) (fun _ _ _ h => h) (Or.inl ⟨by rfl, ?_⟩) (by assumption) ?_
        rotate_left
        · intro w hSw
          go_simp
          try with_reducible rfl
        simp only [Act.put, List.setIfInBounds_toArray, List.set_cons_zero, List.set_cons_succ]
        refine wpAnyH_take (i := 14) (oi := { dst := some 98, op := Go.Op.move (Go.Operand.tmp 5), type := 37, pos := "law.go:57", after := #[{ on := 11, ground := Go.Ground.guard }], guard := some (11, false) }) (v := ?_) rfl (by kernel_rfl) (by kernel_rfl) (by kernel_rfl) (fun _ _ _ h => h) (Or.inl ⟨by rfl, ?_⟩) (by assumption) ?_
        rotate_left
        · intro w hSw
          go_simp
          try with_reducible rfl
        simp only [Act.put, List.setIfInBounds_toArray, List.set_cons_zero, List.set_cons_succ]
        refine wpAnyH_take (i := 15) (oi := { dst := some 99, op := Go.Op.nilCheck (Go.Operand.tmp 98), type := 0, pos := "law.go:57", after := #[{ on := 14, ground := Go.Ground.data }, { on := 11, ground := Go.Ground.guard }], guard := some (11, false) }) (v := ?_) rfl (by kernel_rfl) (by kernel_rfl) (by kernel_rfl) (fun _ _ _ h => h) (Or.inl ⟨by rfl, ?_⟩) (by assumption) ?_
        rotate_left
        · intro w hSw
          go_simp
          try with_reducible rfl
        simp only [Act.put, List.setIfInBounds_toArray, List.set_cons_zero, List.set_cons_succ]
        refine wpAnyH_take (i := 16) (oi := { dst := some 100, op := Go.Op.fieldAddr 42 (Go.Operand.tmp 99) 3, type := 0, pos := "law.go:57", after := #[{ on := 15, ground := Go.Ground.data }, { on := 11, ground := Go.Ground.guard }], guard := some (11, false) }) (v := ?_) rfl (by kernel_rfl) (by kernel_rfl) (by kernel_rfl) (fun _ _ _ h => h) (Or.inl ⟨by rfl, ?_⟩) (by assumption) ?_
        rotate_left
        · intro w hSw
          go_simp
          try with_reducible rfl
        simp only [Act.put, List.setIfInBounds_toArray, List.set_cons_zero, List.set_cons_succ]
        refine wpAnyH_take (i := 17) (oi := { dst := some 101, op := Go.Op.load 4 (Go.Operand.tmp 100), type := 4, pos := "law.go:57", after := #[{ on := 16, ground := Go.Ground.data }, { on := 11, ground := Go.Ground.guard }], guard := some (11, false) }) (v := ?_) rfl (by kernel_rfl) (by kernel_rfl) (by kernel_rfl) (fun _ _ _ h => h) (Or.inl ⟨by rfl, ?_⟩) (by assumption) ?_
        rotate_left
        · intro w hSw
          go_simp
          try with_reducible rfl
        simp only [Act.put, List.setIfInBounds_toArray, List.set_cons_zero, List.set_cons_succ]
        refine wpAnyH_ready (rs := [13]) (by kernel_rfl) (by simp) ?_
        refine AllReadyH.cons (o := { dst := some 97, op := Go.Op.call { callee := Go.Callee.value (Go.Operand.func 20), args := #[Go.Operand.tmp 96], argTypes := #[24] }, type := 4, pos := "law.go:57", after := #[{ on := 12, ground := Go.Ground.data }, { on := 11, ground := Go.Ground.chain }, { on := 11, ground := Go.Ground.guard }], guard := some (11, false) }) rfl (fun K hK => ?_) AllReadyH.nil
        go_simp
        refine (pd_off hP6).mono ?_
        rintro e w7 ⟨rfl, rfl⟩
        rw [Hbo.out]
        refine hK.out _ _ hS6 (fun hHeld => ?_)
        clear hK K
        try simp only [Act.put, List.setIfInBounds_toArray, List.set_cons_zero, List.set_cons_succ]
        refine wpAnyH_take (i := 18) (oi := { dst := some 102, op := Go.Op.binOp Go.BinOp.neq 4 (Go.Operand.tmp 97) (Go.Operand.tmp 101) 4, type := 4, pos := "law.go:57", after := #[{ on := 13, ground := Go.Ground.data }, { on := 17, ground := Go.Ground.data }, { on := 11, ground := Go.Ground.guard }], guard := some (11, false) }) (v := ?_) rfl (by kernel_rfl) (by kernel_rfl) (by kernel_rfl) (fun _ _ _ h => h) (Or.inl ⟨by rfl, ?_⟩) (by assumption) ?_
        rotate_left
        · intro w hSw
          go_simp
          try with_reducible rfl
        simp only [Act.put, List.setIfInBounds_toArray, List.set_cons_zero, List.set_cons_succ]
        refine wpAnyH_take (i := 19) (oi := { dst := some 103, op := Go.Op.pick (Go.Operand.tmp 95) (Go.Operand.const (Go.Value.bool true)) (Go.Operand.tmp 102), type := 4, pos := "law.go:57", after := #[{ on := 11, ground := Go.Ground.data }, { on := 18, ground := Go.Ground.data }], guard := none }) (v := ?_) rfl (by kernel_rfl) (by kernel_rfl) (by kernel_rfl) (fun _ _ _ h => h) (Or.inl ⟨by rfl, ?_⟩) (by assumption) ?_
        rotate_left
        · intro w hSw
          go_simp
          try with_reducible rfl
        simp only [Act.put, List.setIfInBounds_toArray, List.set_cons_zero, List.set_cons_succ]
        refine wpAnyH_done (by kernel_rfl) ?_ _
        have HP6 := Lib.hid hP6
        clear hP6 hP5 hP0 hS0 hS5 hS6 hc5 hc6 hc56 hr5 hr6 hb5 hb6 hHeld
        go_wp2_with fail
        go_roundw
        case rel => exact ⟨k + 1, (s.restart nn), (t.restart nn), by omega, by go_num, HP6⟩
        case measure => simp [intOf]; omega
      · go_simp
        refine hK.out _ _ hS6 (fun hHeld => ?_)
        clear hK K
        refine wpAnyH_ready (rs := [5]) (by kernel_rfl) (by simp) ?_
        refine AllReadyH.cons (o := { dst := some 89, op := Go.Op.convert 22 9 (Go.Operand.tmp 88), type := 9, pos := "law.go:57", after := #[{ on := 4, ground := Go.Ground.data }, { on := 2, ground := Go.Ground.guard }], guard := some (2, false) }) rfl (fun K hK => ?_) AllReadyH.nil
        go_simp
        refine hK.out _ _ hS6 (fun hHeld => ?_)
        clear hK K
        try simp only [Act.put, List.setIfInBounds_toArray, List.set_cons_zero, List.set_cons_succ]
        refine wpAnyH_take (i := 9) (oi := { dst := some 93, op := Go.Op.binOp Go.BinOp.neq 9 (Go.Operand.tmp 89) (Go.Operand.tmp 92) 9, type := 4, pos := "law.go:57", after := #[{ on := 5, ground := Go.Ground.data }, { on := 8, ground := Go.Ground.data }, { on := 2, ground := Go.Ground.guard }], guard := some (2, false) }) (v := ?_) rfl (by kernel_rfl) (by kernel_rfl) (by kernel_rfl) (fun _ _ _ h => h) (Or.inl ⟨by rfl, ?_⟩) (by assumption) ?_
        rotate_left
        · intro w hSw
          go_simp
          try with_reducible rfl
        simp only [Act.put, List.setIfInBounds_toArray, List.set_cons_zero, List.set_cons_succ]
        refine wpAnyH_take (i := 10) (oi := { dst := some 94, op := Go.Op.pick (Go.Operand.tmp 86) (Go.Operand.const (Go.Value.bool true)) (Go.Operand.tmp 93), type := 4, pos := "law.go:57", after := #[{ on := 2, ground := Go.Ground.data }, { on := 9, ground := Go.Ground.data }], guard := none }) (v := ?_) rfl (by kernel_rfl) (by kernel_rfl) (by kernel_rfl) (fun _ _ _ h => h) (Or.inl ⟨by rfl, ?_⟩) (by assumption) ?_
        rotate_left
        · intro w hSw
          go_simp
          try with_reducible rfl
        simp only [Act.put, List.setIfInBounds_toArray, List.set_cons_zero, List.set_cons_succ]
        refine wpAnyH_take (i := 11) (oi := { dst := some 95, op := Go.Op.move (Go.Operand.tmp 94), type := 4, pos := "law.go:57", after := #[{ on := 10, ground := Go.Ground.data }, { on := 7, ground := Go.Ground.chain }], guard := none }) (v := ?_) rfl (by kernel_rfl) (by kernel_rfl) (by kernel_rfl) (fun _ _ _ h => h) (Or.inl ⟨by rfl, ?_⟩) (by assumption) ?_
        rotate_left
        · intro w hSw
          go_simp
          try with_reducible rfl
        simp only [Act.put, List.setIfInBounds_toArray, List.set_cons_zero, List.set_cons_succ]
        refine wpAnyH_take (i := 12) (oi := { dst := some 96, op := Go.Op.move (Go.Operand.tmp 4), type := 24, pos := "law.go:57", after := #[{ on := 11, ground := Go.Ground.guard }], guard := some (11, false) }) (v := ?_) rfl (by kernel_rfl) (by kernel_rfl) (by kernel_rfl) (fun _ _ _ h => h) (Or.inl ⟨by rfl, ?_⟩) (by assumption) ?_
        rotate_left
        · intro w hSw
          go_simp
          try with_reducible rfl
        simp only [Act.put, List.setIfInBounds_toArray, List.set_cons_zero, List.set_cons_succ]
        refine wpAnyH_take (i := 14) (oi := { dst := some 98, op := Go.Op.move (Go.Operand.tmp 5), type := 37, pos := "law.go:57", after := #[{ on := 11, ground := Go.Ground.guard }], guard := some (11, false) }) (v := ?_) rfl (by kernel_rfl) (by kernel_rfl) (by kernel_rfl) (fun _ _ _ h => h) (Or.inl ⟨by rfl, ?_⟩) (by assumption) ?_
        rotate_left
        · intro w hSw
          go_simp
          try with_reducible rfl
        simp only [Act.put, List.setIfInBounds_toArray, List.set_cons_zero, List.set_cons_succ]
        refine wpAnyH_take (i := 15) (oi := { dst := some 99, op := Go.Op.nilCheck (Go.Operand.tmp 98), type := 0, pos := "law.go:57", after := #[{ on := 14, ground := Go.Ground.data }, { on := 11, ground := Go.Ground.guard }], guard := some (11, false) }) (v := ?_) rfl (by kernel_rfl) (by kernel_rfl) (by kernel_rfl) (fun _ _ _ h => h) (Or.inl ⟨by rfl, ?_⟩) (by assumption) ?_
        rotate_left
        · intro w hSw
          go_simp
          try with_reducible rfl
        simp only [Act.put, List.setIfInBounds_toArray, List.set_cons_zero, List.set_cons_succ]
        refine wpAnyH_take (i := 16) (oi := { dst := some 100, op := Go.Op.fieldAddr 42 (Go.Operand.tmp 99) 3, type := 0, pos := "law.go:57", after := #[{ on := 15, ground := Go.Ground.data }, { on := 11, ground := Go.Ground.guard }], guard := some (11, false) }) (v := ?_) rfl (by kernel_rfl) (by kernel_rfl) (by kernel_rfl) (fun _ _ _ h => h) (Or.inl ⟨by rfl, ?_⟩) (by assumption) ?_
        rotate_left
        · intro w hSw
          go_simp
          try with_reducible rfl
        simp only [Act.put, List.setIfInBounds_toArray, List.set_cons_zero, List.set_cons_succ]
        refine wpAnyH_take (i := 17) (oi := { dst := some 101, op := Go.Op.load 4 (Go.Operand.tmp 100), type := 4, pos := "law.go:57", after := #[{ on := 16, ground := Go.Ground.data }, { on := 11, ground := Go.Ground.guard }], guard := some (11, false) }) (v := ?_) rfl (by kernel_rfl) (by kernel_rfl) (by kernel_rfl) (fun _ _ _ h => h) (Or.inl ⟨by rfl, ?_⟩) (by assumption) ?_
        rotate_left
        · intro w hSw
          go_simp
          try with_reducible rfl
        simp only [Act.put, List.setIfInBounds_toArray, List.set_cons_zero, List.set_cons_succ]
        refine wpAnyH_ready (rs := [13]) (by kernel_rfl) (by simp) ?_
        refine AllReadyH.cons (o := { dst := some 97, op := Go.Op.call { callee := Go.Callee.value (Go.Operand.func 20), args := #[Go.Operand.tmp 96], argTypes := #[24] }, type := 4, pos := "law.go:57", after := #[{ on := 12, ground := Go.Ground.data }, { on := 11, ground := Go.Ground.chain }, { on := 11, ground := Go.Ground.guard }], guard := some (11, false) }) rfl (fun K hK => ?_) AllReadyH.nil
        go_simp
        refine (pd_off hP6).mono ?_
        rintro e w7 ⟨rfl, rfl⟩
        rw [Hbo.out]
        refine hK.out _ _ hS6 (fun hHeld => ?_)
        clear hK K
        try simp only [Act.put, List.setIfInBounds_toArray, List.set_cons_zero, List.set_cons_succ]
        refine wpAnyH_take (i := 18) (oi := { dst := some 102, op := Go.Op.binOp Go.BinOp.neq 4 (Go.Operand.tmp 97) (Go.Operand.tmp 101) 4, type := 4, pos := "law.go:57", after := #[{ on := 13, ground := Go.Ground.data }, { on := 17, ground := Go.Ground.data }, { on := 11, ground := Go.Ground.guard }], guard := some (11, false) }) (v := ?_) rfl (by kernel_rfl) (by kernel_rfl) (by kernel_rfl) (fun _ _ _ h => h) (Or.inl ⟨by rfl, ?_⟩) (by assumption) ?_
        rotate_left
        · intro w hSw
          go_simp
          try with_reducible rfl
        simp only [Act.put, List.setIfInBounds_toArray, List.set_cons_zero, List.set_cons_succ]
        refine wpAnyH_take (i := 19) (oi := { dst := some 103, op := Go.Op.pick (Go.Operand.tmp 95) (Go.Operand.const (Go.Value.bool true)) (Go.Operand.tmp 102), type := 4, pos := "law.go:57", after := #[{ on := 11, ground := Go.Ground.data }, { on := 18, ground := Go.Ground.data }], guard := none }) (v := ?_) rfl (by kernel_rfl) (by kernel_rfl) (by kernel_rfl) (fun _ _ _ h => h) (Or.inl ⟨by rfl, ?_⟩) (by assumption) ?_
        rotate_left
        · intro w hSw
          go_simp
          try with_reducible rfl
        simp only [Act.put, List.setIfInBounds_toArray, List.set_cons_zero, List.set_cons_succ]
        refine wpAnyH_done (by kernel_rfl) ?_ _
        have HP6 := Lib.hid hP6
        clear hP6 hP5 hP0 hS0 hS5 hS6 hc5 hc6 hc56 hr5 hr6 hb5 hb6 hHeld
        go_wp2_with fail
        go_roundw
        case rel => exact ⟨k + 1, (s.restart nn), (t.restart nn), by omega, by go_num, HP6⟩
        case measure => simp [intOf]; omega
end Go.Proofs.Ytaakamjjglpibaa.Dv
