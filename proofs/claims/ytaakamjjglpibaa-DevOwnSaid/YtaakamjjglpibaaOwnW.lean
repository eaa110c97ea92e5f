/-
  DevOwn's walk: what is told is the caller's own, and what is handed in is not kept.
-/
import Derived.Test.YtaakamjjglpibaaDevE
import Derived.Deep.RegionHeld3
namespace Go.Proofs.Ytaakamjjglpibaa.Dv
open Go.RowKit

theorem own_empty (w : World) (base : Nat) (hb : base ≤ w.heap.size) : (w.alloc (.cells #[] 5)).ownsRow base 5 1 (.slice (some ⟨w.heap.size, 0, none⟩) 0 0) 0 [] :=
  own_of_blk (xs := []) (Blk.new w 5 #[]) hb (by decide)

set_option maxRecDepth 100000 in
set_option maxHeartbeats 1600000 in
theorem own_walk {w : World} {A : Option Addr} {c0 : Nat} {xs : List Int} (t : Nat) (hx : Came w A c0 xs) (h0 : 0 < xs.length) (h1 : xs.length ≤ 20000) :
    Calls Try.prog 3 #[.slice A xs.length c0, .int .i64 t] w fun e w' => e = .returned (.bool true) ∧ Below w.heap.size w w' := by
  have hx1 := hx.fits
  have hx2 := hx.most
  unfold maxLen at hx2
  have t1 : ((xs.length : Int) == 0) = false := beq_eq_false_iff_ne.2 (by omega)
  have t2 : decide ((20000 : Int) < (xs.length : Int)) = false := by simp; omega
  have t3 : decide ((t : Int) < 0) = false := by simp
  obtain ⟨k, hk⟩ : ∃ k, k = t % xs.length := ⟨_, rfl⟩
  have hkl : k < xs.length := by rw [hk]; exact Nat.mod_lt _ h0
  have hmod : (t : Int) % (xs.length : Int) = (k : Int) := by rw [hk]; simp
  clear hk
  obtain ⟨z, hz⟩ : ∃ z, (cellsOf xs)[k]? = some (.int .u8 z) := ⟨xs[k], by simp [cellsOf, List.getElem?_eq_getElem hkl]⟩
  have Hz := Lib.hid hz
  clear hz
  have hclen : (cellsOf xs).length = xs.length := by simp [cellsOf]
  have Hclen := Lib.hid hclen
  clear hclen
  obtain ⟨i5, hi5, hz5, hs5, hb5⟩ := info_parts Try.info5
  go_enter Try.func3, Try.ntmps3
  go_wp2_with fail
  refine (awake12 _).mono ?_
  rintro e w1 ⟨rfl, hb1⟩
  go_wp2_with fail
  refine (new_dev _).mono ?_
  rintro e w2 ⟨rfl, hD2, hb2⟩
  have hb2' := hb1.trans (hb2.mono hb1.size)
  have hx2r := (hx.at_ hb2').alloc (by have := hb2'.size; omega) (.cells #[] 5)
  have ho2 := own_empty w2 w2.heap.size (Nat.le_refl _)
  go_wp2_with (at_builtin; refine wpList_append_any _ rfl (.tmp 38) (.tmp 39) _ rfl w2.heap.size 5 i5 _ 1 1 Try.underlying22 hi5 hz5 hs5 hb5 rfl (by omega) (.slice (some ⟨w2.heap.size, 0, none⟩) 0 0) 0 [] rfl ho2 w.heap.size A xs.length c0 (cellsOf xs) rfl hx2r (ints_oneCell _ _) (by simp only [maxLen]; omega) (by omega) (by simp) ?_; intro v3 w3 hown3 hg3 hat3; have Hown3 := Lib.hid hown3; have Hg3 := Lib.hid hg3; clear hown3 hg3 hat3; simp only [Nat.zero_add, List.nil_append] at Hown3; obtain ⟨g, c3, rfl, hg0, hg1⟩ := Hown3.out.form h0)
  have hdlt := hD2.blk.lt
  have hD3 : DevAt w3 w1.heap.size w1.heap.size (.slice none 0 0) DS.new := (hD2.alloc (.cells #[] 5)).only (S := fun k => k = w2.heap.size) ((Only.refl _ _).grown Hg3.out (fun k hk _ => by simp [Value.ownBlock] at hk; omega)) (by omega) (by simp [Value.ownBlock])
  have hb3' : Below w.heap.size w w3 := (hb2'.alloc hb2'.size _).grown Hg3.out (by have := hb2'.size; simp; omega) (fun k hk => by simp [Value.ownBlock] at hk; have := hb2'.size; omega)
  refine (append_dev (s := ⟨[], 0, -1, false⟩) hD3 (Reads.of_own Hown3.out) hx.byt (by have := hD3.blk.lt; omega) (by omega)).mono ?_
  rintro e w4 ⟨rfl, v4, hD4, hO4, hv4⟩
  rw [(free_append [] xs 0 (by simp; omega)).1, List.nil_append] at hD4
  rw [(free_append [] xs 0 (by simp; omega)).2]
  have hgd : g ≠ w1.heap.size := by omega
  have Hown4 := Lib.hid (own_only Hown3.out hO4 (fun k hk hS => by
    have hkg : g = k := by simpa [Value.ownBlock] using hk
    rcases hS with hS | hS
    · omega
    · simp [Value.ownBlock] at hS))
  have hv4g : ∀ i, v4.ownBlock = some i → ¬ i = g := fun i hi => by
    rcases hv4 with h | h
    · rw [h] at hi; simp [Value.ownBlock] at hi
    · have := h i hi; omega
  have hb4' : Below w.heap.size w w4 := hb3'.trans (hO4.belowOf hb3'.size (fun i hi => by
    rcases hi with hi | hi
    · have := hb1.size; omega
    · simp [Value.ownBlock] at hi))
  have hcell4 : w4.cell? ⟨g, k, none⟩ = some (.int .u8 z) := by rw [Hown4.out.cellAt k (by omega)]; exact Hz.out
  have hfr4 := Hown4.out.frozenAt k
  have Hv4 := Lib.hid hv4
  have Hv4g := Lib.hid hv4g
  clear hv4 hv4g
  have hkl' : (k : Int) < (xs.length : Int) := by omega
  go_wp2_with fail
  have hD5 : DevAt (w4.setCell ⟨g, k, none⟩ (.int .u8 ((z + 1) % 256))) w1.heap.size w1.heap.size v4 ⟨xs, 0, -1, false⟩ :=
    hD4.only (S := fun i => i = g) ((Only.refl (fun i => i = g) w4).setCell (p := ⟨g, k, none⟩) (fun _ => rfl) _) (by omega) Hv4g.out
  have hb5' : Below w.heap.size w (w4.setCell ⟨g, k, none⟩ (.int .u8 ((z + 1) % 256))) := hb4'.setCell (p := ⟨g, k, none⟩) (by have := hb2'.size; show _ ≤ g; omega) _
  obtain ⟨W5, hW5⟩ : ∃ W5, W5 = w4.setCell ⟨g, k, none⟩ (.int .u8 ((z + 1) % 256)) := ⟨_, rfl⟩
  rw [← hW5] at hD5 hb5' ⊢
  clear hW5 hcell4 hfr4
  refine (bytes_dev hD5).mono ?_
  rintro e w6 ⟨rfl, ho6, hb6⟩
  have hb6' := hb5'.trans (hb6.mono hb5'.size)
  have hD6 := hD5.belowAll hb6
  have Ho6 := Lib.hid ho6
  clear ho6
  have hcell6 : w6.cell? ⟨W5.heap.size, k, none⟩ = some (.int .u8 z) := by rw [Ho6.out.cellAt k (by simpa using hkl)]; exact Hz.out
  have hfr6 := Ho6.out.frozenAt k
  go_wp2_with fail
  have hb7' : Below w.heap.size w (w6.setCell ⟨W5.heap.size, k, none⟩ (.int .u8 ((z + 1) % 256))) := hb6'.setCell (p := ⟨W5.heap.size, k, none⟩) hb5'.size _
  have hD7 : DevAt (w6.setCell ⟨W5.heap.size, k, none⟩ (.int .u8 ((z + 1) % 256))) w1.heap.size w1.heap.size v4 ⟨xs, 0, -1, false⟩ :=
    hD6.only (S := fun i => i = W5.heap.size) ((Only.refl (fun i => i = W5.heap.size) w6).setCell (p := ⟨W5.heap.size, k, none⟩) (fun _ => rfl) _) (by have := hD5.blk.lt; omega) (fun i hi => by have := (hD5.own.lt i hi).2; omega)
  obtain ⟨W7, hW7⟩ : ∃ W7, W7 = w6.setCell ⟨W5.heap.size, k, none⟩ (.int .u8 ((z + 1) % 256)) := ⟨_, rfl⟩
  rw [← hW7] at hD7 hb7' ⊢
  clear hW7 hcell6 hfr6
  have hca7 := conv_reads (hx.at_ hb7').drew c0
  have hss := beq_self_str xs xs rfl
  have hx' := hx
  clear hx hx1 hx2 t1 t2 t3 hmod Hz Hclen hi5 hz5 hs5 hb5 hb1 hD2 hb2 hb2' hx2r ho2 Hg3 Hown3 hg0 hg1 hdlt hD3 hb3' hD4 hO4 hgd Hown4 hb4' Hv4 Hv4g hkl' hD5 hb5' hb6 hb6' hD6 Ho6 h0 h1 hkl
  have hx := hx'
  clear hx'
  refine wp_region_held_drew (S := fun W => (convert 22 9 (.slice A xs.length c0)).run Try.prog W = .ok (.string (strOfNums xs)) W) (by kernel_rfl) hca7 (fun hHeld => ?_)
  refine wpAnyH_take (i := 0) (oi := { dst := some 67, op := Go.Op.move (Go.Operand.tmp 5), type := 4, pos := "law.go:134", after := #[], guard := none }) (v := ?_) rfl (by kernel_rfl) (by kernel_rfl) (by kernel_rfl) (fun _ _ _ h => h) (Or.inl ⟨by rfl, ?_⟩) (by assumption) ?_
  rotate_left
  · intro w hSw
    go_simp
    try with_reducible rfl
  simp only [Act.put, List.setIfInBounds_toArray, List.set_cons_zero, List.set_cons_succ]
  refine wpAnyH_take (i := 1) (oi := { dst := some 68, op := Go.Op.move (Go.Operand.tmp 67), type := 4, pos := "law.go:134", after := #[{ on := 0, ground := Go.Ground.data }], guard := none }) (v := ?_) rfl (by kernel_rfl) (by kernel_rfl) (by kernel_rfl) (fun _ _ _ h => h) (Or.inl ⟨by rfl, ?_⟩) (by assumption) ?_
  rotate_left
  · intro w hSw
    go_simp
    try with_reducible rfl
  simp only [Act.put, List.setIfInBounds_toArray, List.set_cons_zero, List.set_cons_succ]
  refine wpAnyH_take (i := 2) (oi := { dst := some 69, op := Go.Op.move (Go.Operand.tmp 9), type := 26, pos := "law.go:134", after := #[{ on := 1, ground := Go.Ground.guard }], guard := some (1, true) }) (v := ?_) rfl (by kernel_rfl) (by kernel_rfl) (by kernel_rfl) (fun _ _ _ h => h) (Or.inl ⟨by rfl, ?_⟩) (by assumption) ?_
  rotate_left
  · intro w hSw
    go_simp
    try with_reducible rfl
  simp only [Act.put, List.setIfInBounds_toArray, List.set_cons_zero, List.set_cons_succ]
  refine wpAnyH_take (i := 3) (oi := { dst := some 70, op := Go.Op.binOp Go.BinOp.eql 26 (Go.Operand.tmp 69) (Go.Operand.const (Go.Value.int Go.IntKind.i64 0)) 26, type := 4, pos := "law.go:134", after := #[{ on := 2, ground := Go.Ground.data }, { on := 1, ground := Go.Ground.guard }], guard := some (1, true) }) (v := ?_) rfl (by kernel_rfl) (by kernel_rfl) (by kernel_rfl) (fun _ _ _ h => h) (Or.inl ⟨by rfl, ?_⟩) (by assumption) ?_
  rotate_left
  · intro w hSw
    go_simp
    try with_reducible rfl
  simp only [Act.put, List.setIfInBounds_toArray, List.set_cons_zero, List.set_cons_succ]
  refine wpAnyH_take (i := 4) (oi := { dst := some 71, op := Go.Op.pick (Go.Operand.tmp 68) (Go.Operand.tmp 70) (Go.Operand.const (Go.Value.bool false)), type := 4, pos := "law.go:134", after := #[{ on := 1, ground := Go.Ground.data }, { on := 3, ground := Go.Ground.data }], guard := none }) (v := ?_) rfl (by kernel_rfl) (by kernel_rfl) (by kernel_rfl) (fun _ _ _ h => h) (Or.inl ⟨by rfl, ?_⟩) (by assumption) ?_
  rotate_left
  · intro w hSw
    go_simp
    try with_reducible rfl
  simp only [Act.put, List.setIfInBounds_toArray, List.set_cons_zero, List.set_cons_succ]
  refine wpAnyH_take (i := 5) (oi := { dst := some 72, op := Go.Op.move (Go.Operand.tmp 71), type := 4, pos := "law.go:134", after := #[{ on := 4, ground := Go.Ground.data }, { on := 1, ground := Go.Ground.chain }], guard := none }) (v := ?_) rfl (by kernel_rfl) (by kernel_rfl) (by kernel_rfl) (fun _ _ _ h => h) (Or.inl ⟨by rfl, ?_⟩) (by assumption) ?_
  rotate_left
  · intro w hSw
    go_simp
    try with_reducible rfl
  simp only [Act.put, List.setIfInBounds_toArray, List.set_cons_zero, List.set_cons_succ]
  refine wpAnyH_take (i := 6) (oi := { dst := some 73, op := Go.Op.move (Go.Operand.tmp 6), type := 24, pos := "law.go:134", after := #[{ on := 5, ground := Go.Ground.guard }], guard := some (5, true) }) (v := ?_) rfl (by kernel_rfl) (by kernel_rfl) (by kernel_rfl) (fun _ _ _ h => h) (Or.inl ⟨by rfl, ?_⟩) (by assumption) ?_
  rotate_left
  · intro w hSw
    go_simp
    try with_reducible rfl
  simp only [Act.put, List.setIfInBounds_toArray, List.set_cons_zero, List.set_cons_succ]
  refine wpAnyH_take (i := 9) (oi := { dst := some 76, op := Go.Op.move (Go.Operand.tmp 0), type := 22, pos := "law.go:134", after := #[{ on := 5, ground := Go.Ground.guard }], guard := some (5, true) }) (v := ?_) rfl (by kernel_rfl) (by kernel_rfl) (by kernel_rfl) (fun _ _ _ h => h) (Or.inl ⟨by rfl, ?_⟩) (by assumption) ?_
  rotate_left
  · intro w hSw
    go_simp
    try with_reducible rfl
  simp only [Act.put, List.setIfInBounds_toArray, List.set_cons_zero, List.set_cons_succ]
  refine wpAnyH_take (i := 10) (oi := { dst := some 77, op := Go.Op.convert 22 9 (Go.Operand.tmp 76), type := 9, pos := "law.go:134", after := #[{ on := 9, ground := Go.Ground.data }, { on := 5, ground := Go.Ground.guard }], guard := some (5, true) }) (v := ?_) rfl (by kernel_rfl) (by kernel_rfl) (by kernel_rfl) (fun _ _ _ h => h) (Or.inl ⟨by rfl, ?_⟩) (by assumption) ?_
  rotate_left
  · intro w hSw
    go_simp
    try with_reducible rfl
  simp only [Act.put, List.setIfInBounds_toArray, List.set_cons_zero, List.set_cons_succ]
  refine wpAnyH_ready (rs := [7]) (by kernel_rfl) (by simp) ?_
  refine AllReadyH.cons (o := { dst := some 74, op := Go.Op.call { callee := Go.Callee.value (Go.Operand.func 17), args := #[Go.Operand.tmp 73], argTypes := #[24] }, type := 22, pos := "law.go:134", after := #[{ on := 6, ground := Go.Ground.data }, { on := 5, ground := Go.Ground.chain }, { on := 5, ground := Go.Ground.guard }], guard := some (5, true) }) rfl (fun K hK => ?_) AllReadyH.nil
  go_simp
  refine (bytes_dev hD7.drew).mono ?_
  rintro e w8 ⟨rfl, ho8, hb8⟩
  have hc8 : (convert 22 9 (.slice (some ⟨W7.heap.size, 0, none⟩) xs.length xs.length)).run Try.prog w8 = .ok (.string (strOfNums xs)) w8 := conv_own ho8
  have hb8' := hb7'.drew.trans (hb8.mono hb7'.size)
  have hca8 := conv_reads (hx.at_ hb8') c0
  refine hK.out _ _ hca8 (fun hHeld => ?_)
  clear hK K
  refine wpAnyH_ready (rs := [8]) (by kernel_rfl) (by simp) ?_
  refine AllReadyH.cons (o := { dst := some 75, op := Go.Op.convert 22 9 (Go.Operand.tmp 74), type := 9, pos := "law.go:134", after := #[{ on := 7, ground := Go.Ground.data }, { on := 5, ground := Go.Ground.guard }], guard := some (5, true) }) rfl (fun K hK => ?_) AllReadyH.nil
  go_simp
  refine hK.out _ _ hca8 (fun hHeld => ?_)
  clear hK K
  refine wpAnyH_take (i := 11) (oi := { dst := some 78, op := Go.Op.binOp Go.BinOp.eql 9 (Go.Operand.tmp 75) (Go.Operand.tmp 77) 9, type := 4, pos := "law.go:134", after := #[{ on := 8, ground := Go.Ground.data }, { on := 10, ground := Go.Ground.data }, { on := 5, ground := Go.Ground.guard }], guard := some (5, true) }) (v := ?_) rfl (by kernel_rfl) (by kernel_rfl) (by kernel_rfl) (fun _ _ _ h => h) (Or.inl ⟨by rfl, ?_⟩) (by assumption) ?_
  rotate_left
  · intro w hSw
    go_simp
    try with_reducible rfl
  simp only [Act.put, List.setIfInBounds_toArray, List.set_cons_zero, List.set_cons_succ]
  refine wpAnyH_take (i := 12) (oi := { dst := some 79, op := Go.Op.pick (Go.Operand.tmp 72) (Go.Operand.tmp 78) (Go.Operand.const (Go.Value.bool false)), type := 4, pos := "law.go:134", after := #[{ on := 5, ground := Go.Ground.data }, { on := 11, ground := Go.Ground.data }], guard := none }) (v := ?_) rfl (by kernel_rfl) (by kernel_rfl) (by kernel_rfl) (fun _ _ _ h => h) (Or.inl ⟨by rfl, ?_⟩) (by assumption) ?_
  rotate_left
  · intro w hSw
    go_simp
    try with_reducible rfl
  simp only [Act.put, List.setIfInBounds_toArray, List.set_cons_zero, List.set_cons_succ]
  refine wpAnyH_take (i := 13) (oi := { dst := some 4, op := Go.Op.assign (Go.Operand.tmp 79), type := 4, pos := "law.go:134", after := #[{ on := 12, ground := Go.Ground.data }, { on := 7, ground := Go.Ground.chain }, { on := 0, ground := Go.Ground.phase }, { on := 1, ground := Go.Ground.phase }, { on := 2, ground := Go.Ground.phase }, { on := 3, ground := Go.Ground.phase }, { on := 4, ground := Go.Ground.phase }, { on := 5, ground := Go.Ground.phase }, { on := 6, ground := Go.Ground.phase }, { on := 7, ground := Go.Ground.phase }, { on := 8, ground := Go.Ground.phase }, { on := 9, ground := Go.Ground.phase }, { on := 10, ground := Go.Ground.phase }, { on := 11, ground := Go.Ground.phase }, { on := 12, ground := Go.Ground.phase }], guard := none }) (v := ?_) rfl (by kernel_rfl) (by kernel_rfl) (by kernel_rfl) (fun _ _ _ h => h) (Or.inl ⟨by rfl, ?_⟩) (by assumption) ?_
  rotate_left
  · intro w hSw
    go_simp
    try with_reducible rfl
  simp only [Act.put, List.setIfInBounds_toArray, List.set_cons_zero, List.set_cons_succ]
  refine wpAnyH_done (by kernel_rfl) ?_ _
  go_wp2_with fail
  go_ret
  exact ⟨rfl, hb8'⟩

set_option maxRecDepth 100000 in
theorem own_out {w : World} {A : Option Addr} {c0 n : Nat} (t : Int) (h : ¬ (0 < n ∧ n ≤ 20000 ∧ 0 ≤ t)) :
    Calls Try.prog 3 #[.slice A n c0, .int .i64 t] w fun e w' => e = .returned (.bool true) ∧ Below w.heap.size w w' := by
  have H := Lib.hid h
  clear h
  by_cases h1 : n = 0
  · have t1 : ((n : Int) == 0) = true := beq_iff_eq.2 (by omega)
    clear h1
    go_enter Try.func3, Try.ntmps3
    go_wp2_with fail
    refine (awake12 _).mono ?_
    rintro e w1 ⟨rfl, hb1⟩
    go_wp2_with fail
    refine (new_dev _).mono ?_
    rintro e w2 ⟨rfl, hD2, hb2⟩
    go_wp2_with fail
    go_ret
    exact ⟨rfl, hb1.trans (hb2.mono hb1.size)⟩
  have t1 : ((n : Int) == 0) = false := beq_eq_false_iff_ne.2 (by omega)
  by_cases h2 : 20000 < n
  · have t2 : decide ((20000 : Int) < (n : Int)) = true := by simp; omega
    clear h1
    go_enter Try.func3, Try.ntmps3
    go_wp2_with fail
    refine (awake12 _).mono ?_
    rintro e w1 ⟨rfl, hb1⟩
    go_wp2_with fail
    refine (new_dev _).mono ?_
    rintro e w2 ⟨rfl, hD2, hb2⟩
    go_wp2_with fail
    go_ret
    exact ⟨rfl, hb1.trans (hb2.mono hb1.size)⟩
  have t2 : decide ((20000 : Int) < (n : Int)) = false := by simp; omega
  by_cases h3 : t < 0
  · have t3 : decide (t < 0) = true := by simpa using h3
    clear h1
    go_enter Try.func3, Try.ntmps3
    go_wp2_with fail
    refine (awake12 _).mono ?_
    rintro e w1 ⟨rfl, hb1⟩
    go_wp2_with fail
    refine (new_dev _).mono ?_
    rintro e w2 ⟨rfl, hD2, hb2⟩
    go_wp2_with fail
    go_ret
    exact ⟨rfl, hb1.trans (hb2.mono hb1.size)⟩
  exact absurd (show 0 < n ∧ n ≤ 20000 ∧ 0 ≤ t from by omega) H.out

theorem own_all {w : World} {A : Option Addr} {c0 : Nat} {xs : List Int} (t : Int) (hx : Came w A c0 xs) :
    Calls Try.prog 3 #[.slice A xs.length c0, .int .i64 t] w fun e w' => e = .returned (.bool true) ∧ Below w.heap.size w w' := by
  by_cases h : 0 < xs.length ∧ xs.length ≤ 20000 ∧ 0 ≤ t
  · obtain ⟨a, b, c⟩ := h
    obtain ⟨t', rfl⟩ := Int.eq_ofNat_of_zero_le c
    exact own_walk t' hx a b
  · exact own_out t h
end Go.Proofs.Ytaakamjjglpibaa.Dv
