/-
  The reference's device: Restart.
-/
import Derived.Test.YtaakamjjglpibaaRefB
namespace Go.Proofs.Ytaakamjjglpibaa.Dv
open Go.RowKit

theorem rrestart_fin {w w4 : World} {base r k m : Nat} {vl vt v : Value} {s : RS} (hD : RefAt w base r vl vt s) (hb : Below w.heap.size w w4) (hown : w4.ownsRow w.heap.size 5 1 v m (cellsOf s.l ++ cellsOf (s.t.take k))) (keep : Int) (hk : min k s.t.length = min (max keep 0).toNat s.t.length ∧ k ≤ s.t.length ∧ m = s.l.length + k) :
    RefPost w base r vl vt (.tuple #[]) (s.restart keep) (.returned (.tuple #[])) ((((w4.setCell ⟨r, 0, none⟩ v).setCell ⟨r, 1, none⟩ (.slice none 0 0)).setCell ⟨r, 3, none⟩ (.bool false)).setCell ⟨r, 2, none⟩ (.int .i64 (-1))) := by
  have hrlt := hD.blk.lt
  have hbase : base ≤ w.heap.size := by have := hD.bd; omega
  have hvr : v.ownBlock ≠ some r := fun h => by have := (hown.lt r h).1; omega
  have B2 := hD.blk.below hb hrlt
  have hO2 : Only (fun k => k = r ∨ vt.ownBlock = some k) w w4 := ⟨hb.os, hb.tape, hb.output, hb.size, fun k hk _ => hb.block k hk⟩
  have hs : s.restart keep = ⟨s.l ++ s.t.take k, [], -1, false⟩ := by
    unfold RS.restart
    rw [show min (max keep 0).toNat s.t.length = k from by omega]
  have hlen := hD.len
  have hl : (s.l ++ s.t.take k).length = m := by rw [List.length_append, List.length_take]; omega
  have hc : cellsOf (s.l ++ s.t.take k) = cellsOf s.l ++ cellsOf (s.t.take k) := by simp [cellsOf]
  rw [hs]
  refine ⟨rfl, v, .slice none 0 0, ⟨?_, ?_, World.ownsRow_nil _ _ _ _, fun k _ h => by simp [Value.ownBlock] at h, hD.bd, ?_, by simp, by simp, ?_⟩,
    (((hO2.setCell (p := ⟨r, 0, none⟩) (fun _ => .inl rfl) _).setCell (p := ⟨r, 1, none⟩) (fun _ => .inl rfl) _).setCell (p := ⟨r, 3, none⟩) (fun _ => .inl rfl) _).setCell (p := ⟨r, 2, none⟩) (fun _ => .inl rfl) _, .inr fun k hk => (hown.lt k hk).1, .inr fun k hk => by simp [Value.ownBlock] at hk⟩
  · exact (((B2.set_ 0 v).set_ 1 (.slice none 0 0)).set_ 3 (.bool false)).set_ 2 (.int .i64 (-1))
  · show World.ownsRow _ base 5 1 v (s.l ++ s.t.take k).length (cellsOf (s.l ++ s.t.take k))
    rw [hl, hc]
    exact own_mono (ownsRow_setCell_other (ownsRow_setCell_other (ownsRow_setCell_other (ownsRow_setCell_other hown (a := ⟨r, 0, none⟩) hvr v) (a := ⟨r, 1, none⟩) hvr _) (a := ⟨r, 3, none⟩) hvr _) (a := ⟨r, 2, none⟩) hvr _) hbase
  · show (s.l ++ s.t.take k).length + 0 ≤ 60000
    omega
  · intro x hx
    simp only [List.append_nil] at hx
    rcases List.mem_append.1 hx with h | h
    · exact hD.byt x (List.mem_append_left _ h)
    · exact hD.byt x (List.mem_append_right _ (List.mem_of_mem_take h))

set_option maxRecDepth 100000 in
set_option maxHeartbeats 1600000 in
theorem rrestart_a {w : World} {base r : Nat} {vl vt : Value} {s : RS} (keep : Int) (h0 : keep < 0) (hD : RefAt w base r vl vt s) :
    Calls Try.prog 28 #[.pointer (some ⟨r, 0, none⟩), .int .i64 keep] w (RefPost w base r vl vt (.tuple #[]) (s.restart keep)) := by
  obtain ⟨a, cl, a2, c2, rfl, rfl, hcl, hclm, hc2, hc2m⟩ := hD.shapes
  have hlen := hD.len
  have hrlt := hD.blk.lt
  unfold maxLen at hclm hc2m
  obtain ⟨i5, hi5, hz5, hs5, hb5⟩ := info_parts Try.info5
  go_enter Try.func28, Try.ntmps28
  go_wp2_with fail
  refine wp_region_late (z := 23) (S := fun W => W.cell? ⟨r, 0, none⟩ = some (.slice a s.l.length cl) ∧ W.cell? ⟨r, 1, none⟩ = some (.slice a2 s.t.length c2)) (by kernel_rfl) hD.drew.cells2 (fun hHeld => ?_)
  refine wpAnyJ_take (i := 0) (oi := { dst := some 4, op := Go.Op.move (Go.Operand.tmp 0), type := 37, pos := "ref.go:81", after := #[], guard := none }) (v := ?_) rfl (by kernel_rfl) (by kernel_rfl) (by kernel_rfl) (by kernel_rfl) (fun _ _ _ h => h) (Or.inl ⟨by rfl, ?_⟩) (by assumption) ?_
  rotate_left
  · intro w hSw
    go_simp
    try with_reducible rfl
  simp only [Act.put, List.setIfInBounds_toArray, List.set_cons_zero, List.set_cons_succ]
  refine wpAnyJ_take (i := 2) (oi := { dst := some 6, op := Go.Op.move (Go.Operand.tmp 0), type := 37, pos := "ref.go:81", after := #[], guard := none }) (v := ?_) rfl (by kernel_rfl) (by kernel_rfl) (by kernel_rfl) (by kernel_rfl) (fun _ _ _ h => h) (Or.inl ⟨by rfl, ?_⟩) (by assumption) ?_
  rotate_left
  · intro w hSw
    go_simp
    try with_reducible rfl
  simp only [Act.put, List.setIfInBounds_toArray, List.set_cons_zero, List.set_cons_succ]
  refine wpAnyJ_take (i := 3) (oi := { dst := some 7, op := Go.Op.nilCheck (Go.Operand.tmp 6), type := 0, pos := "ref.go:81", after := #[{ on := 2, ground := Go.Ground.data }], guard := none }) (v := ?_) rfl (by kernel_rfl) (by kernel_rfl) (by kernel_rfl) (by kernel_rfl) (fun _ _ _ h => h) (Or.inl ⟨by rfl, ?_⟩) (by assumption) ?_
  rotate_left
  · intro w hSw
    go_simp
    try with_reducible rfl
  simp only [Act.put, List.setIfInBounds_toArray, List.set_cons_zero, List.set_cons_succ]
  refine wpAnyJ_take (i := 4) (oi := { dst := some 8, op := Go.Op.fieldAddr 42 (Go.Operand.tmp 7) 0, type := 0, pos := "ref.go:81", after := #[{ on := 3, ground := Go.Ground.data }], guard := none }) (v := ?_) rfl (by kernel_rfl) (by kernel_rfl) (by kernel_rfl) (by kernel_rfl) (fun _ _ _ h => h) (Or.inl ⟨by rfl, ?_⟩) (by assumption) ?_
  rotate_left
  · intro w hSw
    go_simp
    try with_reducible rfl
  simp only [Act.put, List.setIfInBounds_toArray, List.set_cons_zero, List.set_cons_succ]
  refine wpAnyJ_take (i := 5) (oi := { dst := some 9, op := Go.Op.load 22 (Go.Operand.tmp 8), type := 22, pos := "ref.go:81", after := #[{ on := 4, ground := Go.Ground.data }], guard := none }) (v := ?_) rfl (by kernel_rfl) (by kernel_rfl) (by kernel_rfl) (by kernel_rfl) (fun _ _ _ h => h) (Or.inl ⟨by rfl, ?_⟩) (by assumption) ?_
  rotate_left
  · intro w hSw
    go_simp
    try with_reducible rfl
  simp only [Act.put, List.setIfInBounds_toArray, List.set_cons_zero, List.set_cons_succ]
  refine wpAnyJ_take (i := 7) (oi := { dst := some 11, op := Go.Op.move (Go.Operand.tmp 0), type := 37, pos := "ref.go:81", after := #[], guard := none }) (v := ?_) rfl (by kernel_rfl) (by kernel_rfl) (by kernel_rfl) (by kernel_rfl) (fun _ _ _ h => h) (Or.inl ⟨by rfl, ?_⟩) (by assumption) ?_
  rotate_left
  · intro w hSw
    go_simp
    try with_reducible rfl
  simp only [Act.put, List.setIfInBounds_toArray, List.set_cons_zero, List.set_cons_succ]
  refine wpAnyJ_take (i := 8) (oi := { dst := some 12, op := Go.Op.nilCheck (Go.Operand.tmp 11), type := 0, pos := "ref.go:81", after := #[{ on := 7, ground := Go.Ground.data }], guard := none }) (v := ?_) rfl (by kernel_rfl) (by kernel_rfl) (by kernel_rfl) (by kernel_rfl) (fun _ _ _ h => h) (Or.inl ⟨by rfl, ?_⟩) (by assumption) ?_
  rotate_left
  · intro w hSw
    go_simp
    try with_reducible rfl
  simp only [Act.put, List.setIfInBounds_toArray, List.set_cons_zero, List.set_cons_succ]
  refine wpAnyJ_take (i := 9) (oi := { dst := some 13, op := Go.Op.fieldAddr 42 (Go.Operand.tmp 12) 1, type := 0, pos := "ref.go:81", after := #[{ on := 8, ground := Go.Ground.data }], guard := none }) (v := ?_) rfl (by kernel_rfl) (by kernel_rfl) (by kernel_rfl) (by kernel_rfl) (fun _ _ _ h => h) (Or.inl ⟨by rfl, ?_⟩) (by assumption) ?_
  rotate_left
  · intro w hSw
    go_simp
    try with_reducible rfl
  simp only [Act.put, List.setIfInBounds_toArray, List.set_cons_zero, List.set_cons_succ]
  refine wpAnyJ_take (i := 10) (oi := { dst := some 14, op := Go.Op.load 22 (Go.Operand.tmp 13), type := 22, pos := "ref.go:81", after := #[{ on := 9, ground := Go.Ground.data }], guard := none }) (v := ?_) rfl (by kernel_rfl) (by kernel_rfl) (by kernel_rfl) (by kernel_rfl) (fun _ _ _ h => h) (Or.inl ⟨by rfl, ?_⟩) (by assumption) ?_
  rotate_left
  · intro w hSw
    go_simp
    try with_reducible rfl
  simp only [Act.put, List.setIfInBounds_toArray, List.set_cons_zero, List.set_cons_succ]
  refine wpAnyJ_take (i := 11) (oi := { dst := some 15, op := Go.Op.move (Go.Operand.tmp 1), type := 3, pos := "ref.go:81", after := #[], guard := none }) (v := ?_) rfl (by kernel_rfl) (by kernel_rfl) (by kernel_rfl) (by kernel_rfl) (fun _ _ _ h => h) (Or.inl ⟨by rfl, ?_⟩) (by assumption) ?_
  rotate_left
  · intro w hSw
    go_simp
    try with_reducible rfl
  simp only [Act.put, List.setIfInBounds_toArray, List.set_cons_zero, List.set_cons_succ]
  refine wpAnyJ_take (i := 12) (oi := { dst := some 16, op := Go.Op.call { callee := Go.Callee.builtin Go.Builtin.max, args := #[Go.Operand.tmp 15, Go.Operand.const (Go.Value.int Go.IntKind.i64 0)], argTypes := #[3, 3] }, type := 3, pos := "ref.go:81", after := #[{ on := 11, ground := Go.Ground.data }], guard := none }) (v := ?_) rfl (by kernel_rfl) (by kernel_rfl) (by kernel_rfl) (by kernel_rfl) (fun _ _ _ h => h) (Or.inl ⟨by rfl, ?_⟩) (by assumption) ?_
  rotate_left
  · intro w hSw
    go_simp
    try with_reducible rfl
  simp only [Act.put, List.setIfInBounds_toArray, List.set_cons_zero, List.set_cons_succ]
  refine wpAnyJ_take (i := 13) (oi := { dst := some 17, op := Go.Op.move (Go.Operand.tmp 0), type := 37, pos := "ref.go:81", after := #[], guard := none }) (v := ?_) rfl (by kernel_rfl) (by kernel_rfl) (by kernel_rfl) (by kernel_rfl) (fun _ _ _ h => h) (Or.inl ⟨by rfl, ?_⟩) (by assumption) ?_
  rotate_left
  · intro w hSw
    go_simp
    try with_reducible rfl
  simp only [Act.put, List.setIfInBounds_toArray, List.set_cons_zero, List.set_cons_succ]
  refine wpAnyJ_take (i := 14) (oi := { dst := some 18, op := Go.Op.nilCheck (Go.Operand.tmp 17), type := 0, pos := "ref.go:81", after := #[{ on := 13, ground := Go.Ground.data }], guard := none }) (v := ?_) rfl (by kernel_rfl) (by kernel_rfl) (by kernel_rfl) (by kernel_rfl) (fun _ _ _ h => h) (Or.inl ⟨by rfl, ?_⟩) (by assumption) ?_
  rotate_left
  · intro w hSw
    go_simp
    try with_reducible rfl
  simp only [Act.put, List.setIfInBounds_toArray, List.set_cons_zero, List.set_cons_succ]
  refine wpAnyJ_take (i := 15) (oi := { dst := some 19, op := Go.Op.fieldAddr 42 (Go.Operand.tmp 18) 1, type := 0, pos := "ref.go:81", after := #[{ on := 14, ground := Go.Ground.data }], guard := none }) (v := ?_) rfl (by kernel_rfl) (by kernel_rfl) (by kernel_rfl) (by kernel_rfl) (fun _ _ _ h => h) (Or.inl ⟨by rfl, ?_⟩) (by assumption) ?_
  rotate_left
  · intro w hSw
    go_simp
    try with_reducible rfl
  simp only [Act.put, List.setIfInBounds_toArray, List.set_cons_zero, List.set_cons_succ]
  refine wpAnyJ_take (i := 16) (oi := { dst := some 20, op := Go.Op.load 22 (Go.Operand.tmp 19), type := 22, pos := "ref.go:81", after := #[{ on := 15, ground := Go.Ground.data }], guard := none }) (v := ?_) rfl (by kernel_rfl) (by kernel_rfl) (by kernel_rfl) (by kernel_rfl) (fun _ _ _ h => h) (Or.inl ⟨by rfl, ?_⟩) (by assumption) ?_
  rotate_left
  · intro w hSw
    go_simp
    try with_reducible rfl
  simp only [Act.put, List.setIfInBounds_toArray, List.set_cons_zero, List.set_cons_succ]
  refine wpAnyJ_take (i := 17) (oi := { dst := some 21, op := Go.Op.call { callee := Go.Callee.builtin Go.Builtin.len, args := #[Go.Operand.tmp 20], argTypes := #[22] }, type := 3, pos := "ref.go:81", after := #[{ on := 16, ground := Go.Ground.data }], guard := none }) (v := ?_) rfl (by kernel_rfl) (by kernel_rfl) (by kernel_rfl) (by kernel_rfl) (fun _ _ _ h => h) (Or.inl ⟨by rfl, ?_⟩) (by assumption) ?_
  rotate_left
  · intro w hSw
    go_simp
    try with_reducible rfl
  simp only [Act.put, List.setIfInBounds_toArray, List.set_cons_zero, List.set_cons_succ]
  refine wpAnyJ_take (i := 18) (oi := { dst := some 22, op := Go.Op.call { callee := Go.Callee.builtin Go.Builtin.min, args := #[Go.Operand.tmp 16, Go.Operand.tmp 21], argTypes := #[3, 3] }, type := 3, pos := "ref.go:81", after := #[{ on := 12, ground := Go.Ground.data }, { on := 17, ground := Go.Ground.data }], guard := none }) (v := (Value.int .i64 (0 : Nat))) rfl (by kernel_rfl) (by kernel_rfl) (by kernel_rfl) (by kernel_rfl) (fun _ _ _ h => h) (Or.inl ⟨by rfl, ?_⟩) (by assumption) ?_
  · intro w hSw
    go_simp
    first | done | (intro h; omega) | (with_reducible rfl) | (rw [if_neg (by omega)]; done) | (rw [if_neg (by omega)]; rfl) | (rw [if_pos (by omega)]; done) | (rw [if_pos (by omega)]; rfl)
  simp only [Act.put, List.setIfInBounds_toArray, List.set_cons_zero, List.set_cons_succ]
  have hkc : ((0 : Nat) : Int) ≤ (c2 : Int) := by omega
  refine wpAnyJ_take (i := 19) (oi := { dst := some 23, op := Go.Op.slice 22 (Go.Operand.tmp 14) none (some (Go.Operand.tmp 22)) none, type := 22, pos := "ref.go:81", after := #[{ on := 10, ground := Go.Ground.data }, { on := 18, ground := Go.Ground.data }], guard := none }) (v := ?_) rfl (by kernel_rfl) (by kernel_rfl) (by kernel_rfl) (by kernel_rfl) (fun _ _ _ h => h) (Or.inl ⟨by rfl, ?_⟩) (by assumption) ?_
  rotate_left
  · intro w hSw
    go_simp
    try with_reducible rfl
  simp only [Act.put, List.setIfInBounds_toArray, List.set_cons_zero, List.set_cons_succ]
  refine wpAnyJ_one (i := 1) (o := { dst := some 5, op := Go.Op.buildSlice 22 0 #[], type := 22, pos := "ref.go:81", after := #[], guard := none }) (by kernel_rfl) (by decide) rfl (fun K hK => ?_)
  go_simp
  have hD1 : RefAt (w.drew.alloc (.cells #[] 5)) base r _ _ s := hD.drew.alloc _
  refine hK.out _ _ hD1.cells2 (fun hHeld => ?_)
  clear hK K
  refine wpAnyJ_one (i := 6) (o := { dst := some 10, op := Go.Op.call { callee := Go.Callee.builtin Go.Builtin.append, args := #[Go.Operand.tmp 5, Go.Operand.tmp 9], argTypes := #[22, 22] }, type := 22, pos := "ref.go:81", after := #[{ on := 1, ground := Go.Ground.data }, { on := 5, ground := Go.Ground.data }], guard := none }) (by kernel_rfl) (by decide) rfl (fun K hK => ?_)
  have hrL := Reads.of_own hD1.ownL
  have ho0 := own_none w.drew w.heap.size (Nat.le_refl _)
  refine step_append_any _ rfl (.tmp 5) (.tmp 9) 22 rfl w.heap.size 5 i5 _ 1 1 Try.underlying22 hi5 hz5 hs5 hb5 rfl (by omega) (.slice (some ⟨w.heap.size, 0, none⟩) 0 0) 0 [] rfl ho0 _ a s.l.length cl (cellsOf s.l) rfl hrL (ints_oneCell _ _) (by unfold maxLen; omega) (by omega) (by simp) ?_
  intro v3 w3 hown3 hg3 hat3
  clear hat3
  simp only [Nat.zero_add, List.nil_append] at hown3
  obtain ⟨a3, cap3, rfl, _, _⟩ := own_shape hown3
  have Hown3 := Lib.hid hown3
  have Hg3 := Lib.hid hg3
  clear hown3 hg3
  have hD3 : RefAt w3 base r _ _ s := hD1.only (S := fun k => k = w.heap.size) ((Only.refl _ _).grown Hg3.out (fun k hk _ => by simp [Value.ownBlock] at hk; omega)) (by omega) (fun k hk => by have := (hD.ownL.lt k hk).2; omega) (fun k hk => by have := (hD.ownT.lt k hk).2; omega)
  refine hK.out _ _ hD3.cells2 (fun hHeld => ?_)
  clear hK K
  simp only [Act.put, List.setIfInBounds_toArray, List.set_cons_zero, List.set_cons_succ]
  refine wpAnyJ_one (i := 20) (o := { dst := some 24, op := Go.Op.call { callee := Go.Callee.builtin Go.Builtin.append, args := #[Go.Operand.tmp 10, Go.Operand.tmp 23], argTypes := #[22, 22] }, type := 22, pos := "ref.go:81", after := #[{ on := 6, ground := Go.Ground.data }, { on := 19, ground := Go.Ground.data }, { on := 6, ground := Go.Ground.chain }], guard := none }) (by kernel_rfl) (by decide) rfl (fun K hK => ?_)
  have hrT := Reads.of_own (own_take hD3.ownT (Nat.zero_le _))
  have hsz3 : w.heap.size ≤ w3.heap.size := by have := Hg3.out.size; simp at this; omega
  have htl : (cellsOf s.t).take 0 = cellsOf (s.t.take 0) := by unfold cellsOf; rw [List.map_take]
  rw [htl] at hrT
  refine step_append_any _ rfl (.tmp 10) (.tmp 23) 22 rfl w.heap.size 5 i5 _ 1 1 Try.underlying22 hi5 hz5 hs5 hb5 rfl (by omega) (.slice a3 s.l.length cap3) s.l.length (cellsOf s.l) rfl Hown3.out _ a2 0 c2 (cellsOf (s.t.take 0)) rfl hrT (ints_oneCell _ _) (by unfold maxLen; omega) (by omega) hsz3 ?_
  intro v4 w4 hown4 hg4 hat4
  clear hat4
  obtain ⟨a4, cap4, rfl, _, _⟩ := own_shape hown4
  have Hown4 := Lib.hid hown4
  have Hg4 := Lib.hid hg4
  clear hown4 hg4
  have hb3 : Below w.heap.size w w3 := ((Below.refl w.heap.size w).drew.alloc (Nat.le_refl _) (.cells #[] 5)).grown Hg3.out (by simp) (fun k hk => by simp [Value.ownBlock] at hk; omega)
  have hb4 : Below w.heap.size w w4 := hb3.grown Hg4.out hsz3 (fun k hk => (Hown3.out.lt k hk).1)
  have hD4 : RefAt w4 base r _ _ s := hD3.only (S := fun k => (Value.slice a3 s.l.length cap3).ownBlock = some k) ((Only.refl _ _).grown Hg4.out (fun k hk _ => hk)) (fun h => by have := (Hown3.out.lt r h).1; omega) (fun k hk h => by have := (Hown3.out.lt k h).1; have := (hD.ownL.lt k hk).2; omega) (fun k hk h => by have := (Hown3.out.lt k h).1; have := (hD.ownT.lt k hk).2; omega)
  refine hK.out _ _ hD4.cells2 (fun hHeld => ?_)
  clear hK K
  simp only [Act.put, List.setIfInBounds_toArray, List.set_cons_zero, List.set_cons_succ]
  refine wpAnyJ_one (i := 21) (o := { dst := some 25, op := Go.Op.nilCheck (Go.Operand.tmp 4), type := 0, pos := "ref.go:81", after := #[{ on := 0, ground := Go.Ground.data }, { on := 0, ground := Go.Ground.phase }, { on := 1, ground := Go.Ground.phase }, { on := 2, ground := Go.Ground.phase }, { on := 3, ground := Go.Ground.phase }, { on := 4, ground := Go.Ground.phase }, { on := 5, ground := Go.Ground.phase }, { on := 6, ground := Go.Ground.phase }, { on := 7, ground := Go.Ground.phase }, { on := 8, ground := Go.Ground.phase }, { on := 9, ground := Go.Ground.phase }, { on := 10, ground := Go.Ground.phase }, { on := 11, ground := Go.Ground.phase }, { on := 12, ground := Go.Ground.phase }, { on := 13, ground := Go.Ground.phase }, { on := 14, ground := Go.Ground.phase }, { on := 15, ground := Go.Ground.phase }, { on := 16, ground := Go.Ground.phase }, { on := 17, ground := Go.Ground.phase }, { on := 18, ground := Go.Ground.phase }, { on := 19, ground := Go.Ground.phase }, { on := 20, ground := Go.Ground.phase }], guard := none }) (by kernel_rfl) (by decide) rfl (fun K hK => ?_)
  go_simp
  refine hK.out _ _ hD4.cells2 (fun hHeld => ?_)
  clear hK K
  refine wpAnyJ_one (i := 22) (o := { dst := some 26, op := Go.Op.fieldAddr 42 (Go.Operand.tmp 25) 0, type := 0, pos := "ref.go:81", after := #[{ on := 21, ground := Go.Ground.data }, { on := 0, ground := Go.Ground.phase }, { on := 1, ground := Go.Ground.phase }, { on := 2, ground := Go.Ground.phase }, { on := 3, ground := Go.Ground.phase }, { on := 4, ground := Go.Ground.phase }, { on := 5, ground := Go.Ground.phase }, { on := 6, ground := Go.Ground.phase }, { on := 7, ground := Go.Ground.phase }, { on := 8, ground := Go.Ground.phase }, { on := 9, ground := Go.Ground.phase }, { on := 10, ground := Go.Ground.phase }, { on := 11, ground := Go.Ground.phase }, { on := 12, ground := Go.Ground.phase }, { on := 13, ground := Go.Ground.phase }, { on := 14, ground := Go.Ground.phase }, { on := 15, ground := Go.Ground.phase }, { on := 16, ground := Go.Ground.phase }, { on := 17, ground := Go.Ground.phase }, { on := 18, ground := Go.Ground.phase }, { on := 19, ground := Go.Ground.phase }, { on := 20, ground := Go.Ground.phase }], guard := none }) (by kernel_rfl) (by decide) rfl (fun K hK => ?_)
  go_simp
  refine hK.out _ _ hD4.cells2 (fun hHeld => ?_)
  clear hK K
  have g0 := hD4.blk.cell 0
  have g1 := hD4.blk.cell 1
  have g2 := hD4.blk.cell 2
  have g3 := hD4.blk.cell 3
  have f0 := hD4.blk.frozen 0
  have f1 := hD4.blk.frozen 1
  have f2 := hD4.blk.frozen 2
  have f3 := hD4.blk.frozen 3
  simp at g0 g1 g2 g3
  refine wpAnyJ_last (o := { dst := none, op := Go.Op.store 22 (Go.Operand.tmp 26) (Go.Operand.tmp 24), type := 0, pos := "ref.go:81", after := #[{ on := 22, ground := Go.Ground.data }, { on := 20, ground := Go.Ground.data }, { on := 20, ground := Go.Ground.chain }, { on := 0, ground := Go.Ground.phase }, { on := 1, ground := Go.Ground.phase }, { on := 2, ground := Go.Ground.phase }, { on := 3, ground := Go.Ground.phase }, { on := 4, ground := Go.Ground.phase }, { on := 5, ground := Go.Ground.phase }, { on := 6, ground := Go.Ground.phase }, { on := 7, ground := Go.Ground.phase }, { on := 8, ground := Go.Ground.phase }, { on := 9, ground := Go.Ground.phase }, { on := 10, ground := Go.Ground.phase }, { on := 11, ground := Go.Ground.phase }, { on := 12, ground := Go.Ground.phase }, { on := 13, ground := Go.Ground.phase }, { on := 14, ground := Go.Ground.phase }, { on := 15, ground := Go.Ground.phase }, { on := 16, ground := Go.Ground.phase }, { on := 17, ground := Go.Ground.phase }, { on := 18, ground := Go.Ground.phase }, { on := 19, ground := Go.Ground.phase }, { on := 20, ground := Go.Ground.phase }], guard := none }) (by kernel_rfl) rfl (fun K hK => ?_)
  go_simp
  refine hK.out _ _ ?_
  clear hK K
  refine wpAnyJ_done (by kernel_rfl) ?_ _
  go_wp2_with fail
  go_end0
  exact rrestart_fin hD hb4 Hown4.out keep ⟨by omega, by omega, rfl⟩

set_option maxRecDepth 100000 in
set_option maxHeartbeats 1600000 in
theorem rrestart_b {w : World} {base r : Nat} {vl vt : Value} {s : RS} (k : Nat) (h0 : k ≤ s.t.length) (hD : RefAt w base r vl vt s) :
    Calls Try.prog 28 #[.pointer (some ⟨r, 0, none⟩), .int .i64 k] w (RefPost w base r vl vt (.tuple #[]) (s.restart k)) := by
  obtain ⟨a, cl, a2, c2, rfl, rfl, hcl, hclm, hc2, hc2m⟩ := hD.shapes
  have hlen := hD.len
  have hrlt := hD.blk.lt
  unfold maxLen at hclm hc2m
  obtain ⟨i5, hi5, hz5, hs5, hb5⟩ := info_parts Try.info5
  go_enter Try.func28, Try.ntmps28
  go_wp2_with fail
  refine wp_region_late (z := 23) (S := fun W => W.cell? ⟨r, 0, none⟩ = some (.slice a s.l.length cl) ∧ W.cell? ⟨r, 1, none⟩ = some (.slice a2 s.t.length c2)) (by kernel_rfl) hD.drew.cells2 (fun hHeld => ?_)
  refine wpAnyJ_take (i := 0) (oi := { dst := some 4, op := Go.Op.move (Go.Operand.tmp 0), type := 37, pos := "ref.go:81", after := #[], guard := none }) (v := ?_) rfl (by kernel_rfl) (by kernel_rfl) (by kernel_rfl) (by kernel_rfl) (fun _ _ _ h => h) (Or.inl ⟨by rfl, ?_⟩) (by assumption) ?_
  rotate_left
  · intro w hSw
    go_simp
    try with_reducible rfl
  simp only [Act.put, List.setIfInBounds_toArray, List.set_cons_zero, List.set_cons_succ]
  refine wpAnyJ_take (i := 2) (oi := { dst := some 6, op := Go.Op.move (Go.Operand.tmp 0), type := 37, pos := "ref.go:81", after := #[], guard := none }) (v := ?_) rfl (by kernel_rfl) (by kernel_rfl) (by kernel_rfl) (by kernel_rfl) (fun _ _ _ h => h) (Or.inl ⟨by rfl, ?_⟩) (by assumption) ?_
  rotate_left
  · intro w hSw
    go_simp
    try with_reducible rfl
  simp only [Act.put, List.setIfInBounds_toArray, List.set_cons_zero, List.set_cons_succ]
  refine wpAnyJ_take (i := 3) (oi := { dst := some 7, op := Go.Op.nilCheck (Go.Operand.tmp 6), type := 0, pos := "ref.go:81", after := #[{ on := 2, ground := Go.Ground.data }], guard := none }) (v := ?_) rfl (by kernel_rfl) (by kernel_rfl) (by kernel_rfl) (by kernel_rfl) (fun _ _ _ h => h) (Or.inl ⟨by rfl, ?_⟩) (by assumption) ?_
  rotate_left
  · intro w hSw
    go_simp
    try with_reducible rfl
  simp only [Act.put, List.setIfInBounds_toArray, List.set_cons_zero, List.set_cons_succ]
  refine wpAnyJ_take (i := 4) (oi := { dst := some 8, op := Go.Op.fieldAddr 42 (Go.Operand.tmp 7) 0, type := 0, pos := "ref.go:81", after := #[{ on := 3, ground := Go.Ground.data }], guard := none }) (v := ?_) rfl (by kernel_rfl) (by kernel_rfl) (by kernel_rfl) (by kernel_rfl) (fun _ _ _ h => h) (Or.inl ⟨by rfl, ?_⟩) (by assumption) ?_
  rotate_left
  · intro w hSw
    go_simp
    try with_reducible rfl
  simp only [Act.put, List.setIfInBounds_toArray, List.set_cons_zero, List.set_cons_succ]
  refine wpAnyJ_take (i := 5) (oi := { dst := some 9, op := Go.Op.load 22 (Go.Operand.tmp 8), type := 22, pos := "ref.go:81", after := #[{ on := 4, ground := Go.Ground.data }], guard := none }) (v := ?_) rfl (by kernel_rfl) (by kernel_rfl) (by kernel_rfl) (by kernel_rfl) (fun _ _ _ h => h) (Or.inl ⟨by rfl, ?_⟩) (by assumption) ?_
  rotate_left
  · intro w hSw
    go_simp
    try with_reducible rfl
  simp only [Act.put, List.setIfInBounds_toArray, List.set_cons_zero, List.set_cons_succ]
  refine wpAnyJ_take (i := 7) (oi := { dst := some 11, op := Go.Op.move (Go.Operand.tmp 0), type := 37, pos := "ref.go:81", after := #[], guard := none }) (v := ?_) rfl (by kernel_rfl) (by kernel_rfl) (by kernel_rfl) (by kernel_rfl) (fun _ _ _ h => h) (Or.inl ⟨by rfl, ?_⟩) (by assumption) ?_
  rotate_left
  · intro w hSw
    go_simp
    try with_reducible rfl
  simp only [Act.put, List.setIfInBounds_toArray, List.set_cons_zero, List.set_cons_succ]
  refine wpAnyJ_take (i := 8) (oi := { dst := some 12, op := Go.Op.nilCheck (Go.Operand.tmp 11), type := 0, pos := "ref.go:81", after := #[{ on := 7, ground := Go.Ground.data }], guard := none }) (v := ?_) rfl (by kernel_rfl) (by kernel_rfl) (by kernel_rfl) (by kernel_rfl) (fun _ _ _ h => h) (Or.inl ⟨by rfl, ?_⟩) (by assumption) ?_
  rotate_left
  · intro w hSw
    go_simp
    try with_reducible rfl
  simp only [Act.put, List.setIfInBounds_toArray, List.set_cons_zero, List.set_cons_succ]
  refine wpAnyJ_take (i := 9) (oi := { dst := some 13, op := Go.Op.fieldAddr 42 (Go.Operand.tmp 12) 1, type := 0, pos := "ref.go:81", after := #[{ on := 8, ground := Go.Ground.data }], guard := none }) (v := ?_) rfl (by kernel_rfl) (by kernel_rfl) (by kernel_rfl) (by kernel_rfl) (fun _ _ _ h => h) (Or.inl ⟨by rfl, ?_⟩) (by assumption) ?_
  rotate_left
  · intro w hSw
    go_simp
    try with_reducible rfl
  simp only [Act.put, List.setIfInBounds_toArray, List.set_cons_zero, List.set_cons_succ]
  refine wpAnyJ_take (i := 10) (oi := { dst := some 14, op := Go.Op.load 22 (Go.Operand.tmp 13), type := 22, pos := "ref.go:81", after := #[{ on := 9, ground := Go.Ground.data }], guard := none }) (v := ?_) rfl (by kernel_rfl) (by kernel_rfl) (by kernel_rfl) (by kernel_rfl) (fun _ _ _ h => h) (Or.inl ⟨by rfl, ?_⟩) (by assumption) ?_
  rotate_left
  · intro w hSw
    go_simp
    try with_reducible rfl
  simp only [Act.put, List.setIfInBounds_toArray, List.set_cons_zero, List.set_cons_succ]
  refine wpAnyJ_take (i := 11) (oi := { dst := some 15, op := Go.Op.move (Go.Operand.tmp 1), type := 3, pos := "ref.go:81", after := #[], guard := none }) (v := ?_) rfl (by kernel_rfl) (by kernel_rfl) (by kernel_rfl) (by kernel_rfl) (fun _ _ _ h => h) (Or.inl ⟨by rfl, ?_⟩) (by assumption) ?_
  rotate_left
  · intro w hSw
    go_simp
    try with_reducible rfl
  simp only [Act.put, List.setIfInBounds_toArray, List.set_cons_zero, List.set_cons_succ]
  refine wpAnyJ_take (i := 12) (oi := { dst := some 16, op := Go.Op.call { callee := Go.Callee.builtin Go.Builtin.max, args := #[Go.Operand.tmp 15, Go.Operand.const (Go.Value.int Go.IntKind.i64 0)], argTypes := #[3, 3] }, type := 3, pos := "ref.go:81", after := #[{ on := 11, ground := Go.Ground.data }], guard := none }) (v := ?_) rfl (by kernel_rfl) (by kernel_rfl) (by kernel_rfl) (by kernel_rfl) (fun _ _ _ h => h) (Or.inl ⟨by rfl, ?_⟩) (by assumption) ?_
  rotate_left
  · intro w hSw
    go_simp
    try with_reducible rfl
  simp only [Act.put, List.setIfInBounds_toArray, List.set_cons_zero, List.set_cons_succ]
  refine wpAnyJ_take (i := 13) (oi := { dst := some 17, op := Go.Op.move (Go.Operand.tmp 0), type := 37, pos := "ref.go:81", after := #[], guard := none }) (v := ?_) rfl (by kernel_rfl) (by kernel_rfl) (by kernel_rfl) (by kernel_rfl) (fun _ _ _ h => h) (Or.inl ⟨by rfl, ?_⟩) (by assumption) ?_
  rotate_left
  · intro w hSw
    go_simp
    try with_reducible rfl
  simp only [Act.put, List.setIfInBounds_toArray, List.set_cons_zero, List.set_cons_succ]
  refine wpAnyJ_take (i := 14) (oi := { dst := some 18, op := Go.Op.nilCheck (Go.Operand.tmp 17), type := 0, pos := "ref.go:81", after := #[{ on := 13, ground := Go.Ground.data }], guard := none }) (v := ?_) rfl (by kernel_rfl) (by kernel_rfl) (by kernel_rfl) (by kernel_rfl) (fun _ _ _ h => h) (Or.inl ⟨by rfl, ?_⟩) (by assumption) ?_
  rotate_left
  · intro w hSw
    go_simp
    try with_reducible rfl
  simp only [Act.put, List.setIfInBounds_toArray, List.set_cons_zero, List.set_cons_succ]
  refine wpAnyJ_take (i := 15) (oi := { dst := some 19, op := Go.Op.fieldAddr 42 (Go.Operand.tmp 18) 1, type := 0, pos := "ref.go:81", after := #[{ on := 14, ground := Go.Ground.data }], guard := none }) (v := ?_) rfl (by kernel_rfl) (by kernel_rfl) (by kernel_rfl) (by kernel_rfl) (fun _ _ _ h => h) (Or.inl ⟨by rfl, ?_⟩) (by assumption) ?_
  rotate_left
  · intro w hSw
    go_simp
    try with_reducible rfl
  simp only [Act.put, List.setIfInBounds_toArray, List.set_cons_zero, List.set_cons_succ]
  refine wpAnyJ_take (i := 16) (oi := { dst := some 20, op := Go.Op.load 22 (Go.Operand.tmp 19), type := 22, pos := "ref.go:81", after := #[{ on := 15, ground := Go.Ground.data }], guard := none }) (v := ?_) rfl (by kernel_rfl) (by kernel_rfl) (by kernel_rfl) (by kernel_rfl) (fun _ _ _ h => h) (Or.inl ⟨by rfl, ?_⟩) (by assumption) ?_
  rotate_left
  · intro w hSw
    go_simp
    try with_reducible rfl
  simp only [Act.put, List.setIfInBounds_toArray, List.set_cons_zero, List.set_cons_succ]
  refine wpAnyJ_take (i := 17) (oi := { dst := some 21, op := Go.Op.call { callee := Go.Callee.builtin Go.Builtin.len, args := #[Go.Operand.tmp 20], argTypes := #[22] }, type := 3, pos := "ref.go:81", after := #[{ on := 16, ground := Go.Ground.data }], guard := none }) (v := ?_) rfl (by kernel_rfl) (by kernel_rfl) (by kernel_rfl) (by kernel_rfl) (fun _ _ _ h => h) (Or.inl ⟨by rfl, ?_⟩) (by assumption) ?_
  rotate_left
  · intro w hSw
    go_simp
    try with_reducible rfl
  simp only [Act.put, List.setIfInBounds_toArray, List.set_cons_zero, List.set_cons_succ]
  refine wpAnyJ_take (i := 18) (oi := { dst := some 22, op := Go.Op.call { callee := Go.Callee.builtin Go.Builtin.min, args := #[Go.Operand.tmp 16, Go.Operand.tmp 21], argTypes := #[3, 3] }, type := 3, pos := "ref.go:81", after := #[{ on := 12, ground := Go.Ground.data }, { on := 17, ground := Go.Ground.data }], guard := none }) (v := (Value.int .i64 (k : Nat))) rfl (by kernel_rfl) (by kernel_rfl) (by kernel_rfl) (by kernel_rfl) (fun _ _ _ h => h) (Or.inl ⟨by rfl, ?_⟩) (by assumption) ?_
  · intro w hSw
    go_simp
    first | done | (intro h; omega) | (with_reducible rfl) | (rw [if_neg (by omega)]; done) | (rw [if_neg (by omega)]; rfl) | (rw [if_pos (by omega)]; done) | (rw [if_pos (by omega)]; rfl)
  simp only [Act.put, List.setIfInBounds_toArray, List.set_cons_zero, List.set_cons_succ]
  have hkc : ((k : Nat) : Int) ≤ (c2 : Int) := by omega
  refine wpAnyJ_take (i := 19) (oi := { dst := some 23, op := Go.Op.slice 22 (Go.Operand.tmp 14) none (some (Go.Operand.tmp 22)) none, type := 22, pos := "ref.go:81", after := #[{ on := 10, ground := Go.Ground.data }, { on := 18, ground := Go.Ground.data }], guard := none }) (v := ?_) rfl (by kernel_rfl) (by kernel_rfl) (by kernel_rfl) (by kernel_rfl) (fun _ _ _ h => h) (Or.inl ⟨by rfl, ?_⟩) (by assumption) ?_
  rotate_left
  · intro w hSw
    go_simp
    try with_reducible rfl
  simp only [Act.put, List.setIfInBounds_toArray, List.set_cons_zero, List.set_cons_succ]
  refine wpAnyJ_one (i := 1) (o := { dst := some 5, op := Go.Op.buildSlice 22 0 #[], type := 22, pos := "ref.go:81", after := #[], guard := none }) (by kernel_rfl) (by decide) rfl (fun K hK => ?_)
  go_simp
  have hD1 : RefAt (w.drew.alloc (.cells #[] 5)) base r _ _ s := hD.drew.alloc _
  refine hK.out _ _ hD1.cells2 (fun hHeld => ?_)
  clear hK K
  refine wpAnyJ_one (i := 6) (o := { dst := some 10, op := Go.Op.call { callee := Go.Callee.builtin Go.Builtin.append, args := #[Go.Operand.tmp 5, Go.Operand.tmp 9], argTypes := #[22, 22] }, type := 22, pos := "ref.go:81", after := #[{ on := 1, ground := Go.Ground.data }, { on := 5, ground := Go.Ground.data }], guard := none }) (by kernel_rfl) (by decide) rfl (fun K hK => ?_)
  have hrL := Reads.of_own hD1.ownL
  have ho0 := own_none w.drew w.heap.size (Nat.le_refl _)
  refine step_append_any _ rfl (.tmp 5) (.tmp 9) 22 rfl w.heap.size 5 i5 _ 1 1 Try.underlying22 hi5 hz5 hs5 hb5 rfl (by omega) (.slice (some ⟨w.heap.size, 0, none⟩) 0 0) 0 [] rfl ho0 _ a s.l.length cl (cellsOf s.l) rfl hrL (ints_oneCell _ _) (by unfold maxLen; omega) (by omega) (by simp) ?_
  intro v3 w3 hown3 hg3 hat3
  clear hat3
  simp only [Nat.zero_add, List.nil_append] at hown3
  obtain ⟨a3, cap3, rfl, _, _⟩ := own_shape hown3
  have Hown3 := Lib.hid hown3
  have Hg3 := Lib.hid hg3
  clear hown3 hg3
  have hD3 : RefAt w3 base r _ _ s := hD1.only (S := fun k => k = w.heap.size) ((Only.refl _ _).grown Hg3.out (fun k hk _ => by simp [Value.ownBlock] at hk; omega)) (by omega) (fun k hk => by have := (hD.ownL.lt k hk).2; omega) (fun k hk => by have := (hD.ownT.lt k hk).2; omega)
  refine hK.out _ _ hD3.cells2 (fun hHeld => ?_)
  clear hK K
  simp only [Act.put, List.setIfInBounds_toArray, List.set_cons_zero, List.set_cons_succ]
  refine wpAnyJ_one (i := 20) (o := { dst := some 24, op := Go.Op.call { callee := Go.Callee.builtin Go.Builtin.append, args := #[Go.Operand.tmp 10, Go.Operand.tmp 23], argTypes := #[22, 22] }, type := 22, pos := "ref.go:81", after := #[{ on := 6, ground := Go.Ground.data }, { on := 19, ground := Go.Ground.data }, { on := 6, ground := Go.Ground.chain }], guard := none }) (by kernel_rfl) (by decide) rfl (fun K hK => ?_)
  have hrT := Reads.of_own (own_take hD3.ownT h0)
  have hsz3 : w.heap.size ≤ w3.heap.size := by have := Hg3.out.size; simp at this; omega
  have htl : (cellsOf s.t).take k = cellsOf (s.t.take k) := by unfold cellsOf; rw [List.map_take]
  rw [htl] at hrT
  refine step_append_any _ rfl (.tmp 10) (.tmp 23) 22 rfl w.heap.size 5 i5 _ 1 1 Try.underlying22 hi5 hz5 hs5 hb5 rfl (by omega) (.slice a3 s.l.length cap3) s.l.length (cellsOf s.l) rfl Hown3.out _ a2 k c2 (cellsOf (s.t.take k)) rfl hrT (ints_oneCell _ _) (by unfold maxLen; omega) (by omega) hsz3 ?_
  intro v4 w4 hown4 hg4 hat4
  clear hat4
  obtain ⟨a4, cap4, rfl, _, _⟩ := own_shape hown4
  have Hown4 := Lib.hid hown4
  have Hg4 := Lib.hid hg4
  clear hown4 hg4
  have hb3 : Below w.heap.size w w3 := ((Below.refl w.heap.size w).drew.alloc (Nat.le_refl _) (.cells #[] 5)).grown Hg3.out (by simp) (fun k hk => by simp [Value.ownBlock] at hk; omega)
  have hb4 : Below w.heap.size w w4 := hb3.grown Hg4.out hsz3 (fun k hk => (Hown3.out.lt k hk).1)
  have hD4 : RefAt w4 base r _ _ s := hD3.only (S := fun k => (Value.slice a3 s.l.length cap3).ownBlock = some k) ((Only.refl _ _).grown Hg4.out (fun k hk _ => hk)) (fun h => by have := (Hown3.out.lt r h).1; omega) (fun k hk h => by have := (Hown3.out.lt k h).1; have := (hD.ownL.lt k hk).2; omega) (fun k hk h => by have := (Hown3.out.lt k h).1; have := (hD.ownT.lt k hk).2; omega)
  refine hK.out _ _ hD4.cells2 (fun hHeld => ?_)
  clear hK K
  simp only [Act.put, List.setIfInBounds_toArray, List.set_cons_zero, List.set_cons_succ]
  refine wpAnyJ_one (i := 21) (o := { dst := some 25, op := Go.Op.nilCheck (Go.Operand.tmp 4), type := 0, pos := "ref.go:81", after := #[{ on := 0, ground := Go.Ground.data }, { on := 0, ground := Go.Ground.phase }, { on := 1, ground := Go.Ground.phase }, { on := 2, ground := Go.Ground.phase }, { on := 3, ground := Go.Ground.phase }, { on := 4, ground := Go.Ground.phase }, { on := 5, ground := Go.Ground.phase }, { on := 6, ground := Go.Ground.phase }, { on := 7, ground := Go.Ground.phase }, { on := 8, ground := Go.Ground.phase }, { on := 9, ground := Go.Ground.phase }, { on := 10, ground := Go.Ground.phase }, { on := 11, ground := Go.Ground.phase }, { on := 12, ground := Go.Ground.phase }, { on := 13, ground := Go.Ground.phase }, { on := 14, ground := Go.Ground.phase }, { on := 15, ground := Go.Ground.phase }, { on := 16, ground := Go.Ground.phase }, { on := 17, ground := Go.Ground.phase }, { on := 18, ground := Go.Ground.phase }, { on := 19, ground := Go.Ground.phase }, { on := 20, ground := Go.Ground.phase }], guard := none }) (by kernel_rfl) (by decide) rfl (fun K hK => ?_)
  go_simp
  refine hK.out _ _ hD4.cells2 (fun hHeld => ?_)
  clear hK K
  refine wpAnyJ_one (i := 22) (o := { dst := some 26, op := Go.Op.fieldAddr 42 (Go.Operand.tmp 25) 0, type := 0, pos := "ref.go:81", after := #[{ on := 21, ground := Go.Ground.data }, { on := 0, ground := Go.Ground.phase }, { on := 1, ground := Go.Ground.phase }, { on := 2, ground := Go.Ground.phase }, { on := 3, ground := Go.Ground.phase }, { on := 4, ground := Go.Ground.phase }, { on := 5, ground := Go.Ground.phase }, { on := 6, ground := Go.Ground.phase }, { on := 7, ground := Go.Ground.phase }, { on := 8, ground := Go.Ground.phase }, { on := 9, ground := Go.Ground.phase }, { on := 10, ground := Go.Ground.phase }, { on := 11, ground := Go.Ground.phase }, { on := 12, ground := Go.Ground.phase }, { on := 13, ground := Go.Ground.phase }, { on := 14, ground := Go.Ground.phase }, { on := 15, ground := Go.Ground.phase }, { on := 16, ground := Go.Ground.phase }, { on := 17, ground := Go.Ground.phase }, { on := 18, ground := Go.Ground.phase }, { on := 19, ground := Go.Ground.phase }, { on := 20, ground := Go.Ground.phase }], guard := none }) (by kernel_rfl) (by decide) rfl (fun K hK => ?_)
  go_simp
  refine hK.out _ _ hD4.cells2 (fun hHeld => ?_)
  clear hK K
  have g0 := hD4.blk.cell 0
  have g1 := hD4.blk.cell 1
  have g2 := hD4.blk.cell 2
  have g3 := hD4.blk.cell 3
  have f0 := hD4.blk.frozen 0
  have f1 := hD4.blk.frozen 1
  have f2 := hD4.blk.frozen 2
  have f3 := hD4.blk.frozen 3
  simp at g0 g1 g2 g3
  refine wpAnyJ_last (o := { dst := none, op := Go.Op.store 22 (Go.Operand.tmp 26) (Go.Operand.tmp 24), type := 0, pos := "ref.go:81", after := #[{ on := 22, ground := Go.Ground.data }, { on := 20, ground := Go.Ground.data }, { on := 20, ground := Go.Ground.chain }, { on := 0, ground := Go.Ground.phase }, { on := 1, ground := Go.Ground.phase }, { on := 2, ground := Go.Ground.phase }, { on := 3, ground := Go.Ground.phase }, { on := 4, ground := Go.Ground.phase }, { on := 5, ground := Go.Ground.phase }, { on := 6, ground := Go.Ground.phase }, { on := 7, ground := Go.Ground.phase }, { on := 8, ground := Go.Ground.phase }, { on := 9, ground := Go.Ground.phase }, { on := 10, ground := Go.Ground.phase }, { on := 11, ground := Go.Ground.phase }, { on := 12, ground := Go.Ground.phase }, { on := 13, ground := Go.Ground.phase }, { on := 14, ground := Go.Ground.phase }, { on := 15, ground := Go.Ground.phase }, { on := 16, ground := Go.Ground.phase }, { on := 17, ground := Go.Ground.phase }, { on := 18, ground := Go.Ground.phase }, { on := 19, ground := Go.Ground.phase }, { on := 20, ground := Go.Ground.phase }], guard := none }) (by kernel_rfl) rfl (fun K hK => ?_)
  go_simp
  refine hK.out _ _ ?_
  clear hK K
  refine wpAnyJ_done (by kernel_rfl) ?_ _
  go_wp2_with fail
  go_end0
  exact rrestart_fin hD hb4 Hown4.out k ⟨by omega, h0, rfl⟩

set_option maxRecDepth 100000 in
set_option maxHeartbeats 1600000 in
theorem rrestart_c {w : World} {base r : Nat} {vl vt : Value} {s : RS} (k : Nat) (hk : k ≤ 9223372036854775807) (h0 : s.t.length < k) (hD : RefAt w base r vl vt s) :
    Calls Try.prog 28 #[.pointer (some ⟨r, 0, none⟩), .int .i64 k] w (RefPost w base r vl vt (.tuple #[]) (s.restart k)) := by
  obtain ⟨a, cl, a2, c2, rfl, rfl, hcl, hclm, hc2, hc2m⟩ := hD.shapes
  have hlen := hD.len
  have hrlt := hD.blk.lt
  unfold maxLen at hclm hc2m
  obtain ⟨i5, hi5, hz5, hs5, hb5⟩ := info_parts Try.info5
  go_enter Try.func28, Try.ntmps28
  go_wp2_with fail
  refine wp_region_late (z := 23) (S := fun W => W.cell? ⟨r, 0, none⟩ = some (.slice a s.l.length cl) ∧ W.cell? ⟨r, 1, none⟩ = some (.slice a2 s.t.length c2)) (by kernel_rfl) hD.drew.cells2 (fun hHeld => ?_)
  refine wpAnyJ_take (i := 0) (oi := { dst := some 4, op := Go.Op.move (Go.Operand.tmp 0), type := 37, pos := "ref.go:81", after := #[], guard := none }) (v := ?_) rfl (by kernel_rfl) (by kernel_rfl) (by kernel_rfl) (by kernel_rfl) (fun _ _ _ h => h) (Or.inl ⟨by rfl, ?_⟩) (by assumption) ?_
  rotate_left
  · intro w hSw
    go_simp
    try with_reducible rfl
  simp only [Act.put, List.setIfInBounds_toArray, List.set_cons_zero, List.set_cons_succ]
  refine wpAnyJ_take (i := 2) (oi := { dst := some 6, op := Go.Op.move (Go.Operand.tmp 0), type := 37, pos := "ref.go:81", after := #[], guard := none }) (v := ?_) rfl (by kernel_rfl) (by kernel_rfl) (by kernel_rfl) (by kernel_rfl) (fun _ _ _ h => h) (Or.inl ⟨by rfl, ?_⟩) (by assumption) ?_
  rotate_left
  · intro w hSw
    go_simp
    try with_reducible rfl
  simp only [Act.put, List.setIfInBounds_toArray, List.set_cons_zero, List.set_cons_succ]
  refine wpAnyJ_take (i := 3) (oi := { dst := some 7, op := Go.Op.nilCheck (Go.Operand.tmp 6), type := 0, pos := "ref.go:81", after := #[{ on := 2, ground := Go.Ground.data }], guard := none }) (v := ?_) rfl (by kernel_rfl) (by kernel_rfl) (by kernel_rfl) (by kernel_rfl) (fun _ _ _ h => h) (Or.inl ⟨by rfl, ?_⟩) (by assumption) ?_
  rotate_left
  · intro w hSw
    go_simp
    try with_reducible rfl
  simp only [Act.put, List.setIfInBounds_toArray, List.set_cons_zero, List.set_cons_succ]
  refine wpAnyJ_take (i := 4) (oi := { dst := some 8, op := Go.Op.fieldAddr 42 (Go.Operand.tmp 7) 0, type := 0, pos := "ref.go:81", after := #[{ on := 3, ground := Go.Ground.data }], guard := none }) (v := ?_) rfl (by kernel_rfl) (by kernel_rfl) (by kernel_rfl) (by kernel_rfl) (fun _ _ _ h => h) (Or.inl ⟨by rfl, ?_⟩) (by assumption) ?_
  rotate_left
  · intro w hSw
    go_simp
    try with_reducible rfl
  simp only [Act.put, List.setIfInBounds_toArray, List.set_cons_zero, List.set_cons_succ]
  refine wpAnyJ_take (i := 5) (oi := { dst := some 9, op := Go.Op.load 22 (Go.Operand.tmp 8), type := 22, pos := "ref.go:81", after := #[{ on := 4, ground := Go.Ground.data }], guard := none }) (v := ?_) rfl (by kernel_rfl) (by kernel_rfl) (by kernel_rfl) (by kernel_rfl) (fun _ _ _ h => h) (Or.inl ⟨by rfl, ?_⟩) (by assumption) ?_
  rotate_left
  · intro w hSw
    go_simp
    try with_reducible rfl
  simp only [Act.put, List.setIfInBounds_toArray, List.set_cons_zero, List.set_cons_succ]
  refine wpAnyJ_take (i := 7) (oi := { dst := some 11, op := Go.Op.move (Go.Operand.tmp 0), type := 37, pos := "ref.go:81", after := #[], guard := none }) (v := ?_) rfl (by kernel_rfl) (by kernel_rfl) (by kernel_rfl) (by kernel_rfl) (fun _ _ _ h => h) (Or.inl ⟨by rfl, ?_⟩) (by assumption) ?_
  rotate_left
  · intro w hSw
    go_simp
    try with_reducible rfl
  simp only [Act.put, List.setIfInBounds_toArray, List.set_cons_zero, List.set_cons_succ]
  refine wpAnyJ_take (i := 8) (oi := { dst := some 12, op := Go.Op.nilCheck (Go.Operand.tmp 11), type := 0, pos := "ref.go:81", after := #[{ on := 7, ground := Go.Ground.data }], guard := none }) (v := ?_) rfl (by kernel_rfl) (by kernel_rfl) (by kernel_rfl) (by kernel_rfl) (fun _ _ _ h => h) (Or.inl ⟨by rfl, ?_⟩) (by assumption) ?_
  rotate_left
  · intro w hSw
    go_simp
    try with_reducible rfl
  simp only [Act.put, List.setIfInBounds_toArray, List.set_cons_zero, List.set_cons_succ]
  refine wpAnyJ_take (i := 9) (oi := { dst := some 13, op := Go.Op.fieldAddr 42 (Go.Operand.tmp 12) 1, type := 0, pos := "ref.go:81", after := #[{ on := 8, ground := Go.Ground.data }], guard := none }) (v := ?_) rfl (by kernel_rfl) (by kernel_rfl) (by kernel_rfl) (by kernel_rfl) (fun _ _ _ h => h) (Or.inl ⟨by rfl, ?_⟩) (by assumption) ?_
  rotate_left
  · intro w hSw
    go_simp
    try with_reducible rfl
  simp only [Act.put, List.setIfInBounds_toArray, List.set_cons_zero, List.set_cons_succ]
  refine wpAnyJ_take (i := 10) (oi := { dst := some 14, op := Go.Op.load 22 (Go.Operand.tmp 13), type := 22, pos := "ref.go:81", after := #[{ on := 9, ground := Go.Ground.data }], guard := none }) (v := ?_) rfl (by kernel_rfl) (by kernel_rfl) (by kernel_rfl) (by kernel_rfl) (fun _ _ _ h => h) (Or.inl ⟨by rfl, ?_⟩) (by assumption) ?_
  rotate_left
  · intro w hSw
    go_simp
    try with_reducible rfl
  simp only [Act.put, List.setIfInBounds_toArray, List.set_cons_zero, List.set_cons_succ]
  refine wpAnyJ_take (i := 11) (oi := { dst := some 15, op := Go.Op.move (Go.Operand.tmp 1), type := 3, pos := "ref.go:81", after := #[], guard := none }) (v := ?_) rfl (by kernel_rfl) (by kernel_rfl) (by kernel_rfl) (by kernel_rfl) (fun _ _ _ h => h) (Or.inl ⟨by rfl, ?_⟩) (by assumption) ?_
  rotate_left
  · intro w hSw
    go_simp
    try with_reducible rfl
  simp only [Act.put, List.setIfInBounds_toArray, List.set_cons_zero, List.set_cons_succ]
  refine wpAnyJ_take (i := 12) (oi := { dst := some 16, op := Go.Op.call { callee := Go.Callee.builtin Go.Builtin.max, args := #[Go.Operand.tmp 15, Go.Operand.const (Go.Value.int Go.IntKind.i64 0)], argTypes := #[3, 3] }, type := 3, pos := "ref.go:81", after := #[{ on := 11, ground := Go.Ground.data }], guard := none }) (v := ?_) rfl (by kernel_rfl) (by kernel_rfl) (by kernel_rfl) (by kernel_rfl) (fun _ _ _ h => h) (Or.inl ⟨by rfl, ?_⟩) (by assumption) ?_
  rotate_left
  · intro w hSw
    go_simp
    try with_reducible rfl
  simp only [Act.put, List.setIfInBounds_toArray, List.set_cons_zero, List.set_cons_succ]
  refine wpAnyJ_take (i := 13) (oi := { dst := some 17, op := Go.Op.move (Go.Operand.tmp 0), type := 37, pos := "ref.go:81", after := #[], guard := none }) (v := ?_) rfl (by kernel_rfl) (by kernel_rfl) (by kernel_rfl) (by kernel_rfl) (fun _ _ _ h => h) (Or.inl ⟨by rfl, ?_⟩) (by assumption) ?_
  rotate_left
  · intro w hSw
    go_simp
    try with_reducible rfl
  simp only [Act.put, List.setIfInBounds_toArray, List.set_cons_zero, List.set_cons_succ]
  refine wpAnyJ_take (i := 14) (oi := { dst := some 18, op := Go.Op.nilCheck (Go.Operand.tmp 17), type := 0, pos := "ref.go:81", after := #[{ on := 13, ground := Go.Ground.data }], guard := none }) (v := ?_) rfl (by kernel_rfl) (by kernel_rfl) (by kernel_rfl) (by kernel_rfl) (fun _ _ _ h => h) (Or.inl ⟨by rfl, ?_⟩) (by assumption) ?_
  rotate_left
  · intro w hSw
    go_simp
    try with_reducible rfl
  simp only [Act.put, List.setIfInBounds_toArray, List.set_cons_zero, List.set_cons_succ]
  refine wpAnyJ_take (i := 15) (oi := { dst := some 19, op := Go.Op.fieldAddr 42 (Go.Operand.tmp 18) 1, type := 0, pos := "ref.go:81", after := #[{ on := 14, ground := Go.Ground.data }], guard := none }) (v := ?_) rfl (by kernel_rfl) (by kernel_rfl) (by kernel_rfl) (by kernel_rfl) (fun _ _ _ h => h) (Or.inl ⟨by rfl, ?_⟩) (by assumption) ?_
  rotate_left
  · intro w hSw
    go_simp
    try with_reducible rfl
  simp only [Act.put, List.setIfInBounds_toArray, List.set_cons_zero, List.set_cons_succ]
  refine wpAnyJ_take (i := 16) (oi := { dst := some 20, op := Go.Op.load 22 (Go.Operand.tmp 19), type := 22, pos := "ref.go:81", after := #[{ on := 15, ground := Go.Ground.data }], guard := none }) (v := ?_) rfl (by kernel_rfl) (by kernel_rfl) (by kernel_rfl) (by kernel_rfl) (fun _ _ _ h => h) (Or.inl ⟨by rfl, ?_⟩) (by assumption) ?_
  rotate_left
  · intro w hSw
    go_simp
    try with_reducible rfl
  simp only [Act.put, List.setIfInBounds_toArray, List.set_cons_zero, List.set_cons_succ]
  refine wpAnyJ_take (i := 17) (oi := { dst := some 21, op := Go.Op.call { callee := Go.Callee.builtin Go.Builtin.len, args := #[Go.Operand.tmp 20], argTypes := #[22] }, type := 3, pos := "ref.go:81", after := #[{ on := 16, ground := Go.Ground.data }], guard := none }) (v := ?_) rfl (by kernel_rfl) (by kernel_rfl) (by kernel_rfl) (by kernel_rfl) (fun _ _ _ h => h) (Or.inl ⟨by rfl, ?_⟩) (by assumption) ?_
  rotate_left
  · intro w hSw
    go_simp
    try with_reducible rfl
  simp only [Act.put, List.setIfInBounds_toArray, List.set_cons_zero, List.set_cons_succ]
  refine wpAnyJ_take (i := 18) (oi := { dst := some 22, op := Go.Op.call { callee := Go.Callee.builtin Go.Builtin.min, args := #[Go.Operand.tmp 16, Go.Operand.tmp 21], argTypes := #[3, 3] }, type := 3, pos := "ref.go:81", after := #[{ on := 12, ground := Go.Ground.data }, { on := 17, ground := Go.Ground.data }], guard := none }) (v := (Value.int .i64 (s.t.length : Nat))) rfl (by kernel_rfl) (by kernel_rfl) (by kernel_rfl) (by kernel_rfl) (fun _ _ _ h => h) (Or.inl ⟨by rfl, ?_⟩) (by assumption) ?_
  · intro w hSw
    go_simp
    first | done | (intro h; omega) | (with_reducible rfl) | (rw [if_neg (by omega)]; done) | (rw [if_neg (by omega)]; rfl) | (rw [if_pos (by omega)]; done) | (rw [if_pos (by omega)]; rfl)
  simp only [Act.put, List.setIfInBounds_toArray, List.set_cons_zero, List.set_cons_succ]
  have hkc : ((s.t.length : Nat) : Int) ≤ (c2 : Int) := by omega
  refine wpAnyJ_take (i := 19) (oi := { dst := some 23, op := Go.Op.slice 22 (Go.Operand.tmp 14) none (some (Go.Operand.tmp 22)) none, type := 22, pos := "ref.go:81", after := #[{ on := 10, ground := Go.Ground.data }, { on := 18, ground := Go.Ground.data }], guard := none }) (v := ?_) rfl (by kernel_rfl) (by kernel_rfl) (by kernel_rfl) (by kernel_rfl) (fun _ _ _ h => h) (Or.inl ⟨by rfl, ?_⟩) (by assumption) ?_
  rotate_left
  · intro w hSw
    go_simp
    try with_reducible rfl
  simp only [Act.put, List.setIfInBounds_toArray, List.set_cons_zero, List.set_cons_succ]
  refine wpAnyJ_one (i := 1) (o := { dst := some 5, op := Go.Op.buildSlice 22 0 #[], type := 22, pos := "ref.go:81", after := #[], guard := none }) (by kernel_rfl) (by decide) rfl (fun K hK => ?_)
  go_simp
  have hD1 : RefAt (w.drew.alloc (.cells #[] 5)) base r _ _ s := hD.drew.alloc _
  refine hK.out _ _ hD1.cells2 (fun hHeld => ?_)
  clear hK K
  refine wpAnyJ_one (i := 6) (o := { dst := some 10, op := Go.Op.call { callee := Go.Callee.builtin Go.Builtin.append, args := #[Go.Operand.tmp 5, Go.Operand.tmp 9], argTypes := #[22, 22] }, type := 22, pos := "ref.go:81", after := #[{ on := 1, ground := Go.Ground.data }, { on := 5, ground := Go.Ground.data }], guard := none }) (by kernel_rfl) (by decide) rfl (fun K hK => ?_)
  have hrL := Reads.of_own hD1.ownL
  have ho0 := own_none w.drew w.heap.size (Nat.le_refl _)
  refine step_append_any _ rfl (.tmp 5) (.tmp 9) 22 rfl w.heap.size 5 i5 _ 1 1 Try.underlying22 hi5 hz5 hs5 hb5 rfl (by omega) (.slice (some ⟨w.heap.size, 0, none⟩) 0 0) 0 [] rfl ho0 _ a s.l.length cl (cellsOf s.l) rfl hrL (ints_oneCell _ _) (by unfold maxLen; omega) (by omega) (by simp) ?_
  intro v3 w3 hown3 hg3 hat3
  clear hat3
  simp only [Nat.zero_add, List.nil_append] at hown3
  obtain ⟨a3, cap3, rfl, _, _⟩ := own_shape hown3
  have Hown3 := Lib.hid hown3
  have Hg3 := Lib.hid hg3
  clear hown3 hg3
  have hD3 : RefAt w3 base r _ _ s := hD1.only (S := fun k => k = w.heap.size) ((Only.refl _ _).grown Hg3.out (fun k hk _ => by simp [Value.ownBlock] at hk; omega)) (by omega) (fun k hk => by have := (hD.ownL.lt k hk).2; omega) (fun k hk => by have := (hD.ownT.lt k hk).2; omega)
  refine hK.out _ _ hD3.cells2 (fun hHeld => ?_)
  clear hK K
  simp only [Act.put, List.setIfInBounds_toArray, List.set_cons_zero, List.set_cons_succ]
  refine wpAnyJ_one (i := 20) (o := { dst := some 24, op := Go.Op.call { callee := Go.Callee.builtin Go.Builtin.append, args := #[Go.Operand.tmp 10, Go.Operand.tmp 23], argTypes := #[22, 22] }, type := 22, pos := "ref.go:81", after := #[{ on := 6, ground := Go.Ground.data }, { on := 19, ground := Go.Ground.data }, { on := 6, ground := Go.Ground.chain }], guard := none }) (by kernel_rfl) (by decide) rfl (fun K hK => ?_)
  have hrT := Reads.of_own (own_take hD3.ownT (Nat.le_refl _))
  have hsz3 : w.heap.size ≤ w3.heap.size := by have := Hg3.out.size; simp at this; omega
  have htl : (cellsOf s.t).take s.t.length = cellsOf (s.t.take s.t.length) := by unfold cellsOf; rw [List.map_take]
  rw [htl] at hrT
  refine step_append_any _ rfl (.tmp 10) (.tmp 23) 22 rfl w.heap.size 5 i5 _ 1 1 Try.underlying22 hi5 hz5 hs5 hb5 rfl (by omega) (.slice a3 s.l.length cap3) s.l.length (cellsOf s.l) rfl Hown3.out _ a2 s.t.length c2 (cellsOf (s.t.take s.t.length)) rfl hrT (ints_oneCell _ _) (by unfold maxLen; omega) (by omega) hsz3 ?_
  intro v4 w4 hown4 hg4 hat4
  clear hat4
  obtain ⟨a4, cap4, rfl, _, _⟩ := own_shape hown4
  have Hown4 := Lib.hid hown4
  have Hg4 := Lib.hid hg4
  clear hown4 hg4
  have hb3 : Below w.heap.size w w3 := ((Below.refl w.heap.size w).drew.alloc (Nat.le_refl _) (.cells #[] 5)).grown Hg3.out (by simp) (fun k hk => by simp [Value.ownBlock] at hk; omega)
  have hb4 : Below w.heap.size w w4 := hb3.grown Hg4.out hsz3 (fun k hk => (Hown3.out.lt k hk).1)
  have hD4 : RefAt w4 base r _ _ s := hD3.only (S := fun k => (Value.slice a3 s.l.length cap3).ownBlock = some k) ((Only.refl _ _).grown Hg4.out (fun k hk _ => hk)) (fun h => by have := (Hown3.out.lt r h).1; omega) (fun k hk h => by have := (Hown3.out.lt k h).1; have := (hD.ownL.lt k hk).2; omega) (fun k hk h => by have := (Hown3.out.lt k h).1; have := (hD.ownT.lt k hk).2; omega)
  refine hK.out _ _ hD4.cells2 (fun hHeld => ?_)
  clear hK K
  simp only [Act.put, List.setIfInBounds_toArray, List.set_cons_zero, List.set_cons_succ]
  refine wpAnyJ_one (i := 21) (o := { dst := some 25, op := Go.Op.nilCheck (Go.Operand.tmp 4), type := 0, pos := "ref.go:81", after := #[{ on := 0, ground := Go.Ground.data }, { on := 0, ground := Go.Ground.phase }, { on := 1, ground := Go.Ground.phase }, { on := 2, ground := Go.Ground.phase }, { on := 3, ground := Go.Ground.phase }, { on := 4, ground := Go.Ground.phase }, { on := 5, ground := Go.Ground.phase }, { on := 6, ground := Go.Ground.phase }, { on := 7, ground := Go.Ground.phase }, { on := 8, ground := Go.Ground.phase }, { on := 9, ground := Go.Ground.phase }, { on := 10, ground := Go.Ground.phase }, { on := 11, ground := Go.Ground.phase }, { on := 12, ground := Go.Ground.phase }, { on := 13, ground := Go.Ground.phase }, { on := 14, ground := Go.Ground.phase }, { on := 15, ground := Go.Ground.phase }, { on := 16, ground := Go.Ground.phase }, { on := 17, ground := Go.Ground.phase }, { on := 18, ground := Go.Ground.phase }, { on := 19, ground := Go.Ground.phase }, { on := 20, ground := Go.Ground.phase }], guard := none }) (by kernel_rfl) (by decide) rfl (fun K hK => ?_)
  go_simp
  refine hK.out _ _ hD4.cells2 (fun hHeld => ?_)
  clear hK K
  refine wpAnyJ_one (i := 22) (o := { dst := some 26, op := Go.Op.fieldAddr 42 (Go.Operand.tmp 25) 0, type := 0, pos := "ref.go:81", after := #[{ on := 21, ground := Go.Ground.data }, { on := 0, ground := Go.Ground.phase }, { on := 1, ground := Go.Ground.phase }, { on := 2, ground := Go.Ground.phase }, { on := 3, ground := Go.Ground.phase }, { on := 4, ground := Go.Ground.phase }, { on := 5, ground := Go.Ground.phase }, { on := 6, ground := Go.Ground.phase }, { on := 7, ground := Go.Ground.phase }, { on := 8, ground := Go.Ground.phase }, { on := 9, ground := Go.Ground.phase }, { on := 10, ground := Go.Ground.phase }, { on := 11, ground := Go.Ground.phase }, { on := 12, ground := Go.Ground.phase }, { on := 13, ground := Go.Ground.phase }, { on := 14, ground := Go.Ground.phase }, { on := 15, ground := Go.Ground.phase }, { on := 16, ground := Go.Ground.phase }, { on := 17, ground := Go.Ground.phase }, { on := 18, ground := Go.Ground.phase }, { on := 19, ground := Go.Ground.phase }, { on := 20, ground := Go.Ground.phase }], guard := none }) (by kernel_rfl) (by decide) rfl (fun K hK => ?_)
  go_simp
  refine hK.out _ _ hD4.cells2 (fun hHeld => ?_)
  clear hK K
  have g0 := hD4.blk.cell 0
  have g1 := hD4.blk.cell 1
  have g2 := hD4.blk.cell 2
  have g3 := hD4.blk.cell 3
  have f0 := hD4.blk.frozen 0
  have f1 := hD4.blk.frozen 1
  have f2 := hD4.blk.frozen 2
  have f3 := hD4.blk.frozen 3
  simp at g0 g1 g2 g3
  refine wpAnyJ_last (o := { dst := none, op := Go.Op.store 22 (Go.Operand.tmp 26) (Go.Operand.tmp 24), type := 0, pos := "ref.go:81", after := #[{ on := 22, ground := Go.Ground.data }, { on := 20, ground := Go.Ground.data }, { on := 20, ground := Go.Ground.chain }, { on := 0, ground := Go.Ground.phase }, { on := 1, ground := Go.Ground.phase }, { on := 2, ground := Go.Ground.phase }, { on := 3, ground := Go.Ground.phase }, { on := 4, ground := Go.Ground.phase }, { on := 5, ground := Go.Ground.phase }, { on := 6, ground := Go.Ground.phase }, { on := 7, ground := Go.Ground.phase }, { on := 8, ground := Go.Ground.phase }, { on := 9, ground := Go.Ground.phase }, { on := 10, ground := Go.Ground.phase }, { on := 11, ground := Go.Ground.phase }, { on := 12, ground := Go.Ground.phase }, { on := 13, ground := Go.Ground.phase }, { on := 14, ground := Go.Ground.phase }, { on := 15, ground := Go.Ground.phase }, { on := 16, ground := Go.Ground.phase }, { on := 17, ground := Go.Ground.phase }, { on := 18, ground := Go.Ground.phase }, { on := 19, ground := Go.Ground.phase }, { on := 20, ground := Go.Ground.phase }], guard := none }) (by kernel_rfl) rfl (fun K hK => ?_)
  go_simp
  refine hK.out _ _ ?_
  clear hK K
  refine wpAnyJ_done (by kernel_rfl) ?_ _
  go_wp2_with fail
  go_end0
  exact rrestart_fin hD hb4 Hown4.out k ⟨by omega, Nat.le_refl _, rfl⟩

theorem restart_refdev {w : World} {base r : Nat} {vl vt : Value} {s : RS} (keep : Int) (hk : (Lit.int .i64 keep).wf = true) (hD : RefAt w base r vl vt s) :
    Calls Try.prog 28 #[.pointer (some ⟨r, 0, none⟩), .int .i64 keep] w (RefPost w base r vl vt (.tuple #[]) (s.restart keep)) := by
  have hkb := bounds_i64 hk
  by_cases h0 : keep < 0
  · exact rrestart_a keep h0 hD
  obtain ⟨k, rfl⟩ := Int.eq_ofNat_of_zero_le (show 0 ≤ keep by omega)
  by_cases h1 : k ≤ s.t.length
  · exact rrestart_b k h1 hD
  · exact rrestart_c k (by omega) (by omega) hD
end Go.Proofs.Ytaakamjjglpibaa.Dv
