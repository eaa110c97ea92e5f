/-
  The reference's device (versoref12): its state as plain data, where it lies in memory, and what its calls do to it.
-/
import Derived.Test.YtaakamjjglpibaaDevE
import Derived.Deep.RegionHeld3
namespace Go.Proofs.Ytaakamjjglpibaa.Dv
open Go.RowKit

structure RS where
  l : List Int
  t : List Int
  n : Int
  off : Bool
def RS.new : RS := ⟨[], [], -1, false⟩
def RS.go (s : RS) : RS := ⟨s.l, s.t, if 0 < s.n then s.n - 1 else s.n, if s.n = 0 then true else s.off⟩
def RS.arm (s : RS) (n : Int) : RS := if s.off then s else ⟨s.l, s.t, max n (-1), s.off⟩
def RS.appendE (s : RS) (xs : List Int) : Int := if s.off then 11 else if 60000 < s.l.length + s.t.length + xs.length then 10 else if s.n = 0 then 11 else 0
def RS.append (s : RS) (xs : List Int) : RS := if s.off then s else if 60000 < s.l.length + s.t.length + xs.length then s else if s.n = 0 then s.go else ⟨s.l, s.t ++ xs, s.go.n, false⟩
def RS.syncE (s : RS) : Int := if s.off then 11 else if s.n = 0 then 11 else 0
def RS.sync (s : RS) : RS := if s.off then s else if s.n = 0 then s.go else ⟨s.l ++ s.t, [], s.go.n, false⟩
def RS.trimE (s : RS) (n : Int) : Int := if s.off then 11 else if n < 0 ∨ ((s.l.length + s.t.length : Nat) : Int) < n then 1 else if s.n = 0 then 11 else 0
def RS.trim (s : RS) (n : Int) : RS := if s.off then s else if n < 0 ∨ ((s.l.length + s.t.length : Nat) : Int) < n then s else if s.n = 0 then s.go else ⟨(s.l ++ s.t).take n.toNat, [], s.go.n, false⟩
def RS.restart (s : RS) (keep : Int) : RS := ⟨s.l ++ s.t.take (min (max keep 0).toNat s.t.length), [], -1, false⟩

structure RefAt (w : World) (base r : Nat) (vl vt : Value) (s : RS) : Prop where
  blk : Blk w r 42 #[vl, vt, .int .i64 s.n, .bool s.off]
  ownL : w.ownsRow base 5 1 vl s.l.length (cellsOf s.l)
  ownT : w.ownsRow base 5 1 vt s.t.length (cellsOf s.t)
  apart : ∀ k, vl.ownBlock = some k → vt.ownBlock ≠ some k
  bd : base ≤ r
  len : s.l.length + s.t.length ≤ 60000
  lo : -1 ≤ s.n
  hi : s.n ≤ 9223372036854775807
  byt : Bts (s.l ++ s.t)

theorem RefAt.shapes {w : World} {base r : Nat} {vl vt : Value} {s : RS} (h : RefAt w base r vl vt s) :
    ∃ (a : Option Addr) (c : Nat) (a2 : Option Addr) (c2 : Nat), vl = .slice a s.l.length c ∧ vt = .slice a2 s.t.length c2 ∧ s.l.length ≤ c ∧ c ≤ maxLen ∧ s.t.length ≤ c2 ∧ c2 ≤ maxLen := by
  obtain ⟨a, c, h1, h2, h3⟩ := own_shape h.ownL
  obtain ⟨a2, c2, k1, k2, k3⟩ := own_shape h.ownT
  exact ⟨a, c, a2, c2, h1, k1, h2, h3, k2, k3⟩
theorem RefAt.only {w w' : World} {base r : Nat} {vl vt : Value} {s : RS} {S : Nat → Prop} (h : RefAt w base r vl vt s) (hb : Only S w w') (hr : ¬ S r) (h1 : ∀ k, vl.ownBlock = some k → ¬ S k) (h2 : ∀ k, vt.ownBlock = some k → ¬ S k) : RefAt w' base r vl vt s :=
  ⟨h.blk.only hb hr, own_only h.ownL hb h1, own_only h.ownT hb h2, h.apart, h.bd, h.len, h.lo, h.hi, h.byt⟩
theorem RefAt.neL {w : World} {base r : Nat} {vl vt : Value} {s : RS} (h : RefAt w base r vl vt s) : vl.ownBlock ≠ some r := own_blk_ne h.ownL h.blk (by decide)
theorem RefAt.neT {w : World} {base r : Nat} {vl vt : Value} {s : RS} (h : RefAt w base r vl vt s) : vt.ownBlock ≠ some r := own_blk_ne h.ownT h.blk (by decide)
theorem RefAt.drew {w : World} {base r : Nat} {vl vt : Value} {s : RS} (h : RefAt w base r vl vt s) : RefAt w.drew base r vl vt s := ⟨h.blk.drew, h.ownL.drew, h.ownT.drew, h.apart, h.bd, h.len, h.lo, h.hi, h.byt⟩
/-- The device's own block alone has turned, its rows stand. -/
theorem RefAt.turned {w w' : World} {base r : Nat} {vl vt : Value} {s s' : RS} (h : RefAt w base r vl vt s) (hb : Only (· = r) w w') (hk : Blk w' r 42 #[vl, vt, .int .i64 s'.n, .bool s'.off])
    (e1 : s'.l = s.l) (e2 : s'.t = s.t) (h1 : -1 ≤ s'.n) (h2 : s'.n ≤ 9223372036854775807) : RefAt w' base r vl vt s' :=
  ⟨hk, by rw [e1]; exact own_only h.ownL hb (fun k hk e => h.neL (by rw [hk, e])), by rw [e2]; exact own_only h.ownT hb (fun k hk e => h.neT (by rw [hk, e])), h.apart, h.bd, by rw [e1, e2]; exact h.len, h1, h2, by rw [e1, e2]; exact h.byt⟩

/-- What a call on the reference's device leaves. -/
def RefPost (w : World) (base r : Nat) (vl vt : Value) (x : Value) (s : RS) (e : Ending) (w' : World) : Prop :=
  e = .returned x ∧ ∃ vl' vt', RefAt w' base r vl' vt' s ∧ Only (fun k => k = r ∨ vt.ownBlock = some k) w w' ∧ (vl'.ownBlock = vl.ownBlock ∨ ∀ k, vl'.ownBlock = some k → w.heap.size ≤ k) ∧ (vt'.ownBlock = vt.ownBlock ∨ ∀ k, vt'.ownBlock = some k → w.heap.size ≤ k)
theorem RefPost.same {w : World} {base r : Nat} {vl vt : Value} {s : RS} (hD : RefAt w base r vl vt s) (x : Value) : RefPost w base r vl vt x s (.returned x) w := ⟨rfl, vl, vt, hD, Only.refl _ _, .inl rfl, .inl rfl⟩
theorem RefPost.block {w w1 : World} {base r : Nat} {vl vt : Value} {s : RS} (hD : RefAt w1 base r vl vt s) (hO : Only (· = r) w w1) (x : Value) : RefPost w base r vl vt x s (.returned x) w1 := ⟨rfl, vl, vt, hD, hO.mono fun _ _ h => .inl h, .inl rfl, .inl rfl⟩

theorem new_ref (w : World) : Calls Try.prog 23 #[] w fun e w' => e = .returned (.pointer (some ⟨w.heap.size, 0, none⟩)) ∧ RefAt w' w.heap.size w.heap.size (.slice none 0 0) (.slice none 0 0) RS.new ∧ Below w.heap.size w w' := by
  go_enter Try.func23, Try.ntmps23
  go_wp2
  go_ret
  exact ⟨rfl, ⟨Blk.new _ _ _, World.ownsRow_nil _ _ _ _, World.ownsRow_nil _ _ _ _, fun k hk => by simp [Value.ownBlock] at hk, Nat.le_refl _, by simp [RS.new], by simp [RS.new], by simp [RS.new], by simp [RS.new, Bts]⟩, (Below.refl _ _).alloc (Nat.le_refl _) _⟩

theorem goes_refdev {w : World} {base r : Nat} {vl vt : Value} {s : RS} (hD : RefAt w base r vl vt s) : Calls Try.prog 37 #[.pointer (some ⟨r, 0, none⟩)] w fun e w' => e = .returned (.bool (s.n == 0)) ∧ RefAt w' base r vl vt s.go ∧ Only (· = r) w w' := by
  obtain ⟨a, c, a2, c2, rfl, rfl, _, _, _, _⟩ := hD.shapes
  have c2' := hD.blk.cell 2
  have f2 := hD.blk.frozen 2
  have f3 := hD.blk.frozen 3
  have c3' := hD.blk.cell 3
  simp at c2' c3'
  have hl := hD.lo
  have hm := hD.hi
  by_cases h0 : s.n = 0
  · have q : (s.n == 0) = true := by simp [h0]
    have H0 := Lib.hid h0
    clear h0
    rw [q]
    go_enter Try.func37, Try.ntmps37
    go_wp2_with fail
    go_ret
    have hO : Only (fun k => k = r) w (w.setCell ⟨r, 3, none⟩ (.bool true)) := (Only.refl (fun k => k = r) w).setCell (p := ⟨r, 3, none⟩) (fun _ => rfl) _
    have hg : s.go = ⟨s.l, s.t, s.n, true⟩ := by
      unfold RS.go
      rw [if_neg (by have := H0.out; omega), if_pos H0.out]
    refine ⟨rfl, hD.turned hO ?_ rfl rfl (by rw [hg]; exact hl) (by rw [hg]; exact hm), hO⟩
    rw [hg]
    exact hD.blk.set_ 3 (.bool true)
  · have q : (s.n == 0) = false := by simp [h0]
    have H0 := Lib.hid h0
    clear h0
    rw [q]
    by_cases h1 : 0 < s.n
    · go_enter Try.func37, Try.ntmps37
      go_wp2_with fail
      go_ret
      have hO : Only (fun k => k = r) w (w.setCell ⟨r, 2, none⟩ (.int .i64 (s.n - 1))) := (Only.refl (fun k => k = r) w).setCell (p := ⟨r, 2, none⟩) (fun _ => rfl) _
      have hg : s.go = ⟨s.l, s.t, s.n - 1, s.off⟩ := by
        unfold RS.go
        rw [if_pos h1, if_neg H0.out]
      refine ⟨rfl, hD.turned hO ?_ rfl rfl (by rw [hg]; show -1 ≤ s.n - 1; omega) (by rw [hg]; show s.n - 1 ≤ _; omega), hO⟩
      rw [hg]
      exact hD.blk.set_ 2 (.int .i64 (s.n - 1))
    · go_enter Try.func37, Try.ntmps37
      go_wp2_with fail
      go_ret
      have hg : s.go = s := by
        unfold RS.go
        rw [if_neg (by omega), if_neg H0.out]
      rw [hg]
      exact ⟨rfl, hD, Only.refl _ _⟩

theorem arm_ref {w : World} {base r : Nat} {vl vt : Value} {s : RS} (n : Int) (hn : (Lit.int .i64 n).wf = true) (hD : RefAt w base r vl vt s) : Calls Try.prog 27 #[.pointer (some ⟨r, 0, none⟩), .int .i64 n] w (RefPost w base r vl vt (.tuple #[]) (s.arm n)) := by
  have c2' := hD.blk.cell 2
  have c3' := hD.blk.cell 3
  have f2 := hD.blk.frozen 2
  simp at c2' c3'
  have hb : n ≤ 9223372036854775807 := (bounds_i64 hn).2
  by_cases ho : s.off = true
  · go_enter Try.func27, Try.ntmps27
    go_wp2
    go_end0
    unfold RS.arm
    rw [if_pos ho]
    exact RefPost.same hD _
  · have ho' : s.off = false := by simpa using ho
    go_enter Try.func27, Try.ntmps27
    go_wp2
    all_goals
      go_end0
      have hb : ∀ x : Int, Only (fun k => k = r) w (w.setCell ⟨r, 2, none⟩ (.int .i64 x)) := fun x => (Only.refl (fun k => k = r) w).setCell (p := ⟨r, 2, none⟩) (fun _ => rfl) _
      unfold RS.arm
      rw [if_neg ho]
      refine RefPost.block (hD.turned (s' := ⟨s.l, s.t, max n (-1), s.off⟩) (hb _) ?_ rfl rfl (by show -1 ≤ max n (-1); omega) (by show max n (-1) ≤ _; omega)) (hb _) _
      have hk := hD.blk.set_ 2 (.int .i64 (max n (-1)))
      show Blk _ r 42 #[_, _, .int .i64 (max n (-1)), _]
      first
        | (rw [show max n (-1) = n from by omega] at hk ⊢; exact hk)
        | (rw [show max n (-1) = -1 from by omega] at hk ⊢; exact hk)

theorem own_none (w : World) (base : Nat) (hb : base ≤ w.heap.size) : (w.alloc (.cells #[] 5)).ownsRow base 5 1 (.slice (some ⟨w.heap.size, 0, none⟩) 0 0) 0 [] :=
  own_of_blk (xs := []) (Blk.new w 5 #[]) hb (by decide)
theorem RefAt.alloc {w : World} {base r : Nat} {vl vt : Value} {s : RS} (h : RefAt w base r vl vt s) (o : Obj) : RefAt (w.alloc o) base r vl vt s := h.only (S := fun _ => False) ((Only.refl _ w).alloc o) id (fun _ _ => id) (fun _ _ => id)
theorem RefAt.cells2 {w : World} {base r : Nat} {vl vt : Value} {s : RS} (h : RefAt w base r vl vt s) : w.cell? ⟨r, 0, none⟩ = some vl ∧ w.cell? ⟨r, 1, none⟩ = some vt :=
  ⟨by have h := h.blk.cell 0; simpa using h, by have h := h.blk.cell 1; simpa using h⟩

/-- What Bytes tells: all, in a row of its own. -/
def BytesR (w : World) (s : RS) (e : Ending) (w' : World) : Prop :=
  ∃ (A : Option Addr) (c : Nat), e = .returned (.slice A (s.l.length + s.t.length) c) ∧ w'.ownsRow w.heap.size 5 1 (.slice A (s.l.length + s.t.length) c) (s.l.length + s.t.length) (cellsOf (s.l ++ s.t)) ∧ Below w.heap.size w w'

set_option maxRecDepth 100000 in
set_option maxHeartbeats 1600000 in
theorem bytes_ref {w : World} {base r : Nat} {vl vt : Value} {s : RS} (hD : RefAt w base r vl vt s) :
    Calls Try.prog 29 #[.pointer (some ⟨r, 0, none⟩)] w (BytesR w s) := by
  obtain ⟨a, c, a2, c2, rfl, rfl, hc, hcm, hc2, hcm2⟩ := hD.shapes
  have c01 := hD.drew.cells2
  have hlen := hD.len
  have hrlt := hD.blk.lt
  unfold maxLen at hcm hcm2
  obtain ⟨i5, hi5, hz5, hs5, hb5⟩ := info_parts Try.info5
  have HD := Lib.hid hD
  clear hD
  go_enter Try.func29, Try.ntmps29
  go_wp2_with fail
  refine wp_region_held_drew (S := fun W => W.cell? ⟨r, 0, none⟩ = some (.slice a s.l.length c) ∧ W.cell? ⟨r, 1, none⟩ = some (.slice a2 s.t.length c2)) (by kernel_rfl) c01 (fun hHeld => ?_)
  refine wpAnyH_take (i := 1) (oi := { dst := some 4, op := Go.Op.move (Go.Operand.tmp 0), type := 37, pos := "ref.go:17", after := #[], guard := none }) (v := ?_) rfl (by kernel_rfl) (by kernel_rfl) (by kernel_rfl) (fun _ _ _ h => h) (Or.inl ⟨by rfl, ?_⟩) (by assumption) ?_
  rotate_left
  · intro w hSw
    go_simp
    try with_reducible rfl
  simp only [Act.put, List.setIfInBounds_toArray, List.set_cons_zero, List.set_cons_succ]
  refine wpAnyH_take (i := 2) (oi := { dst := some 5, op := Go.Op.nilCheck (Go.Operand.tmp 4), type := 0, pos := "ref.go:17", after := #[{ on := 1, ground := Go.Ground.data }], guard := none }) (v := ?_) rfl (by kernel_rfl) (by kernel_rfl) (by kernel_rfl) (fun _ _ _ h => h) (Or.inl ⟨by rfl, ?_⟩) (by assumption) ?_
  rotate_left
  · intro w hSw
    go_simp
    try with_reducible rfl
  simp only [Act.put, List.setIfInBounds_toArray, List.set_cons_zero, List.set_cons_succ]
  refine wpAnyH_take (i := 3) (oi := { dst := some 6, op := Go.Op.fieldAddr 42 (Go.Operand.tmp 5) 0, type := 0, pos := "ref.go:17", after := #[{ on := 2, ground := Go.Ground.data }], guard := none }) (v := ?_) rfl (by kernel_rfl) (by kernel_rfl) (by kernel_rfl) (fun _ _ _ h => h) (Or.inl ⟨by rfl, ?_⟩) (by assumption) ?_
  rotate_left
  · intro w hSw
    go_simp
    try with_reducible rfl
  simp only [Act.put, List.setIfInBounds_toArray, List.set_cons_zero, List.set_cons_succ]
  refine wpAnyH_take (i := 4) (oi := { dst := some 7, op := Go.Op.load 22 (Go.Operand.tmp 6), type := 22, pos := "ref.go:17", after := #[{ on := 3, ground := Go.Ground.data }], guard := none }) (v := ?_) rfl (by kernel_rfl) (by kernel_rfl) (by kernel_rfl) (fun _ _ _ h => h) (Or.inl ⟨by rfl, ?_⟩) (by assumption) ?_
  rotate_left
  · intro w hSw
    go_simp
    try with_reducible rfl
  simp only [Act.put, List.setIfInBounds_toArray, List.set_cons_zero, List.set_cons_succ]
  refine wpAnyH_take (i := 6) (oi := { dst := some 9, op := Go.Op.move (Go.Operand.tmp 0), type := 37, pos := "ref.go:17", after := #[], guard := none }) (v := ?_) rfl (by kernel_rfl) (by kernel_rfl) (by kernel_rfl) (fun _ _ _ h => h) (Or.inl ⟨by rfl, ?_⟩) (by assumption) ?_
  rotate_left
  · intro w hSw
    go_simp
    try with_reducible rfl
  simp only [Act.put, List.setIfInBounds_toArray, List.set_cons_zero, List.set_cons_succ]
  refine wpAnyH_take (i := 7) (oi := { dst := some 10, op := Go.Op.nilCheck (Go.Operand.tmp 9), type := 0, pos := "ref.go:17", after := #[{ on := 6, ground := Go.Ground.data }], guard := none }) (v := ?_) rfl (by kernel_rfl) (by kernel_rfl) (by kernel_rfl) (fun _ _ _ h => h) (Or.inl ⟨by rfl, ?_⟩) (by assumption) ?_
  rotate_left
  · intro w hSw
    go_simp
    try with_reducible rfl
  simp only [Act.put, List.setIfInBounds_toArray, List.set_cons_zero, List.set_cons_succ]
  refine wpAnyH_take (i := 8) (oi := { dst := some 11, op := Go.Op.fieldAddr 42 (Go.Operand.tmp 10) 1, type := 0, pos := "ref.go:17", after := #[{ on := 7, ground := Go.Ground.data }], guard := none }) (v := ?_) rfl (by kernel_rfl) (by kernel_rfl) (by kernel_rfl) (fun _ _ _ h => h) (Or.inl ⟨by rfl, ?_⟩) (by assumption) ?_
  rotate_left
  · intro w hSw
    go_simp
    try with_reducible rfl
  simp only [Act.put, List.setIfInBounds_toArray, List.set_cons_zero, List.set_cons_succ]
  refine wpAnyH_take (i := 9) (oi := { dst := some 12, op := Go.Op.load 22 (Go.Operand.tmp 11), type := 22, pos := "ref.go:17", after := #[{ on := 8, ground := Go.Ground.data }], guard := none }) (v := ?_) rfl (by kernel_rfl) (by kernel_rfl) (by kernel_rfl) (fun _ _ _ h => h) (Or.inl ⟨by rfl, ?_⟩) (by assumption) ?_
  rotate_left
  · intro w hSw
    go_simp
    try with_reducible rfl
  simp only [Act.put, List.setIfInBounds_toArray, List.set_cons_zero, List.set_cons_succ]
  refine wpAnyH_ready (rs := [0]) (by kernel_rfl) (by simp) ?_
  refine AllReadyH.cons (o := { dst := some 3, op := Go.Op.buildSlice 22 0 #[], type := 22, pos := "ref.go:17", after := #[], guard := none }) rfl (fun K hK => ?_) AllReadyH.nil
  go_simp
  have hD1 : RefAt (w.drew.alloc (.cells #[] 5)) base r _ _ s := HD.out.drew.alloc _
  refine hK.out _ _ hD1.cells2 (fun hHeld => ?_)
  clear hK K
  refine wpAnyH_ready (rs := [5]) (by kernel_rfl) (by simp) ?_
  refine AllReadyH.cons (o := { dst := some 8, op := Go.Op.call { callee := Go.Callee.builtin Go.Builtin.append, args := #[Go.Operand.tmp 3, Go.Operand.tmp 7], argTypes := #[22, 22] }, type := 22, pos := "ref.go:17", after := #[{ on := 0, ground := Go.Ground.data }, { on := 4, ground := Go.Ground.data }], guard := none }) rfl (fun K hK => ?_) AllReadyH.nil
  have hrL := Reads.of_own hD1.ownL
  have ho0 := own_none w.drew w.heap.size (Nat.le_refl _)
  refine step_append_any _ rfl (.tmp 3) (.tmp 7) 22 rfl w.heap.size 5 i5 _ 1 1 Try.underlying22 hi5 hz5 hs5 hb5 rfl (by omega) (.slice (some ⟨w.heap.size, 0, none⟩) 0 0) 0 [] rfl ho0 _ a s.l.length c (cellsOf s.l) rfl hrL (ints_oneCell _ _) (by unfold maxLen; omega) (by omega) (by simp) ?_
  intro v3 w3 hown3 hg3 hat3
  clear hat3
  simp only [Nat.zero_add, List.nil_append] at hown3
  obtain ⟨a3, cap3, rfl, _, _⟩ := own_shape hown3
  have Hown3 := Lib.hid hown3
  have Hg3 := Lib.hid hg3
  clear hown3 hg3
  have hD3 : RefAt w3 base r _ _ s := hD1.only (S := fun k => k = w.heap.size) ((Only.refl _ _).grown Hg3.out (fun k hk _ => by simp [Value.ownBlock] at hk; omega)) (by omega) (fun k hk => by have := (HD.out.ownL.lt k hk).2; omega) (fun k hk => by have := (HD.out.ownT.lt k hk).2; omega)
  refine hK.out _ _ hD3.cells2 (fun hHeld => ?_)
  clear hK K
  simp only [Act.put, List.setIfInBounds_toArray, List.set_cons_zero, List.set_cons_succ]
  refine wpAnyH_ready (rs := [10]) (by kernel_rfl) (by simp) ?_
  refine AllReadyH.cons (o := { dst := some 13, op := Go.Op.call { callee := Go.Callee.builtin Go.Builtin.append, args := #[Go.Operand.tmp 8, Go.Operand.tmp 12], argTypes := #[22, 22] }, type := 22, pos := "ref.go:17", after := #[{ on := 5, ground := Go.Ground.data }, { on := 9, ground := Go.Ground.data }, { on := 5, ground := Go.Ground.chain }], guard := none }) rfl (fun K hK => ?_) AllReadyH.nil
  have hrT := Reads.of_own hD3.ownT
  have hsz3 : w.heap.size ≤ w3.heap.size := by have := Hg3.out.size; simp at this; omega
  refine step_append_any _ rfl (.tmp 8) (.tmp 12) 22 rfl w.heap.size 5 i5 _ 1 1 Try.underlying22 hi5 hz5 hs5 hb5 rfl (by omega) (.slice a3 s.l.length cap3) s.l.length (cellsOf s.l) rfl Hown3.out _ a2 s.t.length c2 (cellsOf s.t) rfl hrT (ints_oneCell _ _) (by unfold maxLen; omega) (by omega) hsz3 ?_
  intro v4 w4 hown4 hg4 hat4
  clear hat4
  obtain ⟨a4, cap4, rfl, _, _⟩ := own_shape hown4
  have Hown4 := Lib.hid hown4
  have Hg4 := Lib.hid hg4
  clear hown4 hg4
  have hb3 : Below w.heap.size w w3 := ((Below.refl w.heap.size w).drew.alloc (Nat.le_refl _) (.cells #[] 5)).grown Hg3.out (by simp) (fun k hk => by simp [Value.ownBlock] at hk; omega)
  have hb4 : Below w.heap.size w w4 := hb3.grown Hg4.out hsz3 (fun k hk => (Hown3.out.lt k hk).1)
  have hD4 : RefAt w4 base r _ _ s := hD3.only (S := fun k => (Value.slice a3 s.l.length cap3).ownBlock = some k) ((Only.refl _ _).grown Hg4.out (fun k hk _ => hk)) (fun h => by have := (Hown3.out.lt r h).1; omega) (fun k hk h => by have := (Hown3.out.lt k h).1; have := (HD.out.ownL.lt k hk).2; omega) (fun k hk h => by have := (Hown3.out.lt k h).1; have := (HD.out.ownT.lt k hk).2; omega)
  refine hK.out _ _ hD4.cells2 (fun hHeld => ?_)
  clear hK K
  simp only [Act.put, List.setIfInBounds_toArray, List.set_cons_zero, List.set_cons_succ]
  refine wpAnyH_take (i := 11) (oi := { dst := some 2, op := Go.Op.assign (Go.Operand.tmp 13), type := 22, pos := "ref.go:17", after := #[{ on := 10, ground := Go.Ground.data }, { on := 10, ground := Go.Ground.chain }, { on := 0, ground := Go.Ground.phase }, { on := 1, ground := Go.Ground.phase }, { on := 2, ground := Go.Ground.phase }, { on := 3, ground := Go.Ground.phase }, { on := 4, ground := Go.Ground.phase }, { on := 5, ground := Go.Ground.phase }, { on := 6, ground := Go.Ground.phase }, { on := 7, ground := Go.Ground.phase }, { on := 8, ground := Go.Ground.phase }, { on := 9, ground := Go.Ground.phase }, { on := 10, ground := Go.Ground.phase }], guard := none }) (v := ?_) rfl (by kernel_rfl) (by kernel_rfl) (by kernel_rfl) (fun _ _ _ h => h) (Or.inl ⟨by rfl, ?_⟩) (by assumption) ?_
  rotate_left
  · intro w hSw
    go_simp
    try with_reducible rfl
  simp only [Act.put, List.setIfInBounds_toArray, List.set_cons_zero, List.set_cons_succ]
  refine wpAnyH_done (by kernel_rfl) ?_ _
  go_wp2_with fail
  go_ret
  refine ⟨a4, cap4, rfl, ?_, hb4⟩
  have h := Hown4.out
  unfold cellsOf at h ⊢
  rw [List.map_append]
  exact h
end Go.Proofs.Ytaakamjjglpibaa.Dv
