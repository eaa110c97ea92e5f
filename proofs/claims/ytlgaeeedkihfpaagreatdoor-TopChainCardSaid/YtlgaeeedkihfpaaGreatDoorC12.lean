/-
  Texts of the proof of Chain, one behind the other: TokD.
-/
import Derived.Test.YtlgaeeedkihfpaaGreatDoorC10
/-
  tok.reader's text.
-/
namespace Go.Proofs.YtlgaeeedkihfpaaGreatDoor.Uf
open Go.RowKit
open Tz (B Atr Tok plainL textN textT resolveL)

theorem info55 : (Tryz.prog.info? 55).map (fun i => (i.zero, i.size, i.bytes)) = some (some (.agg #[.int .i64 0, .string ⟨#[]⟩, .slice none 0 0, .bool false, .string ⟨#[]⟩]), 5, 72) := by kernel_rfl
/-- What a reader's cells are. -/
def RC (r : Nat) (s : B) (k : Nat) (v : Value) (W : World) : Prop := W.cell? ⟨r, 0, none⟩ = some (.string (bs s)) ∧ W.cell? ⟨r, 1, none⟩ = some (.int .i64 (k : Nat)) ∧ W.cell? ⟨r, 2, none⟩ = some v
theorem Rdr.rc {w : World} {r k : Nat} {s : B} {v : Value} (h : Rdr w r s k v) : RC r s k v w := ⟨h.c0, h.c1, h.c2⟩
theorem textN_le : ∀ s : B, textN s ≤ s.length
  | [] => Nat.le_refl _
  | c :: t => by
    unfold textN
    split
    · have := textN_le t
      simp
      omega
    · exact Nat.zero_le _
theorem textN_step {s : B} {j : Nat} (h : j < s.length) (hp : plainL (s.drop j) = true) : textN (s.drop j) = 1 + textN (s.drop (j + 1)) := by
  rw [List.drop_eq_getElem_cons h] at hp ⊢
  conv => lhs; unfold textN
  rw [if_pos hp]
theorem textN_stop {s : B} {j : Nat} (h : j < s.length) (hp : plainL (s.drop j) = false) : textN (s.drop j) = 0 := by
  rw [List.drop_eq_getElem_cons h] at hp ⊢
  unfold textN
  rw [if_neg (by rw [hp]; simp)]
theorem drewN_two (w : World) (n m : Nat) : ∃ q, (w.drewN n).drewN m = w.drewN q := ⟨n + m, by simp [World.drewN, Nat.add_assoc]⟩
/-- plain, within a region that only reads. -/
theorem plain_q {w : World} {r k : Nat} {s : B} {v : Value} {b : Bool} (h : Rdr w r s k v) (hk : k < s.length) (hb : plainL (s.drop k) = b) (n : Nat) :
    Calls Tryz.prog 61 #[.pointer (some ⟨r, 0, none⟩)] (w.drewN n) fun e w' => e = .returned (.bool b) ∧ ∃ n, w' = w.drewN n := by
  refine (plain_u (h.drewN n) hk).mono ?_
  rintro e w' ⟨rfl, m, rfl⟩
  rw [hb]
  obtain ⟨q, hq⟩ := drewN_two w n m
  exact ⟨rfl, q, hq⟩
/-- A row just laid reads. -/
theorem reads_row (w : World) (t : TypeId) (cs : List Value) (size n : Nat) (h : cs.length = n * size) : Reads (w.alloc (.cells cs.toArray t)) (w.heap.size + 1) size (some ⟨w.heap.size, 0, none⟩) n cs := by
  refine ⟨h, fun _ => ⟨_, rfl, Nat.lt_succ_self _, fun j u hu => ?_⟩⟩
  have hb := Blk.cell (Blk.new w t cs.toArray) j
  rw [List.getElem?_toArray, hu] at hb
  have e : (⟨w.heap.size, 0, none⟩ : Addr).add j = ⟨w.heap.size, j, none⟩ := by
    unfold Addr.add
    split
    · rename_i h0; rw [h0]
    · simp
  rw [e]
  exact hb
theorem toks_put {w W2 : World} {base n : Nat} {v2 : Value} {ts : List Tok} {xs : List Value} {t : Tok} {A : Option Addr} {c : Nat} (hc : TokC w ts xs) (hk : KeepT 57 w W2)
    (hown : W2.ownsRow base 55 5 v2 n (xs ++ tokCells t A c)) (hn : n = ts.length + 1) (ha : W2.ownsRow 0 57 2 (.slice A t.attrs.length c) t.attrs.length (atrCells t.attrs)) : Toks W2 base v2 (ts ++ [t]) :=
  ⟨_, by rw [List.length_append, List.length_singleton, ← hn]; exact hown, (hc.keep hk).snoc t A c ha⟩

theorem only_below {S : Nat → Prop} {w wr w1 : World} (ho : Only S w wr) (hb : Below wr.heap.size wr w1) : Only S w w1 :=
  Only.next ho (Only.ofBelow hb) (fun i h1 h2 => by have := ho.size; omega)
theorem Rdr.blk {w : World} {r k : Nat} {s : B} {v : Value} (h : Rdr w r s k v) : Blk w r 71 #[.string (bs s), .int .i64 (k : Nat), v] := h
theorem tokCells_one (t : Tok) (A : Option Addr) (c : Nat) : ∀ u ∈ tokCells t A c, u.oneCell' = true := by
  intro u hu
  simp only [tokCells, List.mem_cons, List.not_mem_nil, or_false] at hu
  rcases hu with rfl | rfl | rfl | rfl | rfl <;> rfl
theorem KeepT.grown {t e : TypeId} {base n size : Nat} {v : Value} {xs : List Value} {w w' : World} (h : w.ownsRow base e size v n xs) (hne : t ≠ e) (hg : w.grownBy w' v.ownBlock) : KeepT t w w' := fun g cur x => by
  refine (hg.block g (heap_lt x) (fun he => ?_)).trans x
  obtain ⟨cur2, h2⟩ := own_row h he.symm
  rw [x] at h2
  injection h2 with h2
  injection h2 with _ h2 _
  exact hne h2
theorem tok_fin {w w2 w3 : World} {r base k : Nat} {v v3 : Value} {s : B} {ts : List Tok} {t : Tok} {A : Option Addr} {c : Nat} {xs : List Value} (hr3 : Rdr w3 r s k v) (ho2 : Only (fun b => b = r) w w2)
    (htc : TokC w ts xs) (hk2 : KeepT 57 w w2) (hown2 : w2.ownsRow base 55 5 v ts.length xs)
    (hown3 : w3.ownsRow base 55 5 v3 (ts.length + 1) (xs ++ tokCells t A c)) (hg3 : w2.grownBy w3 v.ownBlock) (hat : v3.ownBlock = v.ownBlock ∨ v3.ownBlock = some w2.heap.size)
    (ha2 : w2.ownsRow 0 57 2 (.slice A t.attrs.length c) t.attrs.length (atrCells t.attrs)) : RdP w r base v s k (ts ++ [t]) (w3.setCell ⟨r, 2, none⟩ v3) := by
  have hne := hr3.ne hown3
  have k1 : KeepT 57 w2 (w3.setCell ⟨r, 2, none⟩ v3) := (KeepT.grown hown2 (by decide) hg3).trans (.ofOnly hr3.blk (by decide) (only_set (Only.refl _ w3) 2 v3))
  refine ⟨v3, hr3.put v3, ⟨xs ++ tokCells t A c, ?_, (htc.keep (hk2.trans k1)).snoc t A c (own_keepT ha2 k1)⟩, ?_, ?_⟩
  · rw [List.length_append, List.length_singleton]
    exact ownsRow_setCell_other hown3 (a := ⟨r, 2, none⟩) hne v3
  · have h1 : Only (fun b => b = r ∨ v.ownBlock = some b) w w2 := ho2.mono fun _ _ h => .inl h
    exact (h1.grown hg3 (fun k hk _ => .inr hk)).setCell (p := ⟨r, 2, none⟩) (fun _ => .inl rfl) v3
  · rcases hat with h | h
    · exact .inl h
    · refine .inr fun b hb => ?_
      rw [h] at hb
      injection hb with hb
      have := ho2.size
      omega
theorem own_slice {w : World} {base n size : Nat} {e : TypeId} {v : Value} {xs : List Value} (h : w.ownsRow base e size v n xs) : ∃ (a : Option Addr) (c : Nat), v = .slice a n c := by
  rcases h.2 with ⟨rfl, rfl⟩ | ⟨g, cap, cur, rfl, _⟩
  · exact ⟨none, 0, rfl⟩
  · exact ⟨_, cap, rfl⟩

set_option maxRecDepth 100000 in
set_option maxHeartbeats 4000000 in
theorem text_u {w : World} {r base k : Nat} {s : B} {v : Value} {ts : List Tok} (h : Rdr w r s k v) (ht : Toks w base v ts) (hk : k ≤ s.length) (hs : s.length ≤ 160000000) (hn : ts.length ≤ 1600000000) (hbase : base ≤ w.heap.size) :
    Calls Tryz.prog 62 #[.pointer (some ⟨r, 0, none⟩)] w fun e w' => e = .returned (.tuple #[]) ∧ RdP w r base v s (k + textN (s.drop k)) (ts ++ [textT (resolveL ((s.drop k).take (textN (s.drop k))))]) w' := by
  obtain ⟨i0, hi, hz0, hz1, hzb⟩ := info_parts info55
  obtain ⟨xs, hown, htc⟩ := ht
  have c1 := h.c1
  go_enter Tryz.func62, Tryz.ntmps62
  go_wp2_with fail
  go_loopw [10] (fun _ wr => ∃ j, Rdr wr r s j v ∧ Only (fun b => b = r) w wr ∧ k ≤ j ∧ j ≤ s.length ∧ Hid (k + textN (s.drop k) = j + textN (s.drop j))) (fun _ wr => s.length - atOf wr r)
  case atStart => exact ⟨k, h, Only.refl _ _, Nat.le_refl _, hk, Lib.hid rfl⟩
  case round =>
    obtain ⟨j, hr, ho, hkj, hjs, Hp⟩ := hrel
    have d0 := hr.c0
    have d1 := hr.c1
    have hkz : (0 : Int) ≤ (k : Int) := by omega
    have hkj' : (k : Int) ≤ (j : Int) := by omega
    have hjs' : (j : Int) ≤ ((bs s).size : Int) := by rw [bs_size]; omega
    have hex : (bs s).extract k j = bs ((s.drop k).take (j - k)) := bs_extract _ _ _
    by_cases hlt : j < s.length
    · have t1 : decide ((j : Int) < ((bs s).size : Int)) = true := by rw [bs_size]; simp; omega
      have hix : (j : Int) < ((bs s).size : Int) := by rw [bs_size]; omega
      go_wp2_with fail
      cases hpl : plainL (s.drop j) with
      | true =>
        have hwj : IntKind.i64.wrap ((j : Int) + 1) = ((j + 1 : Nat) : Int) := by rw [IntKind.wrap_i64]; omega
        have Hst := Lib.hid (show k + textN (s.drop k) = (j + 1) + textN (s.drop (j + 1)) by rw [Hp.out, textN_step hlt hpl]; omega)
        have hP := plain_q hr hlt hpl
        go_quiet (exact hP _)
        have e1 := (hr.drewN nq).c1
        have f1 := Blk.frozen (hr.drewN nq) 1
        go_wp2_with fail
        go_roundw
        case rel => exact ⟨j + 1, (hr.drewN nq).go (j + 1), only_set (ho.drewN nq) _ _, by omega, by omega, Hst⟩
        case measure =>
          have ha := ((hr.drewN nq).go (j + 1)).at_
          rw [hr.at_]
          refine lt_of_eq_of_lt (congrArg (s.length - ·) ha) ?_
          omega
      | false =>
        have Hst := Lib.hid (show k + textN (s.drop k) = j by rw [Hp.out, textN_stop hlt hpl]; omega)
        have hP := plain_q hr hlt hpl
        go_quiet (exact hP _)
        go_wp2_with fail
        refine wp_region_late (z := 21) (S := (RC r s j v)) (by kernel_rfl) (show RC r s j v ((wr.drewN nq).drew) from hr.rc) (fun hHeld => ?_)
        refine wpAnyJ_take (i := 0) (oi := { dst := some 28, op := Go.Op.move (Go.Operand.tmp 0), type := 69, pos := "tok.go:65", after := #[], guard := none }) (v := ?_) rfl (by kernel_rfl) (by kernel_rfl) (by kernel_rfl) (by kernel_rfl) (fun _ _ _ h => h) (Or.inl ⟨by rfl, ?_⟩) (by assumption) ?_
        rotate_left
        · intro w hSw
          obtain ⟨c0, c1, c2⟩ := hSw
          go_simp
          try with_reducible rfl
        try simp only [Act.put, List.setIfInBounds_toArray, List.set_cons_zero, List.set_cons_succ]
        refine wpAnyJ_take (i := 1) (oi := { dst := some 29, op := Go.Op.move (Go.Operand.tmp 0), type := 69, pos := "tok.go:65", after := #[], guard := none }) (v := ?_) rfl (by kernel_rfl) (by kernel_rfl) (by kernel_rfl) (by kernel_rfl) (fun _ _ _ h => h) (Or.inl ⟨by rfl, ?_⟩) (by assumption) ?_
        rotate_left
        · intro w hSw
          obtain ⟨c0, c1, c2⟩ := hSw
          go_simp
          try with_reducible rfl
        try simp only [Act.put, List.setIfInBounds_toArray, List.set_cons_zero, List.set_cons_succ]
        refine wpAnyJ_take (i := 2) (oi := { dst := some 30, op := Go.Op.nilCheck (Go.Operand.tmp 29), type := 0, pos := "tok.go:65", after := #[{ on := 1, ground := Go.Ground.data }], guard := none }) (v := ?_) rfl (by kernel_rfl) (by kernel_rfl) (by kernel_rfl) (by kernel_rfl) (fun _ _ _ h => h) (Or.inl ⟨by rfl, ?_⟩) (by assumption) ?_
        rotate_left
        · intro w hSw
          obtain ⟨c0, c1, c2⟩ := hSw
          go_simp
          try with_reducible rfl
        try simp only [Act.put, List.setIfInBounds_toArray, List.set_cons_zero, List.set_cons_succ]
        refine wpAnyJ_take (i := 3) (oi := { dst := some 31, op := Go.Op.fieldAddr 71 (Go.Operand.tmp 30) 2, type := 0, pos := "tok.go:65", after := #[{ on := 2, ground := Go.Ground.data }], guard := none }) (v := ?_) rfl (by kernel_rfl) (by kernel_rfl) (by kernel_rfl) (by kernel_rfl) (fun _ _ _ h => h) (Or.inl ⟨by rfl, ?_⟩) (by assumption) ?_
        rotate_left
        · intro w hSw
          obtain ⟨c0, c1, c2⟩ := hSw
          go_simp
          try with_reducible rfl
        try simp only [Act.put, List.setIfInBounds_toArray, List.set_cons_zero, List.set_cons_succ]
        refine wpAnyJ_take (i := 4) (oi := { dst := some 32, op := Go.Op.load 40 (Go.Operand.tmp 31), type := 40, pos := "tok.go:65", after := #[{ on := 3, ground := Go.Ground.data }], guard := none }) (v := ?_) rfl (by kernel_rfl) (by kernel_rfl) (by kernel_rfl) (by kernel_rfl) (fun _ _ _ h => h) (Or.inl ⟨by rfl, ?_⟩) (by assumption) ?_
        rotate_left
        · intro w hSw
          obtain ⟨c0, c1, c2⟩ := hSw
          go_simp
          try with_reducible rfl
        try simp only [Act.put, List.setIfInBounds_toArray, List.set_cons_zero, List.set_cons_succ]
        refine wpAnyJ_take (i := 5) (oi := { dst := some 33, op := Go.Op.move (Go.Operand.tmp 0), type := 69, pos := "tok.go:65", after := #[], guard := none }) (v := ?_) rfl (by kernel_rfl) (by kernel_rfl) (by kernel_rfl) (by kernel_rfl) (fun _ _ _ h => h) (Or.inl ⟨by rfl, ?_⟩) (by assumption) ?_
        rotate_left
        · intro w hSw
          obtain ⟨c0, c1, c2⟩ := hSw
          go_simp
          try with_reducible rfl
        try simp only [Act.put, List.setIfInBounds_toArray, List.set_cons_zero, List.set_cons_succ]
        refine wpAnyJ_take (i := 6) (oi := { dst := some 34, op := Go.Op.nilCheck (Go.Operand.tmp 33), type := 0, pos := "tok.go:65", after := #[{ on := 5, ground := Go.Ground.data }], guard := none }) (v := ?_) rfl (by kernel_rfl) (by kernel_rfl) (by kernel_rfl) (by kernel_rfl) (fun _ _ _ h => h) (Or.inl ⟨by rfl, ?_⟩) (by assumption) ?_
        rotate_left
        · intro w hSw
          obtain ⟨c0, c1, c2⟩ := hSw
          go_simp
          try with_reducible rfl
        try simp only [Act.put, List.setIfInBounds_toArray, List.set_cons_zero, List.set_cons_succ]
        refine wpAnyJ_take (i := 7) (oi := { dst := some 35, op := Go.Op.fieldAddr 71 (Go.Operand.tmp 34) 0, type := 0, pos := "tok.go:65", after := #[{ on := 6, ground := Go.Ground.data }], guard := none }) (v := ?_) rfl (by kernel_rfl) (by kernel_rfl) (by kernel_rfl) (by kernel_rfl) (fun _ _ _ h => h) (Or.inl ⟨by rfl, ?_⟩) (by assumption) ?_
        rotate_left
        · intro w hSw
          obtain ⟨c0, c1, c2⟩ := hSw
          go_simp
          try with_reducible rfl
        try simp only [Act.put, List.setIfInBounds_toArray, List.set_cons_zero, List.set_cons_succ]
        refine wpAnyJ_take (i := 8) (oi := { dst := some 36, op := Go.Op.load 9 (Go.Operand.tmp 35), type := 9, pos := "tok.go:65", after := #[{ on := 7, ground := Go.Ground.data }], guard := none }) (v := ?_) rfl (by kernel_rfl) (by kernel_rfl) (by kernel_rfl) (by kernel_rfl) (fun _ _ _ h => h) (Or.inl ⟨by rfl, ?_⟩) (by assumption) ?_
        rotate_left
        · intro w hSw
          obtain ⟨c0, c1, c2⟩ := hSw
          go_simp
          try with_reducible rfl
        try simp only [Act.put, List.setIfInBounds_toArray, List.set_cons_zero, List.set_cons_succ]
        refine wpAnyJ_take (i := 9) (oi := { dst := some 37, op := Go.Op.move (Go.Operand.tmp 2), type := 3, pos := "tok.go:65", after := #[], guard := none }) (v := ?_) rfl (by kernel_rfl) (by kernel_rfl) (by kernel_rfl) (by kernel_rfl) (fun _ _ _ h => h) (Or.inl ⟨by rfl, ?_⟩) (by assumption) ?_
        rotate_left
        · intro w hSw
          obtain ⟨c0, c1, c2⟩ := hSw
          go_simp
          try with_reducible rfl
        try simp only [Act.put, List.setIfInBounds_toArray, List.set_cons_zero, List.set_cons_succ]
        refine wpAnyJ_take (i := 10) (oi := { dst := some 38, op := Go.Op.move (Go.Operand.tmp 0), type := 69, pos := "tok.go:65", after := #[], guard := none }) (v := ?_) rfl (by kernel_rfl) (by kernel_rfl) (by kernel_rfl) (by kernel_rfl) (fun _ _ _ h => h) (Or.inl ⟨by rfl, ?_⟩) (by assumption) ?_
        rotate_left
        · intro w hSw
          obtain ⟨c0, c1, c2⟩ := hSw
          go_simp
          try with_reducible rfl
        try simp only [Act.put, List.setIfInBounds_toArray, List.set_cons_zero, List.set_cons_succ]
        refine wpAnyJ_take (i := 11) (oi := { dst := some 39, op := Go.Op.nilCheck (Go.Operand.tmp 38), type := 0, pos := "tok.go:65", after := #[{ on := 10, ground := Go.Ground.data }], guard := none }) (v := ?_) rfl (by kernel_rfl) (by kernel_rfl) (by kernel_rfl) (by kernel_rfl) (fun _ _ _ h => h) (Or.inl ⟨by rfl, ?_⟩) (by assumption) ?_
        rotate_left
        · intro w hSw
          obtain ⟨c0, c1, c2⟩ := hSw
          go_simp
          try with_reducible rfl
        try simp only [Act.put, List.setIfInBounds_toArray, List.set_cons_zero, List.set_cons_succ]
        refine wpAnyJ_take (i := 12) (oi := { dst := some 40, op := Go.Op.fieldAddr 71 (Go.Operand.tmp 39) 1, type := 0, pos := "tok.go:65", after := #[{ on := 11, ground := Go.Ground.data }], guard := none }) (v := ?_) rfl (by kernel_rfl) (by kernel_rfl) (by kernel_rfl) (by kernel_rfl) (fun _ _ _ h => h) (Or.inl ⟨by rfl, ?_⟩) (by assumption) ?_
        rotate_left
        · intro w hSw
          obtain ⟨c0, c1, c2⟩ := hSw
          go_simp
          try with_reducible rfl
        try simp only [Act.put, List.setIfInBounds_toArray, List.set_cons_zero, List.set_cons_succ]
        refine wpAnyJ_take (i := 13) (oi := { dst := some 41, op := Go.Op.load 3 (Go.Operand.tmp 40), type := 3, pos := "tok.go:65", after := #[{ on := 12, ground := Go.Ground.data }], guard := none }) (v := ?_) rfl (by kernel_rfl) (by kernel_rfl) (by kernel_rfl) (by kernel_rfl) (fun _ _ _ h => h) (Or.inl ⟨by rfl, ?_⟩) (by assumption) ?_
        rotate_left
        · intro w hSw
          obtain ⟨c0, c1, c2⟩ := hSw
          go_simp
          try with_reducible rfl
        try simp only [Act.put, List.setIfInBounds_toArray, List.set_cons_zero, List.set_cons_succ]
        refine wpAnyJ_take (i := 14) (oi := { dst := some 42, op := Go.Op.slice 9 (Go.Operand.tmp 36) (some (Go.Operand.tmp 37)) (some (Go.Operand.tmp 41)) none, type := 9, pos := "tok.go:65", after := #[{ on := 8, ground := Go.Ground.data }, { on := 9, ground := Go.Ground.data }, { on := 13, ground := Go.Ground.data }], guard := none }) (v := (Value.string (bs ((s.drop k).take (j - k))))) rfl (by kernel_rfl) (by kernel_rfl) (by kernel_rfl) (by kernel_rfl) (fun _ _ _ h => h) (Or.inl ⟨by rfl, ?_⟩) (by assumption) ?_
        · intro w hSw
          go_simp
          try with_reducible rfl
        try simp only [Act.put, List.setIfInBounds_toArray, List.set_cons_zero, List.set_cons_succ]
        refine wpAnyJ_one (i := 15) (o := { dst := some 43, op := Go.Op.call { callee := Go.Callee.value (Go.Operand.func 78), args := #[Go.Operand.tmp 42], argTypes := #[9] }, type := 9, pos := "tok.go:65", after := #[{ on := 14, ground := Go.Ground.data }], guard := none }) (by kernel_rfl) (by decide) rfl (fun K hK => ?_)
        go_simp
        refine (resolve_u ((s.drop k).take (j - k)) (by simp; omega)).mono ?_
        rintro e w1 ⟨rfl, hb1⟩
        have hb1 : Below wr.heap.size wr w1 := below_dn (n := nq + 1) hb1
        have hr1 : Rdr w1 r s j v := Blk.below hr hb1 (heap_lt hr)
        have hk1 : ∀ t, KeepT t wr w1 := fun t => KeepT.below hb1
        have ho1 : Only (fun b => b = r) w w1 := only_below ho hb1
        refine hK.out _ _ (show RC r s j v _ from Rdr.rc hr1) (fun hHeld => ?_)
        clear hK K
        try simp only [Act.put, List.setIfInBounds_toArray, List.set_cons_zero, List.set_cons_succ]
        refine wpAnyJ_one (i := 16) (o := { dst := some 44, op := Go.Op.build 55 #[(0, Go.Operand.const (Go.Value.int Go.IntKind.i64 1)), (4, Go.Operand.tmp 43)], type := 55, pos := "tok.go:65", after := #[{ on := 15, ground := Go.Ground.data }], guard := none }) (by kernel_rfl) (by decide) rfl (fun K hK => ?_)
        go_simp
        refine hK.out _ _ (show RC r s j v _ from Rdr.rc hr1) (fun hHeld => ?_)
        clear hK K
        try simp only [Act.put, List.setIfInBounds_toArray, List.set_cons_zero, List.set_cons_succ]
        refine wpAnyJ_one (i := 17) (o := { dst := some 45, op := Go.Op.buildSlice 40 1 #[(0, Go.Operand.tmp 44)], type := 40, pos := "tok.go:65", after := #[{ on := 16, ground := Go.Ground.data }], guard := none }) (by kernel_rfl) (by decide) rfl (fun K hK => ?_)
        go_simp
        have hr2 : Rdr (w1.alloc (.cells (tokCells (textT (resolveL ((s.drop k).take (j - k)))) none 0).toArray 55)) r s j v := Blk.alloc hr1 _
        refine hK.out _ _ (show RC r s j v _ from Rdr.rc hr2) (fun hHeld => ?_)
        clear hK K
        try simp only [Act.put, List.setIfInBounds_toArray, List.set_cons_zero, List.set_cons_succ]
        refine wpAnyJ_one (i := 18) (o := { dst := some 46, op := Go.Op.call { callee := Go.Callee.builtin Go.Builtin.append, args := #[Go.Operand.tmp 32, Go.Operand.tmp 45], argTypes := #[40, 40] }, type := 40, pos := "tok.go:65", after := #[{ on := 4, ground := Go.Ground.data }, { on := 17, ground := Go.Ground.data }, { on := 15, ground := Go.Ground.chain }], guard := none }) (by kernel_rfl) (by decide) rfl (fun K hK => ?_)
        have ho2 : Only (fun b => b = r) w (w1.alloc (.cells (tokCells (textT (resolveL ((s.drop k).take (j - k)))) none 0).toArray 55)) := ho1.alloc _
        have hk2 : KeepT 57 w (w1.alloc (.cells (tokCells (textT (resolveL ((s.drop k).take (j - k)))) none 0).toArray 55)) := KeepT.ofOnly (Rdr.blk h) (by decide) ho2
        have hown2 : World.ownsRow (w1.alloc (.cells (tokCells (textT (resolveL ((s.drop k).take (j - k)))) none 0).toArray 55)) base 55 5 v ts.length xs := own_only hown ho2 (fun k hk e => h.ne hown (e ▸ hk))
        have hz2 := ho2.size
        refine step_append_any _ rfl (.tmp 32) (.tmp 45) 40 rfl base 55 i0 _ 5 72 Tryz.underlying40 hi hz0 hz1 hzb rfl (by omega) v ts.length xs rfl hown2 _ _ 1 1 (tokCells (textT (resolveL ((s.drop k).take (j - k)))) none 0) rfl (reads_row w1 55 _ 5 1 rfl) (tokCells_one _ _ _) (by unfold maxLen; omega) (by omega) (Nat.le_trans hbase hz2) ?_
        intro v3 w3 hown3 hg3 hat3
        have hr3 : Rdr w3 r s _ v := Blk.grown hr2 hg3 (fun e => Rdr.ne hr2 hown2 e.symm)
        refine hK.out _ _ (show RC r s _ v _ from Rdr.rc hr3) (fun hHeld => ?_)
        clear hK K
        try simp only [Act.put, List.setIfInBounds_toArray, List.set_cons_zero, List.set_cons_succ]
        refine wpAnyJ_one (i := 19) (o := { dst := some 47, op := Go.Op.nilCheck (Go.Operand.tmp 28), type := 0, pos := "tok.go:65", after := #[{ on := 0, ground := Go.Ground.data }, { on := 0, ground := Go.Ground.phase }, { on := 1, ground := Go.Ground.phase }, { on := 2, ground := Go.Ground.phase }, { on := 3, ground := Go.Ground.phase }, { on := 4, ground := Go.Ground.phase }, { on := 5, ground := Go.Ground.phase }, { on := 6, ground := Go.Ground.phase }, { on := 7, ground := Go.Ground.phase }, { on := 8, ground := Go.Ground.phase }, { on := 9, ground := Go.Ground.phase }, { on := 10, ground := Go.Ground.phase }, { on := 11, ground := Go.Ground.phase }, { on := 12, ground := Go.Ground.phase }, { on := 13, ground := Go.Ground.phase }, { on := 14, ground := Go.Ground.phase }, { on := 15, ground := Go.Ground.phase }, { on := 16, ground := Go.Ground.phase }, { on := 17, ground := Go.Ground.phase }, { on := 18, ground := Go.Ground.phase }], guard := none }) (by kernel_rfl) (by decide) rfl (fun K hK => ?_)
        go_simp
        refine hK.out _ _ (show RC r s j v _ from Rdr.rc hr3) (fun hHeld => ?_)
        clear hK K
        try simp only [Act.put, List.setIfInBounds_toArray, List.set_cons_zero, List.set_cons_succ]
        refine wpAnyJ_one (i := 20) (o := { dst := some 48, op := Go.Op.fieldAddr 71 (Go.Operand.tmp 47) 2, type := 0, pos := "tok.go:65", after := #[{ on := 19, ground := Go.Ground.data }, { on := 0, ground := Go.Ground.phase }, { on := 1, ground := Go.Ground.phase }, { on := 2, ground := Go.Ground.phase }, { on := 3, ground := Go.Ground.phase }, { on := 4, ground := Go.Ground.phase }, { on := 5, ground := Go.Ground.phase }, { on := 6, ground := Go.Ground.phase }, { on := 7, ground := Go.Ground.phase }, { on := 8, ground := Go.Ground.phase }, { on := 9, ground := Go.Ground.phase }, { on := 10, ground := Go.Ground.phase }, { on := 11, ground := Go.Ground.phase }, { on := 12, ground := Go.Ground.phase }, { on := 13, ground := Go.Ground.phase }, { on := 14, ground := Go.Ground.phase }, { on := 15, ground := Go.Ground.phase }, { on := 16, ground := Go.Ground.phase }, { on := 17, ground := Go.Ground.phase }, { on := 18, ground := Go.Ground.phase }], guard := none }) (by kernel_rfl) (by decide) rfl (fun K hK => ?_)
        go_simp
        refine hK.out _ _ (show RC r s j v _ from Rdr.rc hr3) (fun hHeld => ?_)
        clear hK K
        try simp only [Act.put, List.setIfInBounds_toArray, List.set_cons_zero, List.set_cons_succ]
        obtain ⟨a3, c3, rfl⟩ := own_slice hown3
        have f2 := Blk.frozen hr3 2
        have g2 := Rdr.c2 hr3
        refine wpAnyJ_last (o := { dst := none, op := Go.Op.store 40 (Go.Operand.tmp 48) (Go.Operand.tmp 46), type := 0, pos := "tok.go:65", after := #[{ on := 20, ground := Go.Ground.data }, { on := 18, ground := Go.Ground.data }, { on := 18, ground := Go.Ground.chain }, { on := 0, ground := Go.Ground.phase }, { on := 1, ground := Go.Ground.phase }, { on := 2, ground := Go.Ground.phase }, { on := 3, ground := Go.Ground.phase }, { on := 4, ground := Go.Ground.phase }, { on := 5, ground := Go.Ground.phase }, { on := 6, ground := Go.Ground.phase }, { on := 7, ground := Go.Ground.phase }, { on := 8, ground := Go.Ground.phase }, { on := 9, ground := Go.Ground.phase }, { on := 10, ground := Go.Ground.phase }, { on := 11, ground := Go.Ground.phase }, { on := 12, ground := Go.Ground.phase }, { on := 13, ground := Go.Ground.phase }, { on := 14, ground := Go.Ground.phase }, { on := 15, ground := Go.Ground.phase }, { on := 16, ground := Go.Ground.phase }, { on := 17, ground := Go.Ground.phase }, { on := 18, ground := Go.Ground.phase }], guard := none }) (by kernel_rfl) rfl (fun K hK => ?_)
        go_simp
        refine hK.out _ _ ?_
        clear hK K
        refine wpAnyJ_done (by kernel_rfl) ?_ _
        go_wp2_with fail
        go_end0
        refine ⟨rfl, ?_⟩
        have hj2 : textN (s.drop k) = j - k := by have := Hst.out; omega
        rw [Hst.out, hj2]
        exact tok_fin hr3 ho2 htc hk2 hown2 hown3 hg3 hat3 (World.ownsRow_nil _ _ _ _)
    · have t1 : decide ((j : Int) < ((bs s).size : Int)) = false := by rw [bs_size]; simp; omega
      have t2 : decide (j < (bs s).size) = false := by rw [bs_size]; simp; omega
      have Hst := Lib.hid (show k + textN (s.drop k) = j by rw [Hp.out, List.drop_of_length_le (show s.length ≤ j by omega)]; rfl)
      go_wp2_with fail
      go_quiet (fail)
      go_wp2_with fail
      refine wp_region_late (z := 21) (S := (RC r s j v)) (by kernel_rfl) (show RC r s j v ((wr.drewN nq).drew) from hr.rc) (fun hHeld => ?_)
      refine wpAnyJ_take (i := 0) (oi := { dst := some 28, op := Go.Op.move (Go.Operand.tmp 0), type := 69, pos := "tok.go:65", after := #[], guard := none }) (v := ?_) rfl (by kernel_rfl) (by kernel_rfl) (by kernel_rfl) (by kernel_rfl) (fun _ _ _ h => h) (Or.inl ⟨by rfl, ?_⟩) (by assumption) ?_
      rotate_left
      · intro w hSw
        obtain ⟨c0, c1, c2⟩ := hSw
        go_simp
        try with_reducible rfl
      try simp only [Act.put, List.setIfInBounds_toArray, List.set_cons_zero, List.set_cons_succ]
      refine wpAnyJ_take (i := 1) (oi := { dst := some 29, op := Go.Op.move (Go.Operand.tmp 0), type := 69, pos := "tok.go:65", after := #[], guard := none }) (v := ?_) rfl (by kernel_rfl) (by kernel_rfl) (by kernel_rfl) (by kernel_rfl) (fun _ _ _ h => h) (Or.inl ⟨by rfl, ?_⟩) (by assumption) ?_
      rotate_left
      · intro w hSw
        obtain ⟨c0, c1, c2⟩ := hSw
        go_simp
        try with_reducible rfl
      try simp only [Act.put, List.setIfInBounds_toArray, List.set_cons_zero, List.set_cons_succ]
      refine wpAnyJ_take (i := 2) (oi := { dst := some 30, op := Go.Op.nilCheck (Go.Operand.tmp 29), type := 0, pos := "tok.go:65", after := #[{ on := 1, ground := Go.Ground.data }], guard := none }) (v := ?_) rfl (by kernel_rfl) (by kernel_rfl) (by kernel_rfl) (by kernel_rfl) (fun _ _ _ h => h) (Or.inl ⟨by rfl, ?_⟩) (by assumption) ?_
      rotate_left
      · intro w hSw
        obtain ⟨c0, c1, c2⟩ := hSw
        go_simp
        try with_reducible rfl
      try simp only [Act.put, List.setIfInBounds_toArray, List.set_cons_zero, List.set_cons_succ]
      refine wpAnyJ_take (i := 3) (oi := { dst := some 31, op := Go.Op.fieldAddr 71 (Go.Operand.tmp 30) 2, type := 0, pos := "tok.go:65", after := #[{ on := 2, ground := Go.Ground.data }], guard := none }) (v := ?_) rfl (by kernel_rfl) (by kernel_rfl) (by kernel_rfl) (by kernel_rfl) (fun _ _ _ h => h) (Or.inl ⟨by rfl, ?_⟩) (by assumption) ?_
      rotate_left
      · intro w hSw
        obtain ⟨c0, c1, c2⟩ := hSw
        go_simp
        try with_reducible rfl
      try simp only [Act.put, List.setIfInBounds_toArray, List.set_cons_zero, List.set_cons_succ]
      refine wpAnyJ_take (i := 4) (oi := { dst := some 32, op := Go.Op.load 40 (Go.Operand.tmp 31), type := 40, pos := "tok.go:65", after := #[{ on := 3, ground := Go.Ground.data }], guard := none }) (v := ?_) rfl (by kernel_rfl) (by kernel_rfl) (by kernel_rfl) (by kernel_rfl) (fun _ _ _ h => h) (Or.inl ⟨by rfl, ?_⟩) (by assumption) ?_
      rotate_left
      · intro w hSw
        obtain ⟨c0, c1, c2⟩ := hSw
        go_simp
        try with_reducible rfl
      try simp only [Act.put, List.setIfInBounds_toArray, List.set_cons_zero, List.set_cons_succ]
      refine wpAnyJ_take (i := 5) (oi := { dst := some 33, op := Go.Op.move (Go.Operand.tmp 0), type := 69, pos := "tok.go:65", after := #[], guard := none }) (v := ?_) rfl (by kernel_rfl) (by kernel_rfl) (by kernel_rfl) (by kernel_rfl) (fun _ _ _ h => h) (Or.inl ⟨by rfl, ?_⟩) (by assumption) ?_
      rotate_left
      · intro w hSw
        obtain ⟨c0, c1, c2⟩ := hSw
        go_simp
        try with_reducible rfl
      try simp only [Act.put, List.setIfInBounds_toArray, List.set_cons_zero, List.set_cons_succ]
      refine wpAnyJ_take (i := 6) (oi := { dst := some 34, op := Go.Op.nilCheck (Go.Operand.tmp 33), type := 0, pos := "tok.go:65", after := #[{ on := 5, ground := Go.Ground.data }], guard := none }) (v := ?_) rfl (by kernel_rfl) (by kernel_rfl) (by kernel_rfl) (by kernel_rfl) (fun _ _ _ h => h) (Or.inl ⟨by rfl, ?_⟩) (by assumption) ?_
      rotate_left
      · intro w hSw
        obtain ⟨c0, c1, c2⟩ := hSw
        go_simp
        try with_reducible rfl
      try simp only [Act.put, List.setIfInBounds_toArray, List.set_cons_zero, List.set_cons_succ]
      refine wpAnyJ_take (i := 7) (oi := { dst := some 35, op := Go.Op.fieldAddr 71 (Go.Operand.tmp 34) 0, type := 0, pos := "tok.go:65", after := #[{ on := 6, ground := Go.Ground.data }], guard := none }) (v := ?_) rfl (by kernel_rfl) (by kernel_rfl) (by kernel_rfl) (by kernel_rfl) (fun _ _ _ h => h) (Or.inl ⟨by rfl, ?_⟩) (by assumption) ?_
      rotate_left
      · intro w hSw
        obtain ⟨c0, c1, c2⟩ := hSw
        go_simp
        try with_reducible rfl
      try simp only [Act.put, List.setIfInBounds_toArray, List.set_cons_zero, List.set_cons_succ]
      refine wpAnyJ_take (i := 8) (oi := { dst := some 36, op := Go.Op.load 9 (Go.Operand.tmp 35), type := 9, pos := "tok.go:65", after := #[{ on := 7, ground := Go.Ground.data }], guard := none }) (v := ?_) rfl (by kernel_rfl) (by kernel_rfl) (by kernel_rfl) (by kernel_rfl) (fun _ _ _ h => h) (Or.inl ⟨by rfl, ?_⟩) (by assumption) ?_
      rotate_left
      · intro w hSw
        obtain ⟨c0, c1, c2⟩ := hSw
        go_simp
        try with_reducible rfl
      try simp only [Act.put, List.setIfInBounds_toArray, List.set_cons_zero, List.set_cons_succ]
      refine wpAnyJ_take (i := 9) (oi := { dst := some 37, op := Go.Op.move (Go.Operand.tmp 2), type := 3, pos := "tok.go:65", after := #[], guard := none }) (v := ?_) rfl (by kernel_rfl) (by kernel_rfl) (by kernel_rfl) (by kernel_rfl) (fun _ _ _ h => h) (Or.inl ⟨by rfl, ?_⟩) (by assumption) ?_
      rotate_left
      · intro w hSw
        obtain ⟨c0, c1, c2⟩ := hSw
        go_simp
        try with_reducible rfl
      try simp only [Act.put, List.setIfInBounds_toArray, List.set_cons_zero, List.set_cons_succ]
      refine wpAnyJ_take (i := 10) (oi := { dst := some 38, op := Go.Op.move (Go.Operand.tmp 0), type := 69, pos := "tok.go:65", after := #[], guard := none }) (v := ?_) rfl (by kernel_rfl) (by kernel_rfl) (by kernel_rfl) (by kernel_rfl) (fun _ _ _ h => h) (Or.inl ⟨by rfl, ?_⟩) (by assumption) ?_
      rotate_left
      · intro w hSw
        obtain ⟨c0, c1, c2⟩ := hSw
        go_simp
        try with_reducible rfl
      try simp only [Act.put, List.setIfInBounds_toArray, List.set_cons_zero, List.set_cons_succ]
      refine wpAnyJ_take (i := 11) (oi := { dst := some 39, op := Go.Op.nilCheck (Go.Operand.tmp 38), type := 0, pos := "tok.go:65", after := #[{ on := 10, ground := Go.Ground.data }], guard := none }) (v := ?_) rfl (by kernel_rfl) (by kernel_rfl) (by kernel_rfl) (by kernel_rfl) (fun _ _ _ h => h) (Or.inl ⟨by rfl, ?_⟩) (by assumption) ?_
      rotate_left
      · intro w hSw
        obtain ⟨c0, c1, c2⟩ := hSw
        go_simp
        try with_reducible rfl
      try simp only [Act.put, List.setIfInBounds_toArray, List.set_cons_zero, List.set_cons_succ]
      refine wpAnyJ_take (i := 12) (oi := { dst := some 40, op := Go.Op.fieldAddr 71 (Go.Operand.tmp 39) 1, type := 0, pos := "tok.go:65", after := #[{ on := 11, ground := Go.Ground.data }], guard := none }) (v := ?_) rfl (by kernel_rfl) (by kernel_rfl) (by kernel_rfl) (by kernel_rfl) (fun _ _ _ h => h) (Or.inl ⟨by rfl, ?_⟩) (by assumption) ?_
      rotate_left
      · intro w hSw
        obtain ⟨c0, c1, c2⟩ := hSw
        go_simp
        try with_reducible rfl
      try simp only [Act.put, List.setIfInBounds_toArray, List.set_cons_zero, List.set_cons_succ]
      refine wpAnyJ_take (i := 13) (oi := { dst := some 41, op := Go.Op.load 3 (Go.Operand.tmp 40), type := 3, pos := "tok.go:65", after := #[{ on := 12, ground := Go.Ground.data }], guard := none }) (v := ?_) rfl (by kernel_rfl) (by kernel_rfl) (by kernel_rfl) (by kernel_rfl) (fun _ _ _ h => h) (Or.inl ⟨by rfl, ?_⟩) (by assumption) ?_
      rotate_left
      · intro w hSw
        obtain ⟨c0, c1, c2⟩ := hSw
        go_simp
        try with_reducible rfl
      try simp only [Act.put, List.setIfInBounds_toArray, List.set_cons_zero, List.set_cons_succ]
      refine wpAnyJ_take (i := 14) (oi := { dst := some 42, op := Go.Op.slice 9 (Go.Operand.tmp 36) (some (Go.Operand.tmp 37)) (some (Go.Operand.tmp 41)) none, type := 9, pos := "tok.go:65", after := #[{ on := 8, ground := Go.Ground.data }, { on := 9, ground := Go.Ground.data }, { on := 13, ground := Go.Ground.data }], guard := none }) (v := (Value.string (bs ((s.drop k).take (j - k))))) rfl (by kernel_rfl) (by kernel_rfl) (by kernel_rfl) (by kernel_rfl) (fun _ _ _ h => h) (Or.inl ⟨by rfl, ?_⟩) (by assumption) ?_
      · intro w hSw
        go_simp
        try with_reducible rfl
      try simp only [Act.put, List.setIfInBounds_toArray, List.set_cons_zero, List.set_cons_succ]
      refine wpAnyJ_one (i := 15) (o := { dst := some 43, op := Go.Op.call { callee := Go.Callee.value (Go.Operand.func 78), args := #[Go.Operand.tmp 42], argTypes := #[9] }, type := 9, pos := "tok.go:65", after := #[{ on := 14, ground := Go.Ground.data }], guard := none }) (by kernel_rfl) (by decide) rfl (fun K hK => ?_)
      go_simp
      refine (resolve_u ((s.drop k).take (j - k)) (by simp; omega)).mono ?_
      rintro e w1 ⟨rfl, hb1⟩
      have hb1 : Below wr.heap.size wr w1 := below_dn (n := nq + 1) hb1
      have hr1 : Rdr w1 r s j v := Blk.below hr hb1 (heap_lt hr)
      have hk1 : ∀ t, KeepT t wr w1 := fun t => KeepT.below hb1
      have ho1 : Only (fun b => b = r) w w1 := only_below ho hb1
      refine hK.out _ _ (show RC r s j v _ from Rdr.rc hr1) (fun hHeld => ?_)
      clear hK K
      try simp only [Act.put, List.setIfInBounds_toArray, List.set_cons_zero, List.set_cons_succ]
      refine wpAnyJ_one (i := 16) (o := { dst := some 44, op := Go.Op.build 55 #[(0, Go.Operand.const (Go.Value.int Go.IntKind.i64 1)), (4, Go.Operand.tmp 43)], type := 55, pos := "tok.go:65", after := #[{ on := 15, ground := Go.Ground.data }], guard := none }) (by kernel_rfl) (by decide) rfl (fun K hK => ?_)
      go_simp
      refine hK.out _ _ (show RC r s j v _ from Rdr.rc hr1) (fun hHeld => ?_)
      clear hK K
      try simp only [Act.put, List.setIfInBounds_toArray, List.set_cons_zero, List.set_cons_succ]
      refine wpAnyJ_one (i := 17) (o := { dst := some 45, op := Go.Op.buildSlice 40 1 #[(0, Go.Operand.tmp 44)], type := 40, pos := "tok.go:65", after := #[{ on := 16, ground := Go.Ground.data }], guard := none }) (by kernel_rfl) (by decide) rfl (fun K hK => ?_)
      go_simp
      have hr2 : Rdr (w1.alloc (.cells (tokCells (textT (resolveL ((s.drop k).take (j - k)))) none 0).toArray 55)) r s j v := Blk.alloc hr1 _
      refine hK.out _ _ (show RC r s j v _ from Rdr.rc hr2) (fun hHeld => ?_)
      clear hK K
      try simp only [Act.put, List.setIfInBounds_toArray, List.set_cons_zero, List.set_cons_succ]
      refine wpAnyJ_one (i := 18) (o := { dst := some 46, op := Go.Op.call { callee := Go.Callee.builtin Go.Builtin.append, args := #[Go.Operand.tmp 32, Go.Operand.tmp 45], argTypes := #[40, 40] }, type := 40, pos := "tok.go:65", after := #[{ on := 4, ground := Go.Ground.data }, { on := 17, ground := Go.Ground.data }, { on := 15, ground := Go.Ground.chain }], guard := none }) (by kernel_rfl) (by decide) rfl (fun K hK => ?_)
      have ho2 : Only (fun b => b = r) w (w1.alloc (.cells (tokCells (textT (resolveL ((s.drop k).take (j - k)))) none 0).toArray 55)) := ho1.alloc _
      have hk2 : KeepT 57 w (w1.alloc (.cells (tokCells (textT (resolveL ((s.drop k).take (j - k)))) none 0).toArray 55)) := KeepT.ofOnly (Rdr.blk h) (by decide) ho2
      have hown2 : World.ownsRow (w1.alloc (.cells (tokCells (textT (resolveL ((s.drop k).take (j - k)))) none 0).toArray 55)) base 55 5 v ts.length xs := own_only hown ho2 (fun k hk e => h.ne hown (e ▸ hk))
      have hz2 := ho2.size
      refine step_append_any _ rfl (.tmp 32) (.tmp 45) 40 rfl base 55 i0 _ 5 72 Tryz.underlying40 hi hz0 hz1 hzb rfl (by omega) v ts.length xs rfl hown2 _ _ 1 1 (tokCells (textT (resolveL ((s.drop k).take (j - k)))) none 0) rfl (reads_row w1 55 _ 5 1 rfl) (tokCells_one _ _ _) (by unfold maxLen; omega) (by omega) (Nat.le_trans hbase hz2) ?_
      intro v3 w3 hown3 hg3 hat3
      have hr3 : Rdr w3 r s _ v := Blk.grown hr2 hg3 (fun e => Rdr.ne hr2 hown2 e.symm)
      refine hK.out _ _ (show RC r s _ v _ from Rdr.rc hr3) (fun hHeld => ?_)
      clear hK K
      try simp only [Act.put, List.setIfInBounds_toArray, List.set_cons_zero, List.set_cons_succ]
      refine wpAnyJ_one (i := 19) (o := { dst := some 47, op := Go.Op.nilCheck (Go.Operand.tmp 28), type := 0, pos := "tok.go:65", after := #[{ on := 0, ground := Go.Ground.data }, { on := 0, ground := Go.Ground.phase }, { on := 1, ground := Go.Ground.phase }, { on := 2, ground := Go.Ground.phase }, { on := 3, ground := Go.Ground.phase }, { on := 4, ground := Go.Ground.phase }, { on := 5, ground := Go.Ground.phase }, { on := 6, ground := Go.Ground.phase }, { on := 7, ground := Go.Ground.phase }, { on := 8, ground := Go.Ground.phase }, { on := 9, ground := Go.Ground.phase }, { on := 10, ground := Go.Ground.phase }, { on := 11, ground := Go.Ground.phase }, { on := 12, ground := Go.Ground.phase }, { on := 13, ground := Go.Ground.phase }, { on := 14, ground := Go.Ground.phase }, { on := 15, ground := Go.Ground.phase }, { on := 16, ground := Go.Ground.phase }, { on := 17, ground := Go.Ground.phase }, { on := 18, ground := Go.Ground.phase }], guard := none }) (by kernel_rfl) (by decide) rfl (fun K hK => ?_)
      go_simp
      refine hK.out _ _ (show RC r s j v _ from Rdr.rc hr3) (fun hHeld => ?_)
      clear hK K
      try simp only [Act.put, List.setIfInBounds_toArray, List.set_cons_zero, List.set_cons_succ]
      refine wpAnyJ_one (i := 20) (o := { dst := some 48, op := Go.Op.fieldAddr 71 (Go.Operand.tmp 47) 2, type := 0, pos := "tok.go:65", after := #[{ on := 19, ground := Go.Ground.data }, { on := 0, ground := Go.Ground.phase }, { on := 1, ground := Go.Ground.phase }, { on := 2, ground := Go.Ground.phase }, { on := 3, ground := Go.Ground.phase }, { on := 4, ground := Go.Ground.phase }, { on := 5, ground := Go.Ground.phase }, { on := 6, ground := Go.Ground.phase }, { on := 7, ground := Go.Ground.phase }, { on := 8, ground := Go.Ground.phase }, { on := 9, ground := Go.Ground.phase }, { on := 10, ground := Go.Ground.phase }, { on := 11, ground := Go.Ground.phase }, { on := 12, ground := Go.Ground.phase }, { on := 13, ground := Go.Ground.phase }, { on := 14, ground := Go.Ground.phase }, { on := 15, ground := Go.Ground.phase }, { on := 16, ground := Go.Ground.phase }, { on := 17, ground := Go.Ground.phase }, { on := 18, ground := Go.Ground.phase }], guard := none }) (by kernel_rfl) (by decide) rfl (fun K hK => ?_)
      go_simp
      refine hK.out _ _ (show RC r s j v _ from Rdr.rc hr3) (fun hHeld => ?_)
      clear hK K
      try simp only [Act.put, List.setIfInBounds_toArray, List.set_cons_zero, List.set_cons_succ]
      obtain ⟨a3, c3, rfl⟩ := own_slice hown3
      have f2 := Blk.frozen hr3 2
      have g2 := Rdr.c2 hr3
      refine wpAnyJ_last (o := { dst := none, op := Go.Op.store 40 (Go.Operand.tmp 48) (Go.Operand.tmp 46), type := 0, pos := "tok.go:65", after := #[{ on := 20, ground := Go.Ground.data }, { on := 18, ground := Go.Ground.data }, { on := 18, ground := Go.Ground.chain }, { on := 0, ground := Go.Ground.phase }, { on := 1, ground := Go.Ground.phase }, { on := 2, ground := Go.Ground.phase }, { on := 3, ground := Go.Ground.phase }, { on := 4, ground := Go.Ground.phase }, { on := 5, ground := Go.Ground.phase }, { on := 6, ground := Go.Ground.phase }, { on := 7, ground := Go.Ground.phase }, { on := 8, ground := Go.Ground.phase }, { on := 9, ground := Go.Ground.phase }, { on := 10, ground := Go.Ground.phase }, { on := 11, ground := Go.Ground.phase }, { on := 12, ground := Go.Ground.phase }, { on := 13, ground := Go.Ground.phase }, { on := 14, ground := Go.Ground.phase }, { on := 15, ground := Go.Ground.phase }, { on := 16, ground := Go.Ground.phase }, { on := 17, ground := Go.Ground.phase }, { on := 18, ground := Go.Ground.phase }], guard := none }) (by kernel_rfl) rfl (fun K hK => ?_)
      go_simp
      refine hK.out _ _ ?_
      clear hK K
      refine wpAnyJ_done (by kernel_rfl) ?_ _
      go_wp2_with fail
      go_end0
      refine ⟨rfl, ?_⟩
      have hj2 : textN (s.drop k) = j - k := by have := Hst.out; omega
      rw [Hst.out, hj2]
      exact tok_fin hr3 ho2 htc hk2 hown2 hown3 hg3 hat3 (World.ownsRow_nil _ _ _ _)
end Go.Proofs.YtlgaeeedkihfpaaGreatDoor.Uf
