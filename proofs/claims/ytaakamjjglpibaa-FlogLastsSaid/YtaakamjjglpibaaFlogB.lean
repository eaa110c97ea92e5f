/-
  The log (verso/flog): Append, Size.
-/
import Derived.Test.YtaakamjjglpibaaFlogP
import Derived.Deep.RegionHeld3
namespace Go.Proofs.Ytaakamjjglpibaa.Dv
open Go.RowKit

def DS.logE (s : DS) (t : ByteArray) : Int := if 20000 < t.size then 4 else if s.appendE (enc t) ≠ 0 then s.appendE (enc t) else (s.append (enc t)).syncE
def DS.log (s : DS) (t : ByteArray) : DS := if 20000 < t.size then s else if s.appendE (enc t) ≠ 0 then s.append (enc t) else (s.append (enc t)).sync

theorem DevPost.seq {w w1 w2 : World} {base d : Nat} {v v1 r : Value} {s : DS} {e : Ending} (h1 : Only (fun k => k = d ∨ v.ownBlock = some k) w w1) (hv1 : v1.ownBlock = v.ownBlock ∨ ∀ k, v1.ownBlock = some k → w.heap.size ≤ k)
    (h2 : DevPost w1 base d v1 r s e w2) : DevPost w base d v r s e w2 := by
  obtain ⟨he, v2, hD, hO, hv⟩ := h2
  refine ⟨he, v2, hD, h1.next hO fun k hk hS => ?_, ?_⟩
  · rcases hS with hS | hS
    · exact .inl hS
    · rcases hv1 with h | h
      · exact .inr (h ▸ hS)
      · have := h k hS; omega
  · rcases hv with h | h
    · rw [h]
      exact hv1
    · exact .inr fun k hk => Nat.le_trans h1.size (h k hk)

theorem step_append_string {P : Program} (w : World) {ops : Array Oper} {o : Oper} {a : Act} {K : Act → World → Prop} {Q : Exit → Act → World → Prop} {E : Prop} (hgd : o.guard = none) (s x : Operand) (t u : TypeId)
    (ho : o.op = .call { callee := .builtin .append, args := #[s, x], argTypes := #[t, u] })
    (base : Nat) (e : TypeId) (i : TypeInfo) (ht : P.underlying t = some (.slice e)) (hu : P.underlying u = some .string) (hi : P.info? e = some i) (hz : i.zero = some (.int .u8 0)) (hsize : i.size = 1) (hby : i.bytes = 1)
    (v : Value) (n : Nat) (xs : List Value) (hs : a.eval s = v) (hown : w.ownsRow base e 1 v n xs) (str : ByteArray) (hx : a.eval x = .string str)
    (h63 : n + str.size ≤ maxLen) (hbytes : n + str.size ≤ 140737488355328) (hbase : base ≤ w.heap.size)
    (h : ∀ v' w', w'.ownsRow base e 1 v' (n + str.size) (xs ++ Lib.strCells str) → w.grownBy w' v.ownBlock → K (a.put o.dst v') w') :
    if Region.wanted o (yielded ops a.tmps) = true then Oper.wp P o a w K Q else E := by
  have hw : Region.wanted o (yielded ops a.tmps) = true := by simp [Region.wanted, hgd]
  rw [if_pos hw]
  obtain ⟨v', w', hrun, h2, h3, _⟩ := Lib.run_append_own_string (P := P) w base t u o.type e i ht hu hi hz hsize hby v n xs hown str h63 hbytes hbase
  unfold Oper.wp execOp
  simp only [ho, resolve, invoke, builtin, Sem.run_bind, Sem.run_pure, Result.andThen_ok, List.map_toArray, List.map_cons, List.map_nil, hs, hx, hrun]
  exact h v' w' h2 h3

theorem append_devN {w : World} {base d B c n : Nat} {v : Value} {s : DS} {A : Option Addr} {xs : List Int} (hn : n = xs.length) (hD : DevAt w base d v s) (hr : Reads w B 1 A xs.length (cellsOf xs)) (hx : Bts xs) (hbase : base ≤ w.heap.size) (hxs : n ≤ 140737488351232) :
    Calls Try.prog 16 #[.pointer (some ⟨d, 0, none⟩), .slice A n c] w (DevPost w base d v (.int .i64 (s.appendE xs)) (s.append xs)) := by
  subst hn
  exact append_dev hD hr hx hbase hxs

set_option maxRecDepth 100000 in
set_option maxHeartbeats 1600000 in
theorem append_log {w : World} {base d L : Nat} {v : Value} {s : DS} (t : ByteArray) (hD : DevAt w base d v s) (hL : Blk w L 65 #[.pointer (some ⟨d, 0, none⟩)]) (hb : base ≤ w.heap.size) :
    Calls Try.prog 35 #[.pointer (some ⟨L, 0, none⟩), .string t] w (DevPost w base d v (.int .i64 (s.logE t)) (s.log t)) := by
  by_cases h20 : 20000 < t.size
  · have h20' : (20000 : Int) < (t.size : Int) := by omega
    have e1 : s.logE t = 4 := if_pos h20
    have e2 : s.log t = s := if_pos h20
    rw [e1, e2]
    clear e1 e2
    go_enter Try.func35, Try.ntmps35
    go_wp2_with fail
    go_ret
    exact DevPost.same hD _
  · have h20' : (t.size : Int) ≤ 20000 := by omega
    have cL0 := hL.cell 0
    simp at cL0
    have cL : w.drew.cell? ⟨L, 0, none⟩ = some (.pointer (some ⟨d, 0, none⟩)) := cL0
    obtain ⟨b0, h0⟩ : ∃ b : Nat, b = t.size / 65536 % 256 := ⟨_, rfl⟩
    obtain ⟨b1, h1⟩ : ∃ b : Nat, b = t.size / 256 % 256 := ⟨_, rfl⟩
    obtain ⟨b2, h2⟩ : ∃ b : Nat, b = t.size % 256 := ⟨_, rfl⟩
    have hcells : Hid ([Value.int .u8 (b0 : Int), .int .u8 (b1 : Int), .int .u8 (b2 : Int)] ++ Lib.strCells t = cellsOf (enc t)) := by
      show _ = _
      rw [cells_ints, h0, h1, h2]
      simp [cellsOf, enc]
    have w0 : IntKind.u8.wrap ((t.size : Int) / 65536) = (b0 : Int) := by rw [IntKind.wrap_u8]; omega
    have w1 : IntKind.u8.wrap ((t.size : Int) / 256) = (b1 : Int) := by rw [IntKind.wrap_u8]; omega
    have w2 : IntKind.u8.wrap (t.size : Int) = (b2 : Int) := by rw [IntKind.wrap_u8]; omega
    clear h0 h1 h2
    obtain ⟨i5, hi5, hz5, hs5, hb5⟩ := info_parts Try.info5
    have hLlt := hL.lt
    have hBL1 : Blk (w.alloc (.cells #[.int .u8 b0, .int .u8 b1, .int .u8 b2] 5)).drew L 65 #[.pointer (some ⟨d, 0, none⟩)] := (hL.alloc _).drew
    have cL1 := hBL1.cell 0
    simp at cL1
    have hown1 : (w.alloc (.cells #[.int .u8 b0, .int .u8 b1, .int .u8 b2] 5)).drew.ownsRow w.heap.size 5 1 (.slice (some ⟨w.heap.size, 0, none⟩) 3 3) 3 [.int .u8 b0, .int .u8 b1, .int .u8 b2] :=
      own_of_blk (xs := [.int .u8 b0, .int .u8 b1, .int .u8 b2]) (Blk.new w 5 _).drew (Nat.le_refl _) (by simp [maxLen])
    have hLd : L ≠ d := hL.ne_ hD.blk (by decide)
    have hLn : ¬ (L = d ∨ v.ownBlock = some L) := by
      rintro (h | h)
      · exact hLd h
      · exact own_blk_ne hD.own hL (by decide) h
    go_enter Try.func35, Try.ntmps35
    go_wp2_with fail
    refine wp_region_held_drew (S := fun W => W.cell? ⟨L, 0, none⟩ = some (.pointer (some ⟨d, 0, none⟩))) (by kernel_rfl) cL (fun hHeld => ?_)
    refine wpAnyH_take (i := 0) (oi := { dst := some 11, op := Go.Op.move (Go.Operand.tmp 0), type := 44, pos := "flog.go:64", after := #[], guard := none }) (v := ?_) rfl (by kernel_rfl) (by kernel_rfl) (by kernel_rfl) (fun _ _ _ h => h) (Or.inl ⟨by rfl, ?_⟩) (by assumption) ?_
    rotate_left
    · intro w hSw
      go_simp
      try with_reducible rfl
    simp only [Act.put, List.setIfInBounds_toArray, List.set_cons_zero, List.set_cons_succ]
    refine wpAnyH_take (i := 1) (oi := { dst := some 12, op := Go.Op.nilCheck (Go.Operand.tmp 11), type := 0, pos := "flog.go:64", after := #[{ on := 0, ground := Go.Ground.data }], guard := none }) (v := ?_) rfl (by kernel_rfl) (by kernel_rfl) (by kernel_rfl) (fun _ _ _ h => h) (Or.inl ⟨by rfl, ?_⟩) (by assumption) ?_
    rotate_left
    · intro w hSw
      go_simp
      try with_reducible rfl
    simp only [Act.put, List.setIfInBounds_toArray, List.set_cons_zero, List.set_cons_succ]
    refine wpAnyH_take (i := 2) (oi := { dst := some 13, op := Go.Op.fieldAddr 65 (Go.Operand.tmp 12) 0, type := 0, pos := "flog.go:64", after := #[{ on := 1, ground := Go.Ground.data }], guard := none }) (v := ?_) rfl (by kernel_rfl) (by kernel_rfl) (by kernel_rfl) (fun _ _ _ h => h) (Or.inl ⟨by rfl, ?_⟩) (by assumption) ?_
    rotate_left
    · intro w hSw
      go_simp
      try with_reducible rfl
    simp only [Act.put, List.setIfInBounds_toArray, List.set_cons_zero, List.set_cons_succ]
    refine wpAnyH_take (i := 3) (oi := { dst := some 14, op := Go.Op.load 24 (Go.Operand.tmp 13), type := 24, pos := "flog.go:64", after := #[{ on := 2, ground := Go.Ground.data }], guard := none }) (v := ?_) rfl (by kernel_rfl) (by kernel_rfl) (by kernel_rfl) (fun _ _ _ h => h) (Or.inl ⟨by rfl, ?_⟩) (by assumption) ?_
    rotate_left
    · intro w hSw
      go_simp
      try with_reducible rfl
    simp only [Act.put, List.setIfInBounds_toArray, List.set_cons_zero, List.set_cons_succ]
    refine wpAnyH_take (i := 4) (oi := { dst := some 15, op := Go.Op.move (Go.Operand.tmp 5), type := 3, pos := "flog.go:64", after := #[], guard := none }) (v := ?_) rfl (by kernel_rfl) (by kernel_rfl) (by kernel_rfl) (fun _ _ _ h => h) (Or.inl ⟨by rfl, ?_⟩) (by assumption) ?_
    rotate_left
    · intro w hSw
      go_simp
      try with_reducible rfl
    simp only [Act.put, List.setIfInBounds_toArray, List.set_cons_zero, List.set_cons_succ]
    refine wpAnyH_take (i := 5) (oi := { dst := some 16, op := Go.Op.binOp Go.BinOp.shr 3 (Go.Operand.tmp 15) (Go.Operand.const (Go.Value.int Go.IntKind.u64 16)) 66, type := 3, pos := "flog.go:64", after := #[{ on := 4, ground := Go.Ground.data }], guard := none }) (v := ?_) rfl (by kernel_rfl) (by kernel_rfl) (by kernel_rfl) (fun _ _ _ h => h) (Or.inl ⟨by rfl, ?_⟩) (by assumption) ?_
    rotate_left
    · intro w hSw
      go_simp
      try with_reducible rfl
    simp only [Act.put, List.setIfInBounds_toArray, List.set_cons_zero, List.set_cons_succ]
    refine wpAnyH_take (i := 6) (oi := { dst := some 17, op := Go.Op.convert 3 5 (Go.Operand.tmp 16), type := 5, pos := "flog.go:64", after := #[{ on := 5, ground := Go.Ground.data }], guard := none }) (v := ?_) rfl (by kernel_rfl) (by kernel_rfl) (by kernel_rfl) (fun _ _ _ h => h) (Or.inl ⟨by rfl, ?_⟩) (by assumption) ?_
    rotate_left
    · intro w hSw
      go_simp
      try with_reducible rfl
    simp only [Act.put, List.setIfInBounds_toArray, List.set_cons_zero, List.set_cons_succ]
    refine wpAnyH_take (i := 7) (oi := { dst := some 18, op := Go.Op.move (Go.Operand.tmp 5), type := 3, pos := "flog.go:64", after := #[], guard := none }) (v := ?_) rfl (by kernel_rfl) (by kernel_rfl) (by kernel_rfl) (fun _ _ _ h => h) (Or.inl ⟨by rfl, ?_⟩) (by assumption) ?_
    rotate_left
    · intro w hSw
      go_simp
      try with_reducible rfl
    simp only [Act.put, List.setIfInBounds_toArray, List.set_cons_zero, List.set_cons_succ]
    refine wpAnyH_take (i := 8) (oi := { dst := some 19, op := Go.Op.binOp Go.BinOp.shr 3 (Go.Operand.tmp 18) (Go.Operand.const (Go.Value.int Go.IntKind.u64 8)) 66, type := 3, pos := "flog.go:64", after := #[{ on := 7, ground := Go.Ground.data }], guard := none }) (v := ?_) rfl (by kernel_rfl) (by kernel_rfl) (by kernel_rfl) (fun _ _ _ h => h) (Or.inl ⟨by rfl, ?_⟩) (by assumption) ?_
    rotate_left
    · intro w hSw
      go_simp
      try with_reducible rfl
    simp only [Act.put, List.setIfInBounds_toArray, List.set_cons_zero, List.set_cons_succ]
    refine wpAnyH_take (i := 9) (oi := { dst := some 20, op := Go.Op.convert 3 5 (Go.Operand.tmp 19), type := 5, pos := "flog.go:64", after := #[{ on := 8, ground := Go.Ground.data }], guard := none }) (v := ?_) rfl (by kernel_rfl) (by kernel_rfl) (by kernel_rfl) (fun _ _ _ h => h) (Or.inl ⟨by rfl, ?_⟩) (by assumption) ?_
    rotate_left
    · intro w hSw
      go_simp
      try with_reducible rfl
    simp only [Act.put, List.setIfInBounds_toArray, List.set_cons_zero, List.set_cons_succ]
    refine wpAnyH_take (i := 10) (oi := { dst := some 21, op := Go.Op.move (Go.Operand.tmp 5), type := 3, pos := "flog.go:64", after := #[], guard := none }) (v := ?_) rfl (by kernel_rfl) (by kernel_rfl) (by kernel_rfl) (fun _ _ _ h => h) (Or.inl ⟨by rfl, ?_⟩) (by assumption) ?_
    rotate_left
    · intro w hSw
      go_simp
      try with_reducible rfl
    simp only [Act.put, List.setIfInBounds_toArray, List.set_cons_zero, List.set_cons_succ]
    refine wpAnyH_take (i := 11) (oi := { dst := some 22, op := Go.Op.convert 3 5 (Go.Operand.tmp 21), type := 5, pos := "flog.go:64", after := #[{ on := 10, ground := Go.Ground.data }], guard := none }) (v := ?_) rfl (by kernel_rfl) (by kernel_rfl) (by kernel_rfl) (fun _ _ _ h => h) (Or.inl ⟨by rfl, ?_⟩) (by assumption) ?_
    rotate_left
    · intro w hSw
      go_simp
      try with_reducible rfl
    simp only [Act.put, List.setIfInBounds_toArray, List.set_cons_zero, List.set_cons_succ]
    refine wpAnyH_take (i := 13) (oi := { dst := some 24, op := Go.Op.move (Go.Operand.tmp 1), type := 9, pos := "flog.go:64", after := #[], guard := none }) (v := ?_) rfl (by kernel_rfl) (by kernel_rfl) (by kernel_rfl) (fun _ _ _ h => h) (Or.inl ⟨by rfl, ?_⟩) (by assumption) ?_
    rotate_left
    · intro w hSw
      go_simp
      try with_reducible rfl
    simp only [Act.put, List.setIfInBounds_toArray, List.set_cons_zero, List.set_cons_succ]
    refine wpAnyH_ready (rs := [12]) (by kernel_rfl) (by simp) ?_
    refine AllReadyH.cons (o := { dst := some 23, op := Go.Op.buildSlice 22 3 #[(0, Go.Operand.tmp 17), (1, Go.Operand.tmp 20), (2, Go.Operand.tmp 22)], type := 22, pos := "flog.go:64", after := #[{ on := 6, ground := Go.Ground.data }, { on := 9, ground := Go.Ground.data }, { on := 11, ground := Go.Ground.data }], guard := none }) rfl (fun K hK => ?_) AllReadyH.nil
    go_simp
    refine hK.out _ _ cL1 (fun hHeld => ?_)
    clear hK K
    refine wpAnyH_ready (rs := [14]) (by kernel_rfl) (by simp) ?_
    refine AllReadyH.cons (o := { dst := some 25, op := Go.Op.call { callee := Go.Callee.builtin Go.Builtin.append, args := #[Go.Operand.tmp 23, Go.Operand.tmp 24], argTypes := #[22, 9] }, type := 22, pos := "flog.go:64", after := #[{ on := 12, ground := Go.Ground.data }, { on := 13, ground := Go.Ground.data }], guard := none }) rfl (fun K hK => ?_) AllReadyH.nil
    refine step_append_string _ rfl (.tmp 23) (.tmp 24) 22 9 rfl w.heap.size 5 i5 Try.underlying22 Try.underlying9 hi5 hz5 hs5 hb5 (.slice (some ⟨w.heap.size, 0, none⟩) 3 3) 3 _ rfl hown1 t rfl (by unfold maxLen; omega) (by omega) (by simp) ?_
    intro v2 w2 hown2 hg2
    obtain ⟨a2, c2, rfl, _, _⟩ := own_shape hown2
    have Hown2 := Lib.hid hown2
    have hBL2 : Blk w2 L 65 #[.pointer (some ⟨d, 0, none⟩)] := hBL1.grown hg2 (by simp [Value.ownBlock]; omega)
    have cL2 := hBL2.cell 0
    simp at cL2
    have hO2 : Only (fun k => k = d ∨ v.ownBlock = some k) w w2 := ((Only.refl _ w).alloc _).drew.grown hg2 (fun k hk hlt => by simp [Value.ownBlock] at hk; omega)
    have hD2 : DevAt w2 base d v s := hD.only (((Only.refl (fun _ => False) w).alloc _).drew.grown hg2 (fun k hk hlt => by simp [Value.ownBlock] at hk; omega)) id (fun _ _ => id)
    clear hown2 hg2
    refine hK.out _ _ cL2 (fun hHeld => ?_)
    clear hK K
    simp only [Act.put, List.setIfInBounds_toArray, List.set_cons_zero, List.set_cons_succ]
    refine wpAnyH_ready (rs := [15]) (by kernel_rfl) (by simp) ?_
    refine AllReadyH.cons (o := { dst := some 26, op := Go.Op.call { callee := Go.Callee.value (Go.Operand.func 16), args := #[Go.Operand.tmp 14, Go.Operand.tmp 25], argTypes := #[24, 22] }, type := 26, pos := "flog.go:64", after := #[{ on := 3, ground := Go.Ground.data }, { on := 14, ground := Go.Ground.data }, { on := 14, ground := Go.Ground.chain }], guard := none }) rfl (fun K hK => ?_) AllReadyH.nil
    go_simp
    have hlen : 3 + t.size = (enc t).length := by rw [enc_len]; omega
    have hr2 : Reads w2 w2.heap.size 1 a2 (enc t).length (cellsOf (enc t)) := by
      have h := Reads.of_own Hown2.out
      rw [hlen, hcells.out] at h
      exact h
    refine (append_devN hlen hD2 hr2 (enc_byt t) (Nat.le_trans hb hO2.size) (by omega)).mono ?_
    rintro e w3 ⟨rfl, v3, hD3, hO3, hv3⟩
    have hv3' : v3.ownBlock = v.ownBlock ∨ ∀ k, v3.ownBlock = some k → w.heap.size ≤ k := hv3.imp id fun h k hk => Nat.le_trans hO2.size (h k hk)
    have hO3' := hO2.trans hO3
    have cL3 := (hBL2.only hO3 hLn).cell 0
    simp at cL3
    refine hK.out _ _ cL3 (fun hHeld => ?_)
    clear hK K hHeld
    refine wpAnyH_take (i := 16) (oi := { dst := some 6, op := Go.Op.assign (Go.Operand.tmp 26), type := 26, pos := "flog.go:64", after := #[{ on := 15, ground := Go.Ground.data }, { on := 15, ground := Go.Ground.chain }, { on := 0, ground := Go.Ground.phase }, { on := 1, ground := Go.Ground.phase }, { on := 2, ground := Go.Ground.phase }, { on := 3, ground := Go.Ground.phase }, { on := 4, ground := Go.Ground.phase }, { on := 5, ground := Go.Ground.phase }, { on := 6, ground := Go.Ground.phase }, { on := 7, ground := Go.Ground.phase }, { on := 8, ground := Go.Ground.phase }, { on := 9, ground := Go.Ground.phase }, { on := 10, ground := Go.Ground.phase }, { on := 11, ground := Go.Ground.phase }, { on := 12, ground := Go.Ground.phase }, { on := 13, ground := Go.Ground.phase }, { on := 14, ground := Go.Ground.phase }, { on := 15, ground := Go.Ground.phase }], guard := none }) (v := ?_) rfl (by kernel_rfl) (by kernel_rfl) (by kernel_rfl) (fun _ _ _ h => h) (Or.inl ⟨by rfl, ?_⟩) (by assumption) ?_
    rotate_left
    · intro w hSw
      go_simp
      try with_reducible rfl
    simp only [Act.put, List.setIfInBounds_toArray, List.set_cons_zero, List.set_cons_succ]
    refine wpAnyH_done (by kernel_rfl) ?_ _
    by_cases hE : s.appendE (enc t) = 0
    · have hE' : (s.appendE (enc t) != 0) = false := by simp [hE]
      have HE := Lib.hid hE
      clear hE
      go_wp2_with fail
      refine (sync_dev hD3).mono ?_
      intro e w4 hP
      have hP' := DevPost.seq hO3' hv3' hP
      obtain ⟨rfl, hP''⟩ := hP'
      go_wp2_with fail
      go_ret
      have e1 : s.logE t = (s.append (enc t)).syncE := by unfold DS.logE; rw [if_neg h20, if_neg (by rw [HE.out]; simp)]
      have e2 : s.log t = (s.append (enc t)).sync := by unfold DS.log; rw [if_neg h20, if_neg (by rw [HE.out]; simp)]
      rw [e1, e2]
      exact ⟨rfl, hP''⟩
    · have hE' : (s.appendE (enc t) != 0) = true := by simp [hE]
      have HE := Lib.hid hE
      clear hE
      go_wp2_with fail
      go_ret
      have e1 : s.logE t = s.appendE (enc t) := by unfold DS.logE; rw [if_neg h20, if_pos HE.out]
      have e2 : s.log t = s.append (enc t) := by unfold DS.log; rw [if_neg h20, if_pos HE.out]
      rw [e1, e2]
      exact ⟨rfl, v3, hD3, hO3', hv3'⟩

end Go.Proofs.Ytaakamjjglpibaa.Dv
