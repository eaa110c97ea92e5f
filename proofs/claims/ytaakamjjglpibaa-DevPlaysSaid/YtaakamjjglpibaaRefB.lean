/-
  The reference's device: Append, Sync, Trim, Restart.
-/
import Derived.Test.YtaakamjjglpibaaRefA
import Derived.Test.YtaakamjjglpibaaLate
namespace Go.Proofs.Ytaakamjjglpibaa.Dv
open Go.RowKit

theorem RefAt.drewN {w : World} {base r : Nat} {vl vt : Value} {s : RS} (h : RefAt w base r vl vt s) (q : Nat) : RefAt (w.drewN q) base r vl vt s :=
  h.only (S := fun _ => False) ((Only.refl _ w).drewN q) id (fun _ _ => id) (fun _ _ => id)
theorem RefPost.sameN {w : World} {base r : Nat} {vl vt : Value} {s : RS} (hD : RefAt w base r vl vt s) (x : Value) (q : Nat) : RefPost w base r vl vt x s (.returned x) (w.drewN q) :=
  RefPost.block (hD.drewN q) ((Only.refl _ w).drewN q) x

theorem rappend_fin {w w1 w2 : World} {base r : Nat} {vl vt v2 : Value} {l t xs : List Int} {n : Int} (hD1 : RefAt w1 base r vl vt (RS.go ⟨l, t, n, false⟩)) (hO1 : Only (· = r) w w1)
    (hown2 : w2.ownsRow base 5 1 v2 (t.length + xs.length) (cellsOf t ++ cellsOf xs)) (hg2 : w1.grownBy w2 vt.ownBlock) (hat2 : v2.ownBlock = vt.ownBlock ∨ v2.ownBlock = some w1.heap.size) (hx : Bts xs) (hz : ¬ n = 0) (hf : ¬ 60000 < l.length + t.length + xs.length) (x : Value) :
    RefPost w base r vl vt x (RS.append ⟨l, t, n, false⟩ xs) (.returned x) (w2.setCell ⟨r, 1, none⟩ v2) := by
  have hs : RS.append ⟨l, t, n, false⟩ xs = ⟨l, t ++ xs, (RS.go ⟨l, t, n, false⟩).n, false⟩ := by
    simp only [RS.append]
    rw [if_neg (by simp), if_neg hf, if_neg hz]
  have ho : (RS.go ⟨l, t, n, false⟩).off = false := by
    simp only [RS.go]
    rw [if_neg hz]
  have B1 : Blk w1 r 42 #[vl, vt, .int .i64 (RS.go ⟨l, t, n, false⟩).n, .bool (RS.go ⟨l, t, n, false⟩).off] := hD1.blk
  rw [ho] at B1
  have hneL := hD1.neL
  have hneT := hD1.neT
  have B2 := B1.grown hg2 hneT.symm
  have h2ne : v2.ownBlock ≠ some r := own_blk_ne hown2 B2 (by decide)
  have hO2 : Only (fun k => k = r ∨ vt.ownBlock = some k) w w2 := (hO1.mono fun _ _ h => .inl h).grown hg2 fun k hk _ => .inr hk
  have hOg : Only (fun k => vt.ownBlock = some k) w1 w2 := (Only.refl _ w1).grown hg2 fun k hk _ => hk
  have hL2 : w2.ownsRow base 5 1 vl l.length (cellsOf l) := own_only hD1.ownL hOg (fun k hk => hD1.apart k hk)
  rw [hs]
  refine ⟨rfl, vl, v2, ⟨?_, ?_, ?_, ?_, hD1.bd, ?_, hD1.lo, hD1.hi, ?_⟩, hO2.setCell (p := ⟨r, 1, none⟩) (fun _ => .inl rfl) _, .inl rfl, ?_⟩
  · exact B2.set_ 1 v2
  · exact ownsRow_setCell_other hL2 (a := ⟨r, 1, none⟩) hneL v2
  · have h4 := ownsRow_setCell_other hown2 (a := ⟨r, 1, none⟩) h2ne v2
    show World.ownsRow _ base 5 1 v2 (t ++ xs).length (cellsOf (t ++ xs))
    rw [List.length_append]
    unfold cellsOf at h4 ⊢
    rw [List.map_append]
    exact h4
  · intro k hk h
    rcases hat2 with e | e
    · exact hD1.apart k hk (e ▸ h)
    · rw [e] at h
      injection h with h
      have := (hD1.ownL.lt k hk).2
      omega
  · show l.length + (t ++ xs).length ≤ 60000
    rw [List.length_append]
    omega
  · intro y hy
    rcases List.mem_append.1 hy with h | h
    · exact hD1.byt y (List.mem_append_left _ h)
    · rcases List.mem_append.1 h with h | h
      · exact hD1.byt y (List.mem_append_right _ h)
      · exact hx y h
  · rcases hat2 with h | h
    · exact .inl h
    · refine .inr fun k hk => ?_
      rw [h] at hk
      injection hk with hk
      subst hk
      exact hO1.size

set_option maxRecDepth 100000 in
set_option maxHeartbeats 800000 in
theorem append_refdev {w : World} {base r B c : Nat} {vl vt : Value} {s : RS} {A : Option Addr} {xs : List Int} (hD : RefAt w base r vl vt s) (hr : Reads w B 1 A xs.length (cellsOf xs)) (hB : B ≤ base) (hx : Bts xs) (hbase : base ≤ w.heap.size) (hxs : xs.length ≤ 140737488351232) :
    Calls Try.prog 24 #[.pointer (some ⟨r, 0, none⟩), .slice A xs.length c] w (RefPost w base r vl vt (.int .i64 (s.appendE xs)) (s.append xs)) := by
  obtain ⟨a, cl, a2, c2, rfl, rfl, hcl, hclm, hc2, hc2m⟩ := hD.shapes
  have k0 := hD.blk.cell 0
  have k1 := hD.blk.cell 1
  have k3 := hD.blk.cell 3
  simp at k0 k1 k3
  have hlen := hD.len
  have hbd := hD.bd
  obtain ⟨l, t, n, off⟩ := s
  simp only at k0 k1 k3 hlen hcl hc2
  cases off with
  | true =>
    go_enter Try.func24, Try.ntmps24
    go_wp2_with fail
    go_ret
    exact RefPost.same hD _
  | false =>
    have e1 : IntKind.i64.wrap ((l.length : Int) + (t.length : Int)) = (l.length : Int) + (t.length : Int) := IntWalk.i64_in _ (by omega)
    have e2 : IntKind.i64.wrap ((l.length : Int) + (t.length : Int) + (xs.length : Int)) = (l.length : Int) + (t.length : Int) + (xs.length : Int) := IntWalk.i64_in _ (by omega)
    by_cases hf : 60000 < l.length + t.length + xs.length
    · have hf' : decide ((60000 : Int) < (l.length : Int) + (t.length : Int) + (xs.length : Int)) = true := by simp; omega
      have Hf := Lib.hid hf
      clear hf
      go_enter Try.func24, Try.ntmps24
      go_wp2_with fail
      go_quiet (fail)
      go_wp2_with fail
      go_ret
      have E1 : RS.appendE ⟨l, t, n, false⟩ xs = 10 := by simp only [RS.appendE]; rw [if_neg (by simp), if_pos Hf.out]
      have E2 : RS.append ⟨l, t, n, false⟩ xs = ⟨l, t, n, false⟩ := by simp only [RS.append]; rw [if_neg (by simp), if_pos Hf.out]
      rw [E1, E2]
      exact RefPost.sameN hD _ _
    · have hf' : decide ((60000 : Int) < (l.length : Int) + (t.length : Int) + (xs.length : Int)) = false := by simp; omega
      have Hf := Lib.hid hf
      clear hf
      by_cases hz : n = 0
      · have hz' : (n == 0) = true := by simp [hz]
        have Hz := Lib.hid hz
        clear hz
        go_enter Try.func24, Try.ntmps24
        go_wp2_with fail
        go_quiet (fail)
        go_wp2_with fail
        refine (goes_refdev (hD.drewN _)).mono ?_
        rintro e w1 ⟨rfl, hD1, hO1⟩
        have hO1' := ((Only.refl (fun k => k = r) w).drewN _).trans hO1
        go_wp2_with fail
        go_ret
        have E1 : RS.appendE ⟨l, t, n, false⟩ xs = 11 := by simp only [RS.appendE]; rw [if_neg (by simp), if_neg Hf.out, if_pos Hz.out]
        have E2 : RS.append ⟨l, t, n, false⟩ xs = RS.go ⟨l, t, n, false⟩ := by simp only [RS.append]; rw [if_neg (by simp), if_neg Hf.out, if_pos Hz.out]
        rw [E1, E2]
        exact RefPost.block hD1 hO1' _
      · have hz' : (n == 0) = false := by simp [hz]
        have Hz := Lib.hid hz
        clear hz
        obtain ⟨i5, hi5, hz5, hs5, hb5⟩ := info_parts Try.info5
        go_enter Try.func24, Try.ntmps24
        go_wp2_with fail
        go_quiet (fail)
        go_wp2_with fail
        refine (goes_refdev (hD.drewN _)).mono ?_
        rintro e w1 ⟨rfl, hD1, hO1⟩
        have hO1' := ((Only.refl (fun k => k = r) w).drewN _).trans hO1
        have d1 := hD1.cells2.2
        have hr1 : Reads w1 B 1 A xs.length (cellsOf xs) := hr.keep (fun p hp => by
          by_cases hpw : p.block < w.heap.size
          · exact World.cell?_of_block (w := w) (hO1'.block _ hpw (by omega))
          · omega)
        have B1 := hD1.blk
        have hneT := hD1.neT
        have hlen1 : t.length + xs.length ≤ 60000 := by have := Hf.out; omega
        go_wp2_with (at_builtin; refine wpList_append_any _ rfl (.tmp 30) (.tmp 31) _ rfl base 5 i5 _ 1 1 Try.underlying22 hi5 hz5 hs5 hb5 rfl (by omega) (.slice a2 t.length c2) t.length (cellsOf t) rfl hD1.ownT B A xs.length c (cellsOf xs) rfl hr1 (ints_oneCell _ _) (by simp only [maxLen]; omega) (by omega) (Nat.le_trans hbase hO1'.size) ?_; intro v2 w2 hown2 hg2 hat2; have Hown2 := Lib.hid hown2; have Hg2 := Lib.hid hg2; have Hat2 := Lib.hid hat2; clear hown2 hg2 hat2; obtain ⟨a3, cap3, rfl, _, _⟩ := own_shape Hown2.out; have B2 := B1.grown Hg2.out hneT.symm; have e0 := B2.cell 1; have f0 := B2.frozen 1; simp at e0)
        go_ret
        have E1 : RS.appendE ⟨l, t, n, false⟩ xs = 0 := by simp only [RS.appendE]; rw [if_neg (by simp), if_neg Hf.out, if_neg Hz.out]
        rw [E1]
        exact rappend_fin hD1 hO1' Hown2.out Hg2.out Hat2.out hx Hz.out Hf.out _

/-- All lasts in a row of its own, nothing waits. -/
theorem rset_fin {w w1 w2 : World} {base r : Nat} {vl vt v : Value} {s1 : RS} {bs : List Int} (hD1 : RefAt w1 base r vl vt s1) (hO1 : Only (· = r) w w1) (hb2 : Below w1.heap.size w1 w2) (hown : w2.ownsRow w1.heap.size 5 1 v bs.length (cellsOf bs))
    (hlen : bs.length ≤ 60000) (hbt : Bts bs) (hbase : base ≤ w.heap.size) (x : Value) :
    RefPost w base r vl vt x ⟨bs, [], s1.n, s1.off⟩ (.returned x) ((w2.setCell ⟨r, 0, none⟩ v).setCell ⟨r, 1, none⟩ (.slice none 0 0)) := by
  have hrlt := hD1.blk.lt
  have hvr : v.ownBlock ≠ some r := fun h => by have := (hown.lt r h).1; omega
  have B2 := hD1.blk.below hb2 hrlt
  have hO2 : Only (fun k => k = r ∨ vt.ownBlock = some k) w w2 := (hO1.mono fun _ _ h => .inl h).next (Only.ofBelow hb2) (fun i hi hS => by have := hO1.size; omega)
  refine ⟨rfl, v, .slice none 0 0, ⟨?_, ?_, World.ownsRow_nil _ _ _ _, fun k _ h => by simp [Value.ownBlock] at h, hD1.bd, by simpa using hlen, hD1.lo, hD1.hi, by simpa using hbt⟩, (hO2.setCell (p := ⟨r, 0, none⟩) (fun _ => .inl rfl) _).setCell (p := ⟨r, 1, none⟩) (fun _ => .inl rfl) _, .inr fun k hk => ?_, .inr fun k hk => by simp [Value.ownBlock] at hk⟩
  · exact (B2.set_ 0 v).set_ 1 (.slice none 0 0)
  · exact own_mono (ownsRow_setCell_other (ownsRow_setCell_other hown (a := ⟨r, 0, none⟩) hvr v) (a := ⟨r, 1, none⟩) hvr _) (Nat.le_trans hbase hO1.size)
  · have := (hown.lt k hk).1
    have := hO1.size
    omega

set_option maxRecDepth 100000 in
set_option maxHeartbeats 800000 in
theorem sync_refdev {w : World} {base r : Nat} {vl vt : Value} {s : RS} (hD : RefAt w base r vl vt s) (hbase : base ≤ w.heap.size) : Calls Try.prog 25 #[.pointer (some ⟨r, 0, none⟩)] w (RefPost w base r vl vt (.int .i64 s.syncE) s.sync) := by
  obtain ⟨a, cl, a2, c2, rfl, rfl, hcl, hclm, hc2, hc2m⟩ := hD.shapes
  have k3 := hD.blk.cell 3
  simp at k3
  have hlen := hD.len
  obtain ⟨l, t, n, off⟩ := s
  simp only at k3 hlen hcl hc2
  cases off with
  | true =>
    go_enter Try.func25, Try.ntmps25
    go_wp2_with fail
    go_ret
    exact RefPost.same hD _
  | false =>
    by_cases hz : n = 0
    · have hz' : (n == 0) = true := by simp [hz]
      have Hz := Lib.hid hz
      clear hz
      go_enter Try.func25, Try.ntmps25
      go_wp2_with fail
      refine (goes_refdev hD).mono ?_
      rintro e w1 ⟨rfl, hD1, hO1⟩
      go_wp2_with fail
      go_ret
      have E1 : RS.syncE ⟨l, t, n, false⟩ = 11 := by simp only [RS.syncE]; rw [if_neg (by simp), if_pos Hz.out]
      have E2 : RS.sync ⟨l, t, n, false⟩ = RS.go ⟨l, t, n, false⟩ := by simp only [RS.sync]; rw [if_neg (by simp), if_pos Hz.out]
      rw [E1, E2]
      exact RefPost.block hD1 hO1 _
    · have hz' : (n == 0) = false := by simp [hz]
      have Hz := Lib.hid hz
      clear hz
      go_enter Try.func25, Try.ntmps25
      go_wp2_with fail
      refine (goes_refdev hD).mono ?_
      rintro e w1 ⟨rfl, hD1, hO1⟩
      go_wp2_with fail
      refine (bytes_ref hD1).mono ?_
      rintro e w2 ⟨A, c, rfl, hown, hb2⟩
      have Hown := Lib.hid hown
      have B2 := hD1.blk.below hb2 hD1.blk.lt
      have d0 := B2.cell 0
      have d1 := B2.cell 1
      have f0 := B2.frozen 0
      have f1 := B2.frozen 1
      simp at d0 d1
      clear hown
      go_wp2_with fail
      go_ret
      have E1 : RS.syncE ⟨l, t, n, false⟩ = 0 := by simp only [RS.syncE]; rw [if_neg (by simp), if_neg Hz.out]
      have E2 : RS.sync ⟨l, t, n, false⟩ = ⟨l ++ t, [], (RS.go ⟨l, t, n, false⟩).n, (RS.go ⟨l, t, n, false⟩).off⟩ := by
        simp only [RS.sync, RS.go]
        rw [if_neg (by simp), if_neg Hz.out, if_neg Hz.out]
      rw [E1, E2]
      have ho : w2.ownsRow w1.heap.size 5 1 (.slice A (l.length + t.length) c) (l ++ t).length (cellsOf (l ++ t)) := by rw [List.length_append]; exact Hown.out
      exact rset_fin hD1 hO1 hb2 ho (by rw [List.length_append]; exact hlen) hD1.byt hbase _

set_option maxRecDepth 100000 in
set_option maxHeartbeats 800000 in
theorem trim_refdev {w : World} {base r : Nat} {vl vt : Value} {s : RS} (m : Int) (hm1 : -9223372036854775808 ≤ m) (hm2 : m ≤ 9223372036854775807) (hD : RefAt w base r vl vt s) (hbase : base ≤ w.heap.size) :
    Calls Try.prog 26 #[.pointer (some ⟨r, 0, none⟩), .int .i64 m] w (RefPost w base r vl vt (.int .i64 (s.trimE m)) (s.trim m)) := by
  obtain ⟨a, cl, a2, c2, rfl, rfl, hcl, hclm, hc2, hc2m⟩ := hD.shapes
  have k0 := hD.blk.cell 0
  have k1 := hD.blk.cell 1
  have k3 := hD.blk.cell 3
  simp at k0 k1 k3
  have hlen := hD.len
  obtain ⟨l, t, n, off⟩ := s
  simp only at k0 k1 k3 hlen hcl hc2
  cases off with
  | true =>
    go_enter Try.func26, Try.ntmps26
    go_wp2_with fail
    go_ret
    exact RefPost.same hD _
  | false =>
    have e1 : IntKind.i64.wrap ((l.length : Int) + (t.length : Int)) = (l.length : Int) + (t.length : Int) := IntWalk.i64_in _ (by omega)
    by_cases h0 : m < 0
    · have h0' : decide (m < 0) = true := by simpa using h0
      have H0 := Lib.hid h0
      clear h0
      go_enter Try.func26, Try.ntmps26
      go_wp2_with fail
      go_quiet (fail)
      go_wp2_with fail
      go_ret
      have E1 : RS.trimE ⟨l, t, n, false⟩ m = 1 := by simp only [RS.trimE]; rw [if_neg (by simp), if_pos (.inl H0.out)]
      have E2 : RS.trim ⟨l, t, n, false⟩ m = ⟨l, t, n, false⟩ := by simp only [RS.trim]; rw [if_neg (by simp), if_pos (.inl H0.out)]
      rw [E1, E2]
      exact RefPost.sameN hD _ _
    have h0' : decide (m < 0) = false := by simpa using h0
    by_cases h1 : (l.length : Int) + (t.length : Int) < m
    · have h1' : decide ((l.length : Int) + (t.length : Int) < m) = true := by simpa using h1
      have H1 := Lib.hid h1
      clear h0 h1
      go_enter Try.func26, Try.ntmps26
      go_wp2_with fail
      go_quiet (fail)
      go_wp2_with fail
      go_ret
      have E1 : RS.trimE ⟨l, t, n, false⟩ m = 1 := by simp only [RS.trimE]; rw [if_neg (by simp), if_pos (.inr (by have := H1.out; simp; omega))]
      have E2 : RS.trim ⟨l, t, n, false⟩ m = ⟨l, t, n, false⟩ := by simp only [RS.trim]; rw [if_neg (by simp), if_pos (.inr (by have := H1.out; simp; omega))]
      rw [E1, E2]
      exact RefPost.sameN hD _ _
    have h1' : decide ((l.length : Int) + (t.length : Int) < m) = false := by simpa using h1
    obtain ⟨k, rfl⟩ := Int.eq_ofNat_of_zero_le (show 0 ≤ m by omega)
    have hk : k ≤ l.length + t.length := by omega
    have hnot : ¬ ((k : Int) < 0 ∨ ((l.length + t.length : Nat) : Int) < (k : Int)) := by omega
    have Hnot := Lib.hid hnot
    clear h0 h1 hnot
    by_cases hz : n = 0
    · have hz' : (n == 0) = true := by simp [hz]
      have Hz := Lib.hid hz
      clear hz
      go_enter Try.func26, Try.ntmps26
      go_wp2_with fail
      go_quiet (fail)
      go_wp2_with fail
      refine (goes_refdev (hD.drewN _)).mono ?_
      rintro e w1 ⟨rfl, hD1, hO1⟩
      have hO1' := ((Only.refl (fun k => k = r) w).drewN _).trans hO1
      go_wp2_with fail
      go_ret
      have E1 : RS.trimE ⟨l, t, n, false⟩ k = 11 := by simp only [RS.trimE]; rw [if_neg (by simp), if_neg Hnot.out, if_pos Hz.out]
      have E2 : RS.trim ⟨l, t, n, false⟩ k = RS.go ⟨l, t, n, false⟩ := by simp only [RS.trim]; rw [if_neg (by simp), if_neg Hnot.out, if_pos Hz.out]
      rw [E1, E2]
      exact RefPost.block hD1 hO1' _
    · have hz' : (n == 0) = false := by simp [hz]
      have Hz := Lib.hid hz
      clear hz
      go_enter Try.func26, Try.ntmps26
      go_wp2_with fail
      go_quiet (fail)
      go_wp2_with fail
      refine (goes_refdev (hD.drewN _)).mono ?_
      rintro e w1 ⟨rfl, hD1, hO1⟩
      have hO1' := ((Only.refl (fun k => k = r) w).drewN _).trans hO1
      go_wp2_with fail
      refine (bytes_ref hD1).mono ?_
      rintro e w2 ⟨A, c, rfl, hown, hb2⟩
      obtain ⟨A', c', hAc, hcc, hcm⟩ := own_shape hown
      have hc3 : k ≤ c := by
        injection hAc with _ _ e3
        subst e3
        exact Nat.le_trans hk hcc
      have Hown := Lib.hid hown
      have B2 := hD1.blk.below hb2 hD1.blk.lt
      have d0 := B2.cell 0
      have d1 := B2.cell 1
      have f0 := B2.frozen 0
      have f1 := B2.frozen 1
      simp at d0 d1
      clear hown hAc hcc hcm
      go_wp2_with fail
      go_ret
      have E1 : RS.trimE ⟨l, t, n, false⟩ k = 0 := by simp only [RS.trimE]; rw [if_neg (by simp), if_neg Hnot.out, if_neg Hz.out]
      have E2 : RS.trim ⟨l, t, n, false⟩ k = ⟨(l ++ t).take k, [], (RS.go ⟨l, t, n, false⟩).n, (RS.go ⟨l, t, n, false⟩).off⟩ := by
        simp only [RS.trim, RS.go]
        rw [if_neg (by simp), if_neg Hnot.out, if_neg Hz.out, if_neg Hz.out]
        simp
      rw [E1, E2]
      have hl : ((l ++ t).take k).length = k := by rw [List.length_take, List.length_append]; omega
      have ho : w2.ownsRow w1.heap.size 5 1 (.slice A k c) ((l ++ t).take k).length (cellsOf ((l ++ t).take k)) := by
        have h4 := own_take Hown.out hk
        rw [hl]
        unfold cellsOf at h4 ⊢
        rw [List.map_take]
        exact h4
      exact rset_fin hD1 hO1' hb2 ho (by rw [hl]; omega) (fun x hx => hD1.byt x (List.mem_of_mem_take hx)) hbase _

end Go.Proofs.Ytaakamjjglpibaa.Dv
