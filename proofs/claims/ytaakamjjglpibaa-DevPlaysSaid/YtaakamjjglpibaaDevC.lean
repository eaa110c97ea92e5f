/-
  The device's other calls: Sync, Trim, Restart, Bytes.
-/
import Derived.Test.YtaakamjjglpibaaDevB
namespace Go.Proofs.Ytaakamjjglpibaa.Dv
open Go.RowKit

theorem DevPost.same {w : World} {base d : Nat} {v : Value} {s : DS} (hD : DevAt w base d v s) (r : Value) : DevPost w base d v r s (.returned r) w := ⟨rfl, v, hD, Only.refl _ _, .inl rfl⟩
theorem DevPost.block {w w1 : World} {base d : Nat} {v : Value} {s : DS} (hD : DevAt w1 base d v s) (hO : Only (· = d) w w1) (r : Value) : DevPost w base d v r s (.returned r) w1 := ⟨rfl, v, hD, hO.mono fun _ _ h => .inl h, .inl rfl⟩

/-- A store into the device's number of bytes that last. -/
theorem sync_fin {w w1 : World} {base d : Nat} {v : Value} {bs : List Int} {last : Nat} {left : Int} (hD1 : DevAt w1 base d v (DS.go ⟨bs, last, left, false⟩)) (hO1 : Only (· = d) w w1) (hz : ¬ left = 0) :
    DevAt (w1.setCell ⟨d, 1, none⟩ (.int .i64 bs.length)).drew base d v (DS.sync ⟨bs, last, left, false⟩) ∧ Only (· = d) w (w1.setCell ⟨d, 1, none⟩ (.int .i64 bs.length)).drew := by
  have hs : DS.sync ⟨bs, last, left, false⟩ = ⟨bs, bs.length, (DS.go ⟨bs, last, left, false⟩).left, false⟩ := by
    simp only [DS.sync]
    rw [if_neg (by simp), if_neg hz]
  have hO2 : Only (fun k => k = d) w1 (w1.setCell ⟨d, 1, none⟩ (.int .i64 bs.length)).drew := ((Only.refl (fun k => k = d) w1).setCell (p := ⟨d, 1, none⟩) (fun _ => rfl) _).drew
  have hz' : (left == 0) = false := by simp [hz]
  rw [hs]
  refine ⟨hD1.turned hO2 ?_ rfl (Nat.le_refl _) hD1.left hD1.most, hO1.trans hO2⟩
  have h3 : Blk _ d 60 #[v, .int .i64 bs.length, .int .i64 (DS.go ⟨bs, last, left, false⟩).left, .bool (left == 0)] := hD1.blk.set_ 1 (.int .i64 bs.length)
  rw [hz'] at h3
  exact h3

theorem sync_dev {w : World} {base d : Nat} {v : Value} {s : DS} (hD : DevAt w base d v s) : Calls Try.prog 18 #[.pointer (some ⟨d, 0, none⟩)] w (DevPost w base d v (.int .i64 s.syncE) s.sync) := by
  obtain ⟨a, cap, rfl, hca, hcm⟩ := hD.shape
  have c3 := hD.blk.cell 3
  simp at c3
  have hlen := hD.len
  obtain ⟨bs, last, left, off⟩ := s
  simp only at c3 hlen hca
  cases off with
  | true =>
    go_enter Try.func18, Try.ntmps18
    go_wp2_with fail
    go_ret
    exact DevPost.same hD _
  | false =>
    by_cases hz : left = 0
    · have hz' : (left == 0) = true := by simp [hz]
      have Hz := Lib.hid hz
      clear hz
      go_enter Try.func18, Try.ntmps18
      go_wp2_with fail
      refine (goes_dev hD).mono ?_
      rintro e w1 ⟨rfl, hD1, hO1⟩
      go_wp2_with fail
      go_ret
      have e1 : DS.syncE ⟨bs, last, left, false⟩ = 11 := by simp only [DS.syncE]; rw [if_neg (by simp), if_pos Hz.out]
      have e2 : DS.sync ⟨bs, last, left, false⟩ = DS.go ⟨bs, last, left, false⟩ := by simp only [DS.sync]; rw [if_neg (by simp), if_pos Hz.out]
      rw [e1, e2]
      exact DevPost.block hD1 hO1 _
    · have hz' : (left == 0) = false := by simp [hz]
      have Hz := Lib.hid hz
      clear hz
      go_enter Try.func18, Try.ntmps18
      go_wp2_with fail
      refine (goes_dev hD).mono ?_
      rintro e w1 ⟨rfl, hD1, hO1⟩
      have d0 := hD1.blk.cell 0
      have d1 := hD1.blk.cell 1
      have f1 := hD1.blk.frozen 1
      simp at d0 d1
      go_wp2_with fail
      go_region
      go_wp2_with fail
      go_ret
      have e1 : DS.syncE ⟨bs, last, left, false⟩ = 0 := by simp only [DS.syncE]; rw [if_neg (by simp), if_neg Hz.out]
      rw [e1]
      exact DevPost.block (sync_fin hD1 hO1 Hz.out).1 (sync_fin hD1 hO1 Hz.out).2 _

theorem trim_fin {w w1 : World} {base d n c : Nat} {a : Option Addr} {bs : List Int} {last : Nat} {left : Int} (hD1 : DevAt w1 base d (.slice a bs.length c) (DS.go ⟨bs, last, left, false⟩)) (hO1 : Only (· = d) w w1) (hz : ¬ left = 0) (hn : n ≤ bs.length) :
    DevPost w base d (.slice a bs.length c) (.int .i64 0) (DS.trim ⟨bs, last, left, false⟩ n) (.returned (.int .i64 0)) ((w1.setCell ⟨d, 0, none⟩ (.slice a n c)).setCell ⟨d, 1, none⟩ (.int .i64 n)) := by
  have hs : DS.trim ⟨bs, last, left, false⟩ n = ⟨bs.take n, n, (DS.go ⟨bs, last, left, false⟩).left, false⟩ := by
    simp only [DS.trim]
    rw [if_neg (by simp), if_neg (by omega), if_neg hz]
    simp
  have hz' : (left == 0) = false := by simp [hz]
  have hne := hD1.ne
  have hO2 : Only (fun k => k = d) w1 ((w1.setCell ⟨d, 0, none⟩ (.slice a n c)).setCell ⟨d, 1, none⟩ (.int .i64 n)) :=
    ((Only.refl (fun k => k = d) w1).setCell (p := ⟨d, 0, none⟩) (fun _ => rfl) _).setCell (p := ⟨d, 1, none⟩) (fun _ => rfl) _
  have hl : (bs.take n).length = n := by rw [List.length_take]; omega
  have hlen := hD1.len
  rw [hs]
  refine ⟨rfl, .slice a n c, ⟨?_, ?_, hD1.bd, ?_, ?_, hD1.left, hD1.most, fun x hx => hD1.byt x (List.mem_of_mem_take hx)⟩, (hO1.trans hO2).mono fun _ _ h => .inl h, .inl ?_⟩
  · have h3 : Blk _ d 60 #[.slice a n c, .int .i64 n, .int .i64 (DS.go ⟨bs, last, left, false⟩).left, .bool (left == 0)] := (hD1.blk.set_ 0 (.slice a n c)).set_ 1 (.int .i64 n)
    rw [hz'] at h3
    exact h3
  · show World.ownsRow _ base 5 1 (.slice a n c) (bs.take n).length (cellsOf (bs.take n))
    have h4 := own_take (own_only hD1.own hO2 (fun k hk e => hne (by rw [hk, e]))) hn
    rw [hl]
    unfold cellsOf at h4 ⊢
    rw [List.map_take]
    exact h4
  · show n ≤ (bs.take n).length
    omega
  · show (bs.take n).length ≤ 60000
    have : bs.length ≤ 60000 := hlen
    omega
  · cases a <;> rfl

theorem trim_dev {w : World} {base d : Nat} {v : Value} {s : DS} (n : Int) (hD : DevAt w base d v s) : Calls Try.prog 22 #[.pointer (some ⟨d, 0, none⟩), .int .i64 n] w (DevPost w base d v (.int .i64 (s.trimE n)) (s.trim n)) := by
  obtain ⟨a, cap, rfl, hca, hcm⟩ := hD.shape
  have c0 := hD.blk.cell 0
  have c3 := hD.blk.cell 3
  simp at c0 c3
  have hlen := hD.len
  obtain ⟨bs, last, left, off⟩ := s
  simp only at c0 c3 hlen hca
  cases off with
  | true =>
    go_enter Try.func22, Try.ntmps22
    go_wp2_with fail
    go_ret
    exact DevPost.same hD _
  | false =>
    by_cases hn0 : n < 0
    · go_enter Try.func22, Try.ntmps22
      go_wp2_with fail
      go_ret
      have e1 : DS.trimE ⟨bs, last, left, false⟩ n = 1 := by simp only [DS.trimE]; rw [if_neg (by simp), if_pos (.inl hn0)]
      have e2 : DS.trim ⟨bs, last, left, false⟩ n = ⟨bs, last, left, false⟩ := by simp only [DS.trim]; rw [if_neg (by simp), if_pos (.inl hn0)]
      rw [e1, e2]
      exact DevPost.same hD _
    · by_cases hn1 : (bs.length : Int) < n
      · have hn0' : decide (n < 0) = false := by simpa using hn0
        go_enter Try.func22, Try.ntmps22
        go_wp2_with fail
        go_ret
        have e1 : DS.trimE ⟨bs, last, left, false⟩ n = 1 := by simp only [DS.trimE]; rw [if_neg (by simp), if_pos (.inr hn1)]
        have e2 : DS.trim ⟨bs, last, left, false⟩ n = ⟨bs, last, left, false⟩ := by simp only [DS.trim]; rw [if_neg (by simp), if_pos (.inr hn1)]
        rw [e1, e2]
        exact DevPost.same hD _
      · obtain ⟨m, rfl⟩ := Int.eq_ofNat_of_zero_le (by omega : 0 ≤ n)
        have hm : m ≤ bs.length := by omega
        have hm' : m ≤ cap := by omega
        by_cases hz : left = 0
        · have hz' : (left == 0) = true := by simp [hz]
          have Hz := Lib.hid hz
          clear hz
          go_enter Try.func22, Try.ntmps22
          go_wp2_with fail
          refine (goes_dev hD).mono ?_
          rintro e w1 ⟨rfl, hD1, hO1⟩
          go_wp2_with fail
          go_ret
          have e1 : DS.trimE ⟨bs, last, left, false⟩ m = 11 := by simp only [DS.trimE]; rw [if_neg (by simp), if_neg (by omega), if_pos Hz.out]
          have e2 : DS.trim ⟨bs, last, left, false⟩ m = DS.go ⟨bs, last, left, false⟩ := by simp only [DS.trim]; rw [if_neg (by simp), if_neg (by omega), if_pos Hz.out]
          rw [e1, e2]
          exact DevPost.block hD1 hO1 _
        · have hz' : (left == 0) = false := by simp [hz]
          have Hz := Lib.hid hz
          clear hz
          go_enter Try.func22, Try.ntmps22
          go_wp2_with fail
          refine (goes_dev hD).mono ?_
          rintro e w1 ⟨rfl, hD1, hO1⟩
          have d0 := hD1.blk.cell 0
          have d1 := hD1.blk.cell 1
          have f0 := hD1.blk.frozen 0
          have f1 := hD1.blk.frozen 1
          simp at d0 d1
          go_wp2_with fail
          go_ret
          have e1 : DS.trimE ⟨bs, last, left, false⟩ m = 0 := by simp only [DS.trimE]; rw [if_neg (by simp), if_neg (by omega), if_neg Hz.out]
          rw [e1]
          exact trim_fin hD1 hO1 Hz.out hm

theorem DevAt.drew {w : World} {base d : Nat} {v : Value} {s : DS} (h : DevAt w base d v s) : DevAt w.drew base d v s := ⟨h.blk.drew, h.own.drew, h.bd, h.last, h.len, h.left, h.most, h.byt⟩
theorem DevPost.drew {w w' : World} {base d : Nat} {v r : Value} {s : DS} {e : Ending} (h : DevPost w base d v r s e w') : DevPost w base d v r s e w'.drew := by
  obtain ⟨he, v', h1, h2, h3⟩ := h
  exact ⟨he, v', h1.drew, h2.drew, h3⟩

theorem restart_fin {w : World} {base d n c : Nat} {a : Option Addr} {s : DS} (hD : DevAt w base d (.slice a s.bs.length c) s) (keep : Int) (hn : n = s.kept keep) :
    DevPost w base d (.slice a s.bs.length c) (.tuple #[]) (s.restart keep) (.returned (.tuple #[]))
      ((((w.setCell ⟨d, 0, none⟩ (.slice a n c)).setCell ⟨d, 1, none⟩ (.int .i64 n)).setCell ⟨d, 2, none⟩ (.int .i64 (-1))).setCell ⟨d, 3, none⟩ (.bool false)) := by
  have hB1 := hD.blk
  have hO1 : Only (fun k => k = d) w w := Only.refl _ _
  have hne := hD.ne
  have hlast := hD.last
  have hnb : n ≤ s.bs.length := by rw [hn]; unfold DS.kept; omega
  have hO2 : Only (fun k => k = d) w ((((w.setCell ⟨d, 0, none⟩ (.slice a n c)).setCell ⟨d, 1, none⟩ (.int .i64 n)).setCell ⟨d, 2, none⟩ (.int .i64 (-1))).setCell ⟨d, 3, none⟩ (.bool false)) :=
    (((hO1.setCell (p := ⟨d, 0, none⟩) (fun _ => rfl) _).setCell (p := ⟨d, 1, none⟩) (fun _ => rfl) _).setCell (p := ⟨d, 2, none⟩) (fun _ => rfl) _).setCell (p := ⟨d, 3, none⟩) (fun _ => rfl) _
  have hl : (s.bs.take n).length = n := by rw [List.length_take]; omega
  have hlen := hD.len
  have hs : s.restart keep = ⟨s.bs.take n, n, -1, false⟩ := by rw [hn]; rfl
  rw [hs]
  refine ⟨rfl, .slice a n c, ⟨?_, ?_, hD.bd, ?_, ?_, by simp, by simp, fun x hx => hD.byt x (List.mem_of_mem_take hx)⟩, hO2.mono fun _ _ h => .inl h, .inl ?_⟩
  · exact (((hB1.set_ 0 (.slice a n c)).set_ 1 (.int .i64 n)).set_ 2 (.int .i64 (-1))).set_ 3 (.bool false)
  · show World.ownsRow _ base 5 1 (.slice a n c) (s.bs.take n).length (cellsOf (s.bs.take n))
    have h4 := own_take (own_only hD.own hO2 (fun k hk e => hne (by rw [hk, e]))) hnb
    rw [hl]
    unfold cellsOf at h4 ⊢
    rw [List.map_take]
    exact h4
  · show n ≤ (s.bs.take n).length
    omega
  · show (s.bs.take n).length ≤ 60000
    omega
  · cases a <;> rfl

theorem restart_dev {w : World} {base d : Nat} {v : Value} {s : DS} (keep : Int) (hk : (Lit.int .i64 keep).wf = true) (hD : DevAt w base d v s) :
    Calls Try.prog 19 #[.pointer (some ⟨d, 0, none⟩), .int .i64 keep] w (DevPost w base d v (.tuple #[]) (s.restart keep)) := by
  obtain ⟨a, cap, rfl, hca, hcm⟩ := hD.shape
  have c0 := hD.blk.cell 0
  have c1 := hD.blk.cell 1
  have c2 := hD.blk.cell 2
  have c3 := hD.blk.cell 3
  have f0 := hD.blk.frozen 0
  have f1 := hD.blk.frozen 1
  have f2 := hD.blk.frozen 2
  have f3 := hD.blk.frozen 3
  simp at c0 c1 c2 c3
  have hlen := hD.len
  have hlast := hD.last
  have hkb := bounds_i64 hk
  unfold maxLen at hcm
  have hkd : s.kept keep = s.last + min (max keep 0).toNat (s.bs.length - s.last) := rfl
  have Hkd := Lib.hid hkd
  clear hkd
  by_cases h0 : keep < 0
  · go_enter Try.func19, Try.ntmps19
    go_wp2_with fail
    go_region
    go_wp2_with fail
    go_end0
    exact (restart_fin hD keep (by rw [Hkd.out]; omega)).drew
  · obtain ⟨k, rfl⟩ := Int.eq_ofNat_of_zero_le (by omega : 0 ≤ keep)
    by_cases h1 : k ≤ s.bs.length - s.last
    · have h1' : (k : Int) ≤ (s.bs.length : Int) - (s.last : Int) := by omega
      go_enter Try.func19, Try.ntmps19
      go_wp2_with fail
      go_region
      go_wp2_with fail
      go_end0
      exact (restart_fin (n := s.last + k) hD k (by rw [Hkd.out]; omega)).drew
    · have h1' : (s.bs.length : Int) - (s.last : Int) < (k : Int) := by omega
      go_enter Try.func19, Try.ntmps19
      go_wp2_with fail
      go_region
      go_wp2_with fail
      go_end0
      rw [show ((s.last : Int) + ((s.bs.length : Int) - (s.last : Int))) = (s.bs.length : Int) from by omega]
      exact (restart_fin (n := s.bs.length) hD k (by rw [Hkd.out]; omega)).drew

/-- A row that is owned whole, as a block. -/
theorem own_full {w : World} {base : Nat} {e : TypeId} {g n : Nat} {xs : List Value} (h : w.ownsRow base e 1 (.slice (some ⟨g, 0, none⟩) n n) n xs) : Blk w g e xs.toArray := by
  rcases h.2 with ⟨h', _⟩ | ⟨g', cap', cur, h', _, hg, _, _, hs, ht⟩
  · simp at h'
  · simp only [Value.slice.injEq, Option.some.injEq, Addr.mk.injEq, and_true, true_and] at h'
    obtain ⟨rfl, rfl⟩ := h'
    rw [List.take_of_length_le (by simp; omega)] at ht
    unfold Blk
    rw [hg, ← ht]
theorem own_of_blk {w : World} {base : Nat} {e : TypeId} {g : Nat} {xs : List Value} (h : Blk w g e xs.toArray) (hb : base ≤ g) (hm : xs.length ≤ maxLen) : w.ownsRow base e 1 (.slice (some ⟨g, 0, none⟩) xs.length xs.length) xs.length xs :=
  ⟨by simp, .inr ⟨g, xs.length, xs.toArray, rfl, hb, h, Nat.le_refl _, hm, by simp, by simp⟩⟩

theorem own_some {w : World} {base : Nat} {e : TypeId} {g n : Nat} {xs : List Value} (h : w.ownsRow base e 1 (.slice (some ⟨g, 0, none⟩) n n) n xs) : ∃ Z : List Value, Hid (Z.length = n) ∧ Hid (w.heap[g]? = some (.cells Z.toArray e (0, 0))) :=
  ⟨xs, by have := h.1; show xs.length = n; omega, own_full h⟩
theorem cells_one (bs : List Int) : ∀ u ∈ cellsOf bs, u.oneCell' = true := ints_oneCell _ _
theorem splice_whole (Z cs : List Value) (h : Z.length = cs.length) : splice Z 0 cs = cs := by
  unfold splice
  rw [List.take_zero, List.nil_append, List.drop_of_length_le (by omega), List.append_nil]
theorem Try.size5 : (Try.prog.info? 5).map (·.size) = some 1 := by kernel_rfl

theorem bytes_dev {w : World} {base d : Nat} {v : Value} {s : DS} (hD : DevAt w base d v s) :
    Calls Try.prog 17 #[.pointer (some ⟨d, 0, none⟩)] w fun e w' => e = .returned (.slice (some ⟨w.heap.size, 0, none⟩) s.bs.length s.bs.length) ∧ w'.ownsRow w.heap.size 5 1 (.slice (some ⟨w.heap.size, 0, none⟩) s.bs.length s.bs.length) s.bs.length (cellsOf s.bs) ∧ Below w.heap.size w w' := by
  obtain ⟨a, cap, rfl, hca, hcm⟩ := hD.shape
  have c0 := hD.blk.cell 0
  simp at c0
  have hlen := hD.len
  unfold maxLen at hcm
  have hdlt := hD.blk.lt
  obtain ⟨i5, hi5, hz5, hs5, hb5⟩ := info_parts Try.info5
  have hcl : (cellsOf s.bs).length = s.bs.length := by simp [cellsOf]
  have Hcl := Lib.hid hcl
  clear hcl
  have HS := Lib.hid Try.size5
  go_enter Try.func17, Try.ntmps17
  go_wp2_with (first
    | (at_make; refine wpList_make_full _ rfl (.tmp 8) (.tmp 8) 22 rfl w.heap.size 5 i5 _ 1 Try.underlying22 hi5 hz5 hs5 .i64 .i64 _ _ s.bs.length rfl rfl rfl rfl (by rw [hb5]; omega) (by unfold maxLen; omega) (Nat.le_refl _) ?_; intro w1 hown1 hg1; have Hown1 := Lib.hid hown1; have Hg1 := Lib.hid hg1; clear hown1 hg1; have b1 := (hD.blk.grown Hg1.out (by simp)).cell 0; simp at b1; have Hb1 := Lib.hid ((Below.refl w.heap.size w).grown Hg1.out (Nat.le_refl _) (by simp)); have Hsrc := Lib.hid (Reads.of_own (hD.own.kept Hg1.out (by cases hv : (Value.slice a s.bs.length cap).ownBlock <;> simp))); obtain ⟨Z, HZl, HZ⟩ := own_some Hown1.out)
    | (with_reducible show wpList _ _ _ _ _ _; (refine wpList_copy_splice rfl (.tmp 10) (.tmp 14) 22 22 rfl 5 Try.underlying22 HS.out (some ⟨w.heap.size, 0, none⟩) a s.bs.length s.bs.length s.bs.length cap rfl rfl w.heap.size 0 Z 5 HZ.out (cellsOf s.bs) (by rw [Hcl.out]; simp) ?_ ?_ (cells_one _) w.heap.size w Hb1.out (Nat.le_refl _) ?_)))
  · intro hpos
    obtain ⟨ad, hA, _, hc⟩ := Hsrc.out.2 (by have := Hcl.out; omega)
    exact ⟨ad, hA, hc⟩
  · have := HZl.out
    have := Hcl.out
    omega
  · intro w2 Hrow Hb2
    have Hb2 := Lib.hid Hb2
    go_wp2_with fail
    go_ret
    have h3 := Hrow.out
    rw [splice_whole _ _ (by rw [HZl.out, Hcl.out])] at h3
    have h4 := own_of_blk (base := w.heap.size) (xs := cellsOf s.bs) h3 (Nat.le_refl _) (by rw [Hcl.out]; unfold maxLen; omega)
    rw [Hcl.out] at h4
    exact ⟨rfl, h4, Hb2.out⟩
end Go.Proofs.Ytaakamjjglpibaa.Dv
