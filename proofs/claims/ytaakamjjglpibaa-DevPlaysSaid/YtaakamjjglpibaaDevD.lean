/-
  Bytes as a string; versolaw12's awake returns true and writes nothing that was there.
-/
import Derived.Test.YtaakamjjglpibaaDevC
import Derived.Lib.SlBytesConst
namespace Go.Proofs.Ytaakamjjglpibaa.Dv
open Go.RowKit

theorem conv_reads {w : World} {B n : Nat} {A : Option Addr} {xs : List Int} (h : Reads w B 1 A n (cellsOf xs)) (c : Nat) : (convert 22 9 (.slice A n c)).run Try.prog w = .ok (.string (strOfNums xs)) w := by
  have hl : xs.length = n := by have := h.1; simp [cellsOf] at this; exact this
  cases A with
  | none =>
    have h0 : n = 0 := by
      rcases Nat.eq_zero_or_pos n with h0 | h0
      · exact h0
      · obtain ⟨ad, h1, _⟩ := h.2 h0
        cases h1
    subst h0
    obtain rfl : xs = [] := List.eq_nil_of_length_eq_zero hl
    exact run_convert_bytes_nil (P := Try.prog) w 22 5 Try.underlying22 Try.underlying5 0 c 9 Try.underlying9
  | some ad =>
    have hc : ∀ j v, (cellsOf xs)[j]? = some v → w.cell? (ad.add j) = some v := by
      intro j v hj
      have hn : 0 < n := by
        have := (List.getElem?_eq_some_iff.1 hj).1
        simp [cellsOf] at this
        omega
      obtain ⟨ad', e, _, hcc⟩ := h.2 hn
      injection e with e
      subst e
      exact hcc j v hj
    have hld : (loadCells ad n).run Try.prog w = .ok (xs.map (Value.int .u8)).toArray w := by
      have := run_loadCells_list (P := Try.prog) w ad (xs.map (Value.int .u8)) hc
      simpa [hl] using this
    rw [run_convert_bytes_string w 22 9 5 _ n c Try.underlying22 Try.underlying5 Try.underlying9, run_bytesToString w _ n c xs hld, foldl_push_bytes]
    simp [strOfNums, ByteArray.empty, ByteArray.emptyWithCapacity]
    rfl
theorem conv_own {w : World} {base n : Nat} {A : Option Addr} {c : Nat} {xs : List Int} (h : w.ownsRow base 5 1 (.slice A n c) n (cellsOf xs)) : (convert 22 9 (.slice A n c)).run Try.prog w = .ok (.string (strOfNums xs)) w :=
  conv_reads (Reads.of_own h) c

theorem DevAt.alloc {w : World} {base d : Nat} {v : Value} {s : DS} (h : DevAt w base d v s) (o : Obj) : DevAt (w.alloc o) base d v s := h.only (S := fun _ => False) ((Only.refl _ w).alloc o) id fun _ _ => id
theorem DevAt.below {w w' : World} {B base d : Nat} {v : Value} {s : DS} (h : DevAt w base d v s) (hb : Below B w w') (hd : d < B) (hv : ∀ k, v.ownBlock = some k → k < B) : DevAt w' base d v s :=
  h.only (Only.ofBelow hb) (by omega) fun k hk => by have := hv k hk; omega
theorem DevAt.belowAll {w w' : World} {base d : Nat} {v : Value} {s : DS} (h : DevAt w base d v s) (hb : Below w.heap.size w w') : DevAt w' base d v s := h.below hb h.blk.lt fun k hk => (h.own.lt k hk).2

theorem reads_new (w : World) (xs : List Int) (fz : Nat × Nat) : Reads (w.alloc (.cells (cellsOf xs).toArray 5 fz)) (w.heap.size + 1) 1 (some ⟨w.heap.size, 0, none⟩) xs.length (cellsOf xs) := by
  refine ⟨by simp [cellsOf], fun _ => ⟨_, rfl, by simp, fun j u hu => ?_⟩⟩
  have ha : (⟨w.heap.size, 0, none⟩ : Addr).add j = ⟨w.heap.size, j, none⟩ := by unfold Addr.add; split <;> simp_all
  rw [ha, cell_of_row _ w.heap.size j (cellsOf xs).toArray 5 fz (heap_alloc_new w _)]
  simpa using hu

/-- What a call leaves, seen from below the device. -/
def Solo (w : World) (base d : Nat) (r : Value) (s : DS) (e : Ending) (w' : World) : Prop := e = .returned r ∧ ∃ v', DevAt w' base d v' s ∧ Below base w w'
theorem DevPost.solo {w w' : World} {base d : Nat} {v r : Value} {s s0 : DS} {e : Ending} (hD : DevAt w base d v s0) (h : DevPost w base d v r s e w') : Solo w base d r s e w' := by
  obtain ⟨he, v', h1, h2, _⟩ := h
  exact ⟨he, v', h1, h2.belowOf (by have := hD.blk.lt; have := hD.bd; omega) fun k hk => by rcases hk with rfl | hk; exact hD.bd; exact (hD.own.lt k hk).1⟩
theorem append_solo {w : World} {base d B c : Nat} {v : Value} {s : DS} {A : Option Addr} {xs : List Int} (hD : DevAt w base d v s) (hr : Reads w B 1 A xs.length (cellsOf xs)) (hx : Bts xs) (hxs : xs.length ≤ 140737488351232) :
    Calls Try.prog 16 #[.pointer (some ⟨d, 0, none⟩), .slice A xs.length c] w (Solo w base d (.int .i64 (s.appendE xs)) (s.append xs)) :=
  (append_dev hD hr hx (by have := hD.blk.lt; have := hD.bd; omega) hxs).mono fun _ _ h => h.solo hD
theorem sync_solo {w : World} {base d : Nat} {v : Value} {s : DS} (hD : DevAt w base d v s) : Calls Try.prog 18 #[.pointer (some ⟨d, 0, none⟩)] w (Solo w base d (.int .i64 s.syncE) s.sync) := (sync_dev hD).mono fun _ _ h => h.solo hD
theorem trim_solo {w : World} {base d : Nat} {v : Value} {s : DS} (n : Int) (hD : DevAt w base d v s) : Calls Try.prog 22 #[.pointer (some ⟨d, 0, none⟩), .int .i64 n] w (Solo w base d (.int .i64 (s.trimE n)) (s.trim n)) := (trim_dev n hD).mono fun _ _ h => h.solo hD
theorem restart_solo {w : World} {base d : Nat} {v : Value} {s : DS} (keep : Int) (hk : (Lit.int .i64 keep).wf = true) (hD : DevAt w base d v s) :
    Calls Try.prog 19 #[.pointer (some ⟨d, 0, none⟩), .int .i64 keep] w (Solo w base d (.tuple #[]) (s.restart keep)) := (restart_dev keep hk hD).mono fun _ _ h => h.solo hD
theorem arm_solo {w : World} {base d : Nat} {v : Value} {s : DS} (n : Int) (hn : (Lit.int .i64 n).wf = true) (hD : DevAt w base d v s) : Calls Try.prog 21 #[.pointer (some ⟨d, 0, none⟩), .int .i64 n] w (Solo w base d (.tuple #[]) (s.arm n)) :=
  (arm_dev n hn hD).mono fun _ _ ⟨he, h1, h2⟩ => DevPost.solo hD ⟨he, v, h1, h2.mono fun _ _ h => .inl h, .inl rfl⟩

set_option maxRecDepth 100000 in
theorem awake12 (w : World) : Calls Try.prog 14 #[] w fun e w' => e = .returned (.bool true) ∧ Below w.heap.size w w' := by
  have kc := fun (w : World) (C : Array Value) (n c : Nat) => Lib.run_convert_bytes_const (P := Try.prog) w 22 5 C n c Try.underlying22 Try.underlying5
  go_enter Try.func14, Try.ntmps14
  go_wp2_with fail
  refine (new_dev w).mono ?_
  rintro e w1 ⟨rfl, hD1, hb1⟩
  go_wp2_with fail
  refine (append_solo (xs := [97, 98, 99]) (hD1.alloc _) (reads_new w1 [97, 98, 99] (3, 4)) (by simp [Bts]) (by simp)).mono ?_
  rintro e w2 ⟨rfl, v2, hD2, hb2⟩
  rw [show DS.new.append [97, 98, 99] = ⟨[97, 98, 99], 0, -1, false⟩ from rfl] at hD2
  rw [show DS.new.appendE [97, 98, 99] = 0 from rfl]
  go_wp2_with fail
  refine (sync_solo hD2).mono ?_
  rintro e w3 ⟨rfl, v3, hD3, hb3⟩
  rw [show DS.sync ⟨[97, 98, 99], 0, -1, false⟩ = ⟨[97, 98, 99], 3, -1, false⟩ from rfl] at hD3
  rw [show DS.syncE ⟨[97, 98, 99], 0, -1, false⟩ = 0 from rfl]
  go_wp2_with fail
  refine (append_solo (xs := [100, 101]) (hD3.alloc _) (reads_new w3 [100, 101] (2, 3)) (by simp [Bts]) (by simp)).mono ?_
  rintro e w4 ⟨rfl, v4, hD4, hb4⟩
  rw [show DS.append ⟨[97, 98, 99], 3, -1, false⟩ [100, 101] = ⟨[97, 98, 99, 100, 101], 3, -1, false⟩ from rfl] at hD4
  rw [show DS.appendE ⟨[97, 98, 99], 3, -1, false⟩ [100, 101] = 0 from rfl]
  go_wp2_with fail
  refine (restart_solo 1 (by decide) hD4).mono ?_
  rintro e w5 ⟨rfl, v5, hD5, hb5⟩
  rw [show DS.restart ⟨[97, 98, 99, 100, 101], 3, -1, false⟩ 1 = ⟨[97, 98, 99, 100], 4, -1, false⟩ from rfl] at hD5
  go_wp2_with fail
  refine (bytes_dev hD5).mono ?_
  rintro e w6 ⟨rfl, ho6, hb6⟩
  have hc6 : (convert 22 9 (.slice (some ⟨w5.heap.size, 0, none⟩) 4 4)).run Try.prog w6 = .ok (.string (strOfNums [97, 98, 99, 100])) w6 := conv_own ho6
  have hs6 : ((strOfNums [97, 98, 99, 100]).toList == [97, 98, 99, 100]) = true := by decide +kernel
  go_wp2_with fail
  go_ret
  refine ⟨rfl, ?_⟩
  have hs1 := hb1.size
  have hs2 := hb2.size
  have hs3 := hb3.size
  have hs4 := hb4.size
  have hs5 := hb5.size
  simp at hs2 hs4
  exact (((((hb1.alloc hs1 _).trans hb2).trans hb3).alloc (by omega) _).trans hb4).trans (hb5.trans (hb6.mono (by omega)))
end Go.Proofs.Ytaakamjjglpibaa.Dv
