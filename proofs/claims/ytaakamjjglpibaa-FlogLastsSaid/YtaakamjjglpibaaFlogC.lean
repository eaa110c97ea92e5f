/-
  The log (verso/flog): Size, Open.
-/
import Derived.Test.YtaakamjjglpibaaFlogB
import Derived.Deep.LoopGhost
import Derived.WalkMore
namespace Go.Proofs.Ytaakamjjglpibaa.Dv
open Go.RowKit

theorem size_log {w : World} {base d L : Nat} {v : Value} {s : DS} (hD : DevAt w base d v s) (hL : Blk w L 65 #[.pointer (some ⟨d, 0, none⟩)]) :
    Calls Try.prog 34 #[.pointer (some ⟨L, 0, none⟩)] w fun e w' => e = .returned (.int .i64 s.bs.length) ∧ Below w.heap.size w w' := by
  have cL := hL.cell 0
  simp at cL
  go_enter Try.func34, Try.ntmps34
  go_wp2_with fail
  refine (bytes_dev hD).mono ?_
  rintro e w1 ⟨rfl, ho1, hb1⟩
  clear ho1
  have Hb1 := Lib.hid hb1
  clear hb1
  go_wp2_with fail
  go_ret
  exact ⟨rfl, Hb1.out⟩

def strs (l : List ByteArray) : List Value := l.map Value.string

theorem Try.info9 : (Try.prog.info? 9).map (fun i => (i.zero, i.size, i.bytes)) = some (some (.string ByteArray.empty), 1, 16) := by kernel_rfl

def openS (bs : List Int) (last : Nat) : DS := if ends bs < bs.length then ⟨bs.take (ends bs), ends bs, -1, false⟩ else ⟨bs, last, -1, false⟩
/-- What Open leaves of a device that is on and not armed. -/
def OpenPost (w : World) (base d last : Nat) (v : Value) (bs : List Int) (e : Ending) (w' : World) : Prop :=
  ∃ (L : Nat) (vo v' : Value), e = .returned (.tuple #[.pointer (some ⟨L, 0, none⟩), vo, .int .i64 0]) ∧ DevAt w' base d v' (openS bs last) ∧ Blk w' L 65 #[.pointer (some ⟨d, 0, none⟩)] ∧
    w'.ownsRow w.heap.size 9 1 vo (texts bs).length (strs (texts bs)) ∧ Only (fun k => k = d ∨ v.ownBlock = some k) w w' ∧ (v'.ownBlock = v.ownBlock ∨ ∀ k, v'.ownBlock = some k → w.heap.size ≤ k)

theorem reads_newV (w : World) (cs : List Value) (e : TypeId) (fz : Nat × Nat) : Reads (w.alloc (.cells cs.toArray e fz)) (w.heap.size + 1) 1 (some ⟨w.heap.size, 0, none⟩) cs.length cs := by
  refine ⟨by simp, fun _ => ⟨_, rfl, by simp, fun j u hu => ?_⟩⟩
  have ha : (⟨w.heap.size, 0, none⟩ : Addr).add j = ⟨w.heap.size, j, none⟩ := by unfold Addr.add; split <;> simp_all
  rw [ha, cell_of_row _ w.heap.size j cs.toArray e fz (heap_alloc_new w _)]
  simpa using hu

/-- A piece of a row of bytes, as a string. -/
theorem conv_mid {W : World} {g o m c : Nat} {bs : List Int} (h : Blk W g 5 (cellsOf bs).toArray) (hm : o + m ≤ bs.length) : (convert 22 9 (.slice (some ⟨g, o, none⟩) m c)).run Try.prog W = .ok (.string (strOfNums ((bs.drop o).take m))) W := by
  refine conv_reads (B := W.heap.size) ⟨by simp [cellsOf]; omega, fun _ => ⟨_, rfl, h.lt, fun j u hu => ?_⟩⟩ c
  have ha : (⟨g, o, none⟩ : Addr).add j = ⟨g, o + j, none⟩ := by unfold Addr.add; split <;> simp_all
  rw [ha, h.cell (o + j)]
  have hj : j < m := by
    have := (List.getElem?_eq_some_iff.1 hu).1
    simp [cellsOf] at this
    omega
  rw [← hu]
  simp [cellsOf, hj]
theorem conv_none (W : World) (a : Option Addr) (m c : Nat) (hm : m = 0) (bs : List Int) (o : Nat) : (convert 22 9 (.slice a m c)).run Try.prog W = .ok (.string (strOfNums ((bs.drop o).take m))) W := by
  subst hm
  exact conv_reads (B := 0) ⟨by simp [cellsOf], fun h => absurd h (by omega)⟩ c

/-- Rows of two element types lie apart. -/
theorem own_ne_own {w : World} {b1 b2 s1 s2 n1 n2 : Nat} {e1 e2 : TypeId} {v1 v2 : Value} {x1 x2 : List Value} (h1 : w.ownsRow b1 e1 s1 v1 n1 x1) (h2 : w.ownsRow b2 e2 s2 v2 n2 x2) (hne : e1 ≠ e2) {k : Nat} (hk : v1.ownBlock = some k) : v2.ownBlock ≠ some k := by
  rcases h1.2 with ⟨rfl, _⟩ | ⟨g, cap, cur, rfl, _, hh, _⟩
  · simp [Value.ownBlock] at hk
  · have hg : g = k := by simpa [Value.ownBlock] using hk
    subst hg
    exact own_blk_ne h2 (show Blk w g e1 cur from hh) (Ne.symm hne)

theorem open_step {w W w3 : World} {k m : Nat} {vo v3 : Value} {bs : List Int} {T : List ByteArray} {t : ByteArray} (hW : Below w.heap.size w W) (hB : Blk W w.heap.size 5 (cellsOf bs).toArray) (hown : (W.alloc (.cells #[.string t] 9)).ownsRow w.heap.size 9 1 vo T.length (strs T))
    (hown4 : w3.ownsRow w.heap.size 9 1 v3 (T.length + 1) (strs T ++ [.string t])) (hg : (W.alloc (.cells #[.string t] 9)).grownBy w3 vo.ownBlock)
    (HT : T ++ texts (bs.drop k) = texts bs ∧ k + ends (bs.drop k) = ends bs) (hf : framed bs k) (hm : m = lenAt bs k) (ht : t = strOfNums ((bs.drop (k + 3)).take m)) :
    w3.ownsRow w.heap.size 9 1 v3 (T ++ [t]).length (strs (T ++ [t])) ∧ Hid ((T ++ [t]) ++ texts (bs.drop (k + 3 + m)) = texts bs ∧ k + 3 + m + ends (bs.drop (k + 3 + m)) = ends bs) ∧ Hid (Blk w3 w.heap.size 5 (cellsOf bs).toArray) ∧ Below w.heap.size w w3 ∧ w.heap.size < w3.heap.size := by
  have hBa := hB.alloc (.cells #[.string t] 9)
  have hB3 : Blk w3 w.heap.size 5 (cellsOf bs).toArray := hBa.grown hg (fun h => own_blk_ne hown hBa (by decide) h.symm)
  refine ⟨?_, ?_, hB3, ?_, hB3.lt⟩
  · rw [List.length_append]
    simpa [strs] using hown4
  · have h1 := texts_fits (framed_iff.1 hf)
    rw [← lenAt_drop, ← hm, List.drop_drop, List.drop_drop, ← ht, show k + (3 + m) = k + 3 + m from by omega] at h1
    show _ ∧ _
    rw [← HT.1, ← HT.2, h1.1, h1.2]
    exact ⟨by simp, by omega⟩
  · exact (hW.alloc hW.size _).grown hg (by have := hW.size; simp; omega) (fun i hi => (hown.lt i hi).1)

theorem open_fin {w W w4 : World} {base d last k L : Nat} {v vo v4 : Value} {bs : List Int} {T : List ByteArray} {s : DS} (hD : DevAt w base d v ⟨bs, last, -1, false⟩) (hW : Below w.heap.size w W) (hown : W.ownsRow w.heap.size 9 1 vo T.length (strs T))
    (HT : T ++ texts (bs.drop k) = texts bs ∧ k + ends (bs.drop k) = ends bs) (hf : ¬ framed bs k) (hL : L = w4.heap.size) (hs : s = if k < bs.length then ⟨bs.take k, k, -1, false⟩ else ⟨bs, last, -1, false⟩)
    (hD4 : DevAt w4 base d v4 s) (hO4 : Only (fun i => i = d ∨ v.ownBlock = some i) W w4) (hv4 : v4.ownBlock = v.ownBlock ∨ ∀ i, v4.ownBlock = some i → w.heap.size ≤ i) :
    OpenPost w base d last v bs (.returned (.tuple #[.pointer (some ⟨L, 0, none⟩), vo, .int .i64 0])) (w4.alloc (.cells #[.pointer (some ⟨d, 0, none⟩)] 65)) := by
  subst hL
  have hn := texts_not (fun h => hf (framed_iff.2 h))
  rw [hn.1, hn.2, List.append_nil, Nat.add_zero] at HT
  have hDW := hD.belowAll hW
  have hown4 := own_only hown hO4 (fun i hi hS => by
    rcases hS with rfl | hS
    · exact own_blk_ne hown hDW.blk (by decide) hi
    · exact own_ne_own hown hDW.own (by decide) hi hS)
  have hO : Only (fun i => i = d ∨ v.ownBlock = some i) w (w4.alloc (.cells #[.pointer (some ⟨d, 0, none⟩)] 65)) := (((Only.ofBelow hW).mono (S' := fun i => i = d ∨ v.ownBlock = some i) (fun i hi h => by omega)).trans hO4).alloc _
  have es : openS bs last = s := by
    rw [hs]
    unfold openS
    rw [← HT.2]
  refine ⟨w4.heap.size, vo, v4, rfl, es ▸ hD4.alloc _, Blk.new _ _ _, ?_, hO, hv4⟩
  rw [← HT.1]
  exact hown4.alloc _

set_option maxRecDepth 100000 in
set_option maxHeartbeats 1600000 in
theorem open_log {w : World} {base d last : Nat} {v : Value} {bs : List Int} (hD : DevAt w base d v ⟨bs, last, -1, false⟩) :
    Calls Try.prog 31 #[.pointer (some ⟨d, 0, none⟩)] w (OpenPost w base d last v bs) := by
  have hlen : bs.length ≤ 60000 := hD.len
  have hbyt : Bts bs := hD.byt
  go_enter Try.func31, Try.ntmps31
  go_wp2_with fail
  go_step3
  go_wp2_with fail
  refine (off_dev hD).mono ?_
  rintro e w0 ⟨rfl, rfl⟩
  go_wp2_with fail
  refine (bytes_dev hD).mono ?_
  rintro e w1 ⟨rfl, ho1, hb1⟩
  simp only at ho1
  have HB1 := Lib.hid (own_full ho1)
  clear ho1
  go_wp2_with fail
  go_step3
  go_wp2_with fail
  go_loopw [6, 7] (fun out at_ wr => ∃ (k : Nat) (T : List ByteArray), k ≤ bs.length ∧ at_ = .int .i64 k ∧ wr.ownsRow w.heap.size 9 1 out T.length (strs T) ∧ Hid (T ++ texts (bs.drop k) = texts bs ∧ k + ends (bs.drop k) = ends bs) ∧ Hid (Blk wr w.heap.size 5 (cellsOf bs).toArray) ∧ Below w.heap.size w wr ∧ T.length ≤ k ∧ w.heap.size < wr.heap.size) (fun _ at_ _ => bs.length - (intOf at_).toNat)
  case atStart => exact ⟨0, [], Nat.zero_le _, rfl, World.ownsRow_nil _ _ _ _, (show _ ∧ _ from ⟨by simp, by simp⟩), HB1, hb1, Nat.le_refl _, HB1.out.lt⟩
  case round =>
    obtain ⟨k, T, hk, rfl, hown, HT, HB, hb, hTk, hsz⟩ := hrel
    have hownb : wr.ownsRow w.heap.size 5 1 (.slice (some ⟨w.heap.size, 0, none⟩) bs.length bs.length) bs.length (cellsOf bs) := by
      have h := own_of_blk (base := w.heap.size) (xs := cellsOf bs) HB.out (Nat.le_refl _) (by simp [cellsOf, maxLen]; omega)
      rw [show (cellsOf bs).length = bs.length from by simp [cellsOf]] at h
      exact h
    by_cases hf : framed bs k
    · obtain ⟨m, hm⟩ : ∃ m, m = lenAt bs k := ⟨_, rfl⟩
      have hp : placeAt bs k = .agg #[.int .i64 ((k : Int) + 3), .int .i64 ((k : Int) + 3 + (m : Int))] := by
        unfold placeAt
        rw [if_pos hf, ← hm]
        simp
      have hf1 := hf.1
      have hf2 := hf.2.1
      have hf3 := hf.2.2
      rw [← hm] at hf2 hf3
      have HP := Lib.hid hp
      have HF := Lib.hid hf
      have HM := Lib.hid hm
      clear hp hf hm
      have q1 : ((k : Int) + 3 == 0) = false := beq_eq_false_iff_ne.2 (by omega)
      go_wp2_with fail
      refine (next_flog k hownb hbyt hlen hk).mono ?_
      rintro e w2 ⟨rfl, hb2⟩
      rw [HP.out]
      have Hown2 := Lib.hid (own_only hown (Only.ofBelow hb2) (fun i hi => by have := (hown.lt i hi).2; omega))
      clear hown hownb
      obtain ⟨t, ht⟩ : ∃ t, t = strOfNums ((bs.drop (k + 3)).take m) := ⟨_, rfl⟩
      have hBp : Blk (w2.alloc (.cells #[.int .i64 ((k : Int) + 3), .int .i64 ((k : Int) + 3 + (m : Int))] 62)) w.heap.size 5 (cellsOf bs).toArray := (HB.out.below hb2 hsz).alloc _
      have hbp := (hb.trans (hb2.mono hb.size)).alloc (Nat.le_trans hb.size hb2.size) (.cells #[.int .i64 ((k : Int) + 3), .int .i64 ((k : Int) + 3 + (m : Int))] 62)
      have hown3 := (Hown2.out.alloc (.cells #[.int .i64 ((k : Int) + 3), .int .i64 ((k : Int) + 3 + (m : Int))] 62)).alloc (.cells #[.string t] 9)
      have hvo : ∀ i, u6.ownBlock = some i → i < w2.heap.size := fun i hi => (Hown2.out.lt i hi).2
      have hplace := ((Blk.new w2 62 #[.int .i64 ((k : Int) + 3), .int .i64 ((k : Int) + 3 + (m : Int))]).alloc (.cells #[.string t] 9))
      have hr3 : Reads ((w2.alloc (.cells #[.int .i64 ((k : Int) + 3), .int .i64 ((k : Int) + 3 + (m : Int))] 62)).alloc (.cells #[.string t] 9)) (w2.heap.size + 1 + 1) 1 (some ⟨w2.heap.size + 1, 0, none⟩) 1 [.string t] := by
        have h := reads_newV (w2.alloc (.cells #[.int .i64 ((k : Int) + 3), .int .i64 ((k : Int) + 3 + (m : Int))] 62)) [.string t] 9 (0, 0)
        simpa using h
      have HBp := Lib.hid hBp
      have Hbp := Lib.hid hbp
      have Hown3 := Lib.hid hown3
      have Hvo := Lib.hid hvo
      have Hplace := Lib.hid hplace
      have Hr3 := Lib.hid hr3
      obtain ⟨i9, hi9, hz9, hs9, hb9⟩ := info_parts Try.info9
      by_cases hn : bs.length ≤ k + 3
      · have hm0 : m ≤ 0 := by omega
        have hcv := conv_none (w2.alloc (.cells #[.int .i64 ((k : Int) + 3), .int .i64 ((k : Int) + 3 + (m : Int))] 62)) (some ⟨w.heap.size, 0, none⟩) m 0 (by omega) bs (k + 3)
        rw [← ht] at hcv
        have HTt := Lib.hid ht
        clear ht hBp hbp hown3 hvo hplace hr3
        go_wp2_with (at_builtin; refine wpList_append_any _ rfl (.tmp 20) (.tmp 28) 45 rfl w.heap.size 9 i9 _ 1 16 Try.underlying45 hi9 hz9 hs9 hb9 rfl (by omega) u6 T.length (strs T) rfl Hown3.out (w2.heap.size + 1 + 1) (some ⟨w2.heap.size + 1, 0, none⟩) 1 1 [.string t] rfl Hr3.out (by simp; rfl) (by unfold maxLen; omega) (by omega) (by have := Hbp.out.size; simp at this ⊢; omega) ?_; intro v3 w3 hown4 hg3 hat3; have Hown4 := Lib.hid hown4; have Hg3 := Lib.hid hg3; clear hown4 hg3 hat3; have hpc := (Hplace.out.grown Hg3.out (by intro h; have := Hvo.out _ h.symm; omega)).cell 1; simp at hpc)
        go_roundw
        case rel =>
          have hs := open_step Hbp.out HBp.out Hown3.out Hown4.out Hg3.out HT.out HF.out HM.out HTt.out
          exact ⟨k + 3 + m, T ++ [t], hf3, by go_num, hs.1, hs.2.1, hs.2.2.1, hs.2.2.2.1, by simp; omega, hs.2.2.2.2⟩
        case measure => simp [intOf]; omega
      · have hn' : ¬ bs.length = k + 3 := by omega
        have hcv := conv_mid (c := bs.length - (k + 3)) (m := m) hBp hf3
        rw [← ht] at hcv
        have HTt := Lib.hid ht
        clear ht hBp hbp hown3 hvo hplace hr3
        go_wp2_with (at_builtin; refine wpList_append_any _ rfl (.tmp 20) (.tmp 28) 45 rfl w.heap.size 9 i9 _ 1 16 Try.underlying45 hi9 hz9 hs9 hb9 rfl (by omega) u6 T.length (strs T) rfl Hown3.out (w2.heap.size + 1 + 1) (some ⟨w2.heap.size + 1, 0, none⟩) 1 1 [.string t] rfl Hr3.out (by simp; rfl) (by unfold maxLen; omega) (by omega) (by have := Hbp.out.size; simp at this ⊢; omega) ?_; intro v3 w3 hown4 hg3 hat3; have Hown4 := Lib.hid hown4; have Hg3 := Lib.hid hg3; clear hown4 hg3 hat3; have hpc := (Hplace.out.grown Hg3.out (by intro h; have := Hvo.out _ h.symm; omega)).cell 1; simp at hpc)
        go_roundw
        case rel =>
          have hs := open_step Hbp.out HBp.out Hown3.out Hown4.out Hg3.out HT.out HF.out HM.out HTt.out
          exact ⟨k + 3 + m, T ++ [t], hf3, by go_num, hs.1, hs.2.1, hs.2.2.1, hs.2.2.2.1, by simp; omega, hs.2.2.2.2⟩
        case measure => simp [intOf]; omega
    · have hp : placeAt bs k = .agg #[.int .i64 0, .int .i64 0] := if_neg hf
      have HP := Lib.hid hp
      have HF := Lib.hid hf
      clear hp hf
      go_wp2_with fail
      refine (next_flog k hownb hbyt hlen hk).mono ?_
      rintro e w2 ⟨rfl, hb2⟩
      rw [HP.out]
      have Hown2 := Lib.hid (own_only hown (Only.ofBelow hb2) (fun i hi => by have := (hown.lt i hi).2; omega))
      clear hown hownb
      have hb3 : Below w.heap.size w (w2.alloc (.cells #[.int .i64 0, .int .i64 0] 62)) := (hb.trans (hb2.mono hb.size)).alloc (Nat.le_trans hb.size hb2.size) _
      have hD3 := hD.belowAll hb3
      have hown3 := Lib.hid (Hown2.out.alloc (.cells #[.int .i64 0, .int .i64 0] 62))
      by_cases hkn : k < bs.length
      · have hkn' : (k : Int) < (bs.length : Int) := by omega
        go_wp2_with fail
        refine (trim_dev k hD3).mono ?_
        rintro e w4 ⟨rfl, v4, hD4, hO4, hv4⟩
        rw [(free_trim bs last k hk).2]
        have HD4 := Lib.hid hD4
        clear hD4
        rw [(free_trim bs last k hk).1] at HD4
        go_wp2_with fail
        go_ret3
        exact open_fin hD hb3 hown3.out HT.out HF.out rfl (by rw [if_pos hkn]) HD4.out hO4 (hv4.imp id fun h i hi => Nat.le_trans hb3.size (h i hi))
      · have hkn' : ¬ (k : Int) < (bs.length : Int) := by omega
        go_wp2_with fail
        go_ret3
        exact open_fin hD hb3 hown3.out HT.out HF.out (by simp) (by rw [if_neg hkn]) hD3 (Only.refl _ _) (.inl rfl)
end Go.Proofs.Ytaakamjjglpibaa.Dv
