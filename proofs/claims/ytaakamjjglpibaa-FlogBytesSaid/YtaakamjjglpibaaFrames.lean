/-
  The reference's Frames (versoref13.Frames).
-/
import Derived.Test.YtaakamjjglpibaaAgainW
namespace Go.Proofs.Ytaakamjjglpibaa.Dv
open Go.RowKit

theorem reads_ints {w : World} {B n : Nat} {A : Option Addr} {xs : List Int} (h : Reads w B 1 A n (cellsOf xs)) (h0 : 0 < n) : ∃ b off, A = some ⟨b, off, none⟩ ∧ b < B ∧ ∀ k, k < n → w.cell? ⟨b, off + k, none⟩ = some (.int .u8 (xs.getD k 0)) := by
  obtain ⟨ad, hA, hB, hc⟩ := h.2 h0
  have hl : xs.length = n := by have := h.1; simp [cellsOf] at this; exact this
  have h0 := hc 0 (.int .u8 (xs[0]'(by omega))) (by simp [cellsOf, List.getElem?_eq_getElem (show 0 < xs.length by omega)])
  have hsp := World.cell?_spot h0
  have ha : ad.add 0 = ad := by simp [Addr.add]
  rw [ha] at hsp
  obtain ⟨b, off, sp⟩ := ad
  simp only at hsp
  subst hsp
  refine ⟨b, off, hA, hB, fun k hk => ?_⟩
  have h1 := hc k (.int .u8 (xs[k]'(by omega))) (by simp [cellsOf, List.getElem?_eq_getElem (show k < xs.length by omega)])
  have ha : (⟨b, off, none⟩ : Addr).add k = ⟨b, off + k, none⟩ := by unfold Addr.add; split <;> simp_all
  rw [ha] at h1
  rw [h1]
  simp [List.getD, List.getElem?_eq_getElem (show k < xs.length by omega)]

/-- A piece of bytes, as a string. -/
theorem conv_part {w : World} {B b off o m c n : Nat} {xs : List Int} (hl : xs.length = n) (hB : b < B) (h : ∀ k, k < n → w.cell? ⟨b, off + k, none⟩ = some (.int .u8 (xs.getD k 0))) (hm : o + m ≤ n) :
    (convert 22 9 (.slice (some ⟨b, off + o, none⟩) m c)).run Try.prog w = .ok (.string (strOfNums ((xs.drop o).take m))) w := by
  refine conv_reads (B := B) ⟨by simp [cellsOf]; omega, fun _ => ⟨_, rfl, hB, fun j u hu => ?_⟩⟩ c
  have hj : j < m := by
    have := (List.getElem?_eq_some_iff.1 hu).1
    simp [cellsOf] at this
    omega
  have ha : (⟨b, off + o, none⟩ : Addr).add j = ⟨b, off + (o + j), none⟩ := by unfold Addr.add; split <;> simp_all <;> omega
  rw [ha, h (o + j) (by omega), ← hu]
  simp [cellsOf, hj, List.getD, List.getElem?_eq_getElem (show o + j < xs.length by omega)]

theorem frames_step {w W w3 : World} {k m : Nat} {vo v3 : Value} {bs : List Int} {T : List ByteArray} {t : ByteArray} (hW : Below w.heap.size w W) (hown : W.ownsRow w.heap.size 9 1 vo T.length (strs T))
    (hown4 : w3.ownsRow w.heap.size 9 1 v3 (T.length + 1) (strs T ++ [.string t])) (hg : (W.alloc (.cells #[.string t] 9)).grownBy w3 vo.ownBlock)
    (HT : T ++ texts (bs.drop k) = texts bs ∧ k + ends (bs.drop k) = ends bs) (hf : framed bs k) (hm : m = lenAt bs k) (ht : t = strOfNums ((bs.drop (k + 3)).take m)) :
    w3.ownsRow w.heap.size 9 1 v3 (T ++ [t]).length (strs (T ++ [t])) ∧ Hid ((T ++ [t]) ++ texts (bs.drop (k + 3 + m)) = texts bs ∧ k + 3 + m + ends (bs.drop (k + 3 + m)) = ends bs) ∧ Below w.heap.size w w3 := by
  refine ⟨?_, ?_, ?_⟩
  · rw [List.length_append]
    simpa [strs] using hown4
  · have h1 := texts_fits (framed_iff.1 hf)
    rw [← lenAt_drop, ← hm, List.drop_drop, List.drop_drop, ← ht, show k + (3 + m) = k + 3 + m from by omega] at h1
    show _ ∧ _
    rw [← HT.1, ← HT.2, h1.1, h1.2]
    exact ⟨by simp, by omega⟩
  · exact (hW.alloc hW.size _).grown hg (by have := hW.size; simp; omega) (fun i hi => (hown.lt i hi).1)

def FramesPost (w : World) (xs : List Int) (e : Ending) (w' : World) : Prop :=
  ∃ (ao : Option Addr) (c : Nat), e = .returned (.tuple #[.slice ao (texts xs).length c, .int .i64 (ends xs)]) ∧ w'.ownsRow w.heap.size 9 1 (.slice ao (texts xs).length c) (texts xs).length (strs (texts xs)) ∧ Below w.heap.size w w'

theorem frames_fin {w W : World} {k : Nat} {vo : Value} {bs : List Int} {T : List ByteArray} (hW : Below w.heap.size w W) (hown : W.ownsRow w.heap.size 9 1 vo T.length (strs T))
    (HT : T ++ texts (bs.drop k) = texts bs ∧ k + ends (bs.drop k) = ends bs) (hf : ¬ framed bs k) : FramesPost w bs (.returned (.tuple #[vo, .int .i64 k])) W := by
  have hn := texts_not (fun h => hf (framed_iff.2 h))
  rw [hn.1, hn.2, List.append_nil, Nat.add_zero] at HT
  obtain ⟨ao, c, rfl, _, _⟩ := own_shape hown
  refine ⟨ao, c, ?_, ?_, hW⟩
  · rw [← HT.1, ← HT.2]
  · rw [← HT.1]
    exact hown

set_option maxRecDepth 100000 in
set_option maxHeartbeats 1600000 in
theorem frames_ref {w : World} {B n c0 : Nat} {A : Option Addr} {bs : List Int} (hn : bs.length = n) (h : Reads w B 1 A n (cellsOf bs)) (hb : Bts bs) (h6 : n ≤ 60000) (hc0 : n ≤ c0) (hcm : c0 ≤ maxLen) (hB : B ≤ w.heap.size) :
    Calls Try.prog 32 #[.slice A n c0] w (FramesPost w bs) := by
  unfold maxLen at hcm
  by_cases h3 : n < 3
  · have hnf : ¬ framed bs 0 := by unfold framed; omega
    have h3' : (n : Int) < 3 := by omega
    have hfin := frames_fin (k := 0) (vo := .slice none 0 0) (T := []) (Below.refl _ w) (World.ownsRow_nil _ _ _ _) (bs := bs) ⟨by simp, by simp⟩ hnf
    have Hfin := Lib.hid hfin
    clear hfin
    go_enter Try.func32, Try.ntmps32
    go_wp2
    refine wp_loop_rounds 1 ?_
    rw [rounds_succ]
    go_wp2
    go_ret2
    exact Hfin.out
  · obtain ⟨b, off, rfl, hbB, hcell⟩ := reads_ints h (by omega)
    have HC := Lib.hid hcell
    have HL := Lib.hid hn
    clear h hcell hn
    go_enter Try.func32, Try.ntmps32
    go_wp2
    go_loopw [4, 5] (fun out at_ wr => ∃ (k : Nat) (T : List ByteArray), k ≤ n ∧ at_ = .int .i64 k ∧ wr.ownsRow w.heap.size 9 1 out T.length (strs T) ∧ Hid (T ++ texts (bs.drop k) = texts bs ∧ k + ends (bs.drop k) = ends bs) ∧ Below w.heap.size w wr ∧ T.length ≤ k) (fun _ at_ _ => n - (intOf at_).toNat)
    case atStart => exact ⟨0, [], Nat.zero_le _, rfl, World.ownsRow_nil _ _ _ _, (show _ ∧ _ from ⟨by simp, by simp⟩), Below.refl _ _, Nat.le_refl _⟩
    case round =>
      obtain ⟨k, T, hk, rfl, hown, HT, hbw, hTk⟩ := hrel
      by_cases hk3 : n < k + 3
      · have hk3' : (n : Int) < (k : Int) + 3 := by omega
        have hnf : ¬ framed bs k := by have := HL.out; unfold framed; omega
        have hfin := frames_fin hbw hown HT.out hnf
        have Hfin := Lib.hid hfin
        clear hfin
        go_wp2
        go_ret2
        exact Hfin.out
      · have hk3' : (k : Int) + 3 ≤ (n : Int) := by omega
        obtain ⟨x, hx, hx2⟩ := getD_byte hb k
        obtain ⟨y, hy, hy2⟩ := getD_byte hb (k + 1)
        obtain ⟨z, hz, hz2⟩ := getD_byte hb (k + 2)
        have c0' : wr.cell? ⟨b, off + k, none⟩ = some (.int .u8 x) := by rw [hbw.cell (by show b < _; omega), HC.out k (by omega), hx]
        have c1 : wr.cell? ⟨b, off + (k + 1), none⟩ = some (.int .u8 y) := by rw [hbw.cell (by show b < _; omega), HC.out (k + 1) (by omega), hy]
        have c2 : wr.cell? ⟨b, off + (k + 2), none⟩ = some (.int .u8 z) := by rw [hbw.cell (by show b < _; omega), HC.out (k + 2) (by omega), hz]
        obtain ⟨m, hm⟩ : ∃ m, m = x * 65536 + y * 256 + z := ⟨_, rfl⟩
        have e : m = lenAt bs k := by
          unfold lenAt
          rw [hx, hy, hz]
          omega
        have hsum : (x : Int) * 65536 + (y : Int) * 256 + (z : Int) = (m : Int) := by omega
        have hmb : m ≤ 16777215 := by omega
        have E := Lib.hid e
        clear hx hy hz e hm
        have i4 : (m : Int) ≤ 16777215 := by omega
        by_cases h20 : 20000 < m
        · have h20' : (20000 : Int) < (m : Int) := by omega
          have hnf : ¬ framed bs k := by have := E.out; unfold framed; omega
          have hfin := frames_fin hbw.drew (row_below hown (Below.refl _ _).drew) HT.out hnf
          have Hfin := Lib.hid hfin
          clear hfin
          go_wp2
          go_region
          go_wp2
          go_ret2
          exact Hfin.out
        · have h20' : decide ((20000 : Int) < (m : Int)) = false := by simp; omega
          by_cases h4 : n < k + 3 + m
          · have h4' : (n : Int) < (k : Int) + 3 + (m : Int) := by omega
            have hnf : ¬ framed bs k := by have := E.out; have := HL.out; unfold framed; omega
            have hfin := frames_fin hbw.drew (row_below hown (Below.refl _ _).drew) HT.out hnf
            have Hfin := Lib.hid hfin
            clear hfin
            go_wp2
            go_region
            go_wp2
            go_ret2
            exact Hfin.out
          · have h4' : (k : Int) + 3 + (m : Int) ≤ (n : Int) := by omega
            have hf : framed bs k := by have := E.out; have := HL.out; unfold framed; omega
            have HF := Lib.hid hf
            obtain ⟨t, ht⟩ : ∃ t, t = strOfNums ((bs.drop (k + 3)).take m) := ⟨_, rfl⟩
            have hbd := hbw.drew
            have hownd := row_below hown (Below.refl _ wr).drew
            have hown3 := hownd.alloc (.cells #[.string t] 9)
            have hr3 := reads_newV wr.drew [.string t] 9 (0, 0)
            have Hbd := Lib.hid hbd
            have Hownd := Lib.hid hownd
            have Hown3 := Lib.hid hown3
            have Hr3 := Lib.hid hr3
            obtain ⟨i9, hi9, hz9, hs9, hb9⟩ := info_parts Try.info9
            by_cases hcc : c0 ≤ k + 3
            · have hm0 : m ≤ 0 := by omega
              have hcv := conv_none wr.drew (some ⟨b, off, none⟩) m 0 (by omega) bs (k + 3)
              rw [← ht] at hcv
              have HTt := Lib.hid ht
              clear ht hbd hown3 hownd hr3 hown hf
              go_wp2
              go_region
              go_wp2_with (at_builtin; refine wpList_append_any _ rfl (.tmp 46) (.tmp 56) 45 rfl w.heap.size 9 i9 _ 1 16 Try.underlying45 hi9 hz9 hs9 hb9 rfl (by omega) u4 T.length (strs T) rfl Hown3.out (wr.drew.heap.size + 1) (some ⟨wr.drew.heap.size, 0, none⟩) 1 1 [.string t] rfl Hr3.out (by simp; rfl) (by unfold maxLen; omega) (by omega) (by have := Hbd.out.size; simp at this ⊢; omega) ?_; intro v3 w3 hown4 hg3 hat3; have Hown4 := Lib.hid hown4; have Hg3 := Lib.hid hg3; clear hown4 hg3 hat3)
              go_roundw
              case rel =>
                have hs := frames_step Hbd.out Hownd.out Hown4.out Hg3.out HT.out HF.out E.out HTt.out
                exact ⟨k + 3 + m, T ++ [t], by omega, by go_num, hs.1, hs.2.1, hs.2.2, by simp; omega⟩
              case measure => simp [intOf]; omega
            · have hcc' : ¬ c0 = k + 3 := by omega
              have hcv := conv_part (w := wr.drew) (B := B) (b := b) (off := off) (o := k + 3) (m := m) (c := c0 - (k + 3)) HL.out hbB (fun j hj => by rw [← HC.out j hj]; exact hbw.cell (by show b < _; omega)) (by omega)
              rw [← ht] at hcv
              have HTt := Lib.hid ht
              clear ht hbd hown3 hownd hr3 hown hf
              go_wp2
              go_region
              go_wp2_with (at_builtin; refine wpList_append_any _ rfl (.tmp 46) (.tmp 56) 45 rfl w.heap.size 9 i9 _ 1 16 Try.underlying45 hi9 hz9 hs9 hb9 rfl (by omega) u4 T.length (strs T) rfl Hown3.out (wr.drew.heap.size + 1) (some ⟨wr.drew.heap.size, 0, none⟩) 1 1 [.string t] rfl Hr3.out (by simp; rfl) (by unfold maxLen; omega) (by omega) (by have := Hbd.out.size; simp at this ⊢; omega) ?_; intro v3 w3 hown4 hg3 hat3; have Hown4 := Lib.hid hown4; have Hg3 := Lib.hid hg3; clear hown4 hg3 hat3)
              go_roundw
              case rel =>
                have hs := frames_step Hbd.out Hownd.out Hown4.out Hg3.out HT.out HF.out E.out HTt.out
                exact ⟨k + 3 + m, T ++ [t], by omega, by go_num, hs.1, hs.2.1, hs.2.2, by simp; omega⟩
              case measure => simp [intOf]; omega
end Go.Proofs.Ytaakamjjglpibaa.Dv
