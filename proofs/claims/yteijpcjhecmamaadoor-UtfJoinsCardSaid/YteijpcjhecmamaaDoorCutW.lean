/-
  utf.Cut: what it computes: the longest beginning of whole characters.
-/
import Derived.Test.YteijpcjhecmamaaDoorFixesW
namespace Go.Proofs.YteijpcjhecmamaaDoor.Uf
open Go.RowKit

/-- How many bytes the longest beginning of whole characters has, of at most n. -/
def cutN : Nat → List UInt8 → Nat → Nat
  | 0, _, _ => 0
  | f + 1, l, n => if l = [] then 0 else if (Lib.decodeL l).2 ≤ n then (Lib.decodeL l).2 + cutN f (l.drop (Lib.decodeL l).2) (n - (Lib.decodeL l).2) else 0
theorem cutN_fits {f : Nat} {l : List UInt8} {n d : Nat} (hl : l ≠ []) (hd : d = (Lib.decodeL l).2) (h : d ≤ n) : cutN (f + 1) l n = d + cutN f (l.drop d) (n - d) := by
  subst hd
  simp [cutN, hl, h]
theorem cutN_not {f : Nat} {l : List UInt8} {n d : Nat} (hd : d = (Lib.decodeL l).2) (h : n < d) : cutN (f + 1) l n = 0 := by
  subst hd
  unfold cutN
  split
  · rfl
  · rw [if_neg (by omega)]
theorem cutN_nil (f n : Nat) : cutN f [] n = 0 := by cases f <;> simp [cutN]
theorem cutN_le : ∀ (f : Nat) (l : List UInt8) (n : Nat), cutN f l n ≤ n ∧ cutN f l n ≤ l.length
  | 0, _, _ => by simp [cutN]
  | f + 1, l, n => by
    by_cases hl : l = []
    · subst hl; rw [cutN_nil]; simp
    · by_cases h : (Lib.decodeL l).2 ≤ n
      · have ih := cutN_le f (l.drop (Lib.decodeL l).2) (n - (Lib.decodeL l).2)
        have hle := Lib.decodeL_le l hl
        rw [cutN_fits hl rfl h]
        rw [List.length_drop] at ih
        omega
      · rw [cutN_not rfl (by omega)]
        simp
/-- With room for all, all. -/
theorem cutN_all : ∀ (f : Nat) (l : List UInt8) (n : Nat), l.length ≤ f → l.length ≤ n → cutN f l n = l.length
  | 0, l, _, hf, _ => by
    obtain rfl : l = [] := List.eq_nil_of_length_eq_zero (by omega)
    rfl
  | f + 1, l, n, hf, hn => by
    by_cases hl : l = []
    · subst hl; rw [cutN_nil]; rfl
    · have hle := Lib.decodeL_le l hl
      have hw := Lib.decodeL_width l
      rw [cutN_fits hl rfl (by omega), cutN_all f _ _ (by rw [List.length_drop]; omega) (by rw [List.length_drop]; omega), List.length_drop]
      omega
/-- The cut of a text at any number. -/
def cutZ (l : List UInt8) (n : Int) : Nat := if n < 0 then 0 else cutN l.length l n.toNat

theorem take_extract (s : ByteArray) (c : Nat) : s.extract 0 c = ⟨(s.data.toList.take c).toArray⟩ := by
  have h : (s.extract 0 c).data.toList = s.data.toList.take c := by
    simp [ByteArray.data_extract, Array.toList_extract, List.extract_eq_take_drop]
  rw [← h]

/-- What a round of Cut knows: so far, what is cut, and where it stands. -/
def CutAt (l : List UInt8) (n f pos e C : Nat) : Prop := (pos ≤ n → pos + cutN f (l.drop pos) (n - pos) = C) ∧ (n < pos → e = C)
theorem CutAt.next {l : List UInt8} {n f pos e C d : Nat} (h : CutAt l n (f + 1) pos e C) (hp : pos < l.length) (hn : pos ≤ n) (hd : d = (Lib.decodeL (l.drop pos)).2) : CutAt l n f (pos + d) pos C := by
  have h1 := h.1 hn
  refine ⟨fun h2 => ?_, fun h2 => ?_⟩
  · rw [cutN_fits (drop_ne hp) hd (by omega), List.drop_drop] at h1
    rw [show n - (pos + d) = n - pos - d from by omega]
    omega
  · rw [cutN_not hd (by omega)] at h1
    omega

set_option maxRecDepth 100000 in
set_option maxHeartbeats 1600000 in
theorem cut_u {w : World} (s : ByteArray) (n : Int) (hs : s.size ≤ 100000) :
    Calls Tryd.prog 16 #[.string s, .int .i64 n] w fun e w' => e = .returned (.string ⟨(s.data.toList.take (cutZ s.data.toList n)).toArray⟩) ∧ Below w.heap.size w w' := by
  obtain ⟨l, hl⟩ : ∃ l, l = s.data.toList := ⟨_, rfl⟩
  have hll : l.length = s.size := by rw [hl]; simp
  by_cases hge : (s.size : Int) ≤ n
  · have hC : (⟨(s.data.toList.take (cutZ s.data.toList n)).toArray⟩ : ByteArray) = s := by
      rw [← hl]
      unfold cutZ
      rw [if_neg (by omega), cutN_all _ _ _ (Nat.le_refl _) (by rw [hll]; omega), List.take_length, hl]
    rw [hC]
    clear hC hl hll
    go_enter Tryd.func16, Tryd.ntmps16
    go_wp2
    go_ret
    exact ⟨rfl, Below.refl _ _⟩
  obtain ⟨C, hC⟩ : ∃ C, C = cutZ l n := ⟨_, rfl⟩
  have hCs : C ≤ s.size := by
    rw [hC]
    unfold cutZ
    split
    · omega
    · have := (cutN_le l.length l n.toNat).2
      omega
  rw [← take_extract, ← hl, ← hC]
  by_cases hneg : n < 0
  · have hC0 : C = 0 := by rw [hC]; exact if_pos hneg
    have HC := Lib.hid hC0
    have hit0 : (w.iter s 0).heap[w.heap.size]? = some (.stringIter s 0) := World.iter_heap w s 0
    have hb0 : Below w.heap.size w (w.iter s 0) := (Below.refl _ w).alloc (Nat.le_refl _) _
    have Hb0 := Lib.hid hb0
    clear hC hC0 hl hll hb0
    go_enter Tryd.func16, Tryd.ntmps16
    go_wp2
    refine wp_loop_rounds 1 ?_
    rw [rounds_succ]
    by_cases hp : 0 < s.size
    · have hnx := fun ty => Lib.run_next_any_at (P := Tryd.prog) (w.iter s 0) w.heap.size s 0 ty hit0 hp
      have hb1 := Lib.below_iterAt Hb0.out (k := w.heap.size) (Nat.le_refl _) s (Utf8.decode s 0).2
      have Hb1 := Lib.hid hb1
      clear hb1
      go_wp2
      go_ret
      rw [HC.out, show s.extract 0 0 = ByteArray.empty from by simp]
      exact ⟨rfl, Hb1.out⟩
    · have hnx := fun ty => Lib.run_next_end_at (P := Tryd.prog) (w.iter s 0) w.heap.size s 0 ty hit0 hp
      go_wp2
      go_ret
      rw [HC.out, show s.extract 0 0 = ByteArray.empty from by simp]
      exact ⟨rfl, Hb0.out⟩
  obtain ⟨m, rfl⟩ := Int.eq_ofNat_of_zero_le (show 0 ≤ n by omega)
  have hms : m < s.size := by omega
  have hC1 : cutN l.length l m = C := by
    rw [hC]
    unfold cutZ
    rw [if_neg hneg]
    rfl
  have HL := Lib.hid (And.intro hl (And.intro hll hC1))
  clear hl hll hC hC1 hneg
  go_enter Tryd.func16, Tryd.ntmps16
  go_wp2
  go_loopw [5] (fun a wr => ∃ (pos fuel e : Nat), a = .int .i64 e ∧ wr.heap[w.heap.size]? = some (.stringIter s pos) ∧ Below w.heap.size w wr ∧ Hid (CutAt l m fuel pos e C) ∧ s.size ≤ pos + fuel ∧ pos ≤ s.size) (fun _ wr => s.size - wr.iterPos w.heap.size)
  case atStart =>
    refine ⟨0, s.size, 0, rfl, World.iter_heap w s 0, (Below.refl _ w).alloc (Nat.le_refl _) _, ?_, by omega, Nat.zero_le _⟩
    exact (show CutAt l m s.size 0 0 C from ⟨fun _ => by rw [← HL.out.2.1]; simpa using HL.out.2.2, fun h => by omega⟩)
  case round =>
    obtain ⟨pos, fuel, e, rfl, hit, hbw, HC, hfu, hps⟩ := hrel
    have hsz : w.heap.size < wr.heap.size := (Array.getElem?_eq_some_iff.1 hit).1
    by_cases hp : pos < s.size
    · have hnx := fun ty => Lib.run_next_any_at (P := Tryd.prog) wr w.heap.size s pos ty hit hp
      have hit2 := Lib.iterAt_heap wr w.heap.size s pos (pos + (Utf8.decode s pos).2) hit
      have hbw2 := Lib.below_iterAt hbw (k := w.heap.size) (Nat.le_refl _) s (pos + (Utf8.decode s pos).2)
      have hdd : (Utf8.decode s pos).2 = (Lib.decodeL (l.drop pos)).2 := by rw [HL.out.1, Lib.decodeL_drop]
      have hdl := Lib.decodeL_le (l.drop pos) (drop_ne (by rw [HL.out.2.1]; exact hp))
      have hdw := Lib.decodeL_width (l.drop pos)
      rw [List.length_drop, HL.out.2.1, ← hdd] at hdl
      rw [← hdd] at hdw
      obtain ⟨d, hd⟩ : ∃ d, d = (Utf8.decode s pos).2 := ⟨_, rfl⟩
      rw [← hd] at hdd hit2 hbw2 hdl hdw
      simp only [← hd] at hnx
      obtain ⟨f, rfl⟩ : ∃ f, fuel = f + 1 := ⟨fuel - 1, by omega⟩
      have Hdd := Lib.hid hdd
      clear hd hdd
      by_cases hpm : m < pos
      · have hpm' : (m : Int) < (pos : Int) := by omega
        have he := HC.out.2 hpm
        have He := Lib.hid he
        have hes : e ≤ s.size := by omega
        clear he
        go_wp2
        go_ret
        rw [He.out]
        exact ⟨rfl, hbw2⟩
      · have hpm' : ¬ (m : Int) < (pos : Int) := by omega
        go_wp2
        go_roundw
        case rel => exact ⟨pos + d, f, pos, rfl, hit2, hbw2, HC.out.next (by rw [HL.out.2.1]; exact hp) (by omega) Hdd.out, by omega, by omega⟩
        case measure =>
          simp only [World.iterPos, hit2, hit]
          omega
    · have hnx := fun ty => Lib.run_next_end_at (P := Tryd.prog) wr w.heap.size s pos ty hit hp
      have he := HC.out.2 (by omega)
      have He := Lib.hid he
      have hes : e ≤ s.size := by omega
      clear he
      go_wp2
      go_ret
      rw [He.out]
      exact ⟨rfl, hbw⟩
end Go.Proofs.YteijpcjhecmamaaDoor.Uf
