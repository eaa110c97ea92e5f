/-
  The reference's Chars and Cut: what they compute.
-/
import Derived.Test.YteijpcjhecmamaaDoorCutW
namespace Go.Proofs.YteijpcjhecmamaaDoor.Uf
open Go.RowKit

def strs (l : List ByteArray) : List Value := l.map Value.string
theorem Tryd.info9 : (Tryd.prog.info? 9).map (fun i => (i.zero, i.size, i.bytes)) = some (some (.string ByteArray.empty), 1, 16) := by kernel_rfl
theorem reads_newV (w : World) (cs : List Value) (e : TypeId) : Reads (w.alloc (.cells cs.toArray e)) (w.heap.size + 1) 1 (some ⟨w.heap.size, 0, none⟩) cs.length cs := by
  refine ⟨by simp, fun _ => ⟨_, rfl, by simp, fun j u hu => ?_⟩⟩
  have ha : (⟨w.heap.size, 0, none⟩ : Addr).add j = ⟨w.heap.size, j, none⟩ := by unfold Addr.add; split <;> simp_all
  rw [ha, cell_of_row _ w.heap.size j cs.toArray e (0, 0) (heap_alloc_new w _)]
  simpa using hu
theorem own_cellS {w : World} {base n c : Nat} {A : Option Addr} {T : List ByteArray} (h : w.ownsRow base 9 1 (.slice A n c) n (strs T)) {k : Nat} (hk : k < n) : ∃ g, A = some ⟨g, 0, none⟩ ∧ w.cell? ⟨g, k, none⟩ = some (.string (T.getD k ByteArray.empty)) := by
  have hl : T.length = n := by have := h.1; simp [strs] at this; exact this
  obtain ⟨g, cap, hv, _, _⟩ := h.form (by omega)
  injection hv with hA
  subst hA
  refine ⟨g, rfl, ?_⟩
  rw [h.cellAt k (by omega)]
  simp [strs, List.getD, List.getElem?_eq_getElem (show k < T.length by omega)]

/-- The characters of a text. -/
def charsG : Nat → List UInt8 → List ByteArray
  | 0, _ => []
  | f + 1, l => if l = [] then [] else ⟨(l.take (Lib.decodeL l).2).toArray⟩ :: charsG f (l.drop (Lib.decodeL l).2)
theorem charsG_step {f : Nat} {l : List UInt8} {d : Nat} (hl : l ≠ []) (hd : d = (Lib.decodeL l).2) : charsG (f + 1) l = ⟨(l.take d).toArray⟩ :: charsG f (l.drop d) := by
  subst hd
  simp [charsG, hl]
theorem charsG_nil (f : Nat) : charsG f [] = [] := by cases f <;> simp [charsG]
theorem charsG_le : ∀ (f : Nat) (l : List UInt8), (charsG f l).length ≤ f
  | 0, _ => by simp [charsG]
  | f + 1, l => by
    by_cases hl : l = []
    · subst hl; rw [charsG_nil]; simp
    · rw [charsG_step hl rfl, List.length_cons]
      have := charsG_le f (l.drop (Lib.decodeL l).2)
      omega
theorem part_extract (s : ByteArray) (a b : Nat) : s.extract a (a + b) = ⟨((s.data.toList.drop a).take b).toArray⟩ := by
  have h : (s.extract a (a + b)).data.toList = (s.data.toList.drop a).take b := by
    simp only [ByteArray.data_extract, Array.toList_extract, List.extract_eq_take_drop]
    rw [show a + b - a = b from by omega]
  rw [← h]

theorem chars_step {w W w3 : World} {vo v3 : Value} {T : List ByteArray} {t : ByteArray} (hW : Below w.heap.size w W) (hown : W.ownsRow w.heap.size 9 1 vo T.length (strs T))
    (hown4 : w3.ownsRow w.heap.size 9 1 v3 (T.length + 1) (strs T ++ [.string t])) (hg : (W.alloc (.cells #[.string t] 9)).grownBy w3 vo.ownBlock) :
    w3.ownsRow w.heap.size 9 1 v3 (T ++ [t]).length (strs (T ++ [t])) ∧ Below w.heap.size w w3 := by
  refine ⟨?_, (hW.alloc hW.size _).grown hg (by have := hW.size; simp; omega) (fun i hi => (hown.lt i hi).1)⟩
  rw [List.length_append]
  simpa [strs] using hown4

def CharsPost (w : World) (l : List UInt8) (e : Ending) (w' : World) : Prop :=
  ∃ (ao : Option Addr) (c : Nat), e = .returned (.slice ao (charsG l.length l).length c) ∧ w'.ownsRow w.heap.size 9 1 (.slice ao (charsG l.length l).length c) (charsG l.length l).length (strs (charsG l.length l)) ∧ Below w.heap.size w w'

set_option maxRecDepth 100000 in
set_option maxHeartbeats 1600000 in
theorem chars_ref {w : World} (s : ByteArray) (hs : s.size ≤ 100000) : Calls Tryd.prog 12 #[.string s] w (CharsPost w s.data.toList) := by
  have hs2 : s.size ≤ 1000000 := by omega
  obtain ⟨i9, hi9, hz9, hs9, hb9⟩ := info_parts Tryd.info9
  obtain ⟨l, hl⟩ : ∃ l, l = s.data.toList := ⟨_, rfl⟩
  have hll : l.length = s.size := by rw [hl]; simp
  obtain ⟨all, hall⟩ : ∃ all, all = charsG l.length l := ⟨_, rfl⟩
  have hal0 : all.length ≤ s.size := by rw [hall, ← hll]; exact charsG_le _ _
  rw [← hl]
  have HL := Lib.hid (And.intro hl (And.intro hll hall))
  clear hl hll hall
  go_enter Tryd.func12, Tryd.ntmps12
  go_wp2
  go_loopw [3, 4] (fun u a wr => ∃ (pos fuel : Nat) (T : List ByteArray), pos ≤ s.size ∧ a = .int .i64 pos ∧ wr.ownsRow w.heap.size 9 1 u T.length (strs T) ∧ Hid (T ++ charsG fuel (l.drop pos) = all) ∧ s.size ≤ pos + fuel ∧ Below w.heap.size w wr ∧ T.length ≤ pos) (fun _ a _ => s.size - (intOf a).toNat)
  case atStart => exact ⟨0, s.size, [], Nat.zero_le _, rfl, World.ownsRow_nil _ _ _ _, (show _ = _ by rw [HL.out.2.2, HL.out.2.1]; simp), by omega, Below.refl _ _, Nat.zero_le _⟩
  case round =>
    obtain ⟨pos, fuel, T, hk, rfl, hown, Hacc, hfu, hbw, hal⟩ := hrel
    by_cases hp : pos < s.size
    · have hp' : (pos : Int) < (s.size : Int) := by omega
      obtain ⟨f, rfl⟩ : ∃ f, fuel = f + 1 := ⟨fuel - 1, by omega⟩
      have hpl : pos < l.length := by rw [HL.out.2.1]; exact hp
      obtain ⟨d, hd⟩ : ∃ d, d = (Lib.decodeL (l.drop pos)).2 := ⟨_, rfl⟩
      have hst := Hacc.out
      rw [charsG_step (drop_ne hpl) hd, List.drop_drop] at hst
      obtain ⟨rn, hrn⟩ : ∃ rn, rn = rightL (l.drop pos) := ⟨_, rfl⟩
      have hdm : max rn 1 = d := by rw [hrn, hd]; exact max_right _
      have hdl : pos + d ≤ s.size := by
        have := Lib.decodeL_le (l.drop pos) (drop_ne hpl)
        rw [List.length_drop, HL.out.2.1] at this
        omega
      obtain ⟨t, ht⟩ : ∃ t, t = s.extract pos (pos + d) := ⟨_, rfl⟩
      have ht2 := ht
      rw [part_extract, ← HL.out.1] at ht2
      rw [← ht2] at hst
      have hmx : max (rn : Int) 1 = (d : Int) := by omega
      have hd1 : 1 ≤ d := by omega
      have hdl2 : (pos : Int) + (d : Int) ≤ (s.size : Int) := by omega
      have hsl : (Instr.slice 9 (.string s) (some (.int .i64 pos)) (some (.int .i64 ((pos : Int) + (d : Int)))) none).run Tryd.prog wr = .ok (.string t) wr := by
        rw [run_slice_string_if _ _ _ _ _ _ _ Tryd.underlying9, if_pos (by omega), if_pos (by omega), show ((pos : Int) + (d : Int)).toNat = pos + d from by omega, Int.toNat_natCast, ht]
      have hr3 := reads_newV wr [.string t] 9
      have hown3 := hown.alloc (.cells #[.string t] 9)
      have Hrn := Lib.hid (show rn = rightL (s.data.toList.drop pos) by rw [hrn, HL.out.1])
      have Hst := Lib.hid (show (T ++ [t]) ++ charsG f (l.drop (pos + d)) = all by rw [← hst]; simp)
      have Hown := Lib.hid hown
      have Hown3 := Lib.hid hown3
      have hbws := hbw.size
      clear hrn hd ht ht2 hst hdm hown hown3
      go_wp2_with fail
      refine (right_ref s pos _ hp hs2).mono ?_
      rintro e w2 ⟨rfl, hw2⟩
      rw [hw2]
      clear hw2 w2
      rw [← Hrn.out]
      go_wp2_with (at_builtin; refine wpList_append_any _ rfl (.tmp 14) (.tmp 21) 25 rfl w.heap.size 9 i9 _ 1 16 Tryd.underlying25 hi9 hz9 hs9 hb9 rfl (by omega) u3 T.length (strs T) rfl Hown3.out (wr.heap.size + 1) (some ⟨wr.heap.size, 0, none⟩) 1 1 [.string t] rfl hr3 (by simp; rfl) (by unfold maxLen; omega) (by omega) (by simp; omega) ?_; intro v3 w3 hown4 hg3 hat3; have Hown4 := Lib.hid hown4; have Hg3 := Lib.hid hg3; clear hown4 hg3 hat3)
      go_roundw
      case rel =>
        have hs := chars_step hbw Hown.out Hown4.out Hg3.out
        exact ⟨pos + d, f, T ++ [t], by omega, by go_num, hs.1, Hst, by omega, hs.2, by simp; omega⟩
      case measure => simp [intOf]; omega
    · have hp' : ¬ (pos : Int) < (s.size : Int) := by omega
      have hfin : T = all := by
        have h := Hacc.out
        rw [List.drop_of_length_le (by rw [HL.out.2.1]; omega), charsG_nil, List.append_nil] at h
        exact h
      subst hfin
      obtain ⟨a, c, rfl, _, _⟩ := own_shape hown
      have Hp := Lib.hid (show CharsPost w l (.returned (.slice a T.length c)) wr from ⟨a, c, by rw [← HL.out.2.2], by rw [← HL.out.2.2]; exact hown, hbw⟩)
      clear hown
      go_wp2
      go_ret
      exact Hp.out

end Go.Proofs.YteijpcjhecmamaaDoor.Uf
