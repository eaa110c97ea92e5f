/-
  Frames as plain lists: what stands at the beginning of bytes, and what appended texts come to.
-/
import Derived.Test.YtaakamjjglpibaaFlogA
namespace Go.Proofs.Ytaakamjjglpibaa.Dv
open Go.RowKit

def ints (s : ByteArray) : List Int := s.data.toList.map fun b => (b.toNat : Int)
theorem ints_len (s : ByteArray) : (ints s).length = s.size := by
  unfold ints
  rw [List.length_map, Array.length_toList]
  rfl
theorem ints_byt (s : ByteArray) : Bts (ints s) := by
  intro x hx
  simp only [ints, List.mem_map] at hx
  obtain ⟨b, _, rfl⟩ := hx
  have := b.toNat_lt
  omega
theorem strOfNums_ints (s : ByteArray) : strOfNums (ints s) = s := by
  have h : (ints s).map (fun n => UInt8.ofNat n.toNat) = s.data.toList := by
    unfold ints
    rw [List.map_map]
    conv => rhs; rw [← List.map_id s.data.toList]
    exact List.map_congr_left fun b _ => by simp
  unfold strOfNums
  rw [h]
theorem cells_ints (s : ByteArray) : Lib.strCells s = cellsOf (ints s) := by
  simp [Lib.strCells, cellsOf, ints]

/-- The frame of a text. -/
def enc (s : ByteArray) : List Int := [((s.size / 65536 % 256 : Nat) : Int), ((s.size / 256 % 256 : Nat) : Int), ((s.size % 256 : Nat) : Int)] ++ ints s
theorem enc_len (s : ByteArray) : (enc s).length = s.size + 3 := by simp [enc, ints_len]
theorem enc_byt (s : ByteArray) : Bts (enc s) := by
  intro x hx
  simp only [enc, List.mem_append, List.mem_cons, List.not_mem_nil, or_false] at hx
  rcases hx with (rfl | rfl | rfl) | hx
  · omega
  · omega
  · omega
  · exact ints_byt s x hx

def len3 (l : List Int) : Nat := ((l.getD 0 0) * 65536 + (l.getD 1 0) * 256 + l.getD 2 0).toNat
def fits (l : List Int) : Prop := 3 ≤ l.length ∧ len3 l ≤ 20000 ∧ 3 + len3 l ≤ l.length
instance (l : List Int) : Decidable (fits l) := by unfold fits; infer_instance
def textsF : Nat → List Int → List ByteArray
  | 0, _ => []
  | f + 1, l => if fits l then strOfNums ((l.drop 3).take (len3 l)) :: textsF f (l.drop (3 + len3 l)) else []
def endF : Nat → List Int → Nat
  | 0, _ => 0
  | f + 1, l => if fits l then 3 + len3 l + endF f (l.drop (3 + len3 l)) else 0

theorem textsF_any : ∀ (f g : Nat) (l : List Int), l.length < f → l.length < g → textsF f l = textsF g l ∧ endF f l = endF g l
  | 0, _, _, h, _ => absurd h (by omega)
  | _, 0, _, _, h => absurd h (by omega)
  | f + 1, g + 1, l, hf, hg => by
    by_cases h : fits l
    · have hl : (l.drop (3 + len3 l)).length < f ∧ (l.drop (3 + len3 l)).length < g := by
        have := h.2.2
        rw [List.length_drop]
        omega
      have ih := textsF_any f g (l.drop (3 + len3 l)) hl.1 hl.2
      simp only [textsF, endF, if_pos h, ih.1, ih.2, and_self]
    · simp only [textsF, endF, if_neg h, and_self]

/-- The texts of the frames at the beginning of bytes, and how many bytes these are. -/
def texts (l : List Int) : List ByteArray := textsF (l.length + 1) l
def ends (l : List Int) : Nat := endF (l.length + 1) l

theorem texts_fits {l : List Int} (h : fits l) : texts l = strOfNums ((l.drop 3).take (len3 l)) :: texts (l.drop (3 + len3 l)) ∧ ends l = 3 + len3 l + ends (l.drop (3 + len3 l)) := by
  have hl : (l.drop (3 + len3 l)).length < l.length := by
    have := h.2.2
    rw [List.length_drop]
    omega
  have e := textsF_any l.length ((l.drop (3 + len3 l)).length + 1) (l.drop (3 + len3 l)) hl (by omega)
  refine ⟨?_, ?_⟩
  · show textsF (l.length + 1) l = _
    simp only [textsF, if_pos h, e.1]
    rfl
  · show endF (l.length + 1) l = _
    simp only [endF, if_pos h, e.2]
    rfl
theorem texts_not {l : List Int} (h : ¬ fits l) : texts l = [] ∧ ends l = 0 := by
  refine ⟨?_, ?_⟩
  · show textsF (l.length + 1) l = _
    simp only [textsF, if_neg h]
  · show endF (l.length + 1) l = _
    simp only [endF, if_neg h]

theorem framed_iff {bs : List Int} {k : Nat} : framed bs k ↔ fits (bs.drop k) := by
  have e : lenAt bs k = len3 (bs.drop k) := by
    unfold lenAt len3
    simp [List.getD]
  unfold framed fits
  rw [e, List.length_drop]
  omega
theorem lenAt_drop (bs : List Int) (k : Nat) : lenAt bs k = len3 (bs.drop k) := by
  unfold lenAt len3
  simp [List.getD]

theorem len3_enc (s : ByteArray) (r : List Int) (h : s.size ≤ 20000) : len3 (enc s ++ r) = s.size := by
  simp [len3, enc]
  omega
theorem fits_enc (s : ByteArray) (r : List Int) (h : s.size ≤ 20000) : fits (enc s ++ r) := by
  unfold fits
  rw [len3_enc s r h, List.length_append, enc_len]
  omega
theorem drop_enc (s : ByteArray) (r : List Int) : (enc s ++ r).drop (3 + s.size) = r := by
  rw [List.drop_append, List.drop_of_length_le (by rw [enc_len]; omega), enc_len]
  simp [show 3 + s.size - (s.size + 3) = 0 from by omega]
theorem text_enc (s : ByteArray) (r : List Int) : ((enc s ++ r).drop 3).take s.size = ints s := by
  rw [show (enc s ++ r).drop 3 = ints s ++ r from by simp [enc]]
  rw [List.take_append, List.take_of_length_le (by rw [ints_len]; omega), ints_len]
  simp

theorem texts_enc (s : ByteArray) (r : List Int) (h : s.size ≤ 20000) : texts (enc s ++ r) = s :: texts r ∧ ends (enc s ++ r) = s.size + 3 + ends r := by
  have h1 := texts_fits (fits_enc s r h)
  rw [len3_enc s r h, drop_enc, text_enc, strOfNums_ints] at h1
  exact ⟨h1.1, by rw [h1.2]; omega⟩

/-- Texts one behind the other. -/
def encs (l : List ByteArray) : List Int := l.flatMap enc
theorem texts_encs (l : List ByteArray) (r : List Int) (h : ∀ s ∈ l, s.size ≤ 20000) : texts (encs l ++ r) = l ++ texts r ∧ ends (encs l ++ r) = (encs l).length + ends r := by
  induction l with
  | nil => simp [encs]
  | cons s l ih =>
    have ih := ih fun t ht => h t (List.mem_cons_of_mem _ ht)
    have h1 := texts_enc s (encs l ++ r) (h s List.mem_cons_self)
    have e : encs (s :: l) = enc s ++ encs l := rfl
    rw [e, List.append_assoc, h1.1, h1.2, ih.1, ih.2]
    refine ⟨rfl, ?_⟩
    rw [List.length_append, enc_len]
    omega
theorem texts_nil : texts [] = [] ∧ ends [] = 0 := texts_not (by unfold fits; simp)
theorem encs_append (l : List ByteArray) (s : ByteArray) : encs (l ++ [s]) = encs l ++ enc s := by simp [encs]

/-- A frame cut short is none. -/
theorem not_fits_cut (s : ByteArray) (m : Nat) (hm : m < s.size + 3) (h : s.size ≤ 20000) : ¬ fits ((enc s).take m) := by
  intro hf
  have h1 := hf.1
  have h3 := hf.2.2
  have hl : ((enc s).take m).length = m := by rw [List.length_take, enc_len]; omega
  rw [hl] at h1 h3
  have e : len3 ((enc s).take m) = len3 (enc s ++ []) := by
    unfold len3
    rw [List.append_nil]
    simp only [List.getD, List.getElem?_take]
    rw [if_pos (by omega), if_pos (by omega), if_pos (by omega)]
  rw [e, len3_enc s [] h] at h3
  omega

theorem texts_le (l : List Int) : ends l ≤ l.length := by
  have aux : ∀ (n : Nat) (l : List Int), l.length ≤ n → ends l ≤ l.length := by
    intro n
    induction n with
    | zero =>
      intro l hl
      by_cases h : fits l
      · have := h.1; omega
      · rw [(texts_not h).2]; omega
    | succ n ih =>
      intro l hl
      by_cases h : fits l
      · have h3 := h.2.2
        have := ih (l.drop (3 + len3 l)) (by rw [List.length_drop]; omega)
        rw [(texts_fits h).2]
        rw [List.length_drop] at this
        omega
      · rw [(texts_not h).2]; omega
  exact aux l.length l (Nat.le_refl _)

/-- What the whole frames are, is told again of them alone. -/
theorem texts_take (l : List Int) : texts (l.take (ends l)) = texts l ∧ ends (l.take (ends l)) = ends l := by
  have aux : ∀ (n : Nat) (l : List Int), l.length ≤ n → texts (l.take (ends l)) = texts l ∧ ends (l.take (ends l)) = ends l := by
    intro n
    induction n with
    | zero =>
      intro l hl
      have hn : ¬ fits l := fun h => by have := h.1; omega
      rw [(texts_not hn).2, (texts_not hn).1, List.take_zero]
      exact texts_nil
    | succ n ih =>
      intro l hl
      by_cases h : fits l
      · have h3 := h.2.2
        have ih := ih (l.drop (3 + len3 l)) (by rw [List.length_drop]; omega)
        have e2 := (texts_fits h).2
        have hle := texts_le (l.drop (3 + len3 l))
        rw [List.length_drop] at hle
        have el : len3 (l.take (ends l)) = len3 l := by
          unfold len3
          simp only [List.getD, List.getElem?_take]
          rw [if_pos (by omega), if_pos (by omega), if_pos (by omega)]
        have hf : fits (l.take (ends l)) := by
          unfold fits
          rw [el, List.length_take]
          have := h.2.1
          omega
        have hd : (l.take (ends l)).drop (3 + len3 l) = (l.drop (3 + len3 l)).take (ends (l.drop (3 + len3 l))) := by
          rw [List.drop_take, e2]
          congr 1
          omega
        have ht : ((l.take (ends l)).drop 3).take (len3 l) = (l.drop 3).take (len3 l) := by
          rw [List.drop_take, List.take_take]
          congr 1
          omega
        have h5 := texts_fits hf
        rw [el, hd, ht, ih.1, ih.2] at h5
        have h6 := texts_fits h
        exact ⟨h5.1.trans h6.1.symm, h5.2.trans h6.2.symm⟩
      · rw [(texts_not h).2, (texts_not h).1, List.take_zero]
        exact texts_nil
  exact aux l.length l (Nat.le_refl _)
end Go.Proofs.Ytaakamjjglpibaa.Dv
