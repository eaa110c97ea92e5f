/-
  Texts of the proof of Chain, one behind the other: Esc, Num.
-/
import Derived.Test.YtlgaeeedkihfpaaGreatDoorC06
import Derived.Test.YtlgaeeedkihfpaaGreatDoorC01
/-
  refs.Escape: what it computes.
-/
namespace Go.Proofs.YtlgaeeedkihfpaaGreatDoor.Uf
open Go.RowKit
open Tz (escapeL B)

theorem byteAt (s : ByteArray) (i : Nat) (h : i < s.size) : (s[i]'h).toNat = (s.data.toList.getD i 0).toNat := by
  have h' : i < s.data.toList.length := by simpa using h
  rw [List.getD, List.getElem?_eq_getElem h']
  rfl
theorem byteEq {b : UInt8} {n : Nat} (h : b.toNat = n) : b = UInt8.ofNat n := by
  rw [← h]
  simp
theorem drop_cons {l : List UInt8} {k : Nat} (hk : k < l.length) : l.drop k = l.getD k 0 :: l.drop (k + 1) := by
  rw [List.drop_eq_getElem_cons hk, getD_at l k hk]
theorem esc_amp (q : Bool) (s : B) : escapeL q (38 :: s) = [38, 97, 109, 112, 59] ++ escapeL q s := by cases s <;> simp [escapeL]
theorem esc_lt (q : Bool) (s : B) : escapeL q (60 :: s) = [38, 108, 116, 59] ++ escapeL q s := by cases s <;> simp [escapeL]
theorem esc_gt (q : Bool) (s : B) : escapeL q (62 :: s) = [38, 103, 116, 59] ++ escapeL q s := by cases s <;> simp [escapeL]
theorem esc_quot (s : B) : escapeL true (34 :: s) = [38, 113, 117, 111, 116, 59] ++ escapeL true s := by cases s <;> simp [escapeL]
theorem esc_nb (q : Bool) (s : B) : escapeL q (194 :: 160 :: s) = [38, 110, 98, 115, 112, 59] ++ escapeL q s := by simp [escapeL]
theorem esc_else {q : Bool} {c : UInt8} {s : B} (h1 : c ≠ 38) (h2 : c ≠ 60) (h3 : c ≠ 62) (h4 : ¬ (c = 34 ∧ q = true)) (h5 : ¬ (c = 194 ∧ s.head? = some 160)) : escapeL q (c :: s) = [c] ++ escapeL q s := by
  cases s with
  | nil => simp only [escapeL, h1, h2, h3, h4, if_false]; rfl
  | cons d s =>
    have h6 : ¬ (c = 194 ∧ d = 160) := fun h => h5 ⟨h.1, by simp [h.2]⟩
    simp only [escapeL, h1, h2, h3, h4, h6, if_false]
    rfl
theorem esc_len (q : Bool) : ∀ (n : Nat) (s : B), s.length ≤ n → (escapeL q s).length ≤ 6 * s.length
  | _, [], _ => by simp [escapeL]
  | 0, _ :: _, h => by simp at h
  | n + 1, c :: s, h => by
    have ih := esc_len q n s (by simp at h; omega)
    have e : (c :: s).length = s.length + 1 := rfl
    by_cases h1 : c = 38
    · subst h1; rw [esc_amp, List.length_append, e]; simp; omega
    by_cases h2 : c = 60
    · subst h2; rw [esc_lt, List.length_append, e]; simp; omega
    by_cases h3 : c = 62
    · subst h3; rw [esc_gt, List.length_append, e]; simp; omega
    by_cases h4 : c = 34 ∧ q = true
    · obtain ⟨rfl, rfl⟩ := h4
      rw [esc_quot, List.length_append, e]; simp; omega
    by_cases h5 : c = 194 ∧ s.head? = some 160
    · obtain ⟨rfl, h5⟩ := h5
      cases s with
      | nil => simp at h5
      | cons d s =>
        obtain rfl : d = 160 := by simpa using h5
        have ih := esc_len q n s (by simp at h; omega)
        rw [esc_nb, List.length_append]
        simp
        omega
    · rw [esc_else h1 h2 h3 h4 h5, List.length_append, e]; simp; omega
theorem byte_ne {b : UInt8} {n : Nat} (h : b.toNat ≠ n) (hn : n < 256) : b ≠ UInt8.ofNat n := fun e => h (by rw [e]; simp; omega)

set_option maxRecDepth 100000 in
set_option maxHeartbeats 4000000 in
theorem escape_u {w : World} (s : ByteArray) (q : Bool) (hs : s.size ≤ 600000000) :
    Calls Tryz.prog 21 #[.string s, .bool q] w fun e w' => e = .returned (.string ⟨(escapeL q s.data.toList).toArray⟩) ∧ Below w.heap.size w w' := by
  obtain ⟨l, hl⟩ : ∃ l, l = s.data.toList := ⟨_, rfl⟩
  have hll : l.length = s.size := by rw [hl]; simp
  obtain ⟨all, hall⟩ : ∃ all, all = escapeL q l := ⟨_, rfl⟩
  rw [← hl, ← hall]
  have HL := Lib.hid (And.intro hl (And.intro hll hall))
  clear hl hll hall
  go_enter Tryz.func21, Tryz.ntmps21
  go_wp2
  go_loopw [6] (fun i wr => ∃ (k : Nat) (acc : List UInt8), i = .int .i64 k ∧ Lib.IsBuilderF 84 5 w.heap.size w.heap.size (Lib.byteCells acc) wr ∧ Below w.heap.size w wr ∧ w.heap.size < wr.heap.size ∧ Hid (acc ++ escapeL q (l.drop k) = all) ∧ k ≤ s.size ∧ acc.length ≤ 6 * k) (fun i _ => s.size - (intOf i).toNat)
  case atStart => exact ⟨0, [], rfl, Lib.IsBuilderF.of (Lib.fresh_isBuilder 84 5 w), (Below.refl _ w).alloc (Nat.le_refl _) _, by simp, Lib.hid (by rw [HL.out.2.2]; rfl), Nat.zero_le _, by simp⟩
  case round =>
    obtain ⟨k, acc, rfl, hI, hbw, hsz, Hacc, hks, hal⟩ := hrel
    by_cases hp : k < s.size
    · have hp' : (k : Int) < (s.size : Int) := by omega
      have hkl : k < l.length := by rw [HL.out.2.1]; exact hp
      have hb0 := byteAt s k hp
      rw [← HL.out.1] at hb0
      obtain ⟨b, hb⟩ : ∃ b, b = l.getD k 0 := ⟨_, rfl⟩
      have hdc := drop_cons hkl
      rw [← hb] at hb0 hdc
      obtain ⟨x, hx⟩ : ∃ x, x = b.toNat := ⟨_, rfl⟩
      rw [← hx] at hb0
      have Hx := Lib.hid hx
      have Hdc := Lib.hid hdc
      clear hb hx hdc
      by_cases hc : x = 38
      · skip
        have hst : (acc ++ [38, 97, 109, 112, 59]) ++ escapeL q (l.drop (k + 1)) = all := by
          rw [← Hacc.out, Hdc.out, show b = 38 from byteEq (by rw [← Hx.out]; exact hc), esc_amp, List.append_assoc]
        have Hst := Lib.hid hst
        clear hst
        have e38 : ((x : Int) == 38) = true := by simp; omega
        clear hc
        go_wp2_with fail
        refine (write_string w.heap.size w.heap.size _ ⟨#[38, 97, 109, 112, 59]⟩ _ hI (by rw [Lib.byteCells_length]; show acc.length + 5 ≤ _; omega) (by omega)).mono ?_
        rintro e W1 ⟨rfl, h1, b1, k1⟩
        have hz1 := b1.size
        go_wp2_with fail
        go_roundw
        case rel => exact ⟨k + 1, acc ++ [38, 97, 109, 112, 59], by go_num, by rw [Lib.byteCells_append]; exact Or.inr h1, hbw.trans b1, by have := h1.lt; omega, Hst, by omega, by simp; omega⟩
        case measure => simp [intOf]; omega
      have e38 : ((x : Int) == 38) = false := by simp; omega
      have n38 := hc
      clear hc
      by_cases hc : x = 60
      · skip
        have hst : (acc ++ [38, 108, 116, 59]) ++ escapeL q (l.drop (k + 1)) = all := by
          rw [← Hacc.out, Hdc.out, show b = 60 from byteEq (by rw [← Hx.out]; exact hc), esc_lt, List.append_assoc]
        have Hst := Lib.hid hst
        clear hst
        have e60 : ((x : Int) == 60) = true := by simp; omega
        clear hc
        go_wp2_with fail
        refine (write_string w.heap.size w.heap.size _ ⟨#[38, 108, 116, 59]⟩ _ hI (by rw [Lib.byteCells_length]; show acc.length + 4 ≤ _; omega) (by omega)).mono ?_
        rintro e W1 ⟨rfl, h1, b1, k1⟩
        have hz1 := b1.size
        go_wp2_with fail
        go_roundw
        case rel => exact ⟨k + 1, acc ++ [38, 108, 116, 59], by go_num, by rw [Lib.byteCells_append]; exact Or.inr h1, hbw.trans b1, by have := h1.lt; omega, Hst, by omega, by simp; omega⟩
        case measure => simp [intOf]; omega
      have e60 : ((x : Int) == 60) = false := by simp; omega
      have n60 := hc
      clear hc
      by_cases hc : x = 62
      · skip
        have hst : (acc ++ [38, 103, 116, 59]) ++ escapeL q (l.drop (k + 1)) = all := by
          rw [← Hacc.out, Hdc.out, show b = 62 from byteEq (by rw [← Hx.out]; exact hc), esc_gt, List.append_assoc]
        have Hst := Lib.hid hst
        clear hst
        have e62 : ((x : Int) == 62) = true := by simp; omega
        clear hc
        go_wp2_with fail
        refine (write_string w.heap.size w.heap.size _ ⟨#[38, 103, 116, 59]⟩ _ hI (by rw [Lib.byteCells_length]; show acc.length + 4 ≤ _; omega) (by omega)).mono ?_
        rintro e W1 ⟨rfl, h1, b1, k1⟩
        have hz1 := b1.size
        go_wp2_with fail
        go_roundw
        case rel => exact ⟨k + 1, acc ++ [38, 103, 116, 59], by go_num, by rw [Lib.byteCells_append]; exact Or.inr h1, hbw.trans b1, by have := h1.lt; omega, Hst, by omega, by simp; omega⟩
        case measure => simp [intOf]; omega
      have e62 : ((x : Int) == 62) = false := by simp; omega
      have n62 := hc
      clear hc
      have N := Lib.hid (And.intro n38 (And.intro n60 n62))
      clear n38 n60 n62
      by_cases h34 : x = 34
      · have e34 : ((x : Int) == 34) = true := by simp; omega
        have e194 : ((x : Int) == 194) = false := by simp; omega
        have H34 := Lib.hid h34
        clear h34
        cases q with
        | true =>
          skip
          have hst : (acc ++ [38, 113, 117, 111, 116, 59]) ++ escapeL true (l.drop (k + 1)) = all := by
            rw [← Hacc.out, Hdc.out, show b = 34 from byteEq (by rw [← Hx.out]; exact H34.out), esc_quot, List.append_assoc]
          have Hst := Lib.hid hst
          clear hst
          go_wp2_with fail
          refine (write_string w.heap.size w.heap.size _ ⟨#[38, 113, 117, 111, 116, 59]⟩ _ hI (by rw [Lib.byteCells_length]; show acc.length + 6 ≤ _; omega) (by omega)).mono ?_
          rintro e W1 ⟨rfl, h1, b1, k1⟩
          have hz1 := b1.size
          go_wp2_with fail
          go_roundw
          case rel => exact ⟨k + 1, acc ++ [38, 113, 117, 111, 116, 59], by go_num, by rw [Lib.byteCells_append]; exact Or.inr h1, hbw.trans b1, by have := h1.lt; omega, Hst, by omega, by simp; omega⟩
          case measure => simp [intOf]; omega
        | false =>
          skip
          have hst : (acc ++ [b]) ++ escapeL false (l.drop (k + 1)) = all := by
            rw [← Hacc.out, Hdc.out, esc_else (q := false) (c := b) (s := l.drop (k + 1)) (byte_ne (n := 38) (by rw [← Hx.out]; exact N.out.1) (by omega)) (byte_ne (n := 60) (by rw [← Hx.out]; exact N.out.2.1) (by omega)) (byte_ne (n := 62) (by rw [← Hx.out]; exact N.out.2.2) (by omega)) (by simp) (fun h => by have := Hx.out; rw [h.1] at this; have h2 := H34.out; simp at this; omega), List.append_assoc]
          have Hst := Lib.hid hst
          clear hst
          go_wp2_with fail
          refine (write_byte w.heap.size w.heap.size _ (x : Int) _ hI (by rw [Lib.byteCells_length]; omega) (by omega)).mono ?_
          rintro e W1 ⟨rfl, h1, b1, k1⟩
          have hz1 := b1.size
          go_wp2_with fail
          go_roundw
          case rel => exact ⟨k + 1, acc ++ [b], by go_num, by rw [Lib.byteCells_append, show Lib.byteCells [b] = [.int .u8 (x : Int)] by rw [Hx.out]; rfl]; exact Or.inr h1, hbw.trans b1, by have := h1.lt; omega, Hst, by omega, by simp; omega⟩
          case measure => simp [intOf]; omega
      have e34 : ((x : Int) == 34) = false := by simp; omega
      have H34 := Lib.hid h34
      clear h34
      have h4 : ¬ (b = 34 ∧ q = true) := fun h => H34.out (by rw [Hx.out, h.1]; rfl)
      have H4 := Lib.hid h4
      clear h4
      by_cases h194 : x = 194
      · have e194 : ((x : Int) == 194) = true := by simp; omega
        have H194 := Lib.hid h194
        clear h194
        by_cases hk1 : k + 1 < s.size
        · have t1 : decide ((k : Int) + 1 < (s.size : Int)) = true := by simp; omega
          have hkl1 : k + 1 < l.length := by rw [HL.out.2.1]; exact hk1
          have hy0 := byteAt s (k + 1) hk1
          rw [← HL.out.1] at hy0
          obtain ⟨d, hd⟩ : ∃ d, d = l.getD (k + 1) 0 := ⟨_, rfl⟩
          have hdd := drop_cons hkl1
          rw [← hd] at hy0 hdd
          obtain ⟨y, hy⟩ : ∃ y, y = d.toNat := ⟨_, rfl⟩
          rw [← hy] at hy0
          have Hy := Lib.hid hy
          have Hdd := Lib.hid hdd
          clear hd hy hdd
          by_cases h160 : y = 160
          · have e160 : ((y : Int) == 160) = true := by simp; omega
            have H160 := Lib.hid h160
            clear h160
            skip
            have hst : (acc ++ [38, 110, 98, 115, 112, 59]) ++ escapeL q (l.drop (k + 2)) = all := by
              rw [← Hacc.out, Hdc.out, Hdd.out, show b = 194 from byteEq (by rw [← Hx.out]; exact H194.out), show d = 160 from byteEq (by rw [← Hy.out]; exact H160.out), esc_nb, List.append_assoc]
            have Hst := Lib.hid hst
            clear hst
            go_wp2_with fail
            refine (write_string w.heap.size w.heap.size _ ⟨#[38, 110, 98, 115, 112, 59]⟩ _ hI (by rw [Lib.byteCells_length]; show acc.length + 6 ≤ _; omega) (by omega)).mono ?_
            rintro e W1 ⟨rfl, h1, b1, k1⟩
            have hz1 := b1.size
            go_wp2_with fail
            go_roundw
            case rel => exact ⟨k + 2, acc ++ [38, 110, 98, 115, 112, 59], by go_num, by rw [Lib.byteCells_append]; exact Or.inr h1, hbw.trans b1, by have := h1.lt; omega, Hst, by omega, by simp; omega⟩
            case measure => simp [intOf]; omega
          · have e160 : ((y : Int) == 160) = false := by simp; omega
            have H160 := Lib.hid h160
            clear h160
            skip
            have hst : (acc ++ [b]) ++ escapeL q (l.drop (k + 1)) = all := by
              rw [← Hacc.out, Hdc.out, esc_else (q := q) (c := b) (s := l.drop (k + 1)) (byte_ne (n := 38) (by rw [← Hx.out]; exact N.out.1) (by omega)) (byte_ne (n := 60) (by rw [← Hx.out]; exact N.out.2.1) (by omega)) (byte_ne (n := 62) (by rw [← Hx.out]; exact N.out.2.2) (by omega)) H4.out (fun h => H160.out (by have h2 := h.2; rw [Hdd.out] at h2; simp at h2; rw [Hy.out, h2]; rfl)), List.append_assoc]
            have Hst := Lib.hid hst
            clear hst
            go_wp2_with fail
            refine (write_byte w.heap.size w.heap.size _ (x : Int) _ hI (by rw [Lib.byteCells_length]; omega) (by omega)).mono ?_
            rintro e W1 ⟨rfl, h1, b1, k1⟩
            have hz1 := b1.size
            go_wp2_with fail
            go_roundw
            case rel => exact ⟨k + 1, acc ++ [b], by go_num, by rw [Lib.byteCells_append, show Lib.byteCells [b] = [.int .u8 (x : Int)] by rw [Hx.out]; rfl]; exact Or.inr h1, hbw.trans b1, by have := h1.lt; omega, Hst, by omega, by simp; omega⟩
            case measure => simp [intOf]; omega
        · have t1 : decide ((k : Int) + 1 < (s.size : Int)) = false := by simp; omega
          have hnil : l.drop (k + 1) = [] := List.drop_of_length_le (by rw [HL.out.2.1]; omega)
          have Hnil := Lib.hid hnil
          clear hnil
          skip
          have hst : (acc ++ [b]) ++ escapeL q (l.drop (k + 1)) = all := by
            rw [← Hacc.out, Hdc.out, esc_else (q := q) (c := b) (s := l.drop (k + 1)) (byte_ne (n := 38) (by rw [← Hx.out]; exact N.out.1) (by omega)) (byte_ne (n := 60) (by rw [← Hx.out]; exact N.out.2.1) (by omega)) (byte_ne (n := 62) (by rw [← Hx.out]; exact N.out.2.2) (by omega)) H4.out (fun h => by have h2 := h.2; rw [Hnil.out] at h2; simp at h2), List.append_assoc]
          have Hst := Lib.hid hst
          clear hst
          go_wp2_with fail
          refine (write_byte w.heap.size w.heap.size _ (x : Int) _ hI (by rw [Lib.byteCells_length]; omega) (by omega)).mono ?_
          rintro e W1 ⟨rfl, h1, b1, k1⟩
          have hz1 := b1.size
          go_wp2_with fail
          go_roundw
          case rel => exact ⟨k + 1, acc ++ [b], by go_num, by rw [Lib.byteCells_append, show Lib.byteCells [b] = [.int .u8 (x : Int)] by rw [Hx.out]; rfl]; exact Or.inr h1, hbw.trans b1, by have := h1.lt; omega, Hst, by omega, by simp; omega⟩
          case measure => simp [intOf]; omega
      · have e194 : ((x : Int) == 194) = false := by simp; omega
        have H194 := Lib.hid h194
        clear h194
        skip
        have hst : (acc ++ [b]) ++ escapeL q (l.drop (k + 1)) = all := by
          rw [← Hacc.out, Hdc.out, esc_else (q := q) (c := b) (s := l.drop (k + 1)) (byte_ne (n := 38) (by rw [← Hx.out]; exact N.out.1) (by omega)) (byte_ne (n := 60) (by rw [← Hx.out]; exact N.out.2.1) (by omega)) (byte_ne (n := 62) (by rw [← Hx.out]; exact N.out.2.2) (by omega)) H4.out (fun h => H194.out (by rw [Hx.out, h.1]; rfl)), List.append_assoc]
        have Hst := Lib.hid hst
        clear hst
        go_wp2_with fail
        refine (write_byte w.heap.size w.heap.size _ (x : Int) _ hI (by rw [Lib.byteCells_length]; omega) (by omega)).mono ?_
        rintro e W1 ⟨rfl, h1, b1, k1⟩
        have hz1 := b1.size
        go_wp2_with fail
        go_roundw
        case rel => exact ⟨k + 1, acc ++ [b], by go_num, by rw [Lib.byteCells_append, show Lib.byteCells [b] = [.int .u8 (x : Int)] by rw [Hx.out]; rfl]; exact Or.inr h1, hbw.trans b1, by have := h1.lt; omega, Hst, by omega, by simp; omega⟩
        case measure => simp [intOf]; omega
    · have hp' : ¬ (k : Int) < (s.size : Int) := by omega
      have hfin : acc = all := by
        have h := Hacc.out
        rw [List.drop_of_length_le (by rw [HL.out.2.1]; omega)] at h
        simpa [escapeL] using h
      have Hfin := Lib.hid hfin
      clear hfin
      go_wp2_with fail
      refine (Tryz.Builder_String_any_k w.heap.size w.heap.size acc _ hI (by omega)).mono ?_
      rintro e W1 ⟨rfl, _, b1, _⟩
      go_wp2_with fail
      go_ret
      exact ⟨by rw [Hfin.out]; rfl, hbw.trans b1⟩
end Go.Proofs.YtlgaeeedkihfpaaGreatDoor.Uf

/-
  refs.number: what it computes.
-/
namespace Go.Proofs.YtlgaeeedkihfpaaGreatDoor.Uf
open Go.RowKit
open Tz (numberL numG digitL B)

/-- What number tells. -/
def NumR (w : World) (r : Option Nat) (e : Ending) (w' : World) : Prop :=
  (match r with | some n => e = .returned (.tuple #[.int .i64 n, .bool true]) | none => e = .returned (.tuple #[.int .i64 0, .bool false])) ∧ Below w.heap.size w w'
def hexd : ByteArray := ⟨#[48, 49, 50, 51, 52, 53, 54, 55, 56, 57, 97, 98, 99, 100, 101, 102]⟩
theorem hexd_at : ∀ c : Fin 256, Lib.indexByte hexd.data.toList (UInt8.ofNat c.val) = (match digitL (UInt8.ofNat c.val) with | some d => (d : Int) | none => -1) := by decide +kernel
theorem low_eq (l : List UInt8) : Tz.lowL l = lowL l := rfl
theorem decodeL_low {b : UInt8} {t : List UInt8} (h : b.toNat < 128) : Lib.decodeL (b :: t) = (b.toNat, 1) := by
  rw [Lib.decodeL_N]
  unfold Lib.decodeN
  rw [if_pos (by simpa using h)]
  simp
theorem decodeL_high {b : UInt8} {t : List UInt8} (h : 128 ≤ b.toNat) : 128 ≤ (Lib.decodeL (b :: t)).1 := by
  rw [Lib.decodeL_N]
  have hb := b.toNat_lt
  rcases Lib.decodeN_shape (b :: t).length ((b :: t).getD 0 0).toNat ((b :: t).getD 1 0).toNat ((b :: t).getD 2 0).toNat ((b :: t).getD 3 0).toNat with ⟨c, e⟩ | ⟨c1, c2, c3, cv, e⟩ | ⟨c1, c2, c3, c4, cv, cs, e⟩ | ⟨c1, c2, c3, c4, c5, cv, cw, e⟩ | e
  all_goals rw [e]
  · simp at c
    omega
  all_goals dsimp only
  all_goals omega
theorem digit_high {b : UInt8} (h : 128 ≤ b.toNat) : digitL b = none := by
  unfold digitL
  rw [if_neg (by omega), if_neg (by omega)]
theorem digit_lt {b : UInt8} {d : Nat} (h : digitL b = some d) : d < 16 := by
  unfold digitL at h
  split at h
  · injection h; omega
  split at h
  · injection h; omega
  · cases h
theorem numG_none {base : Nat} {c : UInt8} {s : B} {n : Nat} (h : digitL c = none) : numG base (c :: s) n = none := by simp [numG, h]
theorem numG_big {base d : Nat} {c : UInt8} {s : B} {n : Nat} (h : digitL c = some d) (hd : ¬ d < base) : numG base (c :: s) n = none := by simp [numG, h, hd]
theorem numG_step {base d : Nat} {c : UInt8} {s : B} {n : Nat} (h : digitL c = some d) (hd : d < base) : numG base (c :: s) n = numG base s (n * base + d) := by simp [numG, h, hd]

set_option maxRecDepth 100000 in
set_option maxHeartbeats 4000000 in
theorem number10 {w : World} (s : ByteArray) (hs : s.size ≤ 1600000000) : Calls Tryz.prog 118 #[.string s, .int .i64 10, .int .i64 7] w (NumR w (numberL s.data.toList 10 7)) := by
  obtain ⟨l, hl⟩ : ∃ l, l = s.data.toList := ⟨_, rfl⟩
  have hll : l.length = s.size := by rw [hl]; simp
  rw [← hl]
  by_cases h0 : s.size = 0
  · have hn : numberL l 10 7 = none := by
      unfold numberL
      rw [if_pos (.inl (List.eq_nil_of_length_eq_zero (by omega)))]
    have e0 : s.toList = [] := by
      rw [ByteArray.toList_eq, ← hl]
      exact List.eq_nil_of_length_eq_zero (by omega)
    have e1 : s.toList.isEmpty = true := by rw [e0]; rfl
    have Hn := Lib.hid (show NumR w (numberL l 10 7) (.returned (.tuple #[.int .i64 0, .bool false])) w by rw [hn]; exact ⟨rfl, Below.refl _ _⟩)
    clear hl hll h0 hn hs
    go_enter Tryz.func118, Tryz.ntmps118
    go_wp2
    go_ret2
    exact Hn.out
  have hne : l ≠ [] := fun e => h0 (by rw [← hll, e]; rfl)
  have e1 : s.toList.isEmpty = false := by
    rw [ByteArray.toList_eq, ← hl]
    simpa using hne
  by_cases hbig : 7 < s.size
  · have hn : numberL l 10 7 = none := by
      unfold numberL
      rw [if_pos (.inr (by omega))]
    have t1 : decide ((7 : Int) < (s.size : Int)) = true := by simp; omega
    have Hn := Lib.hid (show NumR w (numberL l 10 7) (.returned (.tuple #[.int .i64 0, .bool false])) w by rw [hn]; exact ⟨rfl, Below.refl _ _⟩)
    clear hl hll h0 hn hs hne
    go_enter Tryz.func118, Tryz.ntmps118
    go_wp2
    go_ret2
    exact Hn.out
  have t1 : decide ((7 : Int) < (s.size : Int)) = false := by simp; omega
  obtain ⟨u, hu⟩ : ∃ u : ByteArray, u = ⟨(lowL l).toArray⟩ := ⟨_, rfl⟩
  have hul : u.data.toList = lowL l := by rw [hu]
  have hus : u.size = s.size := by
    rw [hu, ← hll]
    show (lowL l).toArray.size = _
    simp [lowL]
  have hR : numberL l 10 7 = numG 10 u.data.toList 0 := by
    unfold numberL
    rw [if_neg (by intro h; rcases h with h | h; exact hne h; omega), hul]
    rfl
  have hsz : s.size ≤ 7 := by omega
  have HR := Lib.hid (And.intro hR (And.intro hu hl))
  obtain ⟨R, hRR⟩ : ∃ R, R = numberL l 10 7 := ⟨_, rfl⟩
  rw [← hRR]
  have HRR := Lib.hid hRR
  clear hl hll h0 hne hbig hu hul hR hRR
  go_enter Tryz.func118, Tryz.ntmps118
  go_wp2_with fail
  refine (lower_u s (by omega)).mono ?_
  rintro e w1 ⟨rfl, hb1⟩
  rw [← HR.out.2.2, ← HR.out.2.1]
  have Hb1 := Lib.hid hb1
  clear hb1
  go_wp2_with fail
  go_loopw [8] (fun a wr => ∃ (pos n : Nat), a = .int .i64 n ∧ wr.heap[w1.heap.size]? = some (.stringIter u pos) ∧ Below w1.heap.size w1 wr ∧ Hid (numG 10 (u.data.toList.drop pos) n = R) ∧ pos ≤ u.size ∧ n < 10 ^ pos) (fun _ wr => u.size - wr.iterPos w1.heap.size)
  case atStart =>
    exact ⟨0, 0, rfl, World.iter_heap w1 u 0, (Below.refl _ w1).alloc (Nat.le_refl _) _, Lib.hid (by rw [HRR.out, HR.out.1]; rfl), Nat.zero_le _, by simp⟩
  case round =>
    obtain ⟨pos, n, rfl, hit, hbw, Hn, hps, hnb⟩ := hrel
    have hsz2 : w1.heap.size < wr.heap.size := (Array.getElem?_eq_some_iff.1 hit).1
    by_cases hp : pos < u.size
    · have hpl : pos < u.data.toList.length := by simpa using hp
      have hnx := fun ty => Lib.run_next_any_at (P := Tryz.prog) wr w1.heap.size u pos ty hit hp
      have hdc := drop_cons hpl
      obtain ⟨b, hb⟩ : ∃ b, b = u.data.toList.getD pos 0 := ⟨_, rfl⟩
      rw [← hb] at hdc
      have hd : Utf8.decode u pos = Lib.decodeL (u.data.toList.drop pos) := by rw [Lib.decodeL_drop]
      obtain ⟨r, hr⟩ : ∃ r, r = (Utf8.decode u pos).1 := ⟨_, rfl⟩
      obtain ⟨k, hk⟩ : ∃ k, k = (Utf8.decode u pos).2 := ⟨_, rfl⟩
      simp only [← hr, ← hk] at hnx
      have hit2 := Lib.iterAt_heap wr w1.heap.size u pos (pos + k) hit
      have hbw2 := Lib.below_iterAt hbw (k := w1.heap.size) (Nat.le_refl _) u (pos + k)
      by_cases hlow : b.toNat < 128
      · rw [hdc, decodeL_low hlow] at hd
        rw [hd] at hr hk
        have hr128 : r < 128 := by rw [hr]; exact hlow
        have hi := hexd_at ⟨r, by omega⟩
        dsimp only at hi
        have hbr : UInt8.ofNat r = b := by rw [hr]; simp
        rw [hbr] at hi
        have hwr : IntKind.u8.wrap (r : Int) = (r : Int) := by rw [IntKind.wrap_u8]; omega
        have hg1 : decide ((127 : Int) < (r : Int)) = false := by simp; omega
        obtain rfl : k = 1 := hk
        have Hr := Lib.hid hr
        have Hdc := Lib.hid hdc
        have hib : Lib.indexByte hexd.data.toList ((r : Int).toNat.toUInt8) = (match digitL b with | some d => (d : Int) | none => -1) := by
          rw [← hi]
          rw [← hbr]
          rfl
        have Hib := Lib.hid hib
        clear hd hdc hr hi hbr hb hib
        cases hdg : digitL b with
        | none =>
          have hR0 : R = none := by rw [← Hn.out, Hdc.out, numG_none hdg]
          have Hfin := Lib.hid (show NumR w R (.returned (.tuple #[.int .i64 0, .bool false])) (wr.iterAt w1.heap.size u (pos + 1)) by rw [hR0]; exact ⟨rfl, Hb1.out.trans (hbw2.mono Hb1.out.size)⟩)
          have Hdg := Lib.hid hdg
          clear hR0 hdg hbw2 hbw
          go_wp2_with fail
          refine (Tryz.strings_IndexByte hexd (r : Int) _).mono ?_
          rintro e w2 ⟨rfl, hw2⟩
          rw [hw2, Hib.out, Hdg.out]
          clear hw2 w2
          go_wp2_with fail
          go_ret2
          exact Hfin.out
        | some d =>
          have hd16 := digit_lt hdg
          have hn1 : decide ((d : Int) < 0) = false := by simp
          by_cases hdb : d < 10
          · have hst : numG 10 (u.data.toList.drop (pos + 1)) (n * 10 + d) = R := by rw [← Hn.out, Hdc.out, numG_step hdg hdb]
            have Hst := Lib.hid hst
            have hg2 : decide ((10 : Int) ≤ (d : Int)) = false := by simp; omega
            have Hdg := Lib.hid hdg
            have hpow : n * 10 + d < 10 ^ (pos + 1) := by rw [Nat.pow_succ]; omega
            have hnm : n < 400000000 := Nat.lt_of_lt_of_le hnb (Nat.le_trans (Nat.pow_le_pow_right (by omega) (show pos ≤ 7 by omega)) (by decide))
            have Hpow := Lib.hid hpow
            have Hnb := Lib.hid hnb
            clear hst hdg hpow hnb
            go_wp2_with fail
            refine (Tryz.strings_IndexByte hexd (r : Int) _).mono ?_
            rintro e w2 ⟨rfl, hw2⟩
            rw [hw2, Hib.out, Hdg.out]
            clear hw2 w2
            go_wp2_with fail
            go_roundw
            case rel => exact ⟨pos + 1, n * 10 + d, by go_num, hit2, hbw2, Hst, by omega, Hpow.out⟩
            case measure =>
              simp only [World.iterPos, hit2, hit]
              omega
          · have hR0 : R = none := by rw [← Hn.out, Hdc.out, numG_big hdg hdb]
            have Hfin := Lib.hid (show NumR w R (.returned (.tuple #[.int .i64 0, .bool false])) (wr.iterAt w1.heap.size u (pos + 1)) by rw [hR0]; exact ⟨rfl, Hb1.out.trans (hbw2.mono Hb1.out.size)⟩)
            have hg2 : decide ((10 : Int) ≤ (d : Int)) = true := by simp; omega
            have Hdg := Lib.hid hdg
            clear hR0 hdg hbw2 hbw hnb
            go_wp2_with fail
            refine (Tryz.strings_IndexByte hexd (r : Int) _).mono ?_
            rintro e w2 ⟨rfl, hw2⟩
            rw [hw2, Hib.out, Hdg.out]
            clear hw2 w2
            go_wp2_with fail
            go_ret2
            exact Hfin.out
      · have hh := decodeL_high (b := b) (t := u.data.toList.drop (pos + 1)) (by omega)
        rw [← hdc, ← hd, ← hr] at hh
        have hR0 : R = none := by rw [← Hn.out, hdc, numG_none (digit_high (by omega))]
        have hr31 := decode_le u pos
        rw [← hr] at hr31
        have Hfin := Lib.hid (show NumR w R (.returned (.tuple #[.int .i64 0, .bool false])) (wr.iterAt w1.heap.size u (pos + k)) by rw [hR0]; exact ⟨rfl, Hb1.out.trans (hbw2.mono Hb1.out.size)⟩)
        have hg1 : decide ((127 : Int) < (r : Int)) = true := by simp; omega
        clear hR0 hdc hd hr hk hb hbw2 hbw hnb
        go_wp2_with fail
        refine (Tryz.strings_IndexByte hexd _ _).mono ?_
        rintro e w2 ⟨rfl, hw2⟩
        rw [hw2]
        clear hw2 w2
        go_wp2_with fail
        go_ret2
        exact Hfin.out
    · have hnx := fun ty => Lib.run_next_end_at (P := Tryz.prog) wr w1.heap.size u pos ty hit hp
      have hR0 : R = some n := by
        rw [← Hn.out, List.drop_of_length_le (by simp; omega)]
        rfl
      have Hfin := Lib.hid (show NumR w R (.returned (.tuple #[.int .i64 n, .bool true])) wr by rw [hR0]; exact ⟨rfl, Hb1.out.trans (hbw.mono Hb1.out.size)⟩)
      clear hR0 hbw hnb
      go_wp2_with fail
      go_ret2
      exact Hfin.out

set_option maxRecDepth 100000 in
set_option maxHeartbeats 4000000 in
theorem number16 {w : World} (s : ByteArray) (hs : s.size ≤ 1600000000) : Calls Tryz.prog 118 #[.string s, .int .i64 16, .int .i64 6] w (NumR w (numberL s.data.toList 16 6)) := by
  obtain ⟨l, hl⟩ : ∃ l, l = s.data.toList := ⟨_, rfl⟩
  have hll : l.length = s.size := by rw [hl]; simp
  rw [← hl]
  by_cases h0 : s.size = 0
  · have hn : numberL l 16 6 = none := by
      unfold numberL
      rw [if_pos (.inl (List.eq_nil_of_length_eq_zero (by omega)))]
    have e0 : s.toList = [] := by
      rw [ByteArray.toList_eq, ← hl]
      exact List.eq_nil_of_length_eq_zero (by omega)
    have e1 : s.toList.isEmpty = true := by rw [e0]; rfl
    have Hn := Lib.hid (show NumR w (numberL l 16 6) (.returned (.tuple #[.int .i64 0, .bool false])) w by rw [hn]; exact ⟨rfl, Below.refl _ _⟩)
    clear hl hll h0 hn hs
    go_enter Tryz.func118, Tryz.ntmps118
    go_wp2
    go_ret2
    exact Hn.out
  have hne : l ≠ [] := fun e => h0 (by rw [← hll, e]; rfl)
  have e1 : s.toList.isEmpty = false := by
    rw [ByteArray.toList_eq, ← hl]
    simpa using hne
  by_cases hbig : 6 < s.size
  · have hn : numberL l 16 6 = none := by
      unfold numberL
      rw [if_pos (.inr (by omega))]
    have t1 : decide ((6 : Int) < (s.size : Int)) = true := by simp; omega
    have Hn := Lib.hid (show NumR w (numberL l 16 6) (.returned (.tuple #[.int .i64 0, .bool false])) w by rw [hn]; exact ⟨rfl, Below.refl _ _⟩)
    clear hl hll h0 hn hs hne
    go_enter Tryz.func118, Tryz.ntmps118
    go_wp2
    go_ret2
    exact Hn.out
  have t1 : decide ((6 : Int) < (s.size : Int)) = false := by simp; omega
  obtain ⟨u, hu⟩ : ∃ u : ByteArray, u = ⟨(lowL l).toArray⟩ := ⟨_, rfl⟩
  have hul : u.data.toList = lowL l := by rw [hu]
  have hus : u.size = s.size := by
    rw [hu, ← hll]
    show (lowL l).toArray.size = _
    simp [lowL]
  have hR : numberL l 16 6 = numG 16 u.data.toList 0 := by
    unfold numberL
    rw [if_neg (by intro h; rcases h with h | h; exact hne h; omega), hul]
    rfl
  have hsz : s.size ≤ 6 := by omega
  have HR := Lib.hid (And.intro hR (And.intro hu hl))
  obtain ⟨R, hRR⟩ : ∃ R, R = numberL l 16 6 := ⟨_, rfl⟩
  rw [← hRR]
  have HRR := Lib.hid hRR
  clear hl hll h0 hne hbig hu hul hR hRR
  go_enter Tryz.func118, Tryz.ntmps118
  go_wp2_with fail
  refine (lower_u s (by omega)).mono ?_
  rintro e w1 ⟨rfl, hb1⟩
  rw [← HR.out.2.2, ← HR.out.2.1]
  have Hb1 := Lib.hid hb1
  clear hb1
  go_wp2_with fail
  go_loopw [8] (fun a wr => ∃ (pos n : Nat), a = .int .i64 n ∧ wr.heap[w1.heap.size]? = some (.stringIter u pos) ∧ Below w1.heap.size w1 wr ∧ Hid (numG 16 (u.data.toList.drop pos) n = R) ∧ pos ≤ u.size ∧ n < 16 ^ pos) (fun _ wr => u.size - wr.iterPos w1.heap.size)
  case atStart =>
    exact ⟨0, 0, rfl, World.iter_heap w1 u 0, (Below.refl _ w1).alloc (Nat.le_refl _) _, Lib.hid (by rw [HRR.out, HR.out.1]; rfl), Nat.zero_le _, by simp⟩
  case round =>
    obtain ⟨pos, n, rfl, hit, hbw, Hn, hps, hnb⟩ := hrel
    have hsz2 : w1.heap.size < wr.heap.size := (Array.getElem?_eq_some_iff.1 hit).1
    by_cases hp : pos < u.size
    · have hpl : pos < u.data.toList.length := by simpa using hp
      have hnx := fun ty => Lib.run_next_any_at (P := Tryz.prog) wr w1.heap.size u pos ty hit hp
      have hdc := drop_cons hpl
      obtain ⟨b, hb⟩ : ∃ b, b = u.data.toList.getD pos 0 := ⟨_, rfl⟩
      rw [← hb] at hdc
      have hd : Utf8.decode u pos = Lib.decodeL (u.data.toList.drop pos) := by rw [Lib.decodeL_drop]
      obtain ⟨r, hr⟩ : ∃ r, r = (Utf8.decode u pos).1 := ⟨_, rfl⟩
      obtain ⟨k, hk⟩ : ∃ k, k = (Utf8.decode u pos).2 := ⟨_, rfl⟩
      simp only [← hr, ← hk] at hnx
      have hit2 := Lib.iterAt_heap wr w1.heap.size u pos (pos + k) hit
      have hbw2 := Lib.below_iterAt hbw (k := w1.heap.size) (Nat.le_refl _) u (pos + k)
      by_cases hlow : b.toNat < 128
      · rw [hdc, decodeL_low hlow] at hd
        rw [hd] at hr hk
        have hr128 : r < 128 := by rw [hr]; exact hlow
        have hi := hexd_at ⟨r, by omega⟩
        dsimp only at hi
        have hbr : UInt8.ofNat r = b := by rw [hr]; simp
        rw [hbr] at hi
        have hwr : IntKind.u8.wrap (r : Int) = (r : Int) := by rw [IntKind.wrap_u8]; omega
        have hg1 : decide ((127 : Int) < (r : Int)) = false := by simp; omega
        obtain rfl : k = 1 := hk
        have Hr := Lib.hid hr
        have Hdc := Lib.hid hdc
        have hib : Lib.indexByte hexd.data.toList ((r : Int).toNat.toUInt8) = (match digitL b with | some d => (d : Int) | none => -1) := by
          rw [← hi]
          rw [← hbr]
          rfl
        have Hib := Lib.hid hib
        clear hd hdc hr hi hbr hb hib
        cases hdg : digitL b with
        | none =>
          have hR0 : R = none := by rw [← Hn.out, Hdc.out, numG_none hdg]
          have Hfin := Lib.hid (show NumR w R (.returned (.tuple #[.int .i64 0, .bool false])) (wr.iterAt w1.heap.size u (pos + 1)) by rw [hR0]; exact ⟨rfl, Hb1.out.trans (hbw2.mono Hb1.out.size)⟩)
          have Hdg := Lib.hid hdg
          clear hR0 hdg hbw2 hbw
          go_wp2_with fail
          refine (Tryz.strings_IndexByte hexd (r : Int) _).mono ?_
          rintro e w2 ⟨rfl, hw2⟩
          rw [hw2, Hib.out, Hdg.out]
          clear hw2 w2
          go_wp2_with fail
          go_ret2
          exact Hfin.out
        | some d =>
          have hd16 := digit_lt hdg
          have hn1 : decide ((d : Int) < 0) = false := by simp
          by_cases hdb : d < 16
          · have hst : numG 16 (u.data.toList.drop (pos + 1)) (n * 16 + d) = R := by rw [← Hn.out, Hdc.out, numG_step hdg hdb]
            have Hst := Lib.hid hst
            have hg2 : decide ((16 : Int) ≤ (d : Int)) = false := by simp; omega
            have Hdg := Lib.hid hdg
            have hpow : n * 16 + d < 16 ^ (pos + 1) := by rw [Nat.pow_succ]; omega
            have hnm : n < 268435456 := Nat.lt_of_lt_of_le hnb (Nat.le_trans (Nat.pow_le_pow_right (by omega) (show pos ≤ 6 by omega)) (by decide))
            have Hpow := Lib.hid hpow
            have Hnb := Lib.hid hnb
            clear hst hdg hpow hnb
            go_wp2_with fail
            refine (Tryz.strings_IndexByte hexd (r : Int) _).mono ?_
            rintro e w2 ⟨rfl, hw2⟩
            rw [hw2, Hib.out, Hdg.out]
            clear hw2 w2
            go_wp2_with fail
            go_roundw
            case rel => exact ⟨pos + 1, n * 16 + d, by go_num, hit2, hbw2, Hst, by omega, Hpow.out⟩
            case measure =>
              simp only [World.iterPos, hit2, hit]
              omega
          · have hR0 : R = none := by rw [← Hn.out, Hdc.out, numG_big hdg hdb]
            have Hfin := Lib.hid (show NumR w R (.returned (.tuple #[.int .i64 0, .bool false])) (wr.iterAt w1.heap.size u (pos + 1)) by rw [hR0]; exact ⟨rfl, Hb1.out.trans (hbw2.mono Hb1.out.size)⟩)
            have hg2 : decide ((16 : Int) ≤ (d : Int)) = true := by simp; omega
            have Hdg := Lib.hid hdg
            clear hR0 hdg hbw2 hbw hnb
            go_wp2_with fail
            refine (Tryz.strings_IndexByte hexd (r : Int) _).mono ?_
            rintro e w2 ⟨rfl, hw2⟩
            rw [hw2, Hib.out, Hdg.out]
            clear hw2 w2
            go_wp2_with fail
            go_ret2
            exact Hfin.out
      · have hh := decodeL_high (b := b) (t := u.data.toList.drop (pos + 1)) (by omega)
        rw [← hdc, ← hd, ← hr] at hh
        have hR0 : R = none := by rw [← Hn.out, hdc, numG_none (digit_high (by omega))]
        have hr31 := decode_le u pos
        rw [← hr] at hr31
        have Hfin := Lib.hid (show NumR w R (.returned (.tuple #[.int .i64 0, .bool false])) (wr.iterAt w1.heap.size u (pos + k)) by rw [hR0]; exact ⟨rfl, Hb1.out.trans (hbw2.mono Hb1.out.size)⟩)
        have hg1 : decide ((127 : Int) < (r : Int)) = true := by simp; omega
        clear hR0 hdc hd hr hk hb hbw2 hbw hnb
        go_wp2_with fail
        refine (Tryz.strings_IndexByte hexd _ _).mono ?_
        rintro e w2 ⟨rfl, hw2⟩
        rw [hw2]
        clear hw2 w2
        go_wp2_with fail
        go_ret2
        exact Hfin.out
    · have hnx := fun ty => Lib.run_next_end_at (P := Tryz.prog) wr w1.heap.size u pos ty hit hp
      have hR0 : R = some n := by
        rw [← Hn.out, List.drop_of_length_le (by simp; omega)]
        rfl
      have Hfin := Lib.hid (show NumR w R (.returned (.tuple #[.int .i64 n, .bool true])) wr by rw [hR0]; exact ⟨rfl, Hb1.out.trans (hbw.mono Hb1.out.size)⟩)
      clear hR0 hbw hnb
      go_wp2_with fail
      go_ret2
      exact Hfin.out
end Go.Proofs.YtlgaeeedkihfpaaGreatDoor.Uf
