/-
  Fix, in plain Lean: rune by rune, as the program has it, and sequence by sequence, as the document has it: the same.
-/
import Derived.Test.YteijpcjhecmamaaDoorRight
namespace Go.Proofs.YteijpcjhecmamaaDoor.Uf
open Lib

def odd : List UInt8 := [239, 191, 189]
/-- What a rune is written as, behind another. -/
def outOf (r last : Nat) : List UInt8 := if r = 0 ∨ r = 65533 then odd else if r = 13 then [10] else if r = 10 ∧ last = 13 then [] else encodeRune (r : Int)
/-- From a list on, by at most so many runes. -/
def fixG : Nat → List UInt8 → Nat → List UInt8
  | 0, _, _ => []
  | n + 1, l, last => if l = [] then [] else outOf (decodeL l).1 last ++ fixG n (l.drop (decodeL l).2) (decodeL l).1
/-- What the document writes for the sequence in front. -/
def putOf (l : List UInt8) : List UInt8 :=
  if rightL l = 0 ∨ l.getD 0 0 = 0 then odd else if l.getD 0 0 = 13 then (if l.length = 1 ∨ l.getD 1 0 ≠ 10 then [10] else []) else l.take (rightL l)
def refG : Nat → List UInt8 → List UInt8
  | 0, _ => []
  | n + 1, l => if l = [] then [] else putOf l ++ refG n (l.drop (max (rightL l) 1))

theorem max_right (l : List UInt8) : max (rightL l) 1 = (decodeL l).2 := by
  have := decodeL_width l
  unfold rightL
  split
  · omega
  · omega

theorem decodeL_low {b : UInt8} {t : List UInt8} (h : b.toNat < 128) : decodeL (b :: t) = (b.toNat, 1) := by
  rw [decodeL_N]
  unfold decodeN
  rw [if_pos (by simpa using h)]
  simp
theorem rightL_low {b : UInt8} {t : List UInt8} (h : b.toNat < 128) : rightL (b :: t) = 1 := by
  unfold rightL
  rw [decodeL_low h]
  simp
  omega
theorem decodeL_high {b : UInt8} {t : List UInt8} (h : 128 ≤ b.toNat) : 128 ≤ (decodeL (b :: t)).1 := by
  rw [decodeL_N]
  have hb := b.toNat_lt
  rcases decodeN_shape (b :: t).length ((b :: t).getD 0 0).toNat ((b :: t).getD 1 0).toNat ((b :: t).getD 2 0).toNat ((b :: t).getD 3 0).toNat with ⟨c, e⟩ | ⟨c1, c2, c3, cv, e⟩ | ⟨c1, c2, c3, c4, cv, cs, e⟩ | ⟨c1, c2, c3, c4, c5, cv, cw, e⟩ | e
  all_goals rw [e]
  · simp at c
    omega
  all_goals dsimp only
  all_goals omega

theorem byte_eq {b : UInt8} {n : Nat} (h : b.toNat = n) : b = UInt8.ofNat n := by
  rw [← h]
  simp

/-- A rune above ASCII: both write the same. -/
theorem out_high {b : UInt8} {t : List UInt8} (h : 128 ≤ b.toNat) (last : Nat) : outOf (decodeL (b :: t)).1 last = putOf (b :: t) := by
  have hh := decodeL_high (t := t) h
  have hb0 : ¬ b = 0 := by intro e; subst e; simp at h
  have hb13 : ¬ b = 13 := by intro e; subst e; simp at h
  unfold outOf putOf
  by_cases hr : rightL (b :: t) = 0
  · have hr' := hr
    unfold rightL at hr'
    split at hr'
    · rename_i hd
      rw [if_pos (.inr hd.1), if_pos (.inl hr)]
    · have := decodeL_width (b :: t)
      omega
  · have hv : ¬ ((decodeL (b :: t)).1 = 65533 ∧ (decodeL (b :: t)).2 = 1) := fun hd => hr (by unfold rightL; rw [if_pos hd])
    have he := encode_decode (b :: t) (by simp) hv
    have hw : rightL (b :: t) = (decodeL (b :: t)).2 := by unfold rightL; rw [if_neg hv]
    rw [if_neg (show ¬ (rightL (b :: t) = 0 ∨ (b :: t).getD 0 0 = 0) by simp [hr, hb0]), if_neg (show ¬ (b :: t).getD 0 0 = 13 by simpa using hb13), hw, ← he]
    by_cases h3 : (decodeL (b :: t)).1 = 65533
    · rw [if_pos (.inr h3), h3]
      rfl
    · rw [if_neg (by omega), if_neg (by omega), if_neg (by omega)]

theorem fix_eq : ∀ (n : Nat) (l : List UInt8), l.length ≤ n → (∀ last, ¬ (last = 13 ∧ l.head? = some 10) → fixG n l last = refG n l) ∧ (l.head? = some 10 → 10 :: fixG n l 13 = refG n l)
  | 0, l, hl => by
    obtain rfl : l = [] := List.eq_nil_of_length_eq_zero (by omega)
    exact ⟨fun _ _ => rfl, fun h => by simp at h⟩
  | n + 1, [], _ => ⟨fun _ _ => rfl, fun h => by simp at h⟩
  | n + 1, b :: t, hl => by
    have hw := decodeL_width (b :: t)
    have hdl : ((b :: t).drop (decodeL (b :: t)).2).length ≤ n := by rw [List.length_drop]; simp at hl ⊢; omega
    have ih := fix_eq n ((b :: t).drop (decodeL (b :: t)).2) hdl
    have es : ∀ last, fixG (n + 1) (b :: t) last = outOf (decodeL (b :: t)).1 last ++ fixG n ((b :: t).drop (decodeL (b :: t)).2) (decodeL (b :: t)).1 := fun last => by simp [fixG]
    have er : refG (n + 1) (b :: t) = putOf (b :: t) ++ refG n ((b :: t).drop (decodeL (b :: t)).2) := by simp [refG, max_right]
    by_cases hlow : b.toNat < 128
    · have hd := decodeL_low (t := t) hlow
      have hR := rightL_low (t := t) hlow
      rw [hd] at ih es er
      simp only [List.drop_succ_cons, List.drop_zero] at ih es er
      by_cases h10 : b.toNat = 10
      · have hb : b = 10 := byte_eq h10
        have hp : putOf (b :: t) = [10] := by
          unfold putOf
          rw [hR, hb]
          simp
        have hrest : fixG n t 10 = refG n t := ih.1 10 (by simp)
        refine ⟨fun last hn => ?_, fun _ => ?_⟩
        · have hl13 : ¬ last = 13 := fun e => hn ⟨e, by simp [hb]⟩
          rw [es, er, hp, h10, hrest]
          have ho : outOf 10 last = [10] := by
            unfold outOf
            rw [if_neg (by omega), if_neg (by omega), if_neg (by omega)]
            rfl
          rw [ho]
        · rw [es, er, hp, h10, hrest]
          have ho : outOf 10 13 = [] := rfl
          rw [ho]
          rfl
      · have hb10 : ¬ b = 10 := fun e => h10 (by rw [e]; rfl)
        refine ⟨fun last _ => ?_, fun h => absurd (by simpa using h) hb10⟩
        rw [es, er]
        by_cases h13 : b.toNat = 13
        · have hb : b = 13 := byte_eq h13
          have ho : outOf b.toNat last = [10] := by
            rw [h13]
            rfl
          rw [ho, h13]
          cases t with
          | nil =>
            have hp : putOf [b] = [10] := by
              unfold putOf
              rw [hR, hb]
              simp
            rw [hp, ih.1 13 (by simp)]
          | cons c t' =>
            by_cases hc : c = 10
            · have hp : putOf (b :: c :: t') = [] := by
                unfold putOf
                rw [hR, hb, hc]
                simp
              rw [hp, ← ih.2 (by simp [hc])]
              rfl
            · have hp : putOf (b :: c :: t') = [10] := by
                unfold putOf
                rw [hR, hb]
                simp [hc]
              rw [hp, ih.1 13 (by simp [hc])]
        · have hb13 : ¬ b = 13 := fun e => h13 (by rw [e]; rfl)
          rw [ih.1 b.toNat (by intro h; exact h13 h.1)]
          congr 1
          unfold outOf putOf
          rw [hR]
          by_cases h0 : b.toNat = 0
          · have hb : b = 0 := byte_eq h0
            rw [if_pos (.inl h0), if_pos (.inr (by simp [hb]))]
          · have hb : ¬ b = 0 := fun e => h0 (by rw [e]; rfl)
            rw [if_neg (by omega), if_neg h13, if_neg (by omega), if_neg (by simp [hb]), if_neg (by simp [hb13])]
            unfold encodeRune
            rw [encodeRuneZ_one (by omega) (by omega)]
            simp
    · have hh := decodeL_high (t := t) (b := b) (by omega)
      have hb10 : ¬ b = 10 := fun e => by rw [e] at hlow; exact hlow (by decide)
      refine ⟨fun last _ => ?_, fun h => absurd (by simpa using h) hb10⟩
      rw [es, er, out_high (by omega) last, ih.1 _ (by omega)]

def fixU (l : List UInt8) : List UInt8 := fixG l.length l 0
theorem fix_same (l : List UInt8) : fixU l = refG l.length l := (fix_eq l.length l (Nat.le_refl _)).1 0 (by omega)

theorem fixG_end (n : Nat) (last : Nat) : fixG n [] last = [] := by cases n <;> rfl
theorem refG_end (n : Nat) : refG n [] = [] := by cases n <;> rfl
end Go.Proofs.YteijpcjhecmamaaDoor.Uf
