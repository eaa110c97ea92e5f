/-
  Fixed texts, in plain Lean: what is fixed is right and plain, a plain text is fixed to itself, and a right text that ends with no byte 13 is fixed apart from what stands behind it.
-/
import Derived.Test.YteijpcjhecmamaaDoorLowP
namespace Go.Proofs.YteijpcjhecmamaaDoor.Uf
open Lib

def BadL (l : List UInt8) : Prop := (decodeL l).1 = 65533 ∧ (decodeL l).2 = 1

theorem decodeN_ext (n m b0 b1 b2 b3 c1 c2 c3 : Nat) (h : ¬ decodeN m b0 c1 c2 c3 = (65533, 1)) (hm : m ≤ n) (e1 : 1 < m → c1 = b1) (e2 : 2 < m → c2 = b2) (e3 : 3 < m → c3 = b3) : decodeN n b0 b1 b2 b3 = decodeN m b0 c1 c2 c3 := by
  rcases decodeN_shape m b0 c1 c2 c3 with ⟨c, e⟩ | ⟨k1, k2, k3, kv, e⟩ | ⟨k1, k2, k3, k4, kv, ks, e⟩ | ⟨k1, k2, k3, k4, k5, kv, kw, e⟩ | e
  · rw [e]
    unfold decodeN
    rw [if_pos c]
  · obtain rfl := e1 k2
    rw [e]
    unfold decodeN
    rw [if_neg (by omega), if_pos ⟨k1, by omega, k3⟩, if_pos kv]
  · obtain rfl := e1 (by omega)
    obtain rfl := e2 k2
    rw [e]
    unfold decodeN
    rw [if_neg (by omega), if_neg (by omega), if_pos ⟨k1, ⟨by omega, k3⟩, ⟨by omega, k4⟩⟩, if_pos ⟨kv, by omega⟩]
  · obtain rfl := e1 (by omega)
    obtain rfl := e2 (by omega)
    obtain rfl := e3 k2
    rw [e]
    unfold decodeN
    rw [if_neg (by omega), if_neg (by omega), if_neg (by omega), if_pos ⟨k1, ⟨by omega, k3⟩, ⟨by omega, k4⟩, ⟨by omega, k5⟩⟩, if_pos ⟨kv, by omega⟩]
  · exact absurd e h

theorem getD_app (a b : List UInt8) (i : Nat) (h : i < a.length) : (a ++ b).getD i 0 = a.getD i 0 := by simp [List.getD, List.getElem?_append_left h]
theorem decodeL_app {a b : List UInt8} (ha : a ≠ []) (h : ¬ BadL a) : decodeL (a ++ b) = decodeL a := by
  have hl : 0 < a.length := List.length_pos_iff.2 ha
  unfold BadL at h
  rw [decodeL_N] at h
  rw [decodeL_N, decodeL_N, getD_app a b 0 hl]
  exact decodeN_ext _ _ _ _ _ _ _ _ _ (fun e => h (by rw [e]; exact ⟨rfl, rfl⟩)) (by simp) (fun k => by rw [getD_app a b 1 k]) (fun k => by rw [getD_app a b 2 k]) (fun k => by rw [getD_app a b 3 k])

theorem validGoD_any : ∀ (f g : Nat) (l : List UInt8), l.length ≤ f → l.length ≤ g → validGoD f l = validGoD g l
  | 0, g, l, h, _ => by
    obtain rfl : l = [] := List.eq_nil_of_length_eq_zero (by omega)
    cases g <;> simp [validGoD]
  | f + 1, 0, l, _, h => by
    obtain rfl : l = [] := List.eq_nil_of_length_eq_zero (by omega)
    simp [validGoD]
  | f + 1, g + 1, l, h, h' => by
    by_cases hl : l = []
    · subst hl; simp [validGoD]
    · have hw := decodeL_width l
      simp only [validGoD, hl, if_false]
      rw [validGoD_any f g _ (by rw [List.length_drop]; omega) (by rw [List.length_drop]; omega)]
theorem validD_nil : validD [] = true := rfl
theorem validD_bad {l : List UInt8} (hl : l ≠ []) (h : BadL l) : validD l = false := by
  have h0 := List.length_pos_iff.2 hl
  unfold validD
  obtain ⟨f, hf⟩ : ∃ f, l.length = f + 1 := ⟨l.length - 1, by omega⟩
  rw [hf]
  unfold validGoD
  unfold BadL at h
  rw [if_neg hl, if_pos h]
theorem validD_step {l : List UInt8} (hl : l ≠ []) (h : ¬ BadL l) : validD l = validD (l.drop (decodeL l).2) := by
  have h0 := List.length_pos_iff.2 hl
  have hw := decodeL_width l
  unfold validD
  obtain ⟨f, hf⟩ : ∃ f, l.length = f + 1 := ⟨l.length - 1, by omega⟩
  rw [hf]
  conv => lhs; unfold validGoD
  unfold BadL at h
  rw [if_neg hl, if_neg h]
  exact validGoD_any _ _ _ (by rw [List.length_drop]; omega) (Nat.le_refl _)
theorem valid_good {l : List UInt8} (hl : l ≠ []) (h : validD l = true) : ¬ BadL l := fun hb => by rw [validD_bad hl hb] at h; cases h
theorem rightL_bad {l : List UInt8} (h : BadL l) : rightL l = 0 := by unfold rightL; exact if_pos h
theorem rightL_good {l : List UInt8} (h : ¬ BadL l) : rightL l = (decodeL l).2 := by unfold rightL; exact if_neg h
theorem good_of_right {l : List UInt8} (h : rightL l ≠ 0) : ¬ BadL l := fun hb => h (rightL_bad hb)

theorem refG_any : ∀ (f g : Nat) (l : List UInt8), l.length ≤ f → l.length ≤ g → refG f l = refG g l
  | 0, g, l, h, _ => by
    obtain rfl : l = [] := List.eq_nil_of_length_eq_zero (by omega)
    rw [refG_end, refG_end]
  | f + 1, 0, l, _, h => by
    obtain rfl : l = [] := List.eq_nil_of_length_eq_zero (by omega)
    rw [refG_end, refG_end]
  | f + 1, g + 1, l, h, h' => by
    by_cases hl : l = []
    · subst hl; rw [refG_end, refG_end]
    · have hw := decodeL_width l
      simp only [refG, hl, if_false, max_right]
      rw [refG_any f g _ (by rw [List.length_drop]; omega) (by rw [List.length_drop]; omega)]
theorem fixU_nil : fixU [] = [] := rfl
theorem fixU_step {l : List UInt8} (hl : l ≠ []) : fixU l = putOf l ++ fixU (l.drop (decodeL l).2) := by
  have h0 := List.length_pos_iff.2 hl
  have hw := decodeL_width l
  rw [fix_same, fix_same]
  obtain ⟨f, hf⟩ : ∃ f, l.length = f + 1 := ⟨l.length - 1, by omega⟩
  rw [hf]
  conv => lhs; unfold refG
  rw [if_neg hl, max_right]
  congr 1
  exact refG_any _ _ _ (by rw [List.length_drop]; omega) (Nat.le_refl _)

theorem put_app {a : List UInt8} (b : List UInt8) (ha : a ≠ []) (h : ¬ BadL a) (h13 : a.getLast? ≠ some 13) : putOf (a ++ b) = putOf a := by
  have hl : 0 < a.length := List.length_pos_iff.2 ha
  have hd := decodeL_app (b := b) ha h
  have hr : rightL (a ++ b) = rightL a := by unfold rightL; rw [hd]
  have hle := decodeL_le a ha
  unfold putOf
  rw [hr, getD_app a b 0 hl, rightL_good h]
  split
  · rfl
  split
  · rename_i h0 h1
    have h2 : 2 ≤ a.length := by
      rcases a with _ | ⟨x, _ | ⟨y, t⟩⟩
      · exact absurd rfl ha
      · simp at h1 h13
        exact absurd h1 h13
      · simp
    rw [getD_app a b 1 (by omega)]
    have n1 : ¬ (a ++ b).length = 1 := by rw [List.length_append]; omega
    have n2 : ¬ a.length = 1 := by omega
    simp only [n1, n2, false_or]
  · rw [List.take_append_of_le_length hle]

theorem fix_join : ∀ (n : Nat) (a b : List UInt8), a.length ≤ n → validD a = true → a.getLast? ≠ some 13 → fixU (a ++ b) = fixU a ++ fixU b
  | 0, a, b, hn, _, _ => by
    obtain rfl : a = [] := List.eq_nil_of_length_eq_zero (by omega)
    simp [fixU_nil]
  | n + 1, a, b, hn, hv, h13 => by
    by_cases ha : a = []
    · subst ha; simp [fixU_nil]
    · have hg := valid_good ha hv
      have hle := decodeL_le a ha
      have hw := decodeL_width a
      have hd := decodeL_app (b := b) ha hg
      rw [fixU_step (show a ++ b ≠ [] by simp [ha]), fixU_step ha, put_app b ha hg h13, hd, List.drop_append_of_le_length hle]
      rw [fix_join n (a.drop (decodeL a).2) b (by rw [List.length_drop]; omega) (by rw [← validD_step ha hg]; exact hv) ?_, List.append_assoc]
      rw [List.getLast?_drop]
      split
      · simp
      · exact h13

theorem valid_app : ∀ (n : Nat) (a b : List UInt8), a.length ≤ n → validD a = true → validD (a ++ b) = validD b
  | 0, a, b, hn, _ => by
    obtain rfl : a = [] := List.eq_nil_of_length_eq_zero (by omega)
    rfl
  | n + 1, a, b, hn, hv => by
    by_cases ha : a = []
    · subst ha; rfl
    · have hg := valid_good ha hv
      have hle := decodeL_le a ha
      have hw := decodeL_width a
      have hd := decodeL_app (b := b) ha hg
      have hg' : ¬ BadL (a ++ b) := by unfold BadL; rw [hd]; exact hg
      rw [validD_step (show a ++ b ≠ [] by simp [ha]) hg', hd, List.drop_append_of_le_length hle, valid_app n (a.drop (decodeL a).2) b (by rw [List.length_drop]; omega) (by rw [← validD_step ha hg]; exact hv)]

def PlainL (l : List UInt8) : Prop := ∀ x ∈ l, x ≠ 0 ∧ x ≠ 13
theorem getD_mem {l : List UInt8} (hl : l ≠ []) : l.getD 0 0 ∈ l := by
  cases l with
  | nil => exact absurd rfl hl
  | cons x t => simp
theorem plain_fix : ∀ (n : Nat) (l : List UInt8), l.length ≤ n → validD l = true → PlainL l → fixU l = l
  | 0, l, hn, _, _ => by
    obtain rfl : l = [] := List.eq_nil_of_length_eq_zero (by omega)
    rfl
  | n + 1, l, hn, hv, hp => by
    by_cases hl : l = []
    · subst hl; rfl
    · have hg := valid_good hl hv
      have hw := decodeL_width l
      have h0 := hp _ (getD_mem hl)
      rw [fixU_step hl, plain_fix n (l.drop (decodeL l).2) (by rw [List.length_drop]; omega) (by rw [← validD_step hl hg]; exact hv) (fun x hx => hp x (List.mem_of_mem_drop hx))]
      have hput : putOf l = l.take (decodeL l).2 := by
        unfold putOf
        rw [rightL_good hg, if_neg (by intro h; rcases h with h | h; omega; exact h0.1 h), if_neg h0.2]
      rw [hput, List.take_append_drop]

theorem big_ne {x : UInt8} (h : 128 ≤ x.toNat) : x ≠ 0 ∧ x ≠ 13 := by
  constructor <;> (intro e; rw [e] at h; revert h; decide)
theorem put_plain {l : List UInt8} (hl : l ≠ []) : validD (putOf l) = true ∧ PlainL (putOf l) := by
  have ho : validD odd = true ∧ PlainL odd := ⟨by decide +kernel, by unfold PlainL odd; intro x hx; simp at hx; rcases hx with rfl | rfl | rfl <;> decide⟩
  unfold putOf
  split
  · exact ho
  split
  · split
    · exact ⟨by decide +kernel, by unfold PlainL; intro x hx; simp at hx; rw [hx]; decide⟩
    · exact ⟨rfl, by unfold PlainL; intro x hx; simp at hx⟩
  · rename_i h1 h2
    have hg : ¬ BadL l := good_of_right fun h => h1 (.inl h)
    have hle := decodeL_le l hl
    have hw := decodeL_width l
    have hpos := List.length_pos_iff.2 hl
    rw [rightL_good hg]
    have ht : decodeL (l.take (decodeL l).2) = decodeL l := decodeL_take (Nat.le_refl _) hle
    have htn : l.take (decodeL l).2 ≠ [] := by
      intro e
      have := congrArg List.length e
      rw [List.length_take, List.length_nil] at this
      omega
    constructor
    · have hg' : ¬ BadL (l.take (decodeL l).2) := by unfold BadL; rw [ht]; exact hg
      rw [validD_step htn hg', ht, List.drop_of_length_le (by rw [List.length_take]; omega)]
      rfl
    · have hg2 := hg
      unfold BadL at hg2
      rw [decodeL_N] at hg2 ⊢
      rcases decodeN_shape l.length (l.getD 0 0).toNat (l.getD 1 0).toNat (l.getD 2 0).toNat (l.getD 3 0).toNat with ⟨c, e⟩ | ⟨c1, c2, c3, cv, e⟩ | ⟨c1, c2, c3, c4, cv, cs, e⟩ | ⟨c1, c2, c3, c4, c5, cv, cw, e⟩ | e
      · rw [e]
        dsimp only
        rw [takeA l hpos]
        intro x hx
        simp only [List.mem_singleton] at hx
        rw [hx]
        exact ⟨fun h => h1 (.inr h), h2⟩
      · rw [e]
        dsimp only
        rw [takeB l c2]
        intro x hx
        simp only [List.mem_cons, List.not_mem_nil, or_false] at hx
        rcases hx with rfl | rfl <;> exact big_ne (by omega)
      · rw [e]
        dsimp only
        rw [takeC l c2]
        intro x hx
        simp only [List.mem_cons, List.not_mem_nil, or_false] at hx
        rcases hx with rfl | rfl | rfl <;> exact big_ne (by omega)
      · rw [e]
        dsimp only
        rw [takeD l c2]
        intro x hx
        simp only [List.mem_cons, List.not_mem_nil, or_false] at hx
        rcases hx with rfl | rfl | rfl | rfl <;> exact big_ne (by omega)
      · rw [e] at hg2
        exact absurd ⟨rfl, rfl⟩ hg2
theorem fix_plain : ∀ (n : Nat) (l : List UInt8), l.length ≤ n → validD (fixU l) = true ∧ PlainL (fixU l)
  | 0, l, hn => by
    obtain rfl : l = [] := List.eq_nil_of_length_eq_zero (by omega)
    exact ⟨rfl, fun x hx => by simp [fixU_nil] at hx⟩
  | n + 1, l, hn => by
    by_cases hl : l = []
    · subst hl; exact ⟨rfl, fun x hx => by simp [fixU_nil] at hx⟩
    · have hw := decodeL_width l
      have ih := fix_plain n (l.drop (decodeL l).2) (by rw [List.length_drop]; omega)
      have hp := put_plain hl
      rw [fixU_step hl]
      refine ⟨by rw [valid_app _ _ _ (Nat.le_refl _) hp.1]; exact ih.1, fun x hx => ?_⟩
      rcases List.mem_append.1 hx with h | h
      · exact hp.2 x h
      · exact ih.2 x h
theorem fix_twice (l : List UInt8) : fixU (fixU l) = fixU l := plain_fix _ _ (Nat.le_refl _) (fix_plain _ l (Nat.le_refl _)).1 (fix_plain _ l (Nat.le_refl _)).2
/-- A fixed text has at most three times as many bytes. -/
theorem put_len (l : List UInt8) : (putOf l).length ≤ 3 * (decodeL l).2 := by
  have hw := decodeL_width l
  unfold putOf odd
  split
  · simp; omega
  split
  · split <;> simp; omega
  · rename_i h1 _
    rw [rightL_good (good_of_right fun h => h1 (.inl h)), List.length_take]
    omega
theorem fix_len : ∀ (n : Nat) (l : List UInt8), l.length ≤ n → (fixU l).length ≤ 3 * l.length
  | 0, l, hn => by
    obtain rfl : l = [] := List.eq_nil_of_length_eq_zero (by omega)
    simp [fixU_nil]
  | n + 1, l, hn => by
    by_cases hl : l = []
    · subst hl; simp [fixU_nil]
    · have hw := decodeL_width l
      have hle := decodeL_le l hl
      have ih := fix_len n (l.drop (decodeL l).2) (by rw [List.length_drop]; omega)
      have hp := put_len l
      rw [fixU_step hl, List.length_append]
      rw [List.length_drop] at ih
      omega
/-- The reference's Valid, by steps. -/
theorem valid_right0 {l : List UInt8} (hl : l ≠ []) (h : rightL l = 0) : validD l = false := validD_bad hl (by
  refine Classical.byContradiction fun hg => ?_
  have := decodeL_width l
  rw [rightL_good hg] at h
  omega)
theorem valid_rightN {l : List UInt8} (hl : l ≠ []) (h : rightL l ≠ 0) : validD l = validD (l.drop (rightL l)) := by
  rw [rightL_good (good_of_right h)]
  exact validD_step hl (good_of_right h)
end Go.Proofs.YteijpcjhecmamaaDoor.Uf
