/-
  Texts of the proof of Chain, one behind the other: UrlA, UrlB, UrlC, SafA.
-/
import Derived.Test.YtlgaeeedkihfpaaGreatDoorC27
import Derived.Test.YtlgaeeedkihfpaaGreatDoorC09
/-
  url.Bare.
-/
namespace Go.Proofs.YtlgaeeedkihfpaaGreatDoor.Uf
open Go.RowKit
open Tz (B lowSp bareU)

theorem rtrim_snoc (p : UInt8 → Bool) (l : B) (c : UInt8) : rtrim p (l ++ [c]) = if p c = true then rtrim p l else l ++ [c] := by
  unfold rtrim
  rw [List.reverse_append]
  simp only [List.reverse_cons, List.reverse_nil, List.nil_append, List.singleton_append, List.dropWhile_cons]
  by_cases h : p c = true
  · simp [h]
  · simp [h]
def keepU (c : UInt8) : Bool := c != 9 && c != 10 && c != 13
theorem bareU_eq (s : B) : bareU s = (rtrim lowSp (s.dropWhile lowSp)).filter keepU := rfl
theorem keepU_x {c : UInt8} {x : Nat} (h : x = c.toNat) : keepU c = (decide (x ≠ 9) && decide (x ≠ 10) && decide (x ≠ 13)) := by
  have e : ∀ n : UInt8, (c != n) = decide (x ≠ n.toNat) := fun n => by
    by_cases hc : c = n
    · subst hc; simp [h]
    · have : x ≠ n.toNat := fun e => hc (UInt8.toNat_inj.1 (by rw [← h, e]))
      simp [hc, this]
  unfold keepU
  rw [e 9, e 10, e 13]
  rfl
theorem low32 {c : UInt8} {x : Nat} (h : x = c.toNat) : lowSp c = decide (x ≤ 32) := by rw [h]; rfl

set_option maxRecDepth 100000 in
set_option maxHeartbeats 4000000 in
theorem bareu_u {w : World} (l : B) (hl : l.length ≤ 600000000) : Calls Tryz.prog 111 #[.string (bs l)] w fun e w' => e = .returned (.string (bs (bareU l))) ∧ Below w.heap.size w w' := by
  obtain ⟨R, hR⟩ : ∃ R, R = bareU l := ⟨_, rfl⟩
  rw [← hR]
  rw [bareU_eq] at hR
  go_enter Tryz.func111, Tryz.ntmps111
  go_wp2_with fail
  go_step3
  apply wp_seq_k
  intro K1 hK1
  have hmid1 : ∀ (u5 u6 u7 u8 u9 u10 u11 u12 u13 : Value) (t : B), R = (rtrim lowSp t).filter keepU → t.length ≤ l.length → K1 ⟨#[.string (bs t), undef, .string ⟨#[]⟩, undef, undef, u5, u6, u7, u8, u9, u10, u11, u12, u13, undef, undef, undef, undef, undef, undef, undef, undef, undef, undef, undef, undef, undef, undef, undef, undef, undef, undef, undef, undef, undef, undef, undef, undef, undef, undef, undef, undef, undef, undef, undef, undef, undef], []⟩ w := by
    intro u5 u6 u7 u8 u9 u10 u11 u12 u13 t hR1 htl1
    refine hK1 _ _ ?_
    clear hK1 K1 hR
    apply wp_seq_k
    intro K2 hK2
    have hmid2 : ∀ (u5 u6 u7 u8 u9 u10 u11 u12 u13 u14 u15 u16 u17 u18 u19 u20 u21 u22 u23 u24 u25 u26 u27 u28 : Value) (t : B), R = t.filter keepU → t.length ≤ l.length → K2 ⟨#[.string (bs t), undef, .string ⟨#[]⟩, undef, undef, u5, u6, u7, u8, u9, u10, u11, u12, u13, u14, u15, u16, u17, u18, u19, u20, u21, u22, u23, u24, u25, u26, u27, u28, undef, undef, undef, undef, undef, undef, undef, undef, undef, undef, undef, undef, undef, undef, undef, undef, undef, undef], []⟩ w := by
      intro u5 u6 u7 u8 u9 u10 u11 u12 u13 u14 u15 u16 u17 u18 u19 u20 u21 u22 u23 u24 u25 u26 u27 u28 t hR2 htl2
      refine hK2 _ _ ?_
      clear hK2 K2 hR1 htl1
      obtain ⟨hI0, hb0⟩ : Bw w.heap.size w.heap.size [] (w.alloc (.cells #[.pointer none, .slice none 0 0] 84)) ∧ Below w.heap.size w (w.alloc (.cells #[.pointer none, .slice none 0 0] 84)) := ⟨bw_new w, (Below.refl _ w).alloc (Nat.le_refl _) _⟩
      have hs0 : w.heap.size < (w.alloc (.cells #[.pointer none, .slice none 0 0] 84)).heap.size := by rw [alloc_size]; omega
      go_wp2_with fail
      go_step3
      go_wp2_with fail
      go_loopw [31] (fun vi wr => ∃ k : Nat, vi = .int .i64 k ∧ Bw w.heap.size w.heap.size ((t.take k).filter keepU) wr ∧ Below w.heap.size w wr ∧ w.heap.size < wr.heap.size ∧ k ≤ t.length) (fun vi _ => t.length - kOf vi)
      case atStart => exact ⟨0, rfl, hI0, hb0, hs0, Nat.zero_le _⟩
      case round =>
        obtain ⟨k, rfl, hI, hbw, hsz, hk⟩ := hrel
        by_cases hlt : k < t.length
        · have t0 : (k : Int) < ((bs t).size : Int) := by rw [bs_size]; omega
          have t1 : k < (bs t).size := by rw [bs_size]; omega
          obtain ⟨c, hc⟩ : ∃ c, c = t[k] := ⟨_, rfl⟩
          have hb0 : ((bs t)[k]'t1).toNat = c.toNat := by rw [hc]; rfl
          have hst : t.take (k + 1) = t.take k ++ [c] := by rw [List.take_add_one, List.getElem?_eq_getElem hlt, hc]; rfl
          have hx256 : c.toNat < 256 := c.toNat_lt
          obtain ⟨x, hx⟩ : ∃ x, x = c.toNat := ⟨_, rfl⟩
          rw [← hx] at hb0 hx256
          have Hx := Lib.hid hx
          have hi1 : IntKind.i64.wrap ((k : Int) + 1) = ((k + 1 : Nat) : Int) := by rw [IntKind.wrap_i64]; omega
          clear hx hc
          by_cases hx9 : x = 9
          · skip
            have e9 : ((x : Int) == 9) = true := by simp; omega
            have Hst := Lib.hid (show (t.take (k + 1)).filter keepU = (t.take k).filter keepU by rw [hst, List.filter_append]; simp [keepU_x Hx.out, hx9])
            clear hst
            go_wp2_with fail
            go_roundw
            case rel => exact ⟨k + 1, rfl, by rw [Hst.out]; exact hI, hbw, hsz, hlt⟩
            case measure =>
              show t.length - kOf (.int .i64 ((k + 1 : Nat) : Int)) < t.length - kOf (.int .i64 (k : Int))
              simp only [kOf, Int.toNat_natCast]
              omega
          by_cases hx10 : x = 10
          · have f9 : ((x : Int) == 9) = false := by simp; omega
            have e9 : ((x : Int) == 10) = true := by simp; omega
            have Hst := Lib.hid (show (t.take (k + 1)).filter keepU = (t.take k).filter keepU by rw [hst, List.filter_append]; simp [keepU_x Hx.out, hx10])
            clear hst
            go_wp2_with fail
            go_roundw
            case rel => exact ⟨k + 1, rfl, by rw [Hst.out]; exact hI, hbw, hsz, hlt⟩
            case measure =>
              show t.length - kOf (.int .i64 ((k + 1 : Nat) : Int)) < t.length - kOf (.int .i64 (k : Int))
              simp only [kOf, Int.toNat_natCast]
              omega
          by_cases hx13 : x = 13
          · have f9 : ((x : Int) == 9) = false := by simp; omega
            have f10 : ((x : Int) == 10) = false := by simp; omega
            have e9 : ((x : Int) == 13) = true := by simp; omega
            have Hst := Lib.hid (show (t.take (k + 1)).filter keepU = (t.take k).filter keepU by rw [hst, List.filter_append]; simp [keepU_x Hx.out, hx13])
            clear hst
            go_wp2_with fail
            go_roundw
            case rel => exact ⟨k + 1, rfl, by rw [Hst.out]; exact hI, hbw, hsz, hlt⟩
            case measure =>
              show t.length - kOf (.int .i64 ((k + 1 : Nat) : Int)) < t.length - kOf (.int .i64 (k : Int))
              simp only [kOf, Int.toNat_natCast]
              omega
          have f9 : ((x : Int) == 9) = false := by simp; omega
          have f10 : ((x : Int) == 10) = false := by simp; omega
          have f13 : ((x : Int) == 13) = false := by simp; omega
          have hof : UInt8.ofNat x = c := by rw [Hx.out]; simp
          have hfl : ((t.take k).filter keepU).length ≤ t.length := Nat.le_trans (List.length_filter_le _ _) (by rw [List.length_take]; omega)
          have Hst := Lib.hid (show (t.take (k + 1)).filter keepU = (t.take k).filter keepU ++ [UInt8.ofNat x] by rw [hst, List.filter_append, hof]; simp [keepU_x Hx.out, hx9, hx10, hx13])
          clear hst
          go_wp2_with fail
          refine (wr_byte x hx256 hI (by omega) (by omega)).mono ?_
          rintro e5 w5 ⟨rfl, hI5, hb5, _⟩
          have hz5 := hb5.size
          go_wp2_with fail
          go_roundw
          case rel => exact ⟨k + 1, rfl, by rw [Hst.out]; exact hI5, hbw.trans hb5, by omega, hlt⟩
          case measure =>
            show t.length - kOf (.int .i64 ((k + 1 : Nat) : Int)) < t.length - kOf (.int .i64 (k : Int))
            simp only [kOf, Int.toNat_natCast]
            omega
        · have t0 : ¬ ((k : Int) < ((bs t).size : Int)) := by rw [bs_size]; omega
          have ht : t.take k = t := List.take_of_length_le (by omega)
          rw [ht, ← hR2] at hI
          go_wp2_with fail
          refine (bw_str hI (by omega)).mono ?_
          rintro e6 w6 ⟨rfl, _, hb6, _⟩
          go_wp2_with fail
          rw [Exit.noGoto_ret]
          go_ret
          exact ⟨by rw [hR2]; rfl, hbw.trans hb6⟩
    clear hK2
    go_wp2_with fail
    go_loopw [0] (fun v wr => ∃ t : B, v = .string (bs t) ∧ wr = w ∧ Hid (R = (rtrim lowSp t).filter keepU) ∧ t.length ≤ l.length) (fun v _ => (strOf v).length)
    case atStart => exact ⟨t, rfl, rfl, Lib.hid hR1, htl1⟩
    case round =>
      clear hR1 htl1 t
      obtain ⟨t, rfl, rfl, Ht, htl⟩ := hrel
      by_cases h0 : t = []
      · subst h0
        have e0 : (([] : B) == ([] : B)) = true := rfl
        go_wp2_with fail
        exact hmid2 _ _ _ _ _ _ _ _ _ _ _ _ _ _ _ _ _ _ _ _ _ _ _ _ [] (by rw [Ht.out]; rfl) htl
      · obtain ⟨r, c, rfl⟩ : ∃ r c, t = r ++ [c] := ⟨t.dropLast, t.getLast h0, (List.dropLast_concat_getLast h0).symm⟩
        have e0 : (r ++ [c] == ([] : B)) = false := by simp
        have q4 : (r.length : Int) < ((bs (r ++ [c])).size : Int) := by rw [bs_size]; simp; omega
        have q5 : r.length < (bs (r ++ [c])).size := by rw [bs_size]; simp
        have hwz : IntKind.i64.wrap (((bs (r ++ [c])).size : Int) - 1) = (r.length : Int) := by rw [IntKind.wrap_i64, bs_size]; simp at htl ⊢; omega
        obtain ⟨x, hx⟩ : ∃ x, x = c.toNat := ⟨_, rfl⟩
        have y0 : ((bs (r ++ [c]))[r.length]'q5).toNat = x := by
          rw [hx]
          have : (r ++ [c])[r.length]'(by simp) = c := by simp
          exact congrArg UInt8.toNat this
        by_cases h32 : x ≤ 32
        · have z0 : (x : Int) ≤ 32 := by omega
          have ex4 : (bs (r ++ [c])).extract 0 r.length = bs r := by rw [bs_upto]; simp
          have q6 : (r.length : Int) ≤ ((bs (r ++ [c])).size : Int) := by omega
          have Hn := Lib.hid (show R = (rtrim lowSp r).filter keepU by rw [Ht.out, rtrim_snoc, low32 hx]; simp [h32])
          clear hx Ht
          go_wp2_with fail
          go_roundw
          case rel => exact ⟨r, rfl, trivial, Hn, by simp at htl; omega⟩
          case measure => simp [strOf]
        · have z0 : ¬ ((x : Int) ≤ 32) := by omega
          have Hn := Lib.hid (show R = (r ++ [c]).filter keepU by rw [Ht.out, rtrim_snoc, low32 hx]; simp [h32])
          clear hx Ht
          go_wp2_with fail
          exact hmid2 _ _ _ _ _ _ _ _ _ _ _ _ _ _ _ _ _ _ _ _ _ _ _ _ (r ++ [c]) Hn.out htl
  clear hK1
  go_wp2_with fail
  go_loopw [0] (fun v wr => ∃ t : B, v = .string (bs t) ∧ wr = w ∧ Hid (t.dropWhile lowSp = l.dropWhile lowSp) ∧ t.length ≤ l.length) (fun v _ => (strOf v).length)
  case atStart => exact ⟨l, rfl, rfl, Lib.hid rfl, Nat.le_refl _⟩
  case round =>
    obtain ⟨t, rfl, rfl, Ht, htl⟩ := hrel
    cases t with
    | nil =>
      have e0 : (([] : B) == ([] : B)) = true := rfl
      have HR2 := Lib.hid (show R = (rtrim lowSp []).filter keepU by rw [hR, ← Ht.out]; rfl)
      clear Ht hR
      go_wp2_with fail
      exact hmid1 _ _ _ _ _ _ _ _ _ [] HR2.out htl
    | cons c r =>
      have e0 : (c :: r == ([] : B)) = false := rfl
      have q2 : (0 : Int) < ((bs (c :: r)).size : Int) := by rw [bs_size]; simp only [List.length_cons]; omega
      have q3 : 0 < (bs (c :: r)).size := by rw [bs_size]; simp
      obtain ⟨x, hx⟩ : ∃ x, x = c.toNat := ⟨_, rfl⟩
      have y0 : ((bs (c :: r))[0]'q3).toNat = x := by rw [hx]; rfl
      by_cases h32 : x ≤ 32
      · have z0 : (x : Int) ≤ 32 := by omega
        have ex4 : (bs (c :: r)).extract 1 (bs (c :: r)).size = bs r := by rw [bs_from]; rfl
        have q4 : (1 : Int) ≤ ((bs (c :: r)).size : Int) := by rw [bs_size]; simp only [List.length_cons]; omega
        have Hn := Lib.hid (show r.dropWhile lowSp = l.dropWhile lowSp by rw [← Ht.out, List.dropWhile_cons, low32 hx]; simp [h32])
        clear hx Ht
        go_wp2_with fail
        go_roundw
        case rel => exact ⟨r, rfl, trivial, Hn, by simp at htl; omega⟩
        case measure => simp [strOf]
      · have z0 : ¬ ((x : Int) ≤ 32) := by omega
        have Hn := Lib.hid (show R = (rtrim lowSp (c :: r)).filter keepU by rw [hR, ← Ht.out, List.dropWhile_cons, low32 hx]; simp [h32])
        clear hx Ht hR
        go_wp2_with fail
        exact hmid1 _ _ _ _ _ _ _ _ _ (c :: r) Hn.out htl
end Go.Proofs.YtlgaeeedkihfpaaGreatDoor.Uf

/-
  url.Scheme.
-/
namespace Go.Proofs.YtlgaeeedkihfpaaGreatDoor.Uf
open Go.RowKit
open Tz (B bareU schemeG schemeU smallB)

def midU (c : UInt8) : Bool := (decide (48 ≤ c.toNat) && decide (c.toNat ≤ 57)) || c == 43 || c == 45 || c == 46
theorem schemeG_cons (c : UInt8) (s acc : B) : schemeG (c :: s) acc = if smallB c = true then schemeG s (acc ++ [c]) else if acc = [] then none else if c = 58 then some acc else if midU c = true then schemeG s (acc ++ [c]) else none := rfl
theorem ceq {c : UInt8} {x : Nat} (h : x = c.toNat) (n : UInt8) : (c == n) = decide (x = n.toNat) := by
  by_cases hc : c = n
  · subst hc; simp [h]
  · have : x ≠ n.toNat := fun e => hc (UInt8.toNat_inj.1 (by rw [← h, e]))
    simp [hc, this]
theorem midU_x {c : UInt8} {x : Nat} (h : x = c.toNat) : midU c = ((decide (48 ≤ x) && decide (x ≤ 57)) || decide (x = 43) || decide (x = 45) || decide (x = 46)) := by
  unfold midU
  rw [ceq h 43, ceq h 45, ceq h 46, h]
  rfl
theorem small_x {c : UInt8} {x : Nat} (h : x = c.toNat) (h1 : 97 ≤ x) (h2 : x ≤ 122) : smallB c = true := by unfold smallB; rw [← h]; simp [h1, h2]
theorem small_not {c : UInt8} {x : Nat} (h : x = c.toNat) (h1 : ¬ (97 ≤ x ∧ x ≤ 122)) : smallB c = false := by unfold smallB; rw [← h]; simp; omega
theorem mid_yes {c : UInt8} {x : Nat} (h : x = c.toNat) (h1 : (48 ≤ x ∧ x ≤ 57) ∨ x = 43 ∨ x = 45 ∨ x = 46) : midU c = true := by rw [midU_x h]; simp; omega
theorem mid_no {c : UInt8} {x : Nat} (h : x = c.toNat) (h1 : ¬ ((48 ≤ x ∧ x ≤ 57) ∨ x = 43 ∨ x = 45 ∨ x = 46)) : midU c = false := by rw [midU_x h]; simp; omega
theorem h58x {c : UInt8} {x : Nat} (h : x = c.toNat) (h1 : x ≠ 58) : c ≠ 58 := fun e => h1 (by rw [h, e]; rfl)
theorem mid_not {c : UInt8} {x : Nat} (h : x = c.toNat) (h1 : ¬ ((48 ≤ x ∧ x ≤ 58) ∨ x = 43 ∨ x = 45 ∨ x = 46)) : c ≠ 58 ∧ midU c = false := ⟨h58x h (by omega), mid_no h (by omega)⟩
theorem scheme_go {c : UInt8} {s acc : B} (h : smallB c = true ∨ (acc ≠ [] ∧ c ≠ 58 ∧ midU c = true)) : schemeG (c :: s) acc = schemeG s (acc ++ [c]) := by
  rw [schemeG_cons]
  rcases h with h | ⟨h1, h2, h3⟩
  · rw [if_pos h]
  · by_cases hs : smallB c = true
    · rw [if_pos hs]
    · rw [if_neg hs, if_neg h1, if_neg h2, if_pos h3]
theorem scheme_no {c : UInt8} {s acc : B} (h : smallB c = false) (h1 : acc = [] ∨ (c ≠ 58 ∧ midU c = false)) : schemeG (c :: s) acc = none := by
  rw [schemeG_cons, if_neg (by rw [h]; simp)]
  by_cases ha : acc = []
  · rw [if_pos ha]
  · rcases h1 with h1 | ⟨h2, h3⟩
    · exact absurd h1 ha
    · rw [if_neg ha, if_neg h2, if_neg (by rw [h3]; simp)]
theorem scheme_yes {c : UInt8} {s acc : B} (h : smallB c = false) (h1 : acc ≠ []) (h2 : c = 58) : schemeG (c :: s) acc = some acc := by
  rw [schemeG_cons, if_neg (by rw [h]; simp), if_neg h1, if_pos h2]
def SchR (w : World) (r : Option B) (e : Ending) (w' : World) : Prop := (match r with | some x => e = .returned (.tuple #[.string (bs x), .bool true]) | none => e = .returned (.tuple #[.string (bs []), .bool false])) ∧ Below w.heap.size w w'
theorem take_ne {t : B} {k : Nat} (h : k ≠ 0) (hlt : k < t.length) : t.take k ≠ [] := by
  intro e
  have := congrArg List.length e
  rw [List.length_take, List.length_nil] at this
  omega
theorem bareU_len (l : B) : (bareU l).length ≤ l.length := by
  rw [bareU_eq]
  refine Nat.le_trans (List.length_filter_le _ _) ?_
  unfold rtrim
  have h1 := dropW_le Tz.lowSp l
  have h2 := dropW_le Tz.lowSp ((l.dropWhile Tz.lowSp).reverse)
  simp only [List.length_reverse] at h2 ⊢
  omega

set_option maxRecDepth 100000 in
set_option maxHeartbeats 4000000 in
theorem scheme_u {w : World} (l : B) (hl : l.length ≤ 600000000) : Calls Tryz.prog 110 #[.string (bs l)] w (SchR w (schemeU l)) := by
  obtain ⟨R, hR⟩ : ∃ R, R = schemeU l := ⟨_, rfl⟩
  rw [← hR]
  have hbl := bareU_len l
  go_enter Tryz.func110, Tryz.ntmps110
  go_wp2_with fail
  refine (bareu_u l hl).mono ?_
  rintro e1 w1 ⟨rfl, hb1⟩
  go_wp2_with fail
  refine (lower_b (bareU l) (by omega)).mono ?_
  rintro e2 w2 ⟨rfl, hb2⟩
  have hb := hb1.trans (hb2.mono hb1.size)
  have htl : (Tz.lowL (bareU l)).length ≤ 600000000 := by rw [low_len]; omega
  have HR : Hid (R = schemeG (Tz.lowL (bareU l)) []) := Lib.hid hR
  clear hb1 hb2 hR hbl
  generalize Tz.lowL (bareU l) = t at HR htl ⊢
  go_wp2_with fail
  go_loopw [12] (fun vi wr => ∃ k : Nat, vi = .int .i64 k ∧ k ≤ t.length ∧ wr = w2 ∧ Hid (schemeG (t.drop k) (t.take k) = schemeG t [])) (fun vi _ => t.length - kOf vi)
  case atStart => exact ⟨0, rfl, Nat.zero_le _, rfl, Lib.hid rfl⟩
  case round =>
    obtain ⟨k, rfl, hk, rfl, Hk⟩ := hrel
    by_cases hlt : k < t.length
    · have t0 : (k : Int) < ((bs t).size : Int) := by rw [bs_size]; omega
      have t1 : k < (bs t).size := by rw [bs_size]; omega
      obtain ⟨c, hc⟩ : ∃ c, c = t[k] := ⟨_, rfl⟩
      have hdc : t.drop k = c :: t.drop (k + 1) := hc ▸ List.drop_eq_getElem_cons hlt
      have hst : t.take (k + 1) = t.take k ++ [c] := by rw [List.take_add_one, List.getElem?_eq_getElem hlt, hc]; rfl
      have hb0 : ((bs t)[k]'t1).toNat = c.toNat := by rw [hc]; rfl
      obtain ⟨x, hx⟩ : ∃ x, x = c.toNat := ⟨_, rfl⟩
      rw [← hx] at hb0
      have Hx := Lib.hid hx
      have Hdc := Lib.hid (And.intro hdc hst)
      have hi1 : IntKind.i64.wrap ((k : Int) + 1) = ((k + 1 : Nat) : Int) := by rw [IntKind.wrap_i64]; omega
      clear hx hdc hc hst
      · skip
        by_cases a1 : (97 : Int) ≤ (x : Int)
        · by_cases a2 : (x : Int) ≤ 122
          · skip
            have Hst := Lib.hid (show schemeG (t.drop (k + 1)) (t.take (k + 1)) = schemeG t [] by rw [← Hk.out, Hdc.out.1, Hdc.out.2]; exact (scheme_go (.inl (small_x Hx.out (by omega) (by omega)))).symm)
            go_wp2_with fail
            go_roundw
            case rel => exact ⟨k + 1, rfl, hlt, trivial, Hst⟩
            case measure =>
              show t.length - kOf (.int .i64 ((k + 1 : Nat) : Int)) < t.length - kOf (.int .i64 (k : Int))
              simp only [kOf, Int.toNat_natCast]
              omega
          · by_cases hk0 : k = 0
            · skip
              subst hk0
              have t0 : (0 : Int) < ((bs t).size : Int) := by rw [bs_size]; omega
              have Hst := Lib.hid (show R = none by rw [HR.out, ← Hk.out, Hdc.out.1]; exact scheme_no (small_not Hx.out (by omega)) (.inl rfl))
              go_wp2_with fail
              first | rw [Exit.noGoto_ret] | skip
              refine bodyPost_ret (results_tmp2 rfl _ _ _) rfl ?_
              unfold SchR
              rw [Hst.out]
              exact ⟨rfl, hb⟩
            · skip
              have kz : ((k : Int) == 0) = false := by simp; omega
              have g58 : ((x : Int) == 58) = false := by simp; omega
              have g43 : ((x : Int) == 43) = false := by simp; omega
              have g45 : ((x : Int) == 45) = false := by simp; omega
              have g46 : ((x : Int) == 46) = false := by simp; omega
              have b2 : (48 : Int) ≤ (x : Int) := by omega
              have b1 : ¬ ((x : Int) ≤ 57) := by omega
              have Hst := Lib.hid (show R = none by rw [HR.out, ← Hk.out, Hdc.out.1]; exact scheme_no (small_not Hx.out (by omega)) (.inr (mid_not Hx.out (by omega))))
              go_wp2_with fail
              first | rw [Exit.noGoto_ret] | skip
              refine bodyPost_ret (results_tmp2 rfl _ _ _) rfl ?_
              unfold SchR
              rw [Hst.out]
              exact ⟨rfl, hb⟩
        · by_cases hk0 : k = 0
          · skip
            subst hk0
            have t0 : (0 : Int) < ((bs t).size : Int) := by rw [bs_size]; omega
            have Hst := Lib.hid (show R = none by rw [HR.out, ← Hk.out, Hdc.out.1]; exact scheme_no (small_not Hx.out (by omega)) (.inl rfl))
            go_wp2_with fail
            first | rw [Exit.noGoto_ret] | skip
            refine bodyPost_ret (results_tmp2 rfl _ _ _) rfl ?_
            unfold SchR
            rw [Hst.out]
            exact ⟨rfl, hb⟩
          by_cases h58 : x = 58
          · skip
            have kz : ((k : Int) == 0) = false := by simp; omega
            have g58 : ((x : Int) == 58) = true := by simp; omega
            have Hst := Lib.hid (show R = some (t.take k) by rw [HR.out, ← Hk.out, Hdc.out.1]; exact scheme_yes (small_not Hx.out (by omega)) (take_ne hk0 hlt) (by apply UInt8.toNat_inj.1; rw [← Hx.out, h58]; rfl))
            have ex1 : (bs t).extract 0 k = bs (t.take k) := bs_upto _ _
            have q6 : (k : Int) ≤ ((bs t).size : Int) := by omega
            go_wp2_with fail
            first | rw [Exit.noGoto_ret] | skip
            refine bodyPost_ret (results_tmp2 rfl _ _ _) rfl ?_
            unfold SchR
            rw [Hst.out]
            exact ⟨rfl, hb⟩
          · skip
            have kz : ((k : Int) == 0) = false := by simp; omega
            have g58 : ((x : Int) == 58) = false := by simp; omega
            by_cases b2 : (48 : Int) ≤ (x : Int)
            · by_cases b1 : (x : Int) ≤ 57
              · skip
                have Hst := Lib.hid (show schemeG (t.drop (k + 1)) (t.take (k + 1)) = schemeG t [] by rw [← Hk.out, Hdc.out.1, Hdc.out.2]; exact (scheme_go (.inr ⟨take_ne hk0 hlt, h58x Hx.out h58, mid_yes Hx.out (by omega)⟩)).symm)
                go_wp2_with fail
                go_roundw
                case rel => exact ⟨k + 1, rfl, hlt, trivial, Hst⟩
                case measure =>
                  show t.length - kOf (.int .i64 ((k + 1 : Nat) : Int)) < t.length - kOf (.int .i64 (k : Int))
                  simp only [kOf, Int.toNat_natCast]
                  omega
              · skip
                have g43 : ((x : Int) == 43) = false := by simp; omega
                have g45 : ((x : Int) == 45) = false := by simp; omega
                have g46 : ((x : Int) == 46) = false := by simp; omega
                have Hst := Lib.hid (show R = none by rw [HR.out, ← Hk.out, Hdc.out.1]; exact scheme_no (small_not Hx.out (by omega)) (.inr (mid_not Hx.out (by omega))))
                go_wp2_with fail
                first | rw [Exit.noGoto_ret] | skip
                refine bodyPost_ret (results_tmp2 rfl _ _ _) rfl ?_
                unfold SchR
                rw [Hst.out]
                exact ⟨rfl, hb⟩
            · by_cases h43 : x = 43
              · have g43 : ((x : Int) == 43) = true := by simp; omega
                have Hst := Lib.hid (show schemeG (t.drop (k + 1)) (t.take (k + 1)) = schemeG t [] by rw [← Hk.out, Hdc.out.1, Hdc.out.2]; exact (scheme_go (.inr ⟨take_ne hk0 hlt, h58x Hx.out h58, mid_yes Hx.out (by omega)⟩)).symm)
                go_wp2_with fail
                go_roundw
                case rel => exact ⟨k + 1, rfl, hlt, trivial, Hst⟩
                case measure =>
                  show t.length - kOf (.int .i64 ((k + 1 : Nat) : Int)) < t.length - kOf (.int .i64 (k : Int))
                  simp only [kOf, Int.toNat_natCast]
                  omega
              by_cases h45 : x = 45
              · have g45 : ((x : Int) == 45) = true := by simp; omega
                have g43 : ((x : Int) == 43) = false := by simp; omega
                have Hst := Lib.hid (show schemeG (t.drop (k + 1)) (t.take (k + 1)) = schemeG t [] by rw [← Hk.out, Hdc.out.1, Hdc.out.2]; exact (scheme_go (.inr ⟨take_ne hk0 hlt, h58x Hx.out h58, mid_yes Hx.out (by omega)⟩)).symm)
                go_wp2_with fail
                go_roundw
                case rel => exact ⟨k + 1, rfl, hlt, trivial, Hst⟩
                case measure =>
                  show t.length - kOf (.int .i64 ((k + 1 : Nat) : Int)) < t.length - kOf (.int .i64 (k : Int))
                  simp only [kOf, Int.toNat_natCast]
                  omega
              by_cases h46 : x = 46
              · have g46 : ((x : Int) == 46) = true := by simp; omega
                have g43 : ((x : Int) == 43) = false := by simp; omega
                have g45 : ((x : Int) == 45) = false := by simp; omega
                have Hst := Lib.hid (show schemeG (t.drop (k + 1)) (t.take (k + 1)) = schemeG t [] by rw [← Hk.out, Hdc.out.1, Hdc.out.2]; exact (scheme_go (.inr ⟨take_ne hk0 hlt, h58x Hx.out h58, mid_yes Hx.out (by omega)⟩)).symm)
                go_wp2_with fail
                go_roundw
                case rel => exact ⟨k + 1, rfl, hlt, trivial, Hst⟩
                case measure =>
                  show t.length - kOf (.int .i64 ((k + 1 : Nat) : Int)) < t.length - kOf (.int .i64 (k : Int))
                  simp only [kOf, Int.toNat_natCast]
                  omega
              skip
              have g43 : ((x : Int) == 43) = false := by simp; omega
              have g45 : ((x : Int) == 45) = false := by simp; omega
              have g46 : ((x : Int) == 46) = false := by simp; omega
              have Hst := Lib.hid (show R = none by rw [HR.out, ← Hk.out, Hdc.out.1]; exact scheme_no (small_not Hx.out (by omega)) (.inr (mid_not Hx.out (by omega))))
              go_wp2_with fail
              first | rw [Exit.noGoto_ret] | skip
              refine bodyPost_ret (results_tmp2 rfl _ _ _) rfl ?_
              unfold SchR
              rw [Hst.out]
              exact ⟨rfl, hb⟩
    · have t0 : ¬ ((k : Int) < ((bs t).size : Int)) := by rw [bs_size]; omega
      have Hst := Lib.hid (show R = none by rw [HR.out, ← Hk.out, List.drop_of_length_le (by omega)]; rfl)
      go_wp2_with fail
      refine bodyPost_ret (results_tmp2 rfl _ _ _) rfl ?_
      unfold SchR
      rw [Hst.out]
      exact ⟨rfl, hb⟩
end Go.Proofs.YtlgaeeedkihfpaaGreatDoor.Uf

/-
  url.Allowed; safe.Place.
-/
namespace Go.Proofs.YtlgaeeedkihfpaaGreatDoor.Uf
open Go.RowKit
open Tz (B bareU schemeU allowedU)

def okU (c : UInt8) : Bool := decide (32 ≤ c.toNat) && c != 92 && c != 127
theorem okU_x {c : UInt8} {x : Nat} (h : x = c.toNat) : okU c = (decide (32 ≤ x) && decide (x ≠ 92) && decide (x ≠ 127)) := by
  unfold okU
  rw [h]
  have e : ∀ n : UInt8, (c != n) = decide (c.toNat ≠ n.toNat) := fun n => by
    have := ceq (c := c) rfl n
    by_cases hc : c = n
    · subst hc; simp
    · have : c.toNat ≠ n.toNat := fun e => hc (UInt8.toNat_inj.1 e)
      simp [hc, this]
  rw [e 92, e 127]
  rfl

set_option maxRecDepth 100000 in
set_option maxHeartbeats 4000000 in
theorem allowed_u {w : World} {S : Nat → Prop} {A : Option Addr} {n c : Nat} {schemes : List B} (s : B) (h : StrsAt w S A n schemes) (hS : ∀ j, S j → j < w.heap.size) (hl : schemes.length ≤ 60000000) (hs : s.length ≤ 600000000) :
    Calls Tryz.prog 95 #[.string (bs s), .slice A n c] w fun e w' => e = .returned (.bool (allowedU s schemes)) ∧ Below w.heap.size w w' := by
  have hbl := bareU_len s
  go_enter Tryz.func95, Tryz.ntmps95
  go_wp2_with fail
  refine (scheme_u s hs).mono ?_
  rintro e1 w1 ⟨he, hb1⟩
  have h1 := h.keep (KeepS.below hb1 hS)
  cases hsc : schemeU s with
  | some x =>
    have HA := Lib.hid (show allowedU s schemes = schemes.contains x by unfold allowedU; rw [hsc])
    rw [hsc] at he
    subst he
    clear hsc
    go_wp2_with fail
    refine (contains_u x h1 hl).mono ?_
    generalize schemes.contains x = z at HA
    rintro e2 w2 ⟨rfl, hw2⟩
    rw [hw2]
    clear hw2 w2
    go_wp2_with fail
    go_ret
    exact ⟨by rw [HA.out]; rfl, hb1⟩
  | none =>
    have HA0 := Lib.hid (show allowedU s schemes = (!([47, 47] : B).isPrefixOf (bareU s) && (bareU s).all okU) by unfold allowedU; rw [hsc]; rfl)
    rw [hsc] at he
    subst he
    clear hsc h1 h
    go_wp2_with fail
    refine (bareu_u s hs).mono ?_
    rintro e2 w2 ⟨rfl, hb2⟩
    have hb := hb1.trans (hb2.mono hb1.size)
    clear hb1 hb2
    have htl : (bareU s).length ≤ 600000000 := by omega
    generalize bareU s = t at HA0 htl ⊢
    go_wp2_with fail
    refine (has_prefix t [47, 47]).mono ?_
    rintro e3 w3 ⟨rfl, hw3⟩
    rw [hw3]
    clear hw3 w3
    cases hpf : ([47, 47] : B).isPrefixOf t with
    | true =>
      have HA := Lib.hid (show allowedU s schemes = false by rw [HA0.out, hpf]; rfl)
      clear hpf
      go_wp2_with fail
      go_ret
      exact ⟨by rw [HA.out]; rfl, hb⟩
    | false =>
    have HA := Lib.hid (show allowedU s schemes = t.all okU by rw [HA0.out, hpf]; rfl)
    clear hpf HA0 hbl
    go_wp2_with fail
    go_loopw [24] (fun vi wr => ∃ k : Nat, vi = .int .i64 k ∧ k ≤ t.length ∧ wr = w2 ∧ Hid ((t.drop k).all okU = t.all okU)) (fun vi _ => t.length - kOf vi)
    case atStart => exact ⟨0, rfl, Nat.zero_le _, rfl, Lib.hid rfl⟩
    case round =>
    obtain ⟨k, rfl, hk, rfl, Hk⟩ := hrel
    by_cases hlt : k < t.length
    · have t0 : (k : Int) < ((bs t).size : Int) := by rw [bs_size]; omega
      have t1 : k < (bs t).size := by rw [bs_size]; omega
      obtain ⟨c, hc⟩ : ∃ c, c = t[k] := ⟨_, rfl⟩
      have hdc : t.drop k = c :: t.drop (k + 1) := hc ▸ List.drop_eq_getElem_cons hlt
      have hb0 : ((bs t)[k]'t1).toNat = c.toNat := by rw [hc]; rfl
      obtain ⟨x, hx⟩ : ∃ x, x = c.toNat := ⟨_, rfl⟩
      rw [← hx] at hb0
      have Hx := Lib.hid hx
      have Hdc := Lib.hid hdc
      have hi1 : IntKind.i64.wrap ((k : Int) + 1) = ((k + 1 : Nat) : Int) := by rw [IntKind.wrap_i64]; omega
      clear hx hdc hc
      by_cases a1 : (x : Int) < 32
      · skip
        have Hst := Lib.hid (show t.all okU = false by rw [← Hk.out, Hdc.out, List.all_cons, show okU c = false by rw [okU_x Hx.out]; simp; omega]; simp)
        go_wp2_with fail
        go_ret
        exact ⟨by rw [HA.out, Hst.out]; rfl, hb⟩
      by_cases a2 : x = 92
      · have g92 : ((x : Int) == 92) = true := by simp; omega
        have Hst := Lib.hid (show t.all okU = false by rw [← Hk.out, Hdc.out, List.all_cons, show okU c = false by rw [okU_x Hx.out]; simp; omega]; simp)
        go_wp2_with fail
        go_ret
        exact ⟨by rw [HA.out, Hst.out]; rfl, hb⟩
      have g92 : ((x : Int) == 92) = false := by simp; omega
      by_cases a3 : x = 127
      · have g127 : ((x : Int) == 127) = true := by simp; omega
        have Hst := Lib.hid (show t.all okU = false by rw [← Hk.out, Hdc.out, List.all_cons, show okU c = false by rw [okU_x Hx.out]; simp; omega]; simp)
        go_wp2_with fail
        go_ret
        exact ⟨by rw [HA.out, Hst.out]; rfl, hb⟩
      have g127 : ((x : Int) == 127) = false := by simp; omega
      have Hst := Lib.hid (show (t.drop (k + 1)).all okU = t.all okU by rw [← Hk.out, Hdc.out, List.all_cons, show okU c = true by rw [okU_x Hx.out]; simp; omega]; simp)
      go_wp2_with fail
      go_roundw
      case rel => exact ⟨k + 1, rfl, hlt, trivial, Hst⟩
      case measure =>
        show t.length - kOf (.int .i64 ((k + 1 : Nat) : Int)) < t.length - kOf (.int .i64 (k : Int))
        simp only [kOf, Int.toNat_natCast]
        omega
    · have t0 : ¬ ((k : Int) < ((bs t).size : Int)) := by rw [bs_size]; omega
      have Hst := Lib.hid (show t.all okU = true by rw [← Hk.out, List.drop_of_length_le (by omega)]; rfl)
      go_wp2_with fail
      go_ret
      exact ⟨by rw [HA.out, Hst.out]; rfl, hb⟩

set_option maxRecDepth 100000 in
set_option maxHeartbeats 4000000 in
theorem places_u {w : World} (s : B) : Calls Tryz.prog 94 #[.string (bs s)] w fun e w' => e = .returned (.bool (Tz.places.contains s)) ∧ Below w.heap.size w w' := by
  go_enter Tryz.func94, Tryz.ntmps94
  go_wp2_with fail
  have hb := (Below.refl w.heap.size w).alloc (Nat.le_refl _) (.cells (strCells Tz.places).toArray 144)
  have hs1 := StrsAt.of_blk (l := Tz.places) (Blk.new w 144 (strCells Tz.places).toArray)
  refine (contains_u s hs1 (by decide)).mono ?_
  generalize hz : Tz.places.contains s = z
  have HZ := Lib.hid hz
  clear hz
  rintro e1 w1 ⟨rfl, hw1⟩
  rw [hw1]
  clear hw1 w1
  go_wp2_with fail
  go_ret
  exact ⟨by rw [HZ.out]; rfl, hb⟩
end Go.Proofs.YtlgaeeedkihfpaaGreatDoor.Uf

/-
  safe.classes.
-/
namespace Go.Proofs.YtlgaeeedkihfpaaGreatDoor.Uf
open Go.RowKit Go.WideMaps Go.Maps
open Tz (B splitL onceG classesOk)

theorem onceG_congr (l : List B) : ∀ (r s1 s2 : List B), (∀ x, s1.contains x = s2.contains x) → onceG l r s1 = onceG l r s2
  | [], _, _, _ => rfl
  | c :: r, s1, s2, h => by
    unfold onceG
    rw [h c, onceG_congr l r (c :: s1) (c :: s2) (fun x => by simp only [List.contains_cons, h x])]
theorem onceG_step (l : List B) (c : B) (r s : List B) : onceG l (c :: r) s = (!s.contains c && l.contains c && onceG l r (s ++ [c])) := by
  conv => lhs; unfold onceG
  rw [onceG_congr l r (c :: s) (s ++ [c]) (fun x => by simp [Bool.or_comm])]

set_option maxRecDepth 100000 in
set_option maxHeartbeats 4000000 in
theorem classes_u {w : World} {S : Nat → Prop} {A : Option Addr} {n c : Nat} {cl : List B} {m : Int} (v : B) (h : StrsAt w S A n cl) (hS : ∀ j, S j → j < w.heap.size) (hl : cl.length ≤ 60000000) (hv : v.length ≤ 60000000) (hm : w.cell? ⟨0, 0, none⟩ = some (.int .i64 m)) :
    Calls Tryz.prog 93 #[.string (bs v), .slice A n c] w fun e w' => e = .returned (.bool (classesOk v cl)) ∧ Below w.heap.size w w' := by
  have hmm := @run_makeMap Tryz.prog
  have h0 : (0 : Nat) < w.heap.size := World.block_lt_of_cell? w ⟨0, 0, none⟩ hm
  have hm1 : (w.alloc (.map #[] 0)).cell? ⟨0, 0, none⟩ = some (.int .i64 m) := (World.cell?_alloc_lt w _ ⟨0, 0, none⟩ h0).trans hm
  have hll := split_len 32 v
  have hlm := split_mem 32 v
  have HC := Lib.hid (show classesOk v cl = onceG cl (splitL 32 v) [] from rfl)
  go_enter Tryz.func93, Tryz.ntmps93
  go_wp2_with fail
  refine (split_u v 32 (by omega) hm1).mono ?_
  generalize splitL 32 v = l at hll hlm HC ⊢
  rintro e1 w1 ⟨rfl, hw1⟩
  simp only [alloc_size] at hw1 ⊢
  have hB1 : Below w.heap.size w w1 := by rw [hw1]; exact ((Below.refl _ w).alloc (Nat.le_refl _) _).alloc (by rw [alloc_size]; omega) _
  have hR1 : Blk w1 (w.heap.size + 1) 9 (strCells l).toArray := by
    rw [hw1]
    have := Blk.new (w.alloc (.map #[] 0)) 9 (strCells l).toArray
    rw [alloc_size] at this
    exact this
  have hS1 : Seen w1 w.heap.size 0 [] := by
    rw [hw1]
    refine seen_kept (seen_new w) ?_
    exact ((Below.refl (w.heap.size + 1) (w.alloc (.map #[] 0))).alloc (by rw [alloc_size]; omega) _).block _ (by omega)
  have h1 := h.keep (KeepS.below hB1 hS)
  clear hw1 hm1 hmm h
  go_wp2_with fail
  go_loopw [12] (fun vi wr => ∃ (k : Nat) (sn : List B), vi = .int .i64 k ∧ k ≤ l.length ∧ Seen wr w.heap.size k sn ∧ Blk wr (w.heap.size + 1) 9 (strCells l).toArray ∧ StrsAt wr S A n cl ∧ Below w.heap.size w wr ∧ Hid (onceG cl (l.drop k) sn = onceG cl l [])) (fun vi _ => l.length - kOf vi)
  case atStart => exact ⟨0, [], rfl, Nat.zero_le _, hS1, hR1, h1, hB1, Lib.hid rfl⟩
  case round =>
    obtain ⟨k, sn, rfl, hk, hsn, hR, hst, hb, Hk⟩ := hrel
    by_cases hlt : k < l.length
    · have t0 : (k : Int) < (l.length : Int) := by omega
      obtain ⟨x, hx⟩ : ∃ x, x = l[k] := ⟨_, rfl⟩
      have hc : wr.cell? ⟨w.heap.size + 1, k, none⟩ = some (.string (bs x)) := by
        have := Blk.cell hR k
        rw [this, List.getElem?_toArray, List.getElem?_eq_getElem (by simpa using hlt), hx]
        simp [strCells]
      have hxl : x.length ≤ v.length := hlm x (by rw [hx]; exact List.getElem_mem _)
      have hdc : l.drop k = x :: l.drop (k + 1) := hx ▸ List.drop_eq_getElem_cons hlt
      have hstep := onceG_step cl x (l.drop (k + 1)) sn
      rw [← hdc, Hk.out] at hstep
      have Hst := Lib.hid hstep
      clear hx hdc hstep
      have hi1 : IntKind.i64.wrap ((k : Int) + 1) = ((k + 1 : Nat) : Int) := by rw [IntKind.wrap_i64]; omega
      have hlook := seen_look (x := x) hsn (by omega)
      cases hsc : sn.contains x with
      | true =>
        rw [hsc] at hlook Hst
        clear hsc
        go_wp2_with fail
        go_ret
        exact ⟨by rw [HC.out, Hst.out]; rfl, hb⟩
      | false =>
        rw [hsc] at hlook Hst
        clear hsc
        go_wp2_with fail
        refine (contains_u x hst hl).mono ?_
        generalize cl.contains x = z at Hst
        rintro e2 w2 ⟨rfl, hw2⟩
        rw [hw2]
        clear hw2 w2
        cases z with
        | false =>
          go_wp2_with fail
          go_ret
          exact ⟨by rw [HC.out, Hst.out]; rfl, hb⟩
        | true =>
          obtain ⟨w3, hput, hs3, hg3⟩ := seen_put hsn (x := x) (by omega) (by omega)
          have hne : ∀ {j : Nat} {t : TypeId} {cs : Array Value}, Blk wr j t cs → some j ≠ some w.heap.size := fun hx e => by injection e with e; exact seen_ne hsn hx e.symm
          have hR3 := hR.grown hg3 (hne hR)
          have hst3 := hst.keep (w' := w3) (fun j hj => hg3.block j (Nat.lt_of_lt_of_le (hS j hj) hb.size) (fun e => by injection e with e; have := hS j hj; omega))
          have hb3 : Below w.heap.size w w3 := hb.grown hg3 hb.size (fun k hk => by injection hk with hk; omega)
          have Hst2 := Lib.hid (show onceG cl (l.drop (k + 1)) (sn ++ [x]) = onceG cl l [] by rw [Hst.out]; rfl)
          clear hg3 hne hlook
          go_wp2_with fail
          go_roundw
          case rel => exact ⟨k + 1, sn ++ [x], rfl, hlt, hs3, hR3, hst3, hb3, Hst2⟩
          case measure =>
            show l.length - kOf (.int .i64 ((k + 1 : Nat) : Int)) < l.length - kOf (.int .i64 (k : Int))
            simp only [kOf, Int.toNat_natCast]
            omega
    · have t0 : ¬ ((k : Int) < (l.length : Int)) := by omega
      have Hst := Lib.hid (show onceG cl l [] = true by rw [← Hk.out, List.drop_of_length_le (by omega)]; rfl)
      go_wp2_with fail
      go_ret
      exact ⟨by rw [HC.out, Hst.out]; rfl, hb⟩
end Go.Proofs.YtlgaeeedkihfpaaGreatDoor.Uf
