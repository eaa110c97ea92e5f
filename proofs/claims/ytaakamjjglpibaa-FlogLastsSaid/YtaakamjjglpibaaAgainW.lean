/-
  FlogAgain's walk: opened again it tells the same; what is appended then stands behind all.
-/
import Derived.Test.YtaakamjjglpibaaManyW
namespace Go.Proofs.Ytaakamjjglpibaa.Dv
open Go.RowKit

theorem texts_app (ys r : List Int) (h : ends ys = ys.length) : texts (ys ++ r) = texts ys ++ texts r ∧ ends (ys ++ r) = ys.length + ends r := by
  have aux : ∀ (n : Nat) (ys : List Int), ys.length ≤ n → ends ys = ys.length → texts (ys ++ r) = texts ys ++ texts r ∧ ends (ys ++ r) = ys.length + ends r := by
    intro n
    induction n with
    | zero =>
      intro ys hl _
      obtain rfl : ys = [] := List.eq_nil_of_length_eq_zero (by omega)
      rw [texts_nil.1]
      simp
    | succ n ih =>
      intro ys hl he
      by_cases h : fits ys
      · have h3 := h.2.2
        have e2 := (texts_fits h).2
        have ih := ih (ys.drop (3 + len3 ys)) (by rw [List.length_drop]; omega) (by rw [List.length_drop]; omega)
        have el : len3 (ys ++ r) = len3 ys := by
          have := h.1
          unfold len3
          simp only [List.getD]
          rw [List.getElem?_append_left (by omega), List.getElem?_append_left (by omega), List.getElem?_append_left (by omega)]
        have hf : fits (ys ++ r) := by
          unfold fits
          rw [el, List.length_append]
          have := h.2.1
          have := h.1
          omega
        have hd : (ys ++ r).drop (3 + len3 ys) = ys.drop (3 + len3 ys) ++ r := List.drop_append_of_le_length (by omega)
        have ht : ((ys ++ r).drop 3).take (len3 ys) = (ys.drop 3).take (len3 ys) := by
          rw [List.drop_append_of_le_length (by omega), List.take_append_of_le_length (by rw [List.length_drop]; omega)]
        have h5 := texts_fits hf
        rw [el, hd, ht, ih.1, ih.2, List.length_drop] at h5
        have h6 := texts_fits h
        exact ⟨by rw [h5.1, h6.1]; rfl, by rw [h5.2]; omega⟩
      · have hz := (texts_not h).2
        obtain rfl : ys = [] := List.eq_nil_of_length_eq_zero (by omega)
        rw [texts_nil.1]
        simp
  exact aux ys.length ys (Nat.le_refl _) h

theorem texts_count (l : List Int) : (texts l).length ≤ ends l := by
  have aux : ∀ (n : Nat) (l : List Int), l.length ≤ n → (texts l).length ≤ ends l := by
    intro n
    induction n with
    | zero =>
      intro l hl
      have hn : ¬ fits l := fun h => by have := h.1; omega
      rw [(texts_not hn).1]
      simp
    | succ n ih =>
      intro l hl
      by_cases h : fits l
      · have h3 := h.2.2
        have := ih (l.drop (3 + len3 l)) (by rw [List.length_drop]; omega)
        rw [(texts_fits h).1, (texts_fits h).2, List.length_cons]
        omega
      · rw [(texts_not h).1]
        simp
  exact aux l.length l (Nat.le_refl _)

theorem openS_some (xs : List Int) (last : Nat) : ∃ k, openS xs last = ⟨xs.take (ends xs), k, -1, false⟩ := by
  unfold openS
  split
  · exact ⟨_, rfl⟩
  · have := texts_le xs
    refine ⟨last, ?_⟩
    rw [List.take_of_length_le (by omega)]
theorem openS_whole (ys : List Int) (last : Nat) (h : ends ys = ys.length) : openS ys last = ⟨ys, last, -1, false⟩ := by
  unfold openS
  rw [if_neg (by omega)]

theorem row_below {w w' : World} {b2 n : Nat} {e : TypeId} {vo : Value} {xs : List Value} (h : w.ownsRow b2 e 1 vo n xs) (hb : Below w.heap.size w w') : w'.ownsRow b2 e 1 vo n xs :=
  own_only h (Only.ofBelow hb) fun i hi => by have := (h.lt i hi).2; omega
theorem drewN_below (b : Nat) (w : World) (q : Nat) : Below b w (w.drewN q) := ⟨rfl, rfl, rfl, Nat.le_refl _, fun _ _ => rfl⟩
theorem strs_len (l : List ByteArray) : (strs l).length = l.length := by simp [strs]
theorem strs_one (l : List ByteArray) : ∀ u ∈ strs l, u.oneCell' = true := by
  intro u hu
  simp only [strs, List.mem_map] at hu
  obtain ⟨s, _, rfl⟩ := hu
  rfl

set_option maxRecDepth 100000 in
set_option maxHeartbeats 1600000 in
theorem again_walk {w : World} {A : Option Addr} {c0 : Nat} {xs : List Int} (more : ByteArray) (hx : Came w A c0 xs) (h1 : xs.length ≤ 20000) (h2 : more.size ≤ 20000) :
    Calls Try.prog 10 #[.slice A xs.length c0, .string more] w fun e w' => e = .returned (.bool true) ∧ Below w.heap.size w w' := by
  have hx1 := hx.fits
  have hx2 := hx.most
  unfold maxLen at hx2
  have t1 : decide ((20000 : Int) < (xs.length : Int)) = false := by simp; omega
  have t2 : decide ((20000 : Int) < (more.size : Int)) = false := by simp; omega
  obtain ⟨k1, hk1⟩ := openS_some xs 0
  obtain ⟨ys, hys⟩ : ∃ ys, ys = xs.take (ends xs) := ⟨_, rfl⟩
  obtain ⟨T, hT⟩ : ∃ T, T = texts xs := ⟨_, rfl⟩
  have hle := texts_le xs
  have hyl : ys.length = ends xs := by rw [hys, List.length_take]; omega
  have hyt : texts ys = T := by rw [hys, hT]; exact (texts_take xs).1
  have hye : ends ys = ys.length := by rw [hyl, hys]; exact (texts_take xs).2
  have hTl : T.length ≤ 20000 := by have := texts_count xs; rw [hT]; omega
  obtain ⟨us, hus⟩ : ∃ us, us = ys ++ enc more := ⟨_, rfl⟩
  have hut : texts us = T ++ [more] ∧ ends us = us.length := by
    have h3 := texts_app ys (enc more) hye
    have h4 := texts_enc more [] h2
    rw [List.append_nil, texts_nil.1, texts_nil.2] at h4
    rw [hus, h3.1, h3.2, h4.1, h4.2, hyt, List.length_append, enc_len]
    exact ⟨rfl, rfl⟩
  rw [← hys] at hk1
  have Hk1 := Lib.hid hk1
  have HT := Lib.hid hT
  have Hyl := Lib.hid (show ys.length ≤ 20000 by omega)
  have Hyt := Lib.hid hyt
  have Hye := Lib.hid hye
  have Hus := Lib.hid hus
  have Hut := Lib.hid hut
  clear hk1 hys hT hle hyl hyt hye hus hut
  go_enter Try.func10, Try.ntmps10
  go_wp2_with fail
  refine (awake13 _).mono ?_
  rintro e w1 ⟨rfl, hb1⟩
  go_wp2_with fail
  refine (new_dev _).mono ?_
  rintro e w2 ⟨rfl, hD2, hb2⟩
  have hb2' := hb1.trans (hb2.mono hb1.size)
  go_wp2_with fail
  refine (appendF (bs := []) (last := 0) hD2 (hx.at_ hb2') hx.byt (by simp; omega)).mono ?_
  rintro e w3 ⟨rfl, v3, hD3, hb3⟩
  rw [List.nil_append] at hD3
  have hb3' := hb2'.trans (hb3.mono hb1.size)
  go_wp2_with fail
  refine (openF (s := ⟨ys, k1, -1, false⟩) (l := T) hD3 HT.out.symm Hk1.out).mono ?_
  rintro e w4 ⟨L4, ao4, c4, v4, rfl, hD4, hL4, hs4, hO4, hv4⟩
  have hb4' := hb3'.trans ((hO4.devBelow hD3).mono hb1.size)
  clear hO4 hv4 hD3
  go_wp2_with fail
  refine (openF (s := ⟨ys, k1, -1, false⟩) (l := T) hD4 Hyt.out (openS_whole ys k1 Hye.out)).mono ?_
  rintro e w5 ⟨L5, ao5, c5, v5, rfl, hD5, hL5, hs5, hO5, hv5⟩
  have hb5' := hb4'.trans ((hO5.devBelow hD4).mono hb1.size)
  have Hs4 := Lib.hid (hO5.row hD4 hs4)
  clear hO5 hv5 hD4 hL4 hs4
  go_wp2_with fail
  refine (logF (s := ⟨us, us.length, -1, false⟩) more hD5 hL5 h2 (by have := Hyl.out; omega) (by rw [Hus.out])).mono ?_
  rintro e w6 ⟨rfl, v6, hD6, hO6, hv6⟩
  have hb6' := hb5'.trans ((hO6.devBelow hD5).mono hb1.size)
  have Hs4 := Lib.hid (hO6.row hD5 Hs4.out)
  have Hs5 := Lib.hid (hO6.row hD5 hs5)
  clear hO6 hv6 hD5 hL5 hs5
  go_wp2_with fail
  refine (openF (s := ⟨us, us.length, -1, false⟩) (l := T ++ [more]) hD6 Hut.out.1 (openS_whole us _ Hut.out.2)).mono ?_
  rintro e w7 ⟨L7, ao7, c7, v7, rfl, hD7, hL7, hs7, hO7, hv7⟩
  have hb7' := hb6'.trans ((hO7.devBelow hD6).mono hb1.size)
  have Hs4 := Lib.hid (hO7.row hD6 Hs4.out)
  have Hs5 := Lib.hid (hO7.row hD6 Hs5.out)
  clear hO7 hv7 hD6 hD7 hL7
  go_wp2_with fail
  refine (same_ref (Reads.of_own Hs4.out) (Reads.of_own Hs5.out) (by omega) (by omega)).mono ?_
  rintro e w8 ⟨rfl, q, hw8⟩
  rw [sameB_self T]
  have hb8 : Below w7.heap.size w7 w8 := by rw [hw8]; exact drewN_below _ _ _
  have hb8' := hb7'.trans (hb8.mono hb7'.size)
  have hs8 := row_below Hs4.out hb8
  have hu8 := row_below hs7 hb8
  have hr8 := (Reads.of_own hs8).alloc (Nat.le_refl _) (.cells #[] 9)
  have hul : (T ++ [more]).length = T.length + 1 := by simp
  rw [hul] at hu8
  have Hu8 := Lib.hid hu8
  have Hb8 := Lib.hid hb8'
  have ho8 := own_of_blk (base := w8.heap.size) (xs := []) (Blk.new w8 9 #[]) (Nat.le_refl _) (by decide)
  obtain ⟨i9, hi9, hz9, hs9, hb9⟩ := info_parts Try.info9
  clear hw8 hb8 Hs4 Hs5 hs7 hs8 hu8 hb8' hb7' hb6' hb5' hb4' hb3' hb2' hb2 hb3 hx hx1 hx2
  go_wp2_with (first
    | (at_builtin; refine wpList_append_any _ rfl (.tmp 80) (.tmp 81) 45 rfl w8.heap.size 9 i9 _ 1 16 Try.underlying45 hi9 hz9 hs9 hb9 rfl (by omega) (.slice (some ⟨w8.heap.size, 0, none⟩) 0 0) 0 [] rfl ho8 w8.heap.size ao4 T.length c4 (strs T) rfl hr8 (strs_one T) (by unfold maxLen; omega) (by omega) (by simp) ?_; intro v9 w9 hown9 hg9 hat9; have Hg9 := Lib.hid hg9; rw [Nat.zero_add, List.nil_append] at hown9; have Hown9 := Lib.hid hown9; have hr9 := reads_newV w9 [.string more] 9 (0, 0); have hown9' := hown9.alloc (.cells #[.string more] 9); have hbel9 : Below w8.heap.size w8 w9 := ((Below.refl _ _).alloc (Nat.le_refl _) _).grown hg9 (by simp) (by intro k hk; simp [Value.ownBlock] at hk; omega); have hsz9 := hbel9.size; clear hg9 hat9 hown9)
    | (at_builtin; refine wpList_append_any _ rfl (.tmp 82) (.tmp 84) 45 rfl w8.heap.size 9 i9 _ 1 16 Try.underlying45 hi9 hz9 hs9 hb9 rfl (by omega) v9 T.length (strs T) rfl hown9' (w9.heap.size + 1) (some ⟨w9.heap.size, 0, none⟩) 1 1 [.string more] rfl hr9 (by simp; rfl) (by unfold maxLen; omega) (by omega) (by simp; omega) ?_; intro v10 w10 hown10 hg10 hat10; obtain ⟨ao10, c10, rfl, _, _⟩ := own_shape hown10; have Hg10 := Lib.hid hg10; have Hown10 := Lib.hid hown10; clear hg10 hat10 hown10))
  have hb10 : Below w8.heap.size w8 w10 := (hbel9.alloc hbel9.size _).grown Hg10.out (by have := hbel9.size; simp; omega) (fun k hk => (Hown9.out.lt k hk).1)
  have hru := (Reads.of_own Hu8.out).below hb10
  have hr10 := Reads.of_own Hown10.out
  rw [show strs T ++ [Value.string more] = strs (T ++ [more]) from by simp [strs]] at hr10
  refine (same_ref hru hr10 (by omega) (by omega)).mono ?_
  rintro e w11 ⟨rfl, q, rfl⟩
  rw [sameB_self]
  have Hb := Lib.hid (Hb8.out.trans ((hb10.mono Hb8.out.size).trans (drewN_below _ _ q)))
  clear hru hr10 hb10 hr9 hown9' hbel9
  go_wp2_with fail
  go_ret
  exact ⟨rfl, Hb.out⟩

set_option maxRecDepth 100000 in
theorem again_out {w : World} {A : Option Addr} {c0 n : Nat} (more : ByteArray) (h : ¬ (n ≤ 20000 ∧ more.size ≤ 20000)) :
    Calls Try.prog 10 #[.slice A n c0, .string more] w fun e w' => e = .returned (.bool true) ∧ Below w.heap.size w w' := by
  have H := Lib.hid h
  clear h
  by_cases h2 : 20000 < n
  · have t2 : decide ((20000 : Int) < (n : Int)) = true := by simp; omega
    go_enter Try.func10, Try.ntmps10
    go_wp2_with fail
    refine (awake13 _).mono ?_
    rintro e w1 ⟨rfl, hb1⟩
    go_wp2_with fail
    refine (new_dev _).mono ?_
    rintro e w2 ⟨rfl, hD2, hb2⟩
    go_wp2_with fail
    go_ret
    exact ⟨rfl, hb1.trans (hb2.mono hb1.size)⟩
  have t2 : decide ((20000 : Int) < (n : Int)) = false := by simp; omega
  by_cases h3 : 20000 < more.size
  · have t3 : decide ((20000 : Int) < (more.size : Int)) = true := by simp; omega
    go_enter Try.func10, Try.ntmps10
    go_wp2_with fail
    refine (awake13 _).mono ?_
    rintro e w1 ⟨rfl, hb1⟩
    go_wp2_with fail
    refine (new_dev _).mono ?_
    rintro e w2 ⟨rfl, hD2, hb2⟩
    go_wp2_with fail
    go_ret
    exact ⟨rfl, hb1.trans (hb2.mono hb1.size)⟩
  exact absurd (show n ≤ 20000 ∧ more.size ≤ 20000 from by omega) H.out

theorem again_all {w : World} {A : Option Addr} {c0 : Nat} {xs : List Int} (more : ByteArray) (hx : Came w A c0 xs) :
    Calls Try.prog 10 #[.slice A xs.length c0, .string more] w fun e w' => e = .returned (.bool true) ∧ Below w.heap.size w w' := by
  by_cases h : xs.length ≤ 20000 ∧ more.size ≤ 20000
  · exact again_walk more hx h.1 h.2
  · exact again_out more h
end Go.Proofs.Ytaakamjjglpibaa.Dv
