/-
  FlogLasts' walk: behind a loss of power anywhere in one more Append what was there is there, alone or with that text.
-/
import Derived.Test.YtaakamjjglpibaaAgainW
namespace Go.Proofs.Ytaakamjjglpibaa.Dv
open Go.RowKit

theorem texts_all {l : List ByteArray} (h : ∀ s ∈ l, s.size ≤ 20000) (r : List Int) : texts (encs l ++ r) = l ++ texts r := (texts_encs l r h).1
theorem texts_all0 {l : List ByteArray} (h : ∀ s ∈ l, s.size ≤ 20000) : texts (encs l) = l := by
  have h1 := texts_all h []
  rw [List.append_nil, texts_nil.1, List.append_nil] at h1
  exact h1

/-- One more Append on an armed device, then the loss of power: what is there. -/
theorem lasts_state (all : List ByteArray) (us : List Int) (last : ByteArray) (x0 x1 : Int) (hus : us = encs all) (hs : ∀ s ∈ all, s.size ≤ 20000) (hl : last.size ≤ 20000) (h0 : 0 ≤ x0) :
    ∃ (E : Int) (st : DS) (bs2 : List Int) (k : Nat) (S : List ByteArray), DS.logE ⟨us, us.length, x0, false⟩ last = E ∧ DS.log ⟨us, us.length, x0, false⟩ last = st ∧ st.restart x1 = ⟨bs2, k, -1, false⟩ ∧ texts bs2 = S ∧
      (E = 0 ∧ S = all ++ [last] ∨ E = 10 ∧ S = all ∨ E = 11 ∧ S = all ∨ E = 11 ∧ S = all ++ [last]) := by
  have hd : ∀ s : DS, s.bs = us → s.last = us.length → s.restart x1 = ⟨us, us.length, -1, false⟩ := by
    intro s h1 h2
    unfold DS.restart DS.kept
    rw [h1, h2]
    simp
  have hall : texts us = all := by rw [hus]; exact texts_all0 hs
  have hnew : texts (us ++ enc last) = all ++ [last] := by
    have h1 := texts_enc last [] hl
    rw [List.append_nil, texts_nil.1] at h1
    rw [hus, texts_all hs, h1.1]
  have hln : ¬ 20000 < last.size := by omega
  by_cases hf : 60000 < us.length + (enc last).length
  · have e1 : DS.appendE ⟨us, us.length, x0, false⟩ (enc last) = 10 := by
      unfold DS.appendE
      rw [if_neg (by simp), if_pos hf]
    have e2 : DS.append ⟨us, us.length, x0, false⟩ (enc last) = ⟨us, us.length, x0, false⟩ := by
      unfold DS.append
      rw [if_neg (by simp), if_pos hf]
    refine ⟨10, ⟨us, us.length, x0, false⟩, us, us.length, all, ?_, ?_, hd _ rfl rfl, hall, .inr (.inl ⟨rfl, rfl⟩)⟩
    · unfold DS.logE
      rw [if_neg hln, if_pos (by rw [e1]; omega), e1]
    · unfold DS.log
      rw [if_neg hln, if_pos (by rw [e1]; omega), e2]
  by_cases hz : x0 = 0
  · have e1 : DS.appendE ⟨us, us.length, x0, false⟩ (enc last) = 11 := by
      unfold DS.appendE
      rw [if_neg (by simp), if_neg hf, if_pos hz]
    have e2 : DS.append ⟨us, us.length, x0, false⟩ (enc last) = DS.go ⟨us, us.length, x0, false⟩ := by
      unfold DS.append
      rw [if_neg (by simp), if_neg hf, if_pos hz]
    refine ⟨11, DS.go ⟨us, us.length, x0, false⟩, us, us.length, all, ?_, ?_, hd _ rfl rfl, hall, .inr (.inr (.inl ⟨rfl, rfl⟩))⟩
    · unfold DS.logE
      rw [if_neg hln, if_pos (by rw [e1]; omega), e1]
    · unfold DS.log
      rw [if_neg hln, if_pos (by rw [e1]; omega), e2]
  have e1 : DS.appendE ⟨us, us.length, x0, false⟩ (enc last) = 0 := by
    unfold DS.appendE
    rw [if_neg (by simp), if_neg hf, if_neg hz]
  have e2 : DS.append ⟨us, us.length, x0, false⟩ (enc last) = ⟨us ++ enc last, us.length, x0 - 1, false⟩ := by
    unfold DS.append DS.go
    rw [if_neg (by simp), if_neg hf, if_neg hz]
    simp only
    rw [show max (x0 - 1) (-1) = x0 - 1 from by omega]
  have f1 : DS.logE ⟨us, us.length, x0, false⟩ last = DS.syncE ⟨us ++ enc last, us.length, x0 - 1, false⟩ := by
    unfold DS.logE
    rw [if_neg hln, if_neg (by rw [e1]; simp), e2]
  have f2 : DS.log ⟨us, us.length, x0, false⟩ last = DS.sync ⟨us ++ enc last, us.length, x0 - 1, false⟩ := by
    unfold DS.log
    rw [if_neg hln, if_neg (by rw [e1]; simp), e2]
  by_cases ho : x0 - 1 = 0
  · have g1 : DS.syncE ⟨us ++ enc last, us.length, x0 - 1, false⟩ = 11 := by
      unfold DS.syncE
      rw [if_neg (by simp), if_pos ho]
    have g2 : DS.sync ⟨us ++ enc last, us.length, x0 - 1, false⟩ = DS.go ⟨us ++ enc last, us.length, x0 - 1, false⟩ := by
      unfold DS.sync
      rw [if_neg (by simp), if_pos ho]
    obtain ⟨m, hm⟩ : ∃ m, m = min (max x1 0).toNat (enc last).length := ⟨_, rfl⟩
    have hr : (DS.go ⟨us ++ enc last, us.length, x0 - 1, false⟩).restart x1 = ⟨us ++ (enc last).take m, us.length + m, -1, false⟩ := by
      unfold DS.restart DS.kept DS.go
      simp only [List.length_append]
      rw [show us.length + (enc last).length - us.length = (enc last).length from by omega, ← hm]
      rw [List.take_append, List.take_of_length_le (by omega), show us.length + m - us.length = m from by omega]
    by_cases hmf : m = (enc last).length
    · refine ⟨11, _, _, _, all ++ [last], f1.trans g1, f2.trans g2, hr, ?_, .inr (.inr (.inr ⟨rfl, rfl⟩))⟩
      rw [hmf, List.take_length, hnew]
    · refine ⟨11, _, _, _, all, f1.trans g1, f2.trans g2, hr, ?_, .inr (.inr (.inl ⟨rfl, rfl⟩))⟩
      have hc := not_fits_cut last m (by rw [enc_len] at hmf hm; omega) hl
      rw [hus, texts_all hs, (texts_not hc).1, List.append_nil]
  · have g1 : DS.syncE ⟨us ++ enc last, us.length, x0 - 1, false⟩ = 0 := by
      unfold DS.syncE
      rw [if_neg (by simp), if_neg ho]
    have g2 : DS.sync ⟨us ++ enc last, us.length, x0 - 1, false⟩ = ⟨us ++ enc last, (us ++ enc last).length, (DS.go ⟨us ++ enc last, us.length, x0 - 1, false⟩).left, false⟩ := by
      unfold DS.sync
      rw [if_neg (by simp), if_neg ho]
    refine ⟨0, _, us ++ enc last, (us ++ enc last).length, all ++ [last], f1.trans g1, f2.trans g2, ?_, hnew, .inl ⟨rfl, rfl⟩⟩
    unfold DS.restart DS.kept
    simp
    exact List.take_of_length_le (by simp)

theorem logFullF {w : World} {base d L last : Nat} {v : Value} {bs : List Int} (t : ByteArray) (hD : DevAt w base d v ⟨bs, last, -1, false⟩) (hL : Blk w L 65 #[.pointer (some ⟨d, 0, none⟩)]) (ht : t.size ≤ 20000) (h : 60000 < bs.length + (t.size + 3)) :
    Calls Try.prog 35 #[.pointer (some ⟨L, 0, none⟩), .string t] w (DevPost w base d v (.int .i64 10) ⟨bs, last, -1, false⟩) := by
  have h1 := append_log t hD hL (by have := hD.blk.lt; have := hD.bd; omega)
  have e1 : DS.appendE ⟨bs, last, -1, false⟩ (enc t) = 10 := by
    unfold DS.appendE
    rw [if_neg (by simp), if_pos (by rw [enc_len]; exact h)]
  have e2 : DS.append ⟨bs, last, -1, false⟩ (enc t) = ⟨bs, last, -1, false⟩ := by
    unfold DS.append
    rw [if_neg (by simp), if_pos (by rw [enc_len]; exact h)]
  have f1 : DS.logE ⟨bs, last, -1, false⟩ t = 10 := by
    unfold DS.logE
    rw [if_neg (by omega), if_pos (by rw [e1]; omega), e1]
  have f2 : DS.log ⟨bs, last, -1, false⟩ t = ⟨bs, last, -1, false⟩ := by
    unfold DS.log
    rw [if_neg (by omega), if_pos (by rw [e1]; omega), e2]
  rw [f1, f2] at h1
  exact h1

/-- What the loop carries. -/
structure LastsAt (w : World) (base d L g : Nat) (x0 x1 : Int) (all : List ByteArray) (us : List Int) (W : World) : Prop where
  dev : ∃ v, DevAt W base d v ⟨us, us.length, -1, false⟩
  log : Blk W L 65 #[.pointer (some ⟨d, 0, none⟩)]
  box : Blk W g 57 #[.int .i64 x0, .int .i64 x1]
  below : Below w.heap.size w W
  eq : us = encs all
  small : ∀ s ∈ all, s.size ≤ 20000

set_option maxRecDepth 100000 in
set_option maxHeartbeats 3200000 in
theorem flasts_walk {w : World} {A : Option Addr} {cap : Nat} {l : List ByteArray} (last : ByteArray) (x0 x1 : Int) (hA : CameS w A cap l) (h20 : l.length ≤ 20) (hl : last.size ≤ 20000) (h0 : 0 ≤ x0) (hw0 : (Lit.int .i64 x0).wf = true) (hw1 : (Lit.int .i64 x1).wf = true) :
    Calls Try.prog 13 #[.slice A l.length cap, .string last, .agg #[.int .i64 x0, .int .i64 x1]] w fun e w' => e = .returned (.bool true) ∧ Below w.heap.size w w' := by
  have hA1 := hA.fits
  have hA2 := hA.most
  unfold maxLen at hA2
  have t1 : decide ((20 : Int) < (l.length : Int)) = false := by simp; omega
  have t2 : decide ((20000 : Int) < (last.size : Int)) = false := by simp; omega
  have t3 : decide (x0 < 0) = false := by simp; omega
  have Hw0 := Lib.hid hw0
  have Hw1 := Lib.hid hw1
  have Hx0 := Lib.hid h0
  have Hl := Lib.hid hl
  clear hw0 hw1 h0 hl
  go_enter Try.func13, Try.ntmps13
  go_wp2_with fail
  refine (awake13 _).mono ?_
  rintro e w1 ⟨rfl, hb1⟩
  have hB1 : Blk w1 w.heap.size 57 #[.int .i64 x0, .int .i64 x1] := (Blk.new w 57 _).below hb1 (Blk.new w 57 _).lt
  have hb1' : Below w.heap.size w w1 := ((Below.refl _ _).alloc (Nat.le_refl _) _).trans (hb1.mono (by simp))
  clear hb1
  go_wp2_with fail
  refine (new_dev _).mono ?_
  rintro e w2 ⟨rfl, hD2, hb2⟩
  have hB2 := hB1.below hb2 hB1.lt
  have hb2' := hb1'.trans (hb2.mono hb1'.size)
  have c2 := hB2.cell 0
  simp at c2
  go_wp2_with fail
  refine (openF (s := ⟨[], 0, -1, false⟩) (l := []) hD2 texts_nil.1 (by unfold openS; rw [texts_nil.2]; rfl)).mono ?_
  rintro e w3 ⟨L, ao, c, v3, rfl, hD3, hL3, hs3, hO3, hv3⟩
  have hb3' := hb2'.trans ((hO3.devBelow hD2).mono hb1'.size)
  have hB3 := hO3.blk hD2 hB2 (by decide) (by decide)
  have hM0 : LastsAt w w1.heap.size w1.heap.size L w.heap.size x0 x1 [] [] w3 := ⟨⟨v3, hD3⟩, hL3, hB3, hb3', rfl, by simp⟩
  have HM0 := Lib.hid hM0
  clear hs3 hO3 hv3 hM0 hb3' hD3 hL3 hB3 hB2 hB1 hb2 hD2 c2 hb2'
  go_wp2_with fail
  go_loopw [12, 13] (fun a i wr => ∃ (k : Nat) (all : List ByteArray) (us : List Int), k ≤ l.length ∧ i = .int .i64 k ∧ all.length ≤ k ∧ wr.ownsRow w.heap.size 9 1 a all.length (strs all) ∧ Hid (LastsAt w w1.heap.size w1.heap.size L w.heap.size x0 x1 all us wr)) (fun _ i _ => l.length - (intOf i).toNat)
  case atStart => exact ⟨0, [], [], Nat.zero_le _, rfl, Nat.le_refl _, World.ownsRow_nil _ _ _ _, HM0⟩
  case round =>
    obtain ⟨k, all, us, hk, rfl, hak, hown, HM⟩ := hrel
    by_cases hlt : k < l.length
    · have hlt' : (k : Int) < (l.length : Int) := by omega
      obtain ⟨s, hs⟩ : ∃ s, s = l.getD k ByteArray.empty := ⟨_, rfl⟩
      obtain ⟨b, off, hAe, hc⟩ := reads_at (hA.at_ HM.out.below) hlt
      subst hAe
      rw [← hs] at hc
      have Hs := Lib.hid hs
      have hul : us.length ≤ 60000 := by obtain ⟨v, hD⟩ := HM.out.dev; exact hD.len
      clear hs
      by_cases hbig : 20000 < s.size
      · have hbig' : (20000 : Int) < (s.size : Int) := by omega
        clear hown
        go_wp2_with fail
        go_ret
        exact ⟨rfl, HM.out.below⟩
      · have hbig' : (s.size : Int) ≤ 20000 := by omega
        obtain ⟨v, hD⟩ := HM.out.dev
        have HD := Lib.hid hD
        have Hown := Lib.hid hown
        clear hD hown
        by_cases hroom : us.length + (s.size + 3) ≤ 60000
        · obtain ⟨us', hus⟩ : ∃ us', us' = us ++ enc s := ⟨_, rfl⟩
          have Hus := Lib.hid hus
          clear hus
          go_wp2_with fail
          refine (logF (s := ⟨us', us'.length, -1, false⟩) s HD.out HM.out.log (by omega) (by omega) (by rw [Hus.out])).mono ?_
          rintro e w4 ⟨rfl, v4, hD4, hO4, hv4⟩
          have hb4 := HM.out.below.trans ((hO4.devBelow HD.out).mono hb1'.size)
          have hM4 : LastsAt w w1.heap.size w1.heap.size L w.heap.size x0 x1 (all ++ [s]) us' w4 := ⟨⟨v4, hD4⟩, hO4.blk HD.out HM.out.log (by decide) (by decide), hO4.blk HD.out HM.out.box (by decide) (by decide), hb4,
            by rw [Hus.out, HM.out.eq, encs_append], fun x hx => by
              rcases List.mem_append.1 hx with hx | hx
              · exact HM.out.small x hx
              · rw [List.mem_singleton.1 hx]; omega⟩
          have hown4 := hO4.row HD.out Hown.out
          have HM4 := Lib.hid hM4
          have hc4 := reads_cell (hA.at_ hb4) hlt
          rw [← Hs.out] at hc4
          have hownA := hown4.alloc (.cells #[.string s] 9)
          have hr4 := reads_newV w4 [.string s] 9 (0, 0)
          obtain ⟨i9, hi9, hz9, hs9, hb9⟩ := info_parts Try.info9
          have hbs4 := hb4.size
          have HownA := Lib.hid hownA
          have Hown4 := Lib.hid hown4
          clear hM4 hO4 hv4 hD4 hown4 hownA
          go_wp2_with (at_builtin; refine wpList_append_any _ rfl (.tmp 72) (.tmp 77) 45 rfl w.heap.size 9 i9 _ 1 16 Try.underlying45 hi9 hz9 hs9 hb9 rfl (by omega) u12 all.length (strs all) rfl HownA.out (w4.heap.size + 1) (some ⟨w4.heap.size, 0, none⟩) 1 1 [.string s] rfl hr4 (by simp; rfl) (by unfold maxLen; omega) (by omega) (by simp; omega) ?_; intro v5 w5 hown5 hg5 hat5; have Hown5 := Lib.hid hown5; have Hg5 := Lib.hid hg5; clear hown5 hg5 hat5)
          have hM5 : LastsAt w w1.heap.size w1.heap.size L w.heap.size x0 x1 (all ++ [s]) us' w5 := by
            have hn : ∀ {t : TypeId} {g : Nat} {cs : Array Value}, Blk w4 g t cs → t ≠ 9 → Blk w5 g t cs := fun h ht => (h.alloc _).grown Hg5.out (fun e => own_blk_ne HownA.out (h.alloc _) (Ne.symm ht) e.symm)
            obtain ⟨v4, hD4⟩ := HM4.out.dev
            refine ⟨⟨v4, ?_⟩, hn HM4.out.log (by decide), hn HM4.out.box (by decide), (HM4.out.below.alloc HM4.out.below.size _).grown Hg5.out (by simp; omega) (fun i hi => (Hown4.out.lt i hi).1), HM4.out.eq, HM4.out.small⟩
            have hDa := hD4.alloc (.cells #[.string s] 9)
            exact hDa.only (S := fun i => u12.ownBlock = some i) ((Only.refl _ _).grown Hg5.out (fun i hi _ => hi)) (own_blk_ne HownA.out hDa.blk (by decide)) (fun i hi h => own_ne_own HownA.out hDa.own (by decide) h hi)
          go_roundw
          case rel => exact ⟨k + 1, all ++ [s], us', by omega, by go_num, by simp; omega, by simpa [strs] using Hown5.out, Lib.hid hM5⟩
          case measure => simp [intOf]; omega
        · go_wp2_with fail
          refine (logFullF s HD.out HM.out.log (by omega) (by omega)).mono ?_
          rintro e w4 ⟨rfl, v4, hD4, hO4, hv4⟩
          have hM4 : LastsAt w w1.heap.size w1.heap.size L w.heap.size x0 x1 all us w4 := ⟨⟨v4, hD4⟩, hO4.blk HD.out HM.out.log (by decide) (by decide), hO4.blk HD.out HM.out.box (by decide) (by decide), HM.out.below.trans ((hO4.devBelow HD.out).mono hb1'.size), HM.out.eq, HM.out.small⟩
          have Hown4 := Lib.hid (hO4.row HD.out Hown.out)
          have HM4 := Lib.hid hM4
          clear hM4 hO4 hv4 hD4
          go_wp2_with fail
          go_roundw
          case rel => exact ⟨k + 1, all, us, by omega, by go_num, by omega, Hown4.out, HM4⟩
          case measure => simp [intOf]; omega
    · obtain rfl : k = l.length := by omega
      have hlt' : ¬ ((l.length : Int) < (l.length : Int)) := by omega
      obtain ⟨v, hD⟩ := HM.out.dev
      obtain ⟨E, st, bs2, k2, S, hE, hst, hre, htx, hcase⟩ := lasts_state all us last x0 x1 HM.out.eq HM.out.small Hl.out Hx0.out
      have harm : DS.arm ⟨us, us.length, -1, false⟩ x0 = ⟨us, us.length, x0, false⟩ := by
        have := Hx0.out
        unfold DS.arm
        rw [if_neg (by simp)]
        simp only
        rw [show max x0 (-1) = x0 from by omega]
      have HE := Lib.hid (And.intro hE (And.intro hst (And.intro hre (And.intro htx (And.intro hcase harm)))))
      have HD := Lib.hid hD
      have Hown := Lib.hid hown
      have cB := HM.out.box.cell 0
      simp at cB
      clear hE hst hre htx hcase harm hD hown
      go_wp2_with fail
      refine (arm_dev x0 Hw0.out HD.out).mono ?_
      rintro e w4 ⟨rfl, hD4, hO4⟩
      rw [HE.out.2.2.2.2.2] at hD4
      have hO4' := hO4.mono (S' := fun k => k = w1.heap.size ∨ v.ownBlock = some k) (fun k _ h => .inl h)
      have hb4 := HM.out.below.trans ((hO4'.devBelow HD.out).mono hb1'.size)
      have hL4 := hO4'.blk HD.out HM.out.log (by decide) (by decide)
      have hB4 := hO4'.blk HD.out HM.out.box (by decide) (by decide)
      have hw4 := hO4'.row HD.out Hown.out
      clear hO4 hO4' cB
      go_wp2_with fail
      refine (append_log last hD4 hL4 (by have := hD4.blk.lt; omega)).mono ?_
      rintro e w5 ⟨rfl, v5, hD5, hO5, hv5⟩
      rw [HE.out.2.1] at hD5
      rw [HE.out.1]
      have hb5 := hb4.trans ((hO5.devBelow hD4).mono hb1'.size)
      have hB5 := hO5.blk hD4 hB4 (by decide) (by decide)
      have hw5 := hO5.row hD4 hw4
      have cB := hB5.cell 1
      simp at cB
      clear hO5 hv5 hD4 hL4 hB4 hw4 hb4
      go_wp2_with fail
      refine (restart_dev x1 Hw1.out hD5).mono ?_
      rintro e w6 ⟨rfl, v6, hD6, hO6, hv6⟩
      rw [HE.out.2.2.1] at hD6
      have hb6 := hb5.trans ((hO6.devBelow hD5).mono hb1'.size)
      have hw6 := hO6.row hD5 hw5
      clear hO6 hv6 hD5 hB5 hw5 hb5 cB
      go_wp2_with fail
      refine (openF (l := S) hD6 HE.out.2.2.2.1 rfl).mono ?_
      rintro e w7 ⟨L7, ao7, c7, v7, rfl, hD7, hL7, hs7, hO7, hv7⟩
      have hb7 := hb6.trans ((hO7.devBelow hD6).mono hb1'.size)
      have hw7 := hO7.row hD6 hw6
      obtain ⟨ao, c0, rfl, _, _⟩ := own_shape hw7
      have hSl : S.length ≤ 21 := by
        rcases HE.out.2.2.2.2.1 with h | h | h | h <;> (rw [h.2]; first | omega | (simp; omega))
      clear hO7 hv7 hD6 hD7 hL7 hw6 hb6
      go_wp2_with fail
      refine (same_ref (Reads.of_own hs7) (Reads.of_own hw7) (by omega) (by omega)).mono ?_
      rintro e w8 ⟨rfl, q, hw8⟩
      have hb78 : Below w7.heap.size w7 w8 := by rw [hw8]; exact drewN_below _ _ _
      have Hb8 := Lib.hid (hb7.trans (hb78.mono hb7.size))
      have hr8 := (Reads.of_own (row_below hw7 hb78)).alloc (Nat.le_refl _) (.cells #[] 9)
      have Hu8 := Lib.hid (row_below hs7 hb78)
      have ho8 := own_of_blk (base := w8.heap.size) (xs := []) (Blk.new w8 9 #[]) (Nat.le_refl _) (by decide)
      obtain ⟨i9, hi9, hz9, hs9, hb9⟩ := info_parts Try.info9
      obtain ⟨o, ho⟩ : ∃ o, o = sameB S all := ⟨_, rfl⟩
      obtain ⟨nn, hnn⟩ : ∃ nn, nn = sameB S (all ++ [last]) := ⟨_, rfl⟩
      rw [← ho]
      have Ho := Lib.hid (And.intro ho hnn)
      clear hw8 hb78 hs7 hw7 hb7 ho hnn
      go_wp2_with (first
        | (at_builtin; refine wpList_append_any _ rfl (.tmp 106) (.tmp 107) 45 rfl w8.heap.size 9 i9 _ 1 16 Try.underlying45 hi9 hz9 hs9 hb9 rfl (by omega) (.slice (some ⟨w8.heap.size, 0, none⟩) 0 0) 0 [] rfl ho8 w8.heap.size ao all.length c0 (strs all) rfl hr8 (strs_one all) (by unfold maxLen; omega) (by omega) (by simp) ?_; intro v9 w9 hown9 hg9 hat9; have Hg9 := Lib.hid hg9; rw [Nat.zero_add, List.nil_append] at hown9; have Hown9 := Lib.hid hown9; have hr9 := reads_newV w9 [.string last] 9 (0, 0); have hown9' := hown9.alloc (.cells #[.string last] 9); have hbel9 : Below w8.heap.size w8 w9 := ((Below.refl _ _).alloc (Nat.le_refl _) _).grown hg9 (by simp) (by intro k hk; simp [Value.ownBlock] at hk; omega); have hsz9 := hbel9.size; clear hg9 hat9 hown9)
        | (at_builtin; refine wpList_append_any _ rfl (.tmp 108) (.tmp 110) 45 rfl w8.heap.size 9 i9 _ 1 16 Try.underlying45 hi9 hz9 hs9 hb9 rfl (by omega) v9 all.length (strs all) rfl hown9' (w9.heap.size + 1) (some ⟨w9.heap.size, 0, none⟩) 1 1 [.string last] rfl hr9 (by simp; rfl) (by unfold maxLen; omega) (by omega) (by simp; omega) ?_; intro v10 w10 hown10 hg10 hat10; obtain ⟨ao10, c10, rfl, _, _⟩ := own_shape hown10; have Hg10 := Lib.hid hg10; have Hown10 := Lib.hid hown10; clear hg10 hat10 hown10))
      have hb10 : Below w8.heap.size w8 w10 := (hbel9.alloc hbel9.size _).grown Hg10.out (by have := hbel9.size; simp; omega) (fun k hk => (Hown9.out.lt k hk).1)
      have hru := (Reads.of_own Hu8.out).below hb10
      have hr10 := Reads.of_own Hown10.out
      rw [show strs all ++ [Value.string last] = strs (all ++ [last]) from by simp [strs]] at hr10
      refine (same_ref hru hr10 (by omega) (by omega)).mono ?_
      rintro e w11 ⟨rfl, q, rfl⟩
      rw [← Ho.out.2]
      have Hb := Lib.hid (Hb8.out.trans ((hb10.mono Hb8.out.size).trans (drewN_below _ _ q)))
      have hfin : E = 0 ∧ nn = true ∨ E = 10 ∧ o = true ∨ E = 11 ∧ o = true ∨ E = 11 ∧ o = false ∧ nn = true := by
        rw [Ho.out.1, Ho.out.2]
        rcases HE.out.2.2.2.2.1 with h | h | h | h
        · exact .inl ⟨h.1, sameB_eq h.2⟩
        · exact .inr (.inl ⟨h.1, sameB_eq h.2⟩)
        · exact .inr (.inr (.inl ⟨h.1, sameB_eq h.2⟩))
        · refine .inr (.inr (.inr ⟨h.1, sameB_false fun hp => ?_, sameB_eq h.2⟩))
          have := hp.1
          rw [h.2] at this
          simp at this
      clear hru hr10 hb10 hr9 hown9' hbel9 Ho HE
      rcases hfin with ⟨rfl, rfl⟩ | ⟨rfl, rfl⟩ | ⟨rfl, rfl⟩ | ⟨rfl, rfl, rfl⟩
      all_goals
        go_wp2_with fail
        go_ret
        exact ⟨rfl, Hb.out⟩

set_option maxRecDepth 100000 in
theorem flasts_out {w : World} {A : Option Addr} {cap n : Nat} (last : ByteArray) (x0 x1 : Int) (h : ¬ (n ≤ 20 ∧ last.size ≤ 20000 ∧ 0 ≤ x0)) :
    Calls Try.prog 13 #[.slice A n cap, .string last, .agg #[.int .i64 x0, .int .i64 x1]] w fun e w' => e = .returned (.bool true) ∧ Below w.heap.size w w' := by
  have H := Lib.hid h
  clear h
  by_cases h1 : 20 < n
  · have t1 : decide ((20 : Int) < (n : Int)) = true := by simp; omega
    go_enter Try.func13, Try.ntmps13
    go_wp2_with fail
    refine (awake13 _).mono ?_
    rintro e w1 ⟨rfl, hb1⟩
    have hB1 : Blk w1 w.heap.size 57 #[.int .i64 x0, .int .i64 x1] := (Blk.new w 57 _).below hb1 (Blk.new w 57 _).lt
    have hb1' : Below w.heap.size w w1 := ((Below.refl _ _).alloc (Nat.le_refl _) _).trans (hb1.mono (by simp))
    clear hb1
    go_wp2_with fail
    refine (new_dev _).mono ?_
    rintro e w2 ⟨rfl, hD2, hb2⟩
    have hB2 := hB1.below hb2 hB1.lt
    have hb2' := hb1'.trans (hb2.mono hb1'.size)
    have c2 := hB2.cell 0
    simp at c2
    go_wp2_with fail
    go_ret
    exact ⟨rfl, hb2'⟩
  have t1 : decide ((20 : Int) < (n : Int)) = false := by simp; omega
  by_cases h2 : 20000 < last.size
  · have t2 : decide ((20000 : Int) < (last.size : Int)) = true := by simp; omega
    go_enter Try.func13, Try.ntmps13
    go_wp2_with fail
    refine (awake13 _).mono ?_
    rintro e w1 ⟨rfl, hb1⟩
    have hB1 : Blk w1 w.heap.size 57 #[.int .i64 x0, .int .i64 x1] := (Blk.new w 57 _).below hb1 (Blk.new w 57 _).lt
    have hb1' : Below w.heap.size w w1 := ((Below.refl _ _).alloc (Nat.le_refl _) _).trans (hb1.mono (by simp))
    clear hb1
    go_wp2_with fail
    refine (new_dev _).mono ?_
    rintro e w2 ⟨rfl, hD2, hb2⟩
    have hB2 := hB1.below hb2 hB1.lt
    have hb2' := hb1'.trans (hb2.mono hb1'.size)
    have c2 := hB2.cell 0
    simp at c2
    go_wp2_with fail
    go_ret
    exact ⟨rfl, hb2'⟩
  have t2 : decide ((20000 : Int) < (last.size : Int)) = false := by simp; omega
  by_cases h3 : x0 < 0
  · have t3 : decide (x0 < 0) = true := by simpa using h3
    go_enter Try.func13, Try.ntmps13
    go_wp2_with fail
    refine (awake13 _).mono ?_
    rintro e w1 ⟨rfl, hb1⟩
    have hB1 : Blk w1 w.heap.size 57 #[.int .i64 x0, .int .i64 x1] := (Blk.new w 57 _).below hb1 (Blk.new w 57 _).lt
    have hb1' : Below w.heap.size w w1 := ((Below.refl _ _).alloc (Nat.le_refl _) _).trans (hb1.mono (by simp))
    clear hb1
    go_wp2_with fail
    refine (new_dev _).mono ?_
    rintro e w2 ⟨rfl, hD2, hb2⟩
    have hB2 := hB1.below hb2 hB1.lt
    have hb2' := hb1'.trans (hb2.mono hb1'.size)
    have c2 := hB2.cell 0
    simp at c2
    go_wp2_with fail
    go_ret
    exact ⟨rfl, hb2'⟩
  exact absurd (show n ≤ 20 ∧ last.size ≤ 20000 ∧ 0 ≤ x0 from by omega) H.out

theorem flasts_all {w : World} {A : Option Addr} {cap : Nat} {l : List ByteArray} (last : ByteArray) (x0 x1 : Int) (hA : CameS w A cap l) (hw0 : (Lit.int .i64 x0).wf = true) (hw1 : (Lit.int .i64 x1).wf = true) :
    Calls Try.prog 13 #[.slice A l.length cap, .string last, .agg #[.int .i64 x0, .int .i64 x1]] w fun e w' => e = .returned (.bool true) ∧ Below w.heap.size w w' := by
  by_cases h : l.length ≤ 20 ∧ last.size ≤ 20000 ∧ 0 ≤ x0
  · exact flasts_walk last x0 x1 hA h.1 h.2.1 h.2.2 hw0 hw1
  · exact flasts_out last x0 x1 h
end Go.Proofs.Ytaakamjjglpibaa.Dv
