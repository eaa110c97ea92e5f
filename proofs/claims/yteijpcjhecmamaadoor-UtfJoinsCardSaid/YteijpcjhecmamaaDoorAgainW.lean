/-
  UtfAgain's walk.
-/
import Derived.Test.YteijpcjhecmamaaDoorFixQ
import Derived.Test.YteijpcjhecmamaaDoorVu
namespace Go.Proofs.YteijpcjhecmamaaDoor.Uf
open Go.RowKit


/-- Is what came so far plain? -/
def plN (v : Bool) (xs : List Int) (k : Nat) : Bool := v && (xs.take k).all fun x => decide (x ≠ 0) && decide (x ≠ 13)
theorem plN_step {v : Bool} {xs : List Int} {k : Nat} {x : Int} (hk : k < xs.length) (hx : x = xs[k]) : plN v xs (k + 1) = (plN v xs k && (decide (x ≠ 0) && decide (x ≠ 13))) := by
  subst hx
  unfold plN
  rw [List.take_succ_eq_append_getElem hk, List.all_append]
  simp [Bool.and_assoc]
theorem bytes_of (w : World) (s : ByteArray) : ∃ (c : Nat) (w0 : World), (convert 9 28 (.string s)).run Tryd.prog w = .ok (.slice (some ⟨w.heap.size, 0, none⟩) s.size c) w0 ∧ Below w.heap.size w w0 ∧ Reads w0 w0.heap.size 1 (some ⟨w.heap.size, 0, none⟩) s.size (cellsOf (ints s)) := by
  refine ⟨_, _, Lib.run_convert_string_bytes (P := Tryd.prog) w 9 28 5 s Tryd.underlying9 Tryd.underlying28 Tryd.underlying5, bytesWorld_below w s, ?_⟩
  have h := (RowB.new w s).reads
  have hl : s.data.toList.length = s.size := by simp
  rw [hl] at h
  exact h

/-- What a plain text is. -/
theorem again_same {xs : List Int} {s t : ByteArray} {v : Bool} (hx : Bts xs) (hs : s = strOfNums xs) (ht : t = ⟨(fixU s.data.toList).toArray⟩) (hv : Lib.validD s.data.toList = v) (hp : plN v xs xs.length = true) : t = s := by
  unfold plN at hp
  rw [List.take_length, Bool.and_eq_true] at hp
  rw [ht, plain_fix _ s.data.toList (Nat.le_refl _) (by rw [hv]; exact hp.1)]
  intro x hx2
  rw [hs] at hx2
  unfold strOfNums at hx2
  simp only [List.mem_map] at hx2
  obtain ⟨z, hz, rfl⟩ := hx2
  have hz2 := List.all_eq_true.1 hp.2 z hz
  have hzb := hx z hz
  simp only [Bool.and_eq_true, decide_eq_true_eq] at hz2
  obtain ⟨n, rfl⟩ := Int.eq_ofNat_of_zero_le hzb.1
  have e : (UInt8.ofNat (n : Int).toNat).toNat = n := by simp; omega
  constructor
  · intro h0
    rw [h0] at e
    simp at e
    omega
  · intro h0
    rw [h0] at e
    simp at e
    omega

set_option maxRecDepth 100000 in
set_option maxHeartbeats 4000000 in
theorem again_walk {w : World} {A : Option Addr} {c0 : Nat} {xs : List Int} (hx : Came w A c0 xs) (hT : Tabs w) (h2 : 2 ≤ w.heap.size) :
    Calls Tryd.prog 4 #[.slice A xs.length c0] w fun e w' => e = .returned (.bool true) ∧ Below w.heap.size w w' := by
  have hx1 := hx.fits
  have hx2 := hx.most
  unfold maxLen at hx2
  by_cases h : 10000 < xs.length
  · have t1 : (10000 : Int) < (xs.length : Int) := by omega
    go_enter Tryd.func4, Tryd.ntmps4
    go_wp2_with fail
    refine (awake1 _).mono ?_
    rintro e w1 ⟨rfl, hb1⟩
    go_wp2_with fail
    go_ret
    exact ⟨rfl, hb1⟩
  have t1 : ¬ (10000 : Int) < (xs.length : Int) := by omega
  obtain ⟨s, hs⟩ : ∃ s, s = strOfNums xs := ⟨_, rfl⟩
  have hsz : s.size ≤ 10000 := by rw [hs, str_size]; omega
  obtain ⟨t, ht⟩ : ∃ t : ByteArray, t = ⟨(fixU s.data.toList).toArray⟩ := ⟨_, rfl⟩
  have htl : t.data.toList = fixU s.data.toList := by rw [ht]
  have htz : t.size ≤ 30000 := by
    have h1 := fix_len _ s.data.toList (Nat.le_refl _)
    rw [← htl] at h1
    simp at h1
    have h3 : t.data.size = t.size := rfl
    have h4 : s.data.size = s.size := rfl
    omega
  have hfp := fix_plain _ s.data.toList (Nat.le_refl _)
  rw [← htl] at hfp
  have ht2 : (⟨(fixU t.data.toList).toArray⟩ : ByteArray) = t := by rw [plain_fix _ t.data.toList (Nat.le_refl _) hfp.1 hfp.2]
  obtain ⟨v, hv⟩ : ∃ v, Lib.validD s.data.toList = v := ⟨_, rfl⟩
  have hsame := again_same hx.byt hs ht hv
  have hss : (t.toList == t.toList) = true := by simp
  have H := Lib.hid (And.intro hs (And.intro ht (And.intro ht2 (And.intro hv (And.intro hfp.1 (And.intro hfp.2 hsame))))))
  have HT := Lib.hid (And.intro hT h2)
  have HX := Lib.hid hx
  clear hs ht ht2 hv hfp hsame htl hT h2
  go_enter Tryd.func4, Tryd.ntmps4
  go_wp2_with fail
  refine (awake1 _).mono ?_
  rintro e w1 ⟨rfl, hb1⟩
  have Hb1 := Lib.hid hb1
  clear hb1
  go_wp2_with fail
  refine (fix_u (HX.out.at_ Hb1.out) Hb1.out.size H.out.1 (by omega)).mono ?_
  rintro e w2 ⟨rfl, hb2⟩
  rw [← H.out.2.1]
  have Hb2 := Lib.hid (Hb1.out.trans (hb2.mono Hb1.out.size))
  clear hb2
  have hcv := conv_reads (HX.out.at_ Hb2.out) c0
  rw [← H.out.1] at hcv
  go_wp2_with fail
  refine (valid_u s (by omega) (HT.out.1.below Hb2.out HT.out.2)).mono ?_
  rintro e w3 ⟨rfl, hb3⟩
  rw [H.out.2.2.2.1]
  have Hb3 := Lib.hid (Hb2.out.trans (hb3.mono Hb2.out.size))
  clear hb3 hcv hx
  go_wp2_with fail
  go_loop [5, 6] (fun p i => ∃ k : Nat, k ≤ xs.length ∧ i = .int .i64 k ∧ p = .bool (plN v xs k)) (fun _ i => xs.length - (intOf i).toNat)
  case atStart => exact ⟨0, Nat.zero_le _, rfl, by simp [plN]⟩
  case round =>
    obtain ⟨k, hk, rfl, rfl⟩ := hrel
    by_cases hlt : k < xs.length
    · have hlt' : (k : Int) < (xs.length : Int) := by omega
      obtain ⟨ad, rfl, -, hcell⟩ := (HX.out.at_ Hb3.out).2 (by omega)
      obtain ⟨x, hxx⟩ : ∃ x, x = xs[k] := ⟨_, rfl⟩
      have hc := hcell k (.int .u8 x) (by simp [cellsOf, List.getElem?_eq_getElem hlt, hxx])
      have hpn := plN_step (v := v) hlt hxx
      have Hpn := Lib.hid hpn
      clear hcell hxx hpn
      obtain ⟨p, hp⟩ : ∃ p, p = plN v xs k := ⟨_, rfl⟩
      rw [← hp] at Hpn ⊢
      clear hp
      cases p with
      | false =>
        go_wp2_with fail
        go_round
        case rel => exact ⟨k + 1, by omega, by go_num, by rw [Hpn.out]; rfl⟩
        case measure => simp [intOf]; omega
      | true =>
        by_cases h0 : x = 0
        · have q : (x != 0) = false := by simp [h0]
          have Hq := Lib.hid h0
          clear h0
          go_wp2_with fail
          go_round
          case rel => exact ⟨k + 1, by omega, by go_num, by rw [Hpn.out, Hq.out]; rfl⟩
          case measure => simp [intOf]; omega
        · have q : (x != 0) = true := by simp [h0]
          by_cases h13 : x = 13
          · have q2 : (x != 13) = false := by simp [h13]
            have Hq := Lib.hid h13
            clear h0 h13
            go_wp2_with fail
            go_round
            case rel => exact ⟨k + 1, by omega, by go_num, by rw [Hpn.out, Hq.out]; rfl⟩
            case measure => simp [intOf]; omega
          · have q2 : (x != 13) = true := by simp [h13]
            have Hq := Lib.hid (And.intro h0 h13)
            clear h0 h13
            go_wp2_with fail
            go_round
            case rel => exact ⟨k + 1, by omega, by go_num, by rw [Hpn.out]; simp [Hq.out.1, Hq.out.2]⟩
            case measure => simp [intOf]; omega
    · obtain rfl : k = xs.length := by omega
      have hlt' : ¬ ((xs.length : Int) < (xs.length : Int)) := by omega
      obtain ⟨p, hp⟩ : ∃ p, p = plN v xs xs.length := ⟨_, rfl⟩
      rw [← hp]
      have Hp := Lib.hid hp
      clear hp
      go_wp2_with fail
      go_loop [7] (fun i => ∃ k : Nat, k ≤ t.size ∧ i = .int .i64 k) (fun i => t.size - (intOf i).toNat)
      case atStart => exact ⟨0, Nat.zero_le _, rfl⟩
      case round =>
        obtain ⟨k, hk, rfl⟩ := hrel
        by_cases hlt : k < t.size
        · have hlt2 : (k : Int) < (t.size : Int) := by omega
          have hpl := H.out.2.2.2.2.2.1 (t[k]'hlt) (by
            have e : t[k]'hlt = t.data.toList[k]'(by simpa using hlt) := rfl
            rw [e]
            exact List.getElem_mem _)
          obtain ⟨x, hxx⟩ : ∃ x, (t[k]'hlt).toNat = x := ⟨_, rfl⟩
          have q0 : ((x : Int) == 0) = false := by
            simp
            intro e
            rw [← hxx] at e
            exact hpl.1 (UInt8.toNat_inj.1 (by show _ = 0; omega))
          have q1 : ((x : Int) == 13) = false := by
            simp
            intro e
            rw [← hxx] at e
            exact hpl.2 (UInt8.toNat_inj.1 (by show _ = 13; omega))
          clear hpl
          go_wp2_with fail
          go_round
          case rel => exact ⟨k + 1, by omega, by go_num⟩
          case measure => simp [intOf]; omega
        · have hlt2 : ¬ (k : Int) < (t.size : Int) := by omega
          go_wp2_with fail
          refine (valid_u t (by omega) (HT.out.1.below Hb3.out HT.out.2)).mono ?_
          rintro e w4 ⟨rfl, hb4⟩
          rw [H.out.2.2.2.2.1]
          have Hb4 := Lib.hid (Hb3.out.trans (hb4.mono Hb3.out.size))
          clear hb4
          obtain ⟨c5, w5, hcv5, hb5, hr5⟩ := bytes_of w4 t
          have Hb5 := Lib.hid (Hb4.out.trans (hb5.mono Hb4.out.size))
          have hr5' : Reads w5 w5.heap.size 1 (some ⟨w4.heap.size, 0, none⟩) t.size (cellsOf (ints t)) := hr5
          have Hr5 := Lib.hid hr5'
          clear hb5 hr5 hr5'
          go_wp2_with fail
          refine (fix_u Hr5.out (Nat.le_refl _) (strOfNums_ints t).symm (by omega)).mono ?_
          rintro e w6 ⟨rfl, hb6⟩
          rw [H.out.2.2.1]
          have Hb6 := Lib.hid (Hb5.out.trans (hb6.mono Hb5.out.size))
          clear hb6
          cases p with
          | false =>
            go_wp2_with fail
            go_ret
            exact ⟨rfl, Hb6.out⟩
          | true =>
            have hcv6 := conv_reads (HX.out.at_ Hb6.out) c0
            rw [← H.out.1, ← H.out.2.2.2.2.2.2 Hp.out.symm] at hcv6
            go_wp2_with fail
            go_ret
            exact ⟨rfl, Hb6.out⟩
end Go.Proofs.YteijpcjhecmamaaDoor.Uf
