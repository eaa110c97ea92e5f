/-
  The reference's Valid and Lower: what they compute.
-/
import Derived.Test.YteijpcjhecmamaaDoorFixQ
import Derived.Test.YteijpcjhecmamaaDoorVu
namespace Go.Proofs.YteijpcjhecmamaaDoor.Uf
open Go.RowKit


set_option maxRecDepth 100000 in
set_option maxHeartbeats 800000 in
theorem valid_ref {w : World} (s : ByteArray) (hs : s.size ≤ 100000) : Calls Tryd.prog 10 #[.string s] w fun e w' => e = .returned (.bool (Lib.validD s.data.toList)) ∧ w' = w := by
  have hs2 : s.size ≤ 1000000 := by omega
  obtain ⟨l, hl⟩ : ∃ l, l = s.data.toList := ⟨_, rfl⟩
  have hll : l.length = s.size := by rw [hl]; simp
  obtain ⟨v, hv⟩ : ∃ v, v = Lib.validD l := ⟨_, rfl⟩
  rw [← hl, ← hv]
  have HL := Lib.hid (And.intro hl (And.intro hll hv))
  clear hl hll hv
  go_enter Tryd.func10, Tryd.ntmps10
  go_wp2
  go_loop [3] (fun a => ∃ pos : Nat, pos ≤ s.size ∧ a = .int .i64 pos ∧ Hid (Lib.validD (l.drop pos) = v)) (fun a => s.size - (intOf a).toNat)
  case atStart => exact ⟨0, Nat.zero_le _, rfl, Lib.hid (by rw [HL.out.2.2]; rfl)⟩
  case round =>
    obtain ⟨pos, hk, rfl, HV⟩ := hrel
    by_cases hp : pos < s.size
    · have hp' : (pos : Int) < (s.size : Int) := by omega
      have hpl : pos < l.length := by rw [HL.out.2.1]; exact hp
      obtain ⟨rn, hrn⟩ : ∃ rn, rn = rightL (l.drop pos) := ⟨_, rfl⟩
      have hle : pos + rn ≤ s.size := by
        have h1 := Lib.decodeL_le (l.drop pos) (drop_ne hpl)
        have h2 := Lib.decodeL_width (l.drop pos)
        have h3 := max_right (l.drop pos)
        rw [← hrn] at h3
        rw [List.length_drop, HL.out.2.1] at h1
        omega
      have Hrn2 := Lib.hid (show rn = rightL (s.data.toList.drop pos) by rw [hrn, HL.out.1])
      have Hrn := Lib.hid hrn
      clear hrn
      by_cases h0 : rn = 0
      · have hv0 : v = false := by rw [← HV.out]; exact valid_right0 (drop_ne hpl) (by rw [← Hrn.out]; exact h0)
        have q : ((rn : Int) == 0) = true := by simp; omega
        have Hv0 := Lib.hid hv0
        clear hv0 h0
        go_wp2_with fail
        refine (right_ref s pos _ hp hs2).mono ?_
        rintro e w2 ⟨rfl, hw2⟩
        rw [hw2]
        clear hw2 w2
        rw [← Hrn2.out]
        go_wp2_with fail
        go_ret
        exact ⟨by rw [Hv0.out]; rfl, rfl⟩
      · have hvn : Lib.validD (l.drop (pos + rn)) = v := by rw [← HV.out, valid_rightN (drop_ne hpl) (by rw [← Hrn.out]; exact h0), ← Hrn.out, List.drop_drop]
        have q : ((rn : Int) == 0) = false := by simp; omega
        have Hvn := Lib.hid hvn
        have h1 : 1 ≤ rn := by omega
        clear hvn h0
        go_wp2_with fail
        refine (right_ref s pos _ hp hs2).mono ?_
        rintro e w2 ⟨rfl, hw2⟩
        rw [hw2]
        clear hw2 w2
        rw [← Hrn2.out]
        go_wp2_with fail
        go_round
        case rel => exact ⟨pos + rn, hle, by go_num, Hvn⟩
        case measure => simp [intOf]; omega
    · have hp' : ¬ (pos : Int) < (s.size : Int) := by omega
      have hfin : v = true := by
        rw [← HV.out, List.drop_of_length_le (by rw [HL.out.2.1]; omega)]
        rfl
      have Hfin := Lib.hid hfin
      clear hfin
      go_wp2_with fail
      go_ret
      exact ⟨by rw [Hfin.out]; rfl, rfl⟩

set_option maxRecDepth 100000 in
set_option maxHeartbeats 1600000 in
theorem lower_ref {w : World} (s : ByteArray) (hs : s.size ≤ 100000) :
    Calls Tryd.prog 14 #[.string s] w fun e w' => e = .returned (.string ⟨(lowL s.data.toList).toArray⟩) ∧ Below w.heap.size w w' := by
  have hcv := Lib.run_convert_string_bytes (P := Tryd.prog) w 9 28 5 s Tryd.underlying9 Tryd.underlying28 Tryd.underlying5
  have hR0 := RowB.new w s
  have hb0 := bytesWorld_below w s
  obtain ⟨pad, hpad⟩ : ∃ pad, pad = List.replicate (grownCap w s.size 0 5 - s.size) (Value.int .u8 0) := ⟨_, rfl⟩
  obtain ⟨cap, hcap⟩ : ∃ cap, cap = grownCap w s.size 0 5 := ⟨_, rfl⟩
  rw [← hpad] at hR0
  rw [← hcap] at hcv
  obtain ⟨w0, hw0⟩ : ∃ w0, w0 = Lib.bytesWorld w 5 s := ⟨_, rfl⟩
  rw [← hw0] at hR0 hb0 hcv
  obtain ⟨l, hl⟩ : ∃ l, l = s.data.toList := ⟨_, rfl⟩
  have hll : l.length = s.size := by rw [hl]; simp
  rw [← hl] at hR0 ⊢
  have HR0 := Lib.hid hR0
  have HL := Lib.hid hll
  clear hpad hcap hw0 hl hR0 hll
  go_enter Tryd.func14, Tryd.ntmps14
  go_wp2
  go_loopw [4] (fun i wr => ∃ k : Nat, k ≤ s.size ∧ i = .int .i64 k ∧ Hid (RowB wr w.heap.size (mixL l k) pad) ∧ Below w.heap.size w wr) (fun i _ => s.size - (intOf i).toNat)
  case atStart => exact ⟨0, Nat.zero_le _, rfl, by simpa [mixL] using HR0, hb0⟩
  case round =>
    obtain ⟨k, hk, rfl, HR, hbw⟩ := hrel
    by_cases hlt : k < s.size
    · have hlt' : (k : Int) < (s.size : Int) := by omega
      have hkl : k < l.length := by rw [HL.out]; exact hlt
      have hkm : k < (mixL l k).length := by rw [mix_len _ _ (by omega)]; exact hkl
      have hc := HR.out.cell hkm
      rw [mix_at l k hkl] at hc
      have hfz := HR.out.frozen hkm
      obtain ⟨b, hb⟩ : ∃ b, b = l.getD k 0 := ⟨_, rfl⟩
      rw [← hb] at hc
      obtain ⟨x, hx⟩ : ∃ x, x = b.toNat := ⟨_, rfl⟩
      rw [← hx] at hc
      have hx256 : x < 256 := by rw [hx]; exact b.toNat_lt
      have Hb := Lib.hid hb
      have Hx := Lib.hid hx
      clear hb hx hkm
      by_cases hin : 65 ≤ x ∧ x ≤ 90
      · have t1 : decide ((65 : Int) ≤ (x : Int)) = true := by simp; omega
        have t2 : decide ((x : Int) ≤ 90) = true := by simp; omega
        have hv1 : ((x : Int) + 32) % 256 = (x : Int) + 32 := by omega
        go_wp2
        go_roundw
        case rel =>
          have hlow : lowB b = b + 32 := by
            unfold lowB
            rw [if_pos (by rw [← Hx.out]; exact hin)]
          have hv : ((b + 32).toNat : Int) = (x : Int) + 32 := by
            rw [UInt8.toNat_add, ← Hx.out]
            simp
            omega
          have h := HR.out.set_ (k := k) (by rw [mix_len _ _ (by omega)]; exact hkl) (b + 32)
          rw [← hlow, Hb.out, mix_step l k hkl, ← Hb.out, hlow, hv] at h
          exact ⟨k + 1, by omega, by go_num, h, hbw.setCell (p := ⟨w.heap.size, k, none⟩) (Nat.le_refl _) _⟩
        case measure => simp [intOf]; omega
      · have hlow : lowB b = b := by
          unfold lowB
          rw [if_neg (by rw [← Hx.out]; exact hin)]
        have hsame := mix_same l k hkl (by rw [← Hb.out]; exact hlow)
        have Hs := Lib.hid hsame
        clear hsame hlow
        by_cases h65 : 65 ≤ x
        · have t1 : decide ((65 : Int) ≤ (x : Int)) = true := by simp; omega
          have t2 : decide ((x : Int) ≤ 90) = false := by simp; omega
          go_wp2
          go_roundw
          case rel => exact ⟨k + 1, by omega, by go_num, by rw [← Hs.out]; exact HR, hbw⟩
          case measure => simp [intOf]; omega
        · have t1 : decide ((65 : Int) ≤ (x : Int)) = false := by simp; omega
          go_wp2
          go_roundw
          case rel => exact ⟨k + 1, by omega, by go_num, by rw [← Hs.out]; exact HR, hbw⟩
          case measure => simp [intOf]; omega
    · obtain rfl : k = s.size := by omega
      have hlt' : ¬ ((s.size : Int) < (s.size : Int)) := by omega
      have hfin : mixL l s.size = lowL l := by
        rw [← HL.out]
        simp [mixL, lowL]
      have hrd := HR.out.reads
      rw [mix_len _ _ (by rw [HL.out]; omega), HL.out, hfin] at hrd
      have hcv2 := conv_reads hrd cap
      rw [str_of_bytes] at hcv2
      clear hrd hfin
      go_wp2
      go_ret
      exact ⟨rfl, hbw⟩
end Go.Proofs.YteijpcjhecmamaaDoor.Uf
