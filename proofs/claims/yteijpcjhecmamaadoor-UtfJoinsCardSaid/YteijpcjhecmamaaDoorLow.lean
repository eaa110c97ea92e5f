/-
  utf.Lower, utf.Many: what they compute.
-/
import Derived.Test.YteijpcjhecmamaaDoorFixW
import Derived.Lib.ConvBytes
namespace Go.Proofs.YteijpcjhecmamaaDoor.Uf
open Go.RowKit

def lowB (b : UInt8) : UInt8 := if 65 ≤ b.toNat ∧ b.toNat ≤ 90 then b + 32 else b
def lowL (l : List UInt8) : List UInt8 := l.map lowB
def mixL (l : List UInt8) (k : Nat) : List UInt8 := (l.take k).map lowB ++ l.drop k
theorem mix_len (l : List UInt8) (k : Nat) (hk : k ≤ l.length) : (mixL l k).length = l.length := by simp [mixL]; omega
theorem mix_at (l : List UInt8) (k : Nat) (hk : k < l.length) : (mixL l k).getD k 0 = l.getD k 0 := by
  have hk' : k ≤ l.length := by omega
  simp only [mixL, List.getD]
  rw [List.getElem?_append_right (by simp; omega)]
  simp [hk']
theorem getD_at (l : List UInt8) (k : Nat) (hk : k < l.length) : l.getD k 0 = l[k] := by simp [List.getD, List.getElem?_eq_getElem hk]
theorem mix_step (l : List UInt8) (k : Nat) (hk : k < l.length) : (mixL l k).set k (lowB (l.getD k 0)) = mixL l (k + 1) := by
  unfold mixL
  rw [List.set_append_right _ _ (by simp; omega)]
  have e : l.drop k = l[k] :: l.drop (k + 1) := List.drop_eq_getElem_cons hk
  have h0 : k - (List.map lowB (l.take k)).length = 0 := by simp; omega
  rw [h0, e, List.set_cons_zero, List.take_succ_eq_append_getElem hk, getD_at l k hk]
  simp only [List.map_append, List.map_cons, List.map_nil, List.append_assoc, List.cons_append, List.nil_append]
theorem mix_same (l : List UInt8) (k : Nat) (hk : k < l.length) (h : lowB (l.getD k 0) = l.getD k 0) : mixL l k = mixL l (k + 1) := by
  have h2 : k < (mixL l k).length := by rw [mix_len _ _ (by omega)]; exact hk
  rw [← mix_step l k hk, h, ← mix_at l k hk, getD_at _ k h2, List.set_getElem_self]

/-- A row of bytes with spare room behind it. -/
def RowB (W : World) (g : Nat) (l : List UInt8) (pad : List Value) : Prop :=
  W.heap[g]? = some (.cells (Lib.byteCells l ++ pad).toArray 5 (l.length + pad.length, l.length + pad.length + 1))
theorem RowB.cell {W : World} {g : Nat} {l : List UInt8} {pad : List Value} (h : RowB W g l pad) {k : Nat} (hk : k < l.length) : W.cell? ⟨g, k, none⟩ = some (.int .u8 (l.getD k 0).toNat) := by
  rw [cell_of_row W g k _ 5 _ h]
  simp [Lib.byteCells, List.getElem?_append_left, hk, List.getD]
theorem RowB.frozen {W : World} {g : Nat} {l : List UInt8} {pad : List Value} (h : RowB W g l pad) {k : Nat} (hk : k < l.length) : W.frozen? ⟨g, k, none⟩ = false := by
  unfold World.frozen?
  rw [h]
  simp
  omega
theorem RowB.set_ {W : World} {g : Nat} {l : List UInt8} {pad : List Value} (h : RowB W g l pad) {k : Nat} (hk : k < l.length) (b : UInt8) : RowB (W.setCell ⟨g, k, none⟩ (.int .u8 b.toNat)) g (l.set k b) pad := by
  unfold RowB at h ⊢
  simp [World.setCell, Array.getElem?_modify, h, Lib.byteCells, List.set_append_left, hk]
theorem RowB.new (w : World) (s : ByteArray) : RowB (Lib.bytesWorld w 5 s) w.heap.size s.data.toList (List.replicate (grownCap w s.size 0 5 - s.size) (Value.int .u8 0)) := by
  unfold RowB
  rw [Lib.bytesWorld_at_new]
  have e : Lib.bytesCells w 5 s = (Lib.byteCells s.data.toList ++ List.replicate (grownCap w s.size 0 5 - s.size) (Value.int .u8 0)).toArray := by
    apply Array.ext'
    simp [Lib.bytesCells, Lib.byteCells]
  have e2 : (Lib.bytesCells w 5 s).size = s.data.toList.length + (List.replicate (grownCap w s.size 0 5 - s.size) (Value.int .u8 0)).length := by
    rw [e]
    simp [Lib.byteCells]
  rw [e2, e]
theorem RowB.reads {W : World} {g : Nat} {l : List UInt8} {pad : List Value} (h : RowB W g l pad) : Reads W W.heap.size 1 (some ⟨g, 0, none⟩) l.length (cellsOf (l.map fun b => (b.toNat : Int))) := by
  refine ⟨by simp [cellsOf], fun _ => ⟨_, rfl, (Array.getElem?_eq_some_iff.1 h).1, fun j u hu => ?_⟩⟩
  have ha : (⟨g, 0, none⟩ : Addr).add j = ⟨g, j, none⟩ := by unfold Addr.add; split <;> simp_all
  have hj : j < l.length := by
    have := (List.getElem?_eq_some_iff.1 hu).1
    simpa [cellsOf] using this
  rw [ha, h.cell hj, ← hu]
  simp [cellsOf, List.getD, List.getElem?_eq_getElem hj]
theorem str_of_bytes (l : List UInt8) : strOfNums (l.map fun b => (b.toNat : Int)) = ⟨l.toArray⟩ := by
  have h := strOfNums_ints ⟨l.toArray⟩
  simpa [ints] using h

theorem bytesWorld_below (w : World) (s : ByteArray) : Below w.heap.size w (Lib.bytesWorld w 5 s) :=
  ⟨rfl, rfl, rfl, by rw [Lib.bytesWorld_size]; omega, fun k hk => Lib.bytesWorld_at_old w 5 s k hk⟩

set_option maxRecDepth 100000 in
set_option maxHeartbeats 1600000 in
theorem lower_u {w : World} (s : ByteArray) (hs : s.size ≤ 100000) :
    Calls Tryd.prog 13 #[.string s] w fun e w' => e = .returned (.string ⟨(lowL s.data.toList).toArray⟩) ∧ Below w.heap.size w w' := by
  have hcv := Lib.run_convert_string_bytes (P := Tryd.prog) w 9 28 5 s Tryd.underlying9 Tryd.underlying28 Tryd.underlying5
  have hR0 := RowB.new w s
  have hb0 := bytesWorld_below w s
  obtain ⟨pad, hpad⟩ : ∃ pad, pad = List.replicate (grownCap w s.size 0 5 - s.size) (Value.int .u8 0) := ⟨_, rfl⟩
  obtain ⟨cap, hcap⟩ : ∃ cap, cap = grownCap w s.size 0 5 := ⟨_, rfl⟩
  rw [← hpad] at hR0
  rw [← hcap] at hcv
  obtain ⟨w0, hw0⟩ : ∃ w0, w0 = Lib.bytesWorld w 5 s := ⟨_, rfl⟩
  rw [← hw0] at hR0 hb0 hcv
  obtain ⟨l, hl⟩ : ∃ l, l = s.data.toList := ⟨_, rfl⟩
  have hll : l.length = s.size := by rw [hl]; simp
  rw [← hl] at hR0 ⊢
  have HR0 := Lib.hid hR0
  have HL := Lib.hid hll
  clear hpad hcap hw0 hl hR0 hll
  go_enter Tryd.func13, Tryd.ntmps13
  go_wp2
  go_loopw [10] (fun i wr => ∃ k : Nat, k ≤ s.size ∧ i = .int .i64 k ∧ Hid (RowB wr w.heap.size (mixL l k) pad) ∧ Below w.heap.size w wr) (fun i _ => s.size - (intOf i).toNat)
  case atStart => exact ⟨0, Nat.zero_le _, rfl, by simpa [mixL] using HR0, hb0⟩
  case round =>
    obtain ⟨k, hk, rfl, HR, hbw⟩ := hrel
    by_cases hlt : k < s.size
    · have hlt' : (k : Int) < (s.size : Int) := by omega
      have hkl : k < l.length := by rw [HL.out]; exact hlt
      have hkm : k < (mixL l k).length := by rw [mix_len _ _ (by omega)]; exact hkl
      have hc := HR.out.cell hkm
      rw [mix_at l k hkl] at hc
      have hfz := HR.out.frozen hkm
      obtain ⟨b, hb⟩ : ∃ b, b = l.getD k 0 := ⟨_, rfl⟩
      rw [← hb] at hc
      obtain ⟨x, hx⟩ : ∃ x, x = b.toNat := ⟨_, rfl⟩
      rw [← hx] at hc
      have hx256 : x < 256 := by rw [hx]; exact b.toNat_lt
      have Hb := Lib.hid hb
      have Hx := Lib.hid hx
      clear hb hx hkm
      by_cases hin : 65 ≤ x ∧ x ≤ 90
      · have t1 : decide ((65 : Int) ≤ (x : Int)) = true := by simp; omega
        have t2 : decide ((x : Int) ≤ 90) = true := by simp; omega
        have hv1 : ((x : Int) + 97) % 256 = (x : Int) + 97 := by omega
        have hv2 : ((x : Int) + 97 - 65) % 256 = (x : Int) + 32 := by omega
        go_wp2
        go_roundw
        case rel =>
          have hlow : lowB b = b + 32 := by
            unfold lowB
            rw [if_pos (by rw [← Hx.out]; exact hin)]
          have hv : ((b + 32).toNat : Int) = (x : Int) + 97 - 65 := by
            rw [UInt8.toNat_add, ← Hx.out]
            simp
            omega
          have h := HR.out.set_ (k := k) (by rw [mix_len _ _ (by omega)]; exact hkl) (b + 32)
          rw [← hlow, Hb.out, mix_step l k hkl, ← Hb.out, hlow, hv] at h
          exact ⟨k + 1, by omega, by go_num, h, hbw.setCell (p := ⟨w.heap.size, k, none⟩) (Nat.le_refl _) _⟩
        case measure => simp [intOf]; omega
      · have hlow : lowB b = b := by
          unfold lowB
          rw [if_neg (by rw [← Hx.out]; exact hin)]
        have hsame := mix_same l k hkl (by rw [← Hb.out]; exact hlow)
        have Hs := Lib.hid hsame
        clear hsame hlow
        by_cases h65 : 65 ≤ x
        · have t1 : decide ((65 : Int) ≤ (x : Int)) = true := by simp; omega
          have t2 : decide ((x : Int) ≤ 90) = false := by simp; omega
          go_wp2
          go_roundw
          case rel => exact ⟨k + 1, by omega, by go_num, by rw [← Hs.out]; exact HR, hbw⟩
          case measure => simp [intOf]; omega
        · have t1 : decide ((65 : Int) ≤ (x : Int)) = false := by simp; omega
          go_wp2
          go_roundw
          case rel => exact ⟨k + 1, by omega, by go_num, by rw [← Hs.out]; exact HR, hbw⟩
          case measure => simp [intOf]; omega
    · obtain rfl : k = s.size := by omega
      have hlt' : ¬ ((s.size : Int) < (s.size : Int)) := by omega
      have hfin : mixL l s.size = lowL l := by
        rw [← HL.out]
        simp [mixL, lowL]
      have hrd := HR.out.reads
      rw [mix_len _ _ (by rw [HL.out]; omega), HL.out, hfin] at hrd
      have hcv2 := conv_reads hrd cap
      rw [str_of_bytes] at hcv2
      clear hrd hfin
      go_wp2
      go_ret
      exact ⟨rfl, hbw⟩

theorem many_u {w : World} (s : ByteArray) (hs : s.size ≤ 100000) :
    Calls Tryd.prog 11 #[.string s] w fun e w' => e = .returned (.int .i64 (Lib.runeCount s : Nat)) ∧ Below w.heap.size w w' := by
  go_enter Tryd.func11, Tryd.ntmps11
  go_wp2_with fail
  refine (Tryd.utf8_RuneCountInString s _ (by omega)).mono ?_
  rintro e w1 ⟨rfl, pos, rfl⟩
  have hb : Below w.heap.size w (w.iter s pos) := (Below.refl _ w).alloc (Nat.le_refl _) _
  have Hb := Lib.hid hb
  clear hb
  go_wp2_with fail
  go_ret
  exact ⟨rfl, Hb.out⟩
end Go.Proofs.YteijpcjhecmamaaDoor.Uf
