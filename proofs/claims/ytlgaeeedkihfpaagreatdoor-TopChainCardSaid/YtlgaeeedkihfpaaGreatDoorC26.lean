/-
  Texts of the proof of Chain, one behind the other: StyA, ShTrim, StyB, StyC, StyD.
-/
import Derived.Test.YtlgaeeedkihfpaaGreatDoorC25
import Derived.Shelf.Strings.SlTrimAscii
import Derived.Ground.NamesProg
import Derived.Test.YtlgaeeedkihfpaaGreatDoorProg
import Derived.Test.YtlgaeeedkihfpaaGreatDoorC16
/-
  style.Value.
-/
namespace Go.Proofs.YtlgaeeedkihfpaaGreatDoor.Uf
open Go.RowKit
open Tz (B smallB styleC styleV)

theorem ix_eq (c : UInt8) : (0 : Int) ≤ ixB [32, 35, 37, 46, 44, 45] c ↔ (c = 32 ∨ c = 35 ∨ c = 37 ∨ c = 46 ∨ c = 44 ∨ c = 45) := by
  unfold ixB
  constructor
  · intro h
    cases hf : ([32, 35, 37, 46, 44, 45] : B).findIdx? (· == c) with
    | none => rw [hf] at h; simp at h
    | some i =>
      have := List.findIdx?_eq_some_iff_getElem.1 hf
      obtain ⟨hlt, he, _⟩ := this
      have hm : ([32, 35, 37, 46, 44, 45] : B)[i] ∈ ([32, 35, 37, 46, 44, 45] : B) := List.getElem_mem hlt
      rw [eq_of_beq he] at hm
      simpa using hm
  · rintro (rfl | rfl | rfl | rfl | rfl | rfl) <;> decide
theorem ix_yes {c : UInt8} (h : (0 : Int) ≤ ixB [32, 35, 37, 46, 44, 45] c) : styleC c = true := by
  rcases (ix_eq c).1 h with rfl | rfl | rfl | rfl | rfl | rfl <;> rfl
theorem ix_no {c : UInt8} (h : ¬ (0 : Int) ≤ ixB [32, 35, 37, 46, 44, 45] c) (h1 : ¬ (97 ≤ c.toNat ∧ c.toNat ≤ 122)) (h2 : ¬ (48 ≤ c.toNat ∧ c.toNat ≤ 57)) : styleC c = false := by
  have h3 := mt (ix_eq c).2 h
  simp only [not_or] at h3
  obtain ⟨g1, g2, g3, g4, g5, g6⟩ := h3
  unfold styleC smallB
  simp [g1, g2, g3, g4, g5, g6]
  omega

set_option maxRecDepth 100000 in
set_option maxHeartbeats 4000000 in
theorem styleval_u {w : World} (s : B) (hs : s.length ≤ 600000000) : Calls Tryz.prog 104 #[.string (bs s)] w fun e w' => e = .returned (.bool (styleV s)) ∧ w' = w := by
  go_enter Tryz.func104, Tryz.ntmps104
  by_cases h0 : s = []
  · subst h0
    have e0 : (([] : B) == ([] : B)) = true := rfl
    go_wp2_with fail
    go_ret
    exact ⟨rfl, rfl⟩
  have e0 : (s == ([] : B)) = false := by simpa using h0
  by_cases h100 : s.length ≤ 100
  case neg =>
    have q1 : (100 : Int) < ((bs s).size : Int) := by rw [bs_size]; omega
    go_wp2_with fail
    go_ret
    exact ⟨by unfold styleV; simp [h100], rfl⟩
  have q1 : ¬ ((100 : Int) < ((bs s).size : Int)) := by rw [bs_size]; omega
  have hpos : 0 < s.length := List.length_pos_iff.2 h0
  have q2 : (0 : Int) < ((bs s).size : Int) := by rw [bs_size]; omega
  have q3 : 0 < (bs s).size := by rw [bs_size]; omega
  obtain ⟨M, hM⟩ : ∃ M, M + 1 = s.length := ⟨s.length - 1, by omega⟩
  have q4 : (M : Int) < ((bs s).size : Int) := by rw [bs_size]; omega
  have q5 : M < (bs s).size := by rw [bs_size]; omega
  have hwz : IntKind.i64.wrap (((bs s).size : Int) - 1) = (M : Int) := by rw [IntKind.wrap_i64, bs_size]; omega
  obtain ⟨x0, hx0⟩ : ∃ x, x = (s[0]'hpos).toNat := ⟨_, rfl⟩
  obtain ⟨xl, hxl⟩ : ∃ x, x = (s[M]'(by omega)).toNat := ⟨_, rfl⟩
  have y0 : ((bs s)[0]'q3).toNat = x0 := by rw [hx0]; rfl
  have yl : ((bs s)[M]'q5).toNat = xl := by rw [hxl]; rfl
  have hhead : s.head? = some (s[0]'hpos) := by rw [List.head?_eq_getElem?, List.getElem?_eq_getElem hpos]
  have hlast : s.getLast? = some (s[M]'(by omega)) := by rw [List.getLast?_eq_getElem?, show s.length - 1 = M by omega, List.getElem?_eq_getElem]
  have H0 := Lib.hid (show (s.head? != some 32) = decide (x0 ≠ 32) by
    rw [hhead, hx0]
    by_cases h : s[0]'hpos = 32
    · rw [h]; rfl
    · have : (s[0]'hpos).toNat ≠ 32 := fun e => h (UInt8.toNat_inj.1 (by rw [e]; rfl))
      simp [h, this])
  have HL := Lib.hid (show (s.getLast? != some 32) = decide (xl ≠ 32) by
    rw [hlast, hxl]
    by_cases h : s[M]'(by omega) = 32
    · rw [h]; rfl
    · have : (s[M]'(by omega)).toNat ≠ 32 := fun e => h (UInt8.toNat_inj.1 (by rw [e]; rfl))
      simp [h, this])
  have HM := Lib.hid hM
  have HP := Lib.hid hpos
  clear hx0 hxl hhead hlast hM hpos
  by_cases z0 : (x0 : Int) = 32
  · go_wp2_with fail
    go_ret
    exact ⟨by unfold styleV; rw [H0.out, show x0 = 32 by omega]; simp, rfl⟩
  by_cases zl : (xl : Int) = 32
  · go_wp2_with fail
    go_ret
    exact ⟨by unfold styleV; rw [HL.out, show xl = 32 by omega]; simp, rfl⟩
  have HV := Lib.hid (show styleV s = s.all styleC by
    unfold styleV
    rw [H0.out, HL.out]
    have : s.isEmpty = false := by simpa using h0
    simp [this, h100, show x0 ≠ 32 by omega, show xl ≠ 32 by omega])
  have z0' : ((x0 : Int) == 32) = false := by simpa using z0
  have zl' : ((xl : Int) == 32) = false := by simpa using zl
  go_wp2_with fail
  clear q1 q2 q3 q4 q5 hwz y0 yl z0 zl e0 z0' zl'
  go_loopw [27] (fun vi wr => ∃ k : Nat, vi = .int .i64 k ∧ k ≤ s.length ∧ wr = w ∧ Hid ((s.drop k).all styleC = s.all styleC)) (fun vi _ => s.length - kOf vi)
  case atStart => exact ⟨0, rfl, Nat.zero_le _, rfl, Lib.hid rfl⟩
  case round =>
    obtain ⟨k, rfl, hk, rfl, Hk⟩ := hrel
    by_cases hlt : k < s.length
    · have t0 : (k : Int) < ((bs s).size : Int) := by rw [bs_size]; omega
      have t1 : k < (bs s).size := by rw [bs_size]; omega
      obtain ⟨c, hc⟩ : ∃ c, c = s[k] := ⟨_, rfl⟩
      have hdc : s.drop k = c :: s.drop (k + 1) := hc ▸ List.drop_eq_getElem_cons hlt
      have hb0 : ((bs s)[k]'t1).toNat = c.toNat := by rw [hc]; rfl
      have hx256 : c.toNat < 256 := c.toNat_lt
      obtain ⟨x, hx⟩ : ∃ x, x = c.toNat := ⟨_, rfl⟩
      rw [← hx] at hb0 hx256
      have Hx := Lib.hid hx
      have Hdc := Lib.hid hdc
      have hi1 : IntKind.i64.wrap ((k : Int) + 1) = ((k + 1 : Nat) : Int) := by rw [IntKind.wrap_i64]; omega
      clear hx hdc hc
      by_cases a1 : (97 : Int) ≤ (x : Int)
      · by_cases a2 : (x : Int) ≤ 122
        · skip
          have Hst := Lib.hid (show (s.drop (k + 1)).all styleC = s.all styleC by rw [← Hk.out, Hdc.out, List.all_cons, show styleC c = true by unfold styleC smallB; simp [Hx.out.symm]; omega]; simp)
          go_wp2_with fail
          go_roundw
          case rel => exact ⟨k + 1, rfl, hlt, trivial, Hst⟩
          case measure =>
            show s.length - kOf (.int .i64 ((k + 1 : Nat) : Int)) < s.length - kOf (.int .i64 (k : Int))
            simp only [kOf, Int.toNat_natCast]
            omega
        · have b1 : ¬ ((x : Int) ≤ 57) := by omega
          have b2 : (48 : Int) ≤ (x : Int) := by omega
          go_wp2_with fail
          refine (index_byte [32, 35, 37, 46, 44, 45] x hx256).mono ?_
          rintro e1 w1 ⟨rfl, hw1⟩
          rw [hw1]
          clear hw1 w1
          have hof : UInt8.ofNat x = c := by rw [Hx.out]; simp
          rw [hof]
          by_cases hi : (0 : Int) ≤ ixB [32, 35, 37, 46, 44, 45] c
          · have Hst := Lib.hid (show (s.drop (k + 1)).all styleC = s.all styleC by rw [← Hk.out, Hdc.out, List.all_cons, show styleC c = true from ix_yes hi]; simp)
            generalize ixB [32, 35, 37, 46, 44, 45] c = I at hi ⊢
            go_wp2_with fail
            go_roundw
            case rel => exact ⟨k + 1, rfl, hlt, trivial, Hst⟩
            case measure =>
              show s.length - kOf (.int .i64 ((k + 1 : Nat) : Int)) < s.length - kOf (.int .i64 (k : Int))
              simp only [kOf, Int.toNat_natCast]
              omega
          · have Hst := Lib.hid (show s.all styleC = false by rw [← Hk.out, Hdc.out, List.all_cons, show styleC c = false from ix_no hi (by rw [← Hx.out]; omega) (by rw [← Hx.out]; omega)]; simp)
            generalize ixB [32, 35, 37, 46, 44, 45] c = I at hi ⊢
            go_wp2_with fail
            go_ret
            unfold styleV
            rw [Hst.out]
            exact ⟨by simp, rfl⟩
      · by_cases b2 : (48 : Int) ≤ (x : Int)
        · by_cases b1 : (x : Int) ≤ 57
          · skip
            have Hst := Lib.hid (show (s.drop (k + 1)).all styleC = s.all styleC by rw [← Hk.out, Hdc.out, List.all_cons, show styleC c = true by unfold styleC smallB; simp [Hx.out.symm]; omega]; simp)
            go_wp2_with fail
            go_roundw
            case rel => exact ⟨k + 1, rfl, hlt, trivial, Hst⟩
            case measure =>
              show s.length - kOf (.int .i64 ((k + 1 : Nat) : Int)) < s.length - kOf (.int .i64 (k : Int))
              simp only [kOf, Int.toNat_natCast]
              omega
          · skip
            go_wp2_with fail
            refine (index_byte [32, 35, 37, 46, 44, 45] x hx256).mono ?_
            rintro e1 w1 ⟨rfl, hw1⟩
            rw [hw1]
            clear hw1 w1
            have hof : UInt8.ofNat x = c := by rw [Hx.out]; simp
            rw [hof]
            by_cases hi : (0 : Int) ≤ ixB [32, 35, 37, 46, 44, 45] c
            · have Hst := Lib.hid (show (s.drop (k + 1)).all styleC = s.all styleC by rw [← Hk.out, Hdc.out, List.all_cons, show styleC c = true from ix_yes hi]; simp)
              generalize ixB [32, 35, 37, 46, 44, 45] c = I at hi ⊢
              go_wp2_with fail
              go_roundw
              case rel => exact ⟨k + 1, rfl, hlt, trivial, Hst⟩
              case measure =>
                show s.length - kOf (.int .i64 ((k + 1 : Nat) : Int)) < s.length - kOf (.int .i64 (k : Int))
                simp only [kOf, Int.toNat_natCast]
                omega
            · have Hst := Lib.hid (show s.all styleC = false by rw [← Hk.out, Hdc.out, List.all_cons, show styleC c = false from ix_no hi (by rw [← Hx.out]; omega) (by rw [← Hx.out]; omega)]; simp)
              generalize ixB [32, 35, 37, 46, 44, 45] c = I at hi ⊢
              go_wp2_with fail
              go_ret
              unfold styleV
              rw [Hst.out]
              exact ⟨by simp, rfl⟩
        · skip
          go_wp2_with fail
          refine (index_byte [32, 35, 37, 46, 44, 45] x hx256).mono ?_
          rintro e1 w1 ⟨rfl, hw1⟩
          rw [hw1]
          clear hw1 w1
          have hof : UInt8.ofNat x = c := by rw [Hx.out]; simp
          rw [hof]
          by_cases hi : (0 : Int) ≤ ixB [32, 35, 37, 46, 44, 45] c
          · have Hst := Lib.hid (show (s.drop (k + 1)).all styleC = s.all styleC by rw [← Hk.out, Hdc.out, List.all_cons, show styleC c = true from ix_yes hi]; simp)
            generalize ixB [32, 35, 37, 46, 44, 45] c = I at hi ⊢
            go_wp2_with fail
            go_roundw
            case rel => exact ⟨k + 1, rfl, hlt, trivial, Hst⟩
            case measure =>
              show s.length - kOf (.int .i64 ((k + 1 : Nat) : Int)) < s.length - kOf (.int .i64 (k : Int))
              simp only [kOf, Int.toNat_natCast]
              omega
          · have Hst := Lib.hid (show s.all styleC = false by rw [← Hk.out, Hdc.out, List.all_cons, show styleC c = false from ix_no hi (by rw [← Hx.out]; omega) (by rw [← Hx.out]; omega)]; simp)
            generalize ixB [32, 35, 37, 46, 44, 45] c = I at hi ⊢
            go_wp2_with fail
            go_ret
            unfold styleV
            rw [Hst.out]
            exact ⟨by simp, rfl⟩
    · have t0 : ¬ ((k : Int) < ((bs s).size : Int)) := by rw [bs_size]; omega
      have Hst := Lib.hid (show s.all styleC = true by rw [← Hk.out, List.drop_of_length_le (by omega)]; rfl)
      go_wp2_with fail
      go_ret
      rw [HV.out, Hst.out]
      exact ⟨rfl, rfl⟩
end Go.Proofs.YtlgaeeedkihfpaaGreatDoor.Uf

/-
  strings.Trim's contract at this translation, laid by the kit's own tool (lay-plain).
-/
namespace Go.Proofs.YtlgaeeedkihfpaaGreatDoor
open Go.Shelf
def Tryz.lays160_ren : Go.Shelf.Ren := ⟨fun | 160 => 124 | 232 => 129 | 231 => 128 | 227 => 130 | 234 => 132 | 233 => 131 | 236 => 134 | 235 => 133 | 228 => 139 | 271 => 141 | 151 => 140 | 197 => 137 | 120 => 144 | 152 => 143 | 260 => 142 | 137 => 32 | 119 => 145 | 224 => 113 | 225 => 112 | 217 => 71 | 266 => 96 | n => n, fun | 9 => 9 | 4 => 4 | 3 => 3 | 5 => 5 | 117 => 162 | 116 => 161 | 0 => 0 | 124 => 165 | 21 => 21 | 105 => 168 | 46 => 146 | 119 => 172 | 139 => 175 | 138 => 174 | n => n, fun | 3 => 1 | 4 => 2 | n => n⟩
theorem Tryz.lays160 : Go.Proofs.Lays.n160 Tryz.prog Tryz.lays160_ren := {
  mixed := by kernel_rfl
  f119 := Tryz.func145.trans (congrArg some (by kernel_rfl))
  f120 := Tryz.func144.trans (congrArg some (by kernel_rfl))
  f137 := Tryz.func32.trans (congrArg some (by kernel_rfl))
  f151 := Tryz.func140.trans (congrArg some (by kernel_rfl))
  f152 := Tryz.func143.trans (congrArg some (by kernel_rfl))
  f160 := Tryz.func124.trans (congrArg some (by kernel_rfl))
  f197 := Tryz.func137.trans (congrArg some (by kernel_rfl))
  f217 := Tryz.func71.trans (congrArg some (by kernel_rfl))
  f224 := Tryz.func113.trans (congrArg some (by kernel_rfl))
  f225 := Tryz.func112.trans (congrArg some (by kernel_rfl))
  f227 := Tryz.func130.trans (congrArg some (by kernel_rfl))
  f228 := Tryz.func139.trans (congrArg some (by kernel_rfl))
  f231 := Tryz.func128.trans (congrArg some (by kernel_rfl))
  f232 := Tryz.func129.trans (congrArg some (by kernel_rfl))
  f233 := Tryz.func131.trans (congrArg some (by kernel_rfl))
  f234 := Tryz.func132.trans (congrArg some (by kernel_rfl))
  f235 := Tryz.func133.trans (congrArg some (by kernel_rfl))
  f236 := Tryz.func134.trans (congrArg some (by kernel_rfl))
  f260 := Tryz.func142.trans (congrArg some (by kernel_rfl))
  f266 := Tryz.func96.trans (congrArg some (by kernel_rfl))
  f271 := Tryz.func141.trans (congrArg some (by kernel_rfl))
  t0 := Tryz.underlying0
  a0 := Tryz.isAgg0
  z0 := Tryz.sizeOf0
  v0 := Tryz.zeroValue0
  t3 := Tryz.underlying3
  a3 := Tryz.isAgg3
  z3 := Tryz.sizeOf3
  v3 := Tryz.zeroValue3
  t4 := Tryz.underlying4
  a4 := Tryz.isAgg4
  z4 := Tryz.sizeOf4
  v4 := Tryz.zeroValue4
  t5 := Tryz.underlying5
  a5 := Tryz.isAgg5
  z5 := Tryz.sizeOf5
  v5 := Tryz.zeroValue5
  t9 := Tryz.underlying9
  a9 := Tryz.isAgg9
  z9 := Tryz.sizeOf9
  v9 := Tryz.zeroValue9
  t21 := Tryz.underlying21
  a21 := Tryz.isAgg21
  z21 := Tryz.sizeOf21
  v21 := Tryz.zeroValue21
  t46 := Tryz.underlying146
  a46 := Tryz.isAgg146
  z46 := Tryz.sizeOf146
  v46 := Tryz.zeroValue146
  t105 := Tryz.underlying168
  a105 := Tryz.isAgg168
  z105 := Tryz.sizeOf168
  v105 := Tryz.zeroValue168
  t116 := Tryz.underlying161
  a116 := Tryz.isAgg161
  z116 := Tryz.sizeOf161
  t117 := Tryz.underlying162
  a117 := Tryz.isAgg162
  z117 := Tryz.sizeOf162
  v117 := Tryz.zeroValue162
  t119 := Tryz.underlying172
  a119 := Tryz.isAgg172
  z119 := Tryz.sizeOf172
  t124 := Tryz.underlying165
  a124 := Tryz.isAgg165
  z124 := Tryz.sizeOf165
  v124 := Tryz.zeroValue165
  t138 := Tryz.underlying174
  a138 := Tryz.isAgg174
  z138 := Tryz.sizeOf174
  v138 := Tryz.zeroValue174
  t139 := Tryz.underlying175
  a139 := Tryz.isAgg175
  z139 := Tryz.sizeOf175
  v139 := Tryz.zeroValue175
  g3 := by kernel_rfl
  g4 := by kernel_rfl }
end Go.Proofs.YtlgaeeedkihfpaaGreatDoor

/-
  style.bare: a text without the white space around it, in small letters.
-/
namespace Go.Proofs.YtlgaeeedkihfpaaGreatDoor.Uf
open Go.RowKit
open Tz (B trimL bareL blankB)

def rtrim (p : UInt8 → Bool) (l : B) : B := (l.reverse.dropWhile p).reverse
theorem rtrim_cons (p : UInt8 → Bool) (c : UInt8) (s : B) : rtrim p (c :: s) = if rtrim p s = [] then (if p c = true then [] else [c]) else c :: rtrim p s := by
  unfold rtrim
  rw [List.reverse_cons, List.dropWhile_append]
  by_cases h : (s.reverse.dropWhile p) = []
  · simp [h]
    split <;> simp_all
  · simp [h]
theorem trim_comm (p : UInt8 → Bool) : ∀ l : B, (rtrim p l).dropWhile p = rtrim p (l.dropWhile p)
  | [] => rfl
  | c :: s => by
    have ih := trim_comm p s
    rw [rtrim_cons, List.dropWhile_cons]
    by_cases hc : p c = true
    · simp only [hc, if_true]
      rw [← ih]
      by_cases h : rtrim p s = []
      · rw [if_pos h, h]
      · rw [if_neg h, List.dropWhile_cons, if_pos hc]
    · simp only [hc]
      simp only [Bool.false_eq_true, if_false]
      rw [rtrim_cons]
      by_cases h : rtrim p s = []
      · simp [h, hc]
      · simp [h, hc]
theorem blank_set : (fun b : UInt8 => ([9, 10, 12, 13, 32] : B).contains b) = blankB := by
  funext b
  unfold blankB
  simp [Bool.or_assoc]
  rfl
theorem trimS_eq (l : B) : Lib.trimS l [9, 10, 12, 13, 32] = trimL l := by
  unfold Lib.trimS Lib.trimLeftS Lib.trimRightS trimL
  rw [show (([9, 10, 12, 13, 32] : B).contains ·) = blankB from blank_set]
  exact trim_comm blankB l
theorem trim_u {w : World} (l : B) (hl : l.length ≤ 600000000) : Calls Tryz.prog 124 #[.string (bs l), .string ⟨#[9, 10, 12, 13, 32]⟩] w fun e w' => e = .returned (.string (bs (trimL l))) ∧ Below w.heap.size w w' := by
  have h := Any.strings_Trim_laid Tryz.lays160 (by kernel_rfl) (bs l) ⟨#[9, 10, 12, 13, 32]⟩ w (by rw [bs_size]; omega) (by decide) (ascii_of_all (by decide))
  change Calls Tryz.prog 124 _ _ _ at h
  refine h.mono ?_
  rintro e w' ⟨rfl, hb⟩
  refine ⟨?_, hb⟩
  rw [bs_data, show (⟨#[9, 10, 12, 13, 32]⟩ : ByteArray).data.toList = [9, 10, 12, 13, 32] from rfl, trimS_eq]
  rfl
theorem trim_len (l : B) : (trimL l).length ≤ l.length := by
  unfold trimL
  have h1 := dropW_le blankB l
  have h2 := dropW_le blankB ((l.dropWhile blankB).reverse)
  simp only [List.length_reverse] at h2 ⊢
  omega
theorem bare_len (l : B) : (bareL l).length ≤ l.length := by
  unfold bareL
  rw [low_len]
  exact trim_len l

set_option maxRecDepth 100000 in
set_option maxHeartbeats 4000000 in
theorem bare_u {w : World} (l : B) (hl : l.length ≤ 600000000) : Calls Tryz.prog 119 #[.string (bs l)] w fun e w' => e = .returned (.string (bs (bareL l))) ∧ Below w.heap.size w w' := by
  go_enter Tryz.func119, Tryz.ntmps119
  go_wp2_with fail
  refine (trim_u l hl).mono ?_
  rintro e w1 ⟨rfl, hb1⟩
  have ht := trim_len l
  go_wp2_with fail
  refine (lower_b (trimL l) (by omega)).mono ?_
  rintro e w2 ⟨rfl, hb2⟩
  go_wp2_with fail
  go_ret
  exact ⟨rfl, hb1.trans (hb2.mono hb1.size)⟩
end Go.Proofs.YtlgaeeedkihfpaaGreatDoor.Uf

/-
  style.each: a function is called with every pair.
-/
namespace Go.Proofs.YtlgaeeedkihfpaaGreatDoor.Uf
open Go.RowKit
open Tz (B bareL pairsL splitL cutL)

def pairsG (l : List B) : List (B × B) := (l.filterMap (cutL 58)).map fun x => (bareL x.1, bareL x.2)
theorem pairsG_snoc (l : List B) (x : B) : pairsG (l ++ [x]) = pairsG l ++ (match cutL 58 x with | some (a, b) => [(bareL a, bareL b)] | none => []) := by
  unfold pairsG
  rw [List.filterMap_append, List.map_append]
  congr 1
  cases h : cutL 58 x <;> simp [h]
theorem split_len (c : UInt8) : ∀ s : B, (splitL c s).length ≤ s.length + 1
  | [] => by simp [splitL]
  | x :: s => by
    have ih := split_len c s
    unfold splitL
    split
    · simp; omega
    · cases h : splitL c s with
      | nil => simp
      | cons a t => rw [h] at ih; simp at ih ⊢; omega
theorem split_mem (c : UInt8) : ∀ (s x : B), x ∈ splitL c s → x.length ≤ s.length
  | [], x, h => by simp [splitL] at h; simp [h]
  | y :: s, x, h => by
    unfold splitL at h
    split at h
    · rcases List.mem_cons.1 h with rfl | h
      · simp
      · have := split_mem c s x h; simp; omega
    · cases hs : splitL c s with
      | nil => rw [hs] at h; simp at h; simp [h]
      | cons a t =>
        rw [hs] at h
        rcases List.mem_cons.1 h with rfl | h
        · have := split_mem c s a (by rw [hs]; simp); simp; omega
        · have := split_mem c s x (by rw [hs]; simp [h]); simp; omega
theorem cut_len {c : UInt8} {x a b : B} (h : cutL c x = some (a, b)) : a.length + b.length ≤ x.length := by
  unfold cutL at h
  split at h
  · injection h with h
    injection h with h1 h2
    have := tw_dw (· != c) x
    rw [← h1, ← h2, List.length_drop]
    omega
  · cases h
theorem pairsG_app (l r : List B) : pairsG (l ++ r) = pairsG l ++ pairsG r := by unfold pairsG; rw [List.filterMap_append, List.map_append]
theorem pairsG_len (l : List B) : (pairsG l).length ≤ l.length := by
  unfold pairsG
  rw [List.length_map]
  exact List.length_filterMap_le _ _

set_option maxRecDepth 100000 in
set_option maxHeartbeats 4000000 in
theorem each_u {w : World} {s : B} {f : FuncId} {cap : Array Value} {J : List (B × B) → (Nat → Prop) → World → Prop} {X0 : Nat → Prop} {m : Int} (hE : Ent f) (hJ : J [] X0 w) (hlt : ∀ k, X0 k → k < w.heap.size) (h0 : ¬ X0 0)
    (hm : w.cell? ⟨0, 0, none⟩ = some (.int .i64 m)) (hs : s.length ≤ 60000000)
    (hstab : ∀ done X w1 w2, J done X w1 → Below w1.heap.size w1 w2 → J done X w2)
    (hstep : ∀ done X w1 a b, J done X w1 → a.length + b.length ≤ s.length → done.length ≤ s.length + 1 → (∃ rest, pairsL s = done ++ (a, b) :: rest) → Calls Tryz.prog f (#[.string (bs a), .string (bs b)] ++ cap) w1 fun e w2 => e = .returned (.tuple #[]) ∧ ∃ X', J (done ++ [(a, b)]) X' w2 ∧ (∀ k, X' k → X k ∨ w1.heap.size ≤ k) ∧ Only X w1 w2) :
    Calls Tryz.prog 105 #[.string (bs s), .func (.func f) #[] cap] w fun e w' => e = .returned (.tuple #[]) ∧ ∃ X', J (pairsL s) X' w' ∧ (∀ k, X' k → X0 k ∨ w.heap.size ≤ k) ∧ Only X0 w w' := by
  have hpl : pairsL s = pairsG (splitL 59 s) := rfl
  have hll := split_len 59 s
  have hlm := split_mem 59 s
  have hw0 : (0 : Nat) < w.heap.size := World.block_lt_of_cell? w ⟨0, 0, none⟩ hm
  rw [hpl]
  go_enter Tryz.func105, Tryz.ntmps105
  go_wp2_with fail
  refine (split_u s 59 (by omega) hm).mono ?_
  generalize hle : splitL 59 s = l at hll hlm ⊢
  have HLE := Lib.hid hle
  clear hle
  rintro e w1 ⟨rfl, hw1⟩
  have hbl : Below w.heap.size w w1 := by rw [hw1]; exact (Below.refl _ w).alloc (Nat.le_refl _) _
  have hB : Blk w1 w.heap.size 9 (strCells l).toArray := by rw [hw1]; exact Blk.new w 9 _
  have hsz : w.heap.size < w1.heap.size := heap_lt hB
  clear hw1
  have hJ1 := hstab _ _ _ _ hJ hbl
  have hO1 : Only X0 w w1 := ⟨hbl.os, hbl.tape, hbl.output, hbl.size, fun k hk _ => hbl.block k hk⟩
  have hEf : ∀ (args : Array Value) (w : World), (callFunc f args).run Tryz.prog w = .ok (.enter f args) w := hE
  have HS := Lib.hid (And.intro hstab hstep)
  clear hstab hstep hJ hbl
  go_wp2_with fail
  go_loopw [12] (fun vi wr => ∃ (k : Nat) (X : Nat → Prop), vi = .int .i64 k ∧ k ≤ l.length ∧ Hid (J (pairsG (l.take k)) X wr) ∧ Only X0 w wr ∧ (∀ j, X j → X0 j ∨ w.heap.size < j) ∧ Blk wr w.heap.size 9 (strCells l).toArray ∧ w.heap.size < wr.heap.size) (fun vi _ => l.length - kOf vi)
  case atStart => exact ⟨0, X0, rfl, Nat.zero_le _, Lib.hid hJ1, hO1, fun j hj => .inl hj, hB, hsz⟩
  case round =>
    obtain ⟨k, X, rfl, hk, HJ, hO, hX, hBr, hszr⟩ := hrel
    by_cases hlk : k < l.length
    · have t0 : (k : Int) < (l.length : Int) := by omega
      obtain ⟨x, hx⟩ : ∃ x, x = l[k] := ⟨_, rfl⟩
      have hc : wr.cell? ⟨w.heap.size, k, none⟩ = some (.string (bs x)) := by
        have := Blk.cell hBr k
        rw [this, List.getElem?_toArray, List.getElem?_eq_getElem (by simpa using hlk), hx]
        simp [strCells]
      have hxl : x.length ≤ s.length := hlm x (by rw [hx]; exact List.getElem_mem _)
      have hst : l.take (k + 1) = l.take k ++ [x] := by rw [List.take_add_one, List.getElem?_eq_getElem hlk, hx]; rfl
      have hps := pairsG_snoc (l.take k) x
      rw [← hst] at hps
      have hpre : ∀ a b, cutL 58 x = some (a, b) → ∃ rest, pairsG l = pairsG (l.take k) ++ (bareL a, bareL b) :: rest := fun a b hab => by
        refine ⟨pairsG (l.drop (k + 1)), ?_⟩
        have e : l = l.take k ++ ([x] ++ l.drop (k + 1)) := by rw [hx, List.singleton_append, ← List.drop_eq_getElem_cons hlk, List.take_append_drop]
        conv => lhs; rw [e]
        rw [pairsG_app, pairsG_app]
        unfold pairsG
        simp [hab]
      have hpn := pairsG_len (l.take k)
      rw [List.length_take] at hpn
      have Hpre := Lib.hid hpre
      clear hx hst hpre
      have hmr : wr.cell? ⟨0, 0, none⟩ = some (.int .i64 m) := (cell_heap (p := ⟨0, 0, none⟩) (hO.block 0 hw0 h0)).trans hm
      have hi1 : IntKind.i64.wrap ((k : Int) + 1) = ((k + 1 : Nat) : Int) := by rw [IntKind.wrap_i64]; omega
      go_wp2_with fail
      refine (cut_u x 58 (by omega) hmr).mono ?_
      rintro e2 w2 ⟨he, n2, hw2⟩
      have hb2 : Below wr.heap.size wr w2 := by rw [hw2]; exact drewN_below _ wr n2
      clear hw2
      have HJ2 : Hid (J (pairsG (l.take k)) X w2) := Lib.hid (HS.out.1 _ _ _ _ HJ.out hb2)
      have hO2 : Only X0 w w2 := hO.trans (Only.mono (S := fun _ => False) ⟨hb2.os, hb2.tape, hb2.output, hb2.size, fun k hk _ => hb2.block k hk⟩ (fun _ _ h => h.elim))
      have hB2 : Blk w2 w.heap.size 9 (strCells l).toArray := hBr.below hb2 hszr
      have hsz2 : w.heap.size < w2.heap.size := Nat.lt_of_lt_of_le hszr hb2.size
      clear HJ hO hBr hszr hb2 hmr hc
      cases hcut : cutL 58 x with
      | none =>
        rw [hcut] at he hps
        rw [List.append_nil] at hps
        have HJ3 : Hid (J (pairsG (l.take (k + 1))) X w2) := Lib.hid (by rw [hps]; exact HJ2.out)
        subst he
        clear hps hcut
        go_wp2_with fail
        go_roundw
        case rel => exact ⟨k + 1, X, rfl, hlk, HJ3, hO2, hX, hB2, hsz2⟩
        case measure =>
          show l.length - kOf (.int .i64 ((k + 1 : Nat) : Int)) < l.length - kOf (.int .i64 (k : Int))
          simp only [kOf, Int.toNat_natCast]
          omega
      | some ab =>
        obtain ⟨a, b⟩ := ab
        rw [hcut] at he hps
        have hab := cut_len hcut
        have HPR := Lib.hid (show ∃ rest, pairsL s = pairsG (l.take k) ++ (bareL a, bareL b) :: rest by rw [hpl, HLE.out]; exact Hpre.out a b hcut)
        subst he
        have HPS := Lib.hid hps
        clear hps hcut
        have hla := bare_len a
        have hlb := bare_len b
        go_wp2_with fail
        refine (bare_u a (by omega)).mono ?_
        rintro e3 w3 ⟨rfl, hb3⟩
        go_wp2_with fail
        refine (bare_u b (by omega)).mono ?_
        rintro e4 w4 ⟨rfl, hb4⟩
        have hb5 := hb3.trans (hb4.mono hb3.size)
        have HJ5 : Hid (J (pairsG (l.take k)) X w4) := Lib.hid (HS.out.1 _ _ _ _ HJ2.out hb5)
        have hO5 : Only X0 w w4 := hO2.trans (Only.mono (S := fun _ => False) ⟨hb5.os, hb5.tape, hb5.output, hb5.size, fun k hk _ => hb5.block k hk⟩ (fun _ _ h => h.elim))
        have hB5 : Blk w4 w.heap.size 9 (strCells l).toArray := hB2.below hb5 hsz2
        have hsz5 : w.heap.size < w4.heap.size := Nat.lt_of_lt_of_le hsz2 hb5.size
        clear HJ2 hO2 hB2 hsz2 hb3 hb4 hb5
        go_wp2_with fail
        refine (HS.out.2 _ _ _ (bareL a) (bareL b) HJ5.out (by omega) (by omega) HPR.out).mono ?_
        rintro e6 w6 ⟨rfl, X', hJ6, hX6, hO6⟩
        have HJ6 : Hid (J (pairsG (l.take (k + 1))) X' w6) := Lib.hid (by rw [HPS.out]; exact hJ6)
        have hO7 : Only X0 w w6 := hO5.next hO6 (fun i hi hxi => (hX i hxi).elim id (fun h => by omega))
        have hnX : ¬ X w.heap.size := fun h => (hX _ h).elim (fun h => absurd (hlt _ h) (by omega)) (fun h => by omega)
        have hB6 : Blk w6 w.heap.size 9 (strCells l).toArray := (hO6.block _ hsz5 hnX).trans hB5
        have hsz6 : w.heap.size < w6.heap.size := Nat.lt_of_lt_of_le hsz5 hO6.size
        have hX7 : ∀ j, X' j → X0 j ∨ w.heap.size < j := fun j hj => (hX6 j hj).elim (fun h => hX j h) (fun h => .inr (by omega))
        clear hJ6 hX6 hO6 hO5 hB5 hsz5 HJ5 hX
        go_wp2_with fail
        go_roundw
        case rel => exact ⟨k + 1, X', rfl, hlk, HJ6, hO7, hX7, hB6, hsz6⟩
        case measure =>
          show l.length - kOf (.int .i64 ((k + 1 : Nat) : Int)) < l.length - kOf (.int .i64 (k : Int))
          simp only [kOf, Int.toNat_natCast]
          omega
    · have t0 : ¬ ((k : Int) < (l.length : Int)) := by omega
      have ht : l.take k = l := List.take_of_length_le (by omega)
      rw [ht] at HJ
      go_wp2_with fail
      go_end0
      exact ⟨rfl, X, by rw [HLE.out]; exact HJ.out, fun j hj => (hX j hj).elim .inl (fun h => .inr (by omega)), hO⟩
end Go.Proofs.YtlgaeeedkihfpaaGreatDoor.Uf

/-
  style.Filter's closures: the first pass (which entry of a name is the last).
-/
namespace Go.Proofs.YtlgaeeedkihfpaaGreatDoor.Uf
open Go.RowKit Go.WideMaps Go.Maps
open Tz (B styleV pairsL)

theorem zeroI3 (w : World) : (zeroValue 3).run Tryz.prog w = .ok (.int .i64 0) w := by kernel_rfl
/-- The call's own map tells of each name a number. -/
def Cnt (w : World) (b n : Nat) (g : B → Nat) : Prop :=
  ∃ D : DataW Unit, w.ownsMap Tryz.prog 9 (plainElem Tryz.prog 3) b n D ∧ IsMap D ∧ (∀ x : B, D.atKey (.string x) (.lit (.int .i64 0)) = .lit (.int .i64 (g x : Nat)))
theorem cnt_new (w : World) : Cnt (w.alloc (.map #[] 0)) w.heap.size 0 (fun _ => 0) := ⟨.map [], World.ownsMap_made _ _ _ _, isMap_empty, fun _ => rfl⟩
theorem cnt_lt {w : World} {b n : Nat} {g : B → Nat} (h : Cnt w b n g) : b < w.heap.size := by
  obtain ⟨D, h, _⟩ := h
  exact h.lt
theorem cnt_kept {w w' : World} {b n : Nat} {g : B → Nat} (h : Cnt w b n g) (hb : w'.heap[b]? = w.heap[b]?) : Cnt w' b n g := by
  obtain ⟨D, ⟨es, clock, h1, h2⟩, h3⟩ := h
  exact ⟨D, ⟨es, clock, hb.trans h1, h2⟩, h3⟩
theorem cnt_ne {w : World} {b n : Nat} {g : B → Nat} (h : Cnt w b n g) {k : Nat} {t : TypeId} {cs : Array Value} (hk : Blk w k t cs) : k ≠ b := by
  obtain ⟨D, ⟨es, clock, h1, h2⟩, h3⟩ := h
  rintro rfl
  have : w.heap[k]? = some (.cells cs t (0, 0)) := hk
  rw [h1] at this
  cases this
theorem plainElem_int3_inv {v : Value} {z : DataW Unit × List MemPlace} (h : plainElem Tryz.prog 3 v = some z) : ∃ a, v = .int .i64 a ∧ z.1 = .lit (.int .i64 a) := by
  cases v with
  | int q a =>
    simp only [plainElem, show Tryz.prog.underlying 3 = some (.int .i64) from Tryz.underlying3] at h
    split at h
    · rename_i hq
      obtain ⟨rfl, _⟩ := hq
      injection h with h
      exact ⟨a, rfl, by rw [← h]⟩
    · cases h
  | _ => simp [plainElem, show Tryz.prog.underlying 3 = some (.int .i64) from Tryz.underlying3] at h
theorem cnt_look {w : World} {b n : Nat} {g : B → Nat} {x : B} (h : Cnt w b n g) (hx : x.length ≤ 600000000) :
    (Instr.lookup 139 (.map (some b)) (.string (bs x)) false).run Tryz.prog w = .ok (.int .i64 (g x : Nat)) w := by
  obtain ⟨D, h1, h2, h3⟩ := h
  obtain ⟨v, ps, hrun, hv⟩ := h1.lookup law9 (show Tryz.prog.underlying 139 = some (.map 9 3) by kernel_rfl) (zeroI3 w) (plainElem_int Tryz.underlying3 (by decide)) (key_b (Nat.le_trans hx (by decide)))
  obtain ⟨y, rfl, hy⟩ := plainElem_int3_inv hv
  rw [h3] at hy
  simp only [DataW.lit.injEq, Lit.int.injEq, true_and] at hy
  rw [hy]
  exact hrun
theorem wf_nat {v : Nat} (h : v ≤ 60000000000) : (Lit.int .i64 (v : Nat)).wf = true := by
  have e1 : IntKind.i64.min = -9223372036854775808 := by decide
  have e2 : IntKind.i64.max = 9223372036854775807 := by decide
  simp [Lit.wf, e1, e2]
  omega
theorem cnt_put {w : World} {b n v : Nat} {g : B → Nat} {x : B} (h : Cnt w b n g) (hx : x.length ≤ 600000000) (hn : n < 60000000000) (hv : v ≤ 60000000000) :
    ∃ w', (Instr.mapUpdate 139 (.map (some b)) (.string (bs x)) (.int .i64 (v : Nat))).run Tryz.prog w = .ok () w' ∧ Cnt w' b (n + 1) (fun y => if y = x then v else g y) ∧ w.grownBy w' (some b) := by
  obtain ⟨D, h1, h2, h3⟩ := h
  obtain ⟨w', hrun, r1, r2⟩ := h1.update law9 (show Tryz.prog.underlying 139 = some (.map 9 3) by kernel_rfl) (by unfold maxLen; omega) (key_b (Nat.le_trans hx (by decide))) (plainElem_int (a := (v : Nat)) Tryz.underlying3 (wf_nat (by omega)))
  refine ⟨w', hrun, ⟨_, r1, ?_, fun y => ?_⟩, r2⟩
  · obtain ⟨es, rfl⟩ := h2
    exact ⟨_, rfl⟩
  · by_cases hy : y = x
    · subst hy
      rw [atKey_put_same (k := .string y) h2 trivial]
      simp
    · rw [atKey_put_other (fun e => hy (by injection e)), h3]
      simp [hy]
/-- Of each name: the number of its last entry. -/
def GS (K : List (B × B)) (g : B → Nat) : Prop := ∀ y, (g y = 0 ∧ ∀ x ∈ K, x.1 ≠ y) ∨ (∃ i, ∃ h : i < K.length, g y = i + 1 ∧ K[i].1 = y ∧ ∀ j (h2 : j < K.length), i < j → K[j].1 ≠ y)
theorem GS.put {K : List (B × B)} {g : B → Nat} (h : GS K g) (a b : B) : GS (K ++ [(a, b)]) (fun y => if y = a then K.length + 1 else g y) := by
  intro y
  by_cases hy : y = a
  · subst hy
    refine .inr ⟨K.length, by simp, by simp, by simp, fun j hj hlt => ?_⟩
    simp at hj
    omega
  · simp only [if_neg hy]
    rcases h y with ⟨h1, h2⟩ | ⟨i, hi, h1, h2, h3⟩
    · refine .inl ⟨h1, fun x hx => ?_⟩
      rcases List.mem_append.1 hx with hx | hx
      · exact h2 x hx
      · simp at hx
        subst hx
        exact fun e => hy e.symm
    · refine .inr ⟨i, by simp; omega, h1, by rw [List.getElem_append_left hi]; exact h2, fun j hj hlt => ?_⟩
      by_cases hj2 : j < K.length
      · rw [List.getElem_append_left hj2]
        exact h3 j hj2 hlt
      · rw [List.getElem_append_right (by omega)]
        simp
        exact fun e => hy e.symm
def okP (props : List B) (x : B × B) : Bool := props.contains x.1 && styleV x.2
/-- What Filter's closures find in memory. -/
structure FilF (w : World) (S : Nat → Prop) (B3 B5 B6 B7 M : Nat) (A : Option Addr) (c : Nat) (props : List B) (n : Nat) (k : Nat) (g : B → Nat) : Prop where
  b3 : Blk w B3 22 #[.slice A props.length c]
  st : StrsAt w S A props.length props
  b7 : Blk w B7 107 #[.func (.func 103) #[] #[.pointer (some ⟨B3, 0, none⟩)]]
  b5 : Blk w B5 139 #[.map (some M)]
  b6 : Blk w B6 3 #[.int .i64 (n : Nat)]
  cn : Cnt w M k g
def FilR (w : World) (S : Nat → Prop) (B3 B5 B6 B7 M : Nat) (A : Option Addr) (c : Nat) (props : List B) (n : Nat) (g : B → Nat) (a : B) : Bool → Prop
  | true => FilF w S B3 B5 B6 B7 M A c props (n + 1) (n + 1) (fun y => if y = a then n + 1 else g y)
  | false => FilF w S B3 B5 B6 B7 M A c props n n g
section
variable {w w' : World} {S : Nat → Prop} {B3 B5 B6 B7 M : Nat} {A : Option Addr} {c : Nat} {props : List B} {n k : Nat} {g : B → Nat}
theorem FilF.below (h : FilF w S B3 B5 B6 B7 M A c props n k g) (hb : Below w.heap.size w w') (hS : ∀ j, S j → j < B6) : FilF w' S B3 B5 B6 B7 M A c props n k g :=
  ⟨h.b3.below hb (heap_lt h.b3), h.st.keep (KeepS.below hb fun j hj => Nat.lt_trans (hS j hj) (heap_lt h.b6)), h.b7.below hb (heap_lt h.b7), h.b5.below hb (heap_lt h.b5), h.b6.below hb (heap_lt h.b6), cnt_kept h.cn (hb.block _ (cnt_lt h.cn))⟩
theorem ent103 : Ent 103 := ent_of Tryz.func103 (by kernel_rfl) (by kernel_rfl)
theorem ent106 : Ent 106 := ent_of Tryz.func106 (by kernel_rfl) (by kernel_rfl)
theorem ent107 : Ent 107 := ent_of Tryz.func107 (by kernel_rfl) (by kernel_rfl)

set_option maxRecDepth 100000 in
set_option maxHeartbeats 4000000 in
theorem fil1_u (a b : B) (h3 : Blk w B3 22 #[.slice A props.length c]) (hs : StrsAt w S A props.length props) (hl : props.length ≤ 60000000) (hb : b.length ≤ 600000000) :
    Calls Tryz.prog 103 #[.string (bs a), .string (bs b), .pointer (some ⟨B3, 0, none⟩)] w fun e w' => e = .returned (.bool (okP props (a, b))) ∧ w' = w := by
  have c0 := Blk.cell h3 0
  have c0 : w.cell? ⟨B3, 0, none⟩ = some (.slice A props.length c) := c0
  have HO := Lib.hid (show okP props (a, b) = (props.contains a && styleV b) from rfl)
  clear h3
  go_enter Tryz.func103, Tryz.ntmps103
  go_wp2_with fail
  refine (contains_u a hs hl).mono ?_
  generalize props.contains a = z at HO
  rintro e1 w1 ⟨rfl, hw1⟩
  rw [hw1]
  clear hw1 w1
  cases z with
  | false =>
    go_wp2_with fail
    go_ret
    exact ⟨by rw [HO.out]; rfl, rfl⟩
  | true =>
    go_wp2_with fail
    refine (styleval_u b hb).mono ?_
    generalize styleV b = z2 at HO
    rintro e2 w2 ⟨rfl, hw2⟩
    rw [hw2]
    clear hw2 w2
    go_wp2_with fail
    go_ret
    exact ⟨by rw [HO.out]; rfl, rfl⟩

set_option maxRecDepth 100000 in
set_option maxHeartbeats 4000000 in
theorem fil2_u (a b : B) (h : FilF w S B3 B5 B6 B7 M A c props n n g) (hS : ∀ j, S j → j < B6 ∧ j < M) (hl : props.length ≤ 60000000) (hab : a.length + b.length ≤ 60000000) (hn : n ≤ 120000000) :
    Calls Tryz.prog 106 #[.string (bs a), .string (bs b), .pointer (some ⟨B7, 0, none⟩), .pointer (some ⟨B6, 0, none⟩), .pointer (some ⟨B5, 0, none⟩)] w fun e w' => e = .returned (.tuple #[]) ∧ Only (fun j => j = B6 ∨ j = M) w w' ∧
      FilR w' S B3 B5 B6 B7 M A c props n g a (okP props (a, b)) := by
  have c7 : w.cell? ⟨B7, 0, none⟩ = some (.func (.func 103) #[] #[.pointer (some ⟨B3, 0, none⟩)]) := Blk.cell h.b7 0
  have hEf : ∀ (args : Array Value) (w : World), (callFunc 103 args).run Tryz.prog w = .ok (.enter 103 args) w := ent103
  go_enter Tryz.func106, Tryz.ntmps106
  go_wp2_with fail
  refine (fil1_u a b h.b3 h.st hl (by omega)).mono ?_
  generalize hz : okP props (a, b) = z
  have HZ := Lib.hid hz
  clear hz
  rintro e1 w1 ⟨rfl, hw1⟩
  rw [hw1]
  clear hw1 w1
  cases z with
  | false =>
    go_wp2_with fail
    go_end0
    refine ⟨rfl, Only.refl _ _, ?_⟩
    rw [HZ.out]
    exact h
  | true =>
    have c6 : w.cell? ⟨B6, 0, none⟩ = some (.int .i64 (n : Nat)) := Blk.cell h.b6 0
    have f6 := Blk.frozen h.b6 0
    have c5 : w.cell? ⟨B5, 0, none⟩ = some (.map (some M)) := Blk.cell h.b5 0
    have hn1 : IntKind.i64.wrap ((n : Int) + 1) = ((n + 1 : Nat) : Int) := by rw [IntKind.wrap_i64]; omega
    have n6M : B6 ≠ M := cnt_ne h.cn h.b6
    have n65 : B6 ≠ B5 := type_ne h.b6 h.b5 (by decide)
    have n63 : B6 ≠ B3 := type_ne h.b6 h.b3 (by decide)
    have n67 : B6 ≠ B7 := type_ne h.b6 h.b7 (by decide)
    have keep : ∀ j, j ≠ B6 → (w.setCell ⟨B6, 0, none⟩ (.int .i64 ((n + 1 : Nat) : Int))).heap[j]? = w.heap[j]? := fun j hj => Below.heap_setCell w ⟨B6, 0, none⟩ _ j hj
    have F1 : FilF (w.setCell ⟨B6, 0, none⟩ (.int .i64 ((n + 1 : Nat) : Int))) S B3 B5 B6 B7 M A c props (n + 1) n g :=
      ⟨(keep _ (Ne.symm n63)).trans h.b3, h.st.keep (fun j hj => keep j (fun e => by have := (hS j hj).1; omega)), (keep _ (Ne.symm n67)).trans h.b7, (keep _ (Ne.symm n65)).trans h.b5, Blk.set_ h.b6 0 _, cnt_kept h.cn (keep _ (Ne.symm n6M))⟩
    have O1 : Only (fun j => j = B6 ∨ j = M) w (w.setCell ⟨B6, 0, none⟩ (.int .i64 ((n + 1 : Nat) : Int))) := Only.setCell (Only.refl _ w) (p := ⟨B6, 0, none⟩) (fun _ => .inl rfl) _
    obtain ⟨w2, hput, hc2, hg2⟩ := cnt_put (x := a) (v := n + 1) F1.cn (by omega) (by omega) (by omega)
    have nM : ∀ {j : Nat} {t : TypeId} {cs : Array Value}, Blk (w.setCell ⟨B6, 0, none⟩ (.int .i64 ((n + 1 : Nat) : Int))) j t cs → some j ≠ some M := fun hx e => by injection e with e; exact cnt_ne F1.cn hx e
    have F2 : FilF w2 S B3 B5 B6 B7 M A c props (n + 1) (n + 1) (fun y => if y = a then n + 1 else g y) :=
      ⟨F1.b3.grown hg2 (nM F1.b3), F1.st.keep (fun j hj => hg2.block j (Nat.lt_trans (hS j hj).1 (heap_lt F1.b6)) (fun e => by injection e with e; have := (hS j hj).2; omega)), F1.b7.grown hg2 (nM F1.b7), F1.b5.grown hg2 (nM F1.b5), F1.b6.grown hg2 (nM F1.b6), hc2⟩
    have O2 := O1.grown hg2 (fun k hk _ => .inr (by injection hk with hk; exact hk.symm))
    have d6 : (w.setCell ⟨B6, 0, none⟩ (.int .i64 ((n + 1 : Nat) : Int))).cell? ⟨B6, 0, none⟩ = some (.int .i64 ((n + 1 : Nat) : Int)) := Blk.cell F1.b6 0
    have d5 : (w.setCell ⟨B6, 0, none⟩ (.int .i64 ((n + 1 : Nat) : Int))).cell? ⟨B5, 0, none⟩ = some (.map (some M)) := Blk.cell F1.b5 0
    have HF := Lib.hid (And.intro O2 F2)
    clear O2 F2 O1 keep hc2 hg2 h nM F1
    have hcast : ((n + 1 : Nat) : Int) = (n : Int) + 1 := by omega
    rw [hcast] at hput d6 d5 hn1
    go_wp2_with fail
    go_end0
    refine ⟨rfl, HF.out.1, ?_⟩
    rw [HZ.out]
    exact HF.out.2
end
end Go.Proofs.YtlgaeeedkihfpaaGreatDoor.Uf
