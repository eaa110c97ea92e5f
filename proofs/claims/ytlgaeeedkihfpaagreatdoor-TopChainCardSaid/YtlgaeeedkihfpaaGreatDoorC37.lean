/-
  Texts of the proof of Chain, one behind the other: ChgF.
-/
import Derived.Test.YtlgaeeedkihfpaaGreatDoorC36
/-
  ser.stable.
-/
namespace Go.Proofs.YtlgaeeedkihfpaaGreatDoor.Uf
open Go.RowKit
open Tz (B Atr Nod ownP stG stN blockL)

theorem kids_tree {w : World} {S : Nat → Prop} {nm tx : B} {at_ : List Atr} {kd : List Nod} {A1 K1 : Option Addr} {ca ck : Nat} (h : NodC w S (.mk nm at_ tx kd) [.string (bs nm), .slice A1 at_.length ca, .string (bs tx), .slice K1 kd.length ck]) (hS : ∀ g, S g → g < w.heap.size) : TreeV w S (.slice K1 kd.length ck) kd := by
  unfold NodC at h
  obtain ⟨A, ca', K, ck', zs, e, _, h1, h2⟩ := h
  have e4 : some (Value.slice K1 kd.length ck) = some (Value.slice K kd.length ck') := congrArg (fun l : List Value => l[3]?) e
  injection e4 with e4
  injection e4 with e5 _ e6
  subst e5 e6
  exact ⟨K1, ck, zs, rfl, h1, h2, hS⟩
def StAll (N : Nat) : Prop := ∀ (w : World) (S : Nat → Prop) (v : Value) (k : List Nod) (pf lf : Bool), TreeV w S v k → nodsW k < N → nodsW k ≤ 100000000 → Calls Tryz.prog 68 #[v, .bool pf, .bool lf] w fun e w' => e = .returned (.bool (stG pf lf false k)) ∧ Below w.heap.size w w'

set_option maxRecDepth 100000 in
set_option maxHeartbeats 16000000 in
theorem stable_step {N : Nat} (HN : StAll N) : StAll (N + 1) := by
  intro w S v k pf lf hT hN hk
  obtain ⟨A0, c0, _, rfl, _, _, hSl⟩ := id hT
  have hkl := nodsW_len k
  have H := Lib.hid HN
  clear HN
  obtain ⟨res, hres⟩ : ∃ res, res = stG pf lf false k := ⟨_, rfl⟩
  rw [← hres]
  have HRES := Lib.hid hres
  clear hres
  go_enter Tryz.func68, Tryz.ntmps68
  go_wp2_with fail
  go_loopw [13, 7] (fun vi vt wr => ∃ (i : Nat) (text : Bool), vi = .int .i64 i ∧ vt = .bool text ∧ i ≤ k.length ∧ Hid (res = stG pf lf text (k.drop i)) ∧ Below w.heap.size w wr) (fun vi _ _ => k.length - kOf vi)
  case atStart => exact ⟨0, false, rfl, rfl, Nat.zero_le _, HRES, Below.refl _ _⟩
  case round =>
    obtain ⟨i, text, rfl, rfl, hi, HK0, hbi⟩ := hrel
    have HK := Lib.hid HK0.out.symm
    by_cases hlt : i < k.length
    · have t0 : (i : Int) < (k.length : Int) := by omega
      have hTr := hT.keep hbi
      obtain ⟨ad, c1, y0, y1, y2, y3, hkv, hSb, hny, hcells⟩ := hTr.at_ i hlt
      obtain ⟨rfl, rfl⟩ : A0 = some ad ∧ c0 = c1 := by injection hkv with e1 _ e2; exact ⟨e1, e2⟩
      have hmem : nodW k[i] ≤ nodsW k := nodsW_mem (List.getElem_mem hlt)
      have hdc : k.drop i = k[i] :: k.drop (i + 1) := List.drop_eq_getElem_cons hlt
      generalize k[i] = n at hny hmem hdc
      obtain ⟨nm, at_, tx, kd⟩ := n
      have HDC := Lib.hid hdc
      have hwk : nodsW kd + aw at_ + nm.length + tx.length + 1 = nodW (.mk nm at_ tx kd) := by simp [nodW]; omega
      clear hdc hkv
      have hi1 : IntKind.i64.wrap ((i : Int) + 1) = ((i + 1 : Nat) : Int) := by rw [IntKind.wrap_i64]; omega
      have hny0 := hny
      unfold NodC at hny0
      obtain ⟨A1, ca, K1, ck, zs, ey, _⟩ := hny0
      simp only [List.cons.injEq, and_true] at ey
      obtain ⟨rfl, rfl, rfl, rfl⟩ := ey
      have hone := hny.one_
      have o0 := hone (.string (bs nm)) (by simp)
      have o1 := hone (.slice A1 at_.length ca) (by simp)
      have o2 := hone (.string (bs tx)) (by simp)
      have o3 := hone (.slice K1 kd.length ck) (by simp)
      have HX := Lib.hid hny
      clear hny hone hTr
      by_cases hnm : nm = []
      · skip
        have hnm2 := hnm
        subst hnm2
        have en : (([] : B) == ([] : B)) = true := rfl
        have HST := Lib.hid (show res = ((!text && tx != [] && at_.isEmpty && kd.isEmpty) && stG pf lf true (k.drop (i + 1))) by
          rw [← HK.out, HDC.out]
          show (if (Nod.mk [] at_ tx kd).name = [] then _ else _) = _
          rw [if_pos (show (Nod.mk [] at_ tx kd).name = [] from rfl)]
          rfl)
        cases text with
        | true =>
          go_wp2_with (first
  | (with_reducible refine wpList_load_at rfl 61 (.tmp 15) rfl (ad.add (i * 4)) rfl [.string (bs []), .slice A1 at_.length ca, .string (bs tx), .slice K1 kd.length ck] _ hcells Tryz.underlying61 rfl (by kernel_rfl) ?_)
  | ((with_reducible refine store_new rfl 61 (.tmp 9) (.tmp 16) rfl #[.string (bs []), .slice A1 at_.length ca, .string (bs tx), .slice K1 kd.length ck] rfl rfl (by kernel_rfl) (by kernel_rfl) (by simp [o0, o1, o2, o3]) ?_); intro W3 hB3 hb3; have n0 : W3.cell? ⟨wr.heap.size, 0, none⟩ = some (.string (bs [])) := Blk.cell hB3 0; have n1 : W3.cell? ⟨wr.heap.size, 1, none⟩ = some (.slice A1 at_.length ca) := Blk.cell hB3 1; have n2 : W3.cell? ⟨wr.heap.size, 2, none⟩ = some (.string (bs tx)) := Blk.cell hB3 2; have n3 : W3.cell? ⟨wr.heap.size, 3, none⟩ = some (.slice K1 kd.length ck) := Blk.cell hB3 3)
  | (with_reducible refine wpList_load_row rfl 61 (.tmp 9) rfl wr.heap.size rfl 61 #[.string (bs []), .slice A1 at_.length ca, .string (bs tx), .slice K1 kd.length ck] (0, 0) _ hB3 Tryz.underlying61 rfl (by kernel_rfl) ?_))
          go_ret
          have hr : res = false := by rw [HST.out]; rfl
          exact ⟨by rw [hr]; rfl, hbi.trans (hb3.mono hbi.size)⟩
        | false =>
          by_cases htx : tx = []
          · subst htx
            go_wp2_with (first
  | (with_reducible refine wpList_load_at rfl 61 (.tmp 15) rfl (ad.add (i * 4)) rfl [.string (bs []), .slice A1 at_.length ca, .string (bs []), .slice K1 kd.length ck] _ hcells Tryz.underlying61 rfl (by kernel_rfl) ?_)
  | ((with_reducible refine store_new rfl 61 (.tmp 9) (.tmp 16) rfl #[.string (bs []), .slice A1 at_.length ca, .string (bs []), .slice K1 kd.length ck] rfl rfl (by kernel_rfl) (by kernel_rfl) (by simp [o0, o1, o2, o3]) ?_); intro W3 hB3 hb3; have n0 : W3.cell? ⟨wr.heap.size, 0, none⟩ = some (.string (bs [])) := Blk.cell hB3 0; have n1 : W3.cell? ⟨wr.heap.size, 1, none⟩ = some (.slice A1 at_.length ca) := Blk.cell hB3 1; have n2 : W3.cell? ⟨wr.heap.size, 2, none⟩ = some (.string (bs [])) := Blk.cell hB3 2; have n3 : W3.cell? ⟨wr.heap.size, 3, none⟩ = some (.slice K1 kd.length ck) := Blk.cell hB3 3)
  | (with_reducible refine wpList_load_row rfl 61 (.tmp 9) rfl wr.heap.size rfl 61 #[.string (bs []), .slice A1 at_.length ca, .string (bs []), .slice K1 kd.length ck] (0, 0) _ hB3 Tryz.underlying61 rfl (by kernel_rfl) ?_))
            go_ret
            have hr : res = false := by rw [HST.out]; rfl
            exact ⟨by rw [hr]; rfl, hbi.trans (hb3.mono hbi.size)⟩
          · have et : (tx == ([] : B)) = false := by simpa using htx
            have et2 : (tx != ([] : B)) = true := by simpa using htx
            by_cases hat : at_ = []
            · have ta : decide (0 < at_.length) = false := by rw [hat]; rfl
              by_cases hkd : kd = []
              · have tk : decide (0 < kd.length) = false := by rw [hkd]; rfl
                have HST3 := Lib.hid (show res = stG pf lf true (k.drop (i + 1)) by rw [HST.out, et2, hat, hkd]; rfl)
                clear hat hkd
                go_wp2_with (first
  | (with_reducible refine wpList_load_at rfl 61 (.tmp 15) rfl (ad.add (i * 4)) rfl [.string (bs []), .slice A1 at_.length ca, .string (bs tx), .slice K1 kd.length ck] _ hcells Tryz.underlying61 rfl (by kernel_rfl) ?_)
  | ((with_reducible refine store_new rfl 61 (.tmp 9) (.tmp 16) rfl #[.string (bs []), .slice A1 at_.length ca, .string (bs tx), .slice K1 kd.length ck] rfl rfl (by kernel_rfl) (by kernel_rfl) (by simp [o0, o1, o2, o3]) ?_); intro W3 hB3 hb3; have n0 : W3.cell? ⟨wr.heap.size, 0, none⟩ = some (.string (bs [])) := Blk.cell hB3 0; have n1 : W3.cell? ⟨wr.heap.size, 1, none⟩ = some (.slice A1 at_.length ca) := Blk.cell hB3 1; have n2 : W3.cell? ⟨wr.heap.size, 2, none⟩ = some (.string (bs tx)) := Blk.cell hB3 2; have n3 : W3.cell? ⟨wr.heap.size, 3, none⟩ = some (.slice K1 kd.length ck) := Blk.cell hB3 3)
  | (with_reducible refine wpList_load_row rfl 61 (.tmp 9) rfl wr.heap.size rfl 61 #[.string (bs []), .slice A1 at_.length ca, .string (bs tx), .slice K1 kd.length ck] (0, 0) _ hB3 Tryz.underlying61 rfl (by kernel_rfl) ?_))
                go_roundw
                case rel => exact ⟨i + 1, true, rfl, rfl, hlt, HST3, hbi.trans (hb3.mono hbi.size)⟩
                case measure =>
                  show k.length - kOf (.int .i64 ((i + 1 : Nat) : Int)) < k.length - kOf (.int .i64 (i : Int))
                  simp only [kOf, Int.toNat_natCast]
                  omega
              · have tk : decide (0 < kd.length) = true := by have := List.length_pos_iff.2 hkd; simpa using this
                have hke : kd.isEmpty = false := by simpa using hkd
                have HST3 := Lib.hid (show res = false by rw [HST.out, hke]; simp)
                clear hat hkd
                go_wp2_with (first
  | (with_reducible refine wpList_load_at rfl 61 (.tmp 15) rfl (ad.add (i * 4)) rfl [.string (bs []), .slice A1 at_.length ca, .string (bs tx), .slice K1 kd.length ck] _ hcells Tryz.underlying61 rfl (by kernel_rfl) ?_)
  | ((with_reducible refine store_new rfl 61 (.tmp 9) (.tmp 16) rfl #[.string (bs []), .slice A1 at_.length ca, .string (bs tx), .slice K1 kd.length ck] rfl rfl (by kernel_rfl) (by kernel_rfl) (by simp [o0, o1, o2, o3]) ?_); intro W3 hB3 hb3; have n0 : W3.cell? ⟨wr.heap.size, 0, none⟩ = some (.string (bs [])) := Blk.cell hB3 0; have n1 : W3.cell? ⟨wr.heap.size, 1, none⟩ = some (.slice A1 at_.length ca) := Blk.cell hB3 1; have n2 : W3.cell? ⟨wr.heap.size, 2, none⟩ = some (.string (bs tx)) := Blk.cell hB3 2; have n3 : W3.cell? ⟨wr.heap.size, 3, none⟩ = some (.slice K1 kd.length ck) := Blk.cell hB3 3)
  | (with_reducible refine wpList_load_row rfl 61 (.tmp 9) rfl wr.heap.size rfl 61 #[.string (bs []), .slice A1 at_.length ca, .string (bs tx), .slice K1 kd.length ck] (0, 0) _ hB3 Tryz.underlying61 rfl (by kernel_rfl) ?_))
                go_ret
                exact ⟨by rw [HST3.out]; rfl, hbi.trans (hb3.mono hbi.size)⟩
            · have ta : decide (0 < at_.length) = true := by have := List.length_pos_iff.2 hat; simpa using this
              have hae : at_.isEmpty = false := by simpa using hat
              have HST3 := Lib.hid (show res = false by rw [HST.out, hae]; simp)
              clear hat
              go_wp2_with (first
  | (with_reducible refine wpList_load_at rfl 61 (.tmp 15) rfl (ad.add (i * 4)) rfl [.string (bs []), .slice A1 at_.length ca, .string (bs tx), .slice K1 kd.length ck] _ hcells Tryz.underlying61 rfl (by kernel_rfl) ?_)
  | ((with_reducible refine store_new rfl 61 (.tmp 9) (.tmp 16) rfl #[.string (bs []), .slice A1 at_.length ca, .string (bs tx), .slice K1 kd.length ck] rfl rfl (by kernel_rfl) (by kernel_rfl) (by simp [o0, o1, o2, o3]) ?_); intro W3 hB3 hb3; have n0 : W3.cell? ⟨wr.heap.size, 0, none⟩ = some (.string (bs [])) := Blk.cell hB3 0; have n1 : W3.cell? ⟨wr.heap.size, 1, none⟩ = some (.slice A1 at_.length ca) := Blk.cell hB3 1; have n2 : W3.cell? ⟨wr.heap.size, 2, none⟩ = some (.string (bs tx)) := Blk.cell hB3 2; have n3 : W3.cell? ⟨wr.heap.size, 3, none⟩ = some (.slice K1 kd.length ck) := Blk.cell hB3 3)
  | (with_reducible refine wpList_load_row rfl 61 (.tmp 9) rfl wr.heap.size rfl 61 #[.string (bs []), .slice A1 at_.length ca, .string (bs tx), .slice K1 kd.length ck] (0, 0) _ hB3 Tryz.underlying61 rfl (by kernel_rfl) ?_))
              go_ret
              exact ⟨by rw [HST3.out]; rfl, hbi.trans (hb3.mono hbi.size)⟩
      · skip
        have HST := Lib.hid (show res = (ownP (.mk nm at_ tx kd) && !(pf && blockL nm) && !(lf && nm == Tz.liN) && stG (pf || nm == Tz.pN) (Tz.inLi nm lf) false kd && stG pf lf false (k.drop (i + 1))) by
          rw [← HK.out, HDC.out]
          show (if (Nod.mk nm at_ tx kd).name = [] then _ else _) = _
          rw [if_neg (show ¬ (Nod.mk nm at_ tx kd).name = [] from hnm)]
          unfold stN
          rfl)
        have en : (nm == ([] : B)) = false := by simpa using hnm
        go_wp2_with (first
  | (with_reducible refine wpList_load_at rfl 61 (.tmp 15) rfl (ad.add (i * 4)) rfl [.string (bs nm), .slice A1 at_.length ca, .string (bs tx), .slice K1 kd.length ck] _ hcells Tryz.underlying61 rfl (by kernel_rfl) ?_)
  | ((with_reducible refine store_new rfl 61 (.tmp 9) (.tmp 16) rfl #[.string (bs nm), .slice A1 at_.length ca, .string (bs tx), .slice K1 kd.length ck] rfl rfl (by kernel_rfl) (by kernel_rfl) (by simp [o0, o1, o2, o3]) ?_); intro W3 hB3 hb3; have n0 : W3.cell? ⟨wr.heap.size, 0, none⟩ = some (.string (bs nm)) := Blk.cell hB3 0; have n1 : W3.cell? ⟨wr.heap.size, 1, none⟩ = some (.slice A1 at_.length ca) := Blk.cell hB3 1; have n2 : W3.cell? ⟨wr.heap.size, 2, none⟩ = some (.string (bs tx)) := Blk.cell hB3 2; have n3 : W3.cell? ⟨wr.heap.size, 3, none⟩ = some (.slice K1 kd.length ck) := Blk.cell hB3 3)
  | (with_reducible refine wpList_load_row rfl 61 (.tmp 9) rfl wr.heap.size rfl 61 #[.string (bs nm), .slice A1 at_.length ca, .string (bs tx), .slice K1 kd.length ck] (0, 0) _ hB3 Tryz.underlying61 rfl (by kernel_rfl) ?_))
        have hR3 : Blk W3 wr.heap.size 61 #[.string (bs nm), .slice A1 at_.length ca, .string (bs tx), .slice K1 kd.length ck] := hB3
        have hbw3 := hbi.trans (hb3.mono hbi.size)
        have hny3 := NodC.keep (KeepS.below hb3 (fun g hg => Nat.lt_of_lt_of_le (hSl g hg) hbi.size)) _ _ HX.out
        clear hB3 n0 n1 n2 n3 hcells
        refine (own_u hny3 (fun g hg => Nat.lt_of_lt_of_le (hSl g hg) hbw3.size) (by omega)).mono ?_
        rintro e4 W4 ⟨rfl, hb4⟩
        have hRz := hR3.below hb4 (heap_lt hR3)
        have hbz := hbw3.trans (hb4.mono hbw3.size)
        have hnyz := NodC.keep (KeepS.below hb4 (fun g hg => Nat.lt_of_lt_of_le (hSl g hg) hbw3.size)) _ _ hny3
        clear hR3 hny3 hb4 hb3
        cases ho : ownP (.mk nm at_ tx kd) with
        | false =>
          have HOWN := Lib.hid ho
          clear ho
          go_wp2_with fail
          go_ret
          have hr : res = false := by rw [HST.out, HOWN.out]; simp
          exact ⟨by rw [hr]; rfl, hbz⟩
        | true =>
          have HOWN := Lib.hid ho
          clear ho
          have q0 : W4.cell? ⟨wr.heap.size, 0, none⟩ = some (.string (bs nm)) := Blk.cell hRz 0
          have q3 : W4.cell? ⟨wr.heap.size, 3, none⟩ = some (.slice K1 kd.length ck) := Blk.cell hRz 3
          cases pf with
          | false =>
            have hTz : TreeV W4 S (.slice K1 kd.length ck) kd := kids_tree hnyz (fun g hg => Nat.lt_of_lt_of_le (hSl g hg) hbz.size)
            cases lf with
            | false =>
              cases e1 : (nm == ([108, 105] : B)) with
              | true =>
                have HIN := Lib.hid (show Tz.inLi nm false = true by unfold Tz.inLi; rw [if_pos (show nm = Tz.liN from eq_of_beq e1)])
                cases ep : (nm == ([112] : B)) with
                | true =>
                  have HNP := Lib.hid (show (nm == Tz.pN) = true from ep)
                  go_wp2_with fail
                  refine (H.out W4 S (.slice K1 kd.length ck) kd true true hTz (by omega) (by omega)).mono ?_
                  have hst := HST.out
                  rw [HOWN.out, show (false && blockL nm) = false from rfl, show (false && nm == Tz.liN) = false from rfl, show (false || nm == Tz.pN) = true by rw [HNP.out]; simp, HIN.out] at hst
                  generalize stG true true false kd = z at hst
                  have HST2 := Lib.hid (show res = (z && stG false false false (k.drop (i + 1))) by rw [hst]; simp)
                  clear hst
                  rintro e8 W8 ⟨rfl, hb8⟩
                  have hbw8 := hbz.trans (hb8.mono hbz.size)
                  cases z with
                  | false =>
                    go_wp2_with fail
                    go_ret
                    have hr : res = false := by rw [HST2.out]; rfl
                    exact ⟨by rw [hr]; rfl, hbw8⟩
                  | true =>
                    have HST3 := Lib.hid (show res = stG false false false (k.drop (i + 1)) by rw [HST2.out]; rfl)
                    go_wp2_with fail
                    go_roundw
                    case rel => exact ⟨i + 1, false, rfl, rfl, hlt, HST3, hbw8⟩
                    case measure =>
                      show k.length - kOf (.int .i64 ((i + 1 : Nat) : Int)) < k.length - kOf (.int .i64 (i : Int))
                      simp only [kOf, Int.toNat_natCast]
                      omega
                | false =>
                  have HNP := Lib.hid (show (nm == Tz.pN) = false from ep)
                  go_wp2_with fail
                  refine (H.out W4 S (.slice K1 kd.length ck) kd false true hTz (by omega) (by omega)).mono ?_
                  have hst := HST.out
                  rw [HOWN.out, show (false && blockL nm) = false from rfl, show (false && nm == Tz.liN) = false from rfl, show (false || nm == Tz.pN) = false by rw [HNP.out]; rfl, HIN.out] at hst
                  generalize stG false true false kd = z at hst
                  have HST2 := Lib.hid (show res = (z && stG false false false (k.drop (i + 1))) by rw [hst]; simp)
                  clear hst
                  rintro e8 W8 ⟨rfl, hb8⟩
                  have hbw8 := hbz.trans (hb8.mono hbz.size)
                  cases z with
                  | false =>
                    go_wp2_with fail
                    go_ret
                    have hr : res = false := by rw [HST2.out]; rfl
                    exact ⟨by rw [hr]; rfl, hbw8⟩
                  | true =>
                    have HST3 := Lib.hid (show res = stG false false false (k.drop (i + 1)) by rw [HST2.out]; rfl)
                    go_wp2_with fail
                    go_roundw
                    case rel => exact ⟨i + 1, false, rfl, rfl, hlt, HST3, hbw8⟩
                    case measure =>
                      show k.length - kOf (.int .i64 ((i + 1 : Nat) : Int)) < k.length - kOf (.int .i64 (i : Int))
                      simp only [kOf, Int.toNat_natCast]
                      omega
              | false =>
                have hn1 := Lib.hid (show nm ≠ Tz.liN from ne_of_beq_false e1)
                cases e2 : (nm == ([117, 108] : B)) with
                | true =>
                  have HIN := Lib.hid (show Tz.inLi nm false = false by unfold Tz.inLi; rw [if_neg hn1.out, if_pos (.inl (show nm = Tz.ulN from eq_of_beq e2))])
                  cases ep : (nm == ([112] : B)) with
                  | true =>
                    have HNP := Lib.hid (show (nm == Tz.pN) = true from ep)
                    go_wp2_with fail
                    refine (H.out W4 S (.slice K1 kd.length ck) kd true false hTz (by omega) (by omega)).mono ?_
                    have hst := HST.out
                    rw [HOWN.out, show (false && blockL nm) = false from rfl, show (false && nm == Tz.liN) = false from rfl, show (false || nm == Tz.pN) = true by rw [HNP.out]; simp, HIN.out] at hst
                    generalize stG true false false kd = z at hst
                    have HST2 := Lib.hid (show res = (z && stG false false false (k.drop (i + 1))) by rw [hst]; simp)
                    clear hst
                    rintro e8 W8 ⟨rfl, hb8⟩
                    have hbw8 := hbz.trans (hb8.mono hbz.size)
                    cases z with
                    | false =>
                      go_wp2_with fail
                      go_ret
                      have hr : res = false := by rw [HST2.out]; rfl
                      exact ⟨by rw [hr]; rfl, hbw8⟩
                    | true =>
                      have HST3 := Lib.hid (show res = stG false false false (k.drop (i + 1)) by rw [HST2.out]; rfl)
                      go_wp2_with fail
                      go_roundw
                      case rel => exact ⟨i + 1, false, rfl, rfl, hlt, HST3, hbw8⟩
                      case measure =>
                        show k.length - kOf (.int .i64 ((i + 1 : Nat) : Int)) < k.length - kOf (.int .i64 (i : Int))
                        simp only [kOf, Int.toNat_natCast]
                        omega
                  | false =>
                    have HNP := Lib.hid (show (nm == Tz.pN) = false from ep)
                    go_wp2_with fail
                    refine (H.out W4 S (.slice K1 kd.length ck) kd false false hTz (by omega) (by omega)).mono ?_
                    have hst := HST.out
                    rw [HOWN.out, show (false && blockL nm) = false from rfl, show (false && nm == Tz.liN) = false from rfl, show (false || nm == Tz.pN) = false by rw [HNP.out]; rfl, HIN.out] at hst
                    generalize stG false false false kd = z at hst
                    have HST2 := Lib.hid (show res = (z && stG false false false (k.drop (i + 1))) by rw [hst]; simp)
                    clear hst
                    rintro e8 W8 ⟨rfl, hb8⟩
                    have hbw8 := hbz.trans (hb8.mono hbz.size)
                    cases z with
                    | false =>
                      go_wp2_with fail
                      go_ret
                      have hr : res = false := by rw [HST2.out]; rfl
                      exact ⟨by rw [hr]; rfl, hbw8⟩
                    | true =>
                      have HST3 := Lib.hid (show res = stG false false false (k.drop (i + 1)) by rw [HST2.out]; rfl)
                      go_wp2_with fail
                      go_roundw
                      case rel => exact ⟨i + 1, false, rfl, rfl, hlt, HST3, hbw8⟩
                      case measure =>
                        show k.length - kOf (.int .i64 ((i + 1 : Nat) : Int)) < k.length - kOf (.int .i64 (i : Int))
                        simp only [kOf, Int.toNat_natCast]
                        omega
                | false =>
                  have hn2 := Lib.hid (show nm ≠ Tz.ulN from ne_of_beq_false e2)
                  cases e3 : (nm == ([111, 108] : B)) with
                  | true =>
                    have HIN := Lib.hid (show Tz.inLi nm false = false by unfold Tz.inLi; rw [if_neg hn1.out, if_pos (.inr (show nm = Tz.olN from eq_of_beq e3))])
                    cases ep : (nm == ([112] : B)) with
                    | true =>
                      have HNP := Lib.hid (show (nm == Tz.pN) = true from ep)
                      go_wp2_with fail
                      refine (H.out W4 S (.slice K1 kd.length ck) kd true false hTz (by omega) (by omega)).mono ?_
                      have hst := HST.out
                      rw [HOWN.out, show (false && blockL nm) = false from rfl, show (false && nm == Tz.liN) = false from rfl, show (false || nm == Tz.pN) = true by rw [HNP.out]; simp, HIN.out] at hst
                      generalize stG true false false kd = z at hst
                      have HST2 := Lib.hid (show res = (z && stG false false false (k.drop (i + 1))) by rw [hst]; simp)
                      clear hst
                      rintro e8 W8 ⟨rfl, hb8⟩
                      have hbw8 := hbz.trans (hb8.mono hbz.size)
                      cases z with
                      | false =>
                        go_wp2_with fail
                        go_ret
                        have hr : res = false := by rw [HST2.out]; rfl
                        exact ⟨by rw [hr]; rfl, hbw8⟩
                      | true =>
                        have HST3 := Lib.hid (show res = stG false false false (k.drop (i + 1)) by rw [HST2.out]; rfl)
                        go_wp2_with fail
                        go_roundw
                        case rel => exact ⟨i + 1, false, rfl, rfl, hlt, HST3, hbw8⟩
                        case measure =>
                          show k.length - kOf (.int .i64 ((i + 1 : Nat) : Int)) < k.length - kOf (.int .i64 (i : Int))
                          simp only [kOf, Int.toNat_natCast]
                          omega
                    | false =>
                      have HNP := Lib.hid (show (nm == Tz.pN) = false from ep)
                      go_wp2_with fail
                      refine (H.out W4 S (.slice K1 kd.length ck) kd false false hTz (by omega) (by omega)).mono ?_
                      have hst := HST.out
                      rw [HOWN.out, show (false && blockL nm) = false from rfl, show (false && nm == Tz.liN) = false from rfl, show (false || nm == Tz.pN) = false by rw [HNP.out]; rfl, HIN.out] at hst
                      generalize stG false false false kd = z at hst
                      have HST2 := Lib.hid (show res = (z && stG false false false (k.drop (i + 1))) by rw [hst]; simp)
                      clear hst
                      rintro e8 W8 ⟨rfl, hb8⟩
                      have hbw8 := hbz.trans (hb8.mono hbz.size)
                      cases z with
                      | false =>
                        go_wp2_with fail
                        go_ret
                        have hr : res = false := by rw [HST2.out]; rfl
                        exact ⟨by rw [hr]; rfl, hbw8⟩
                      | true =>
                        have HST3 := Lib.hid (show res = stG false false false (k.drop (i + 1)) by rw [HST2.out]; rfl)
                        go_wp2_with fail
                        go_roundw
                        case rel => exact ⟨i + 1, false, rfl, rfl, hlt, HST3, hbw8⟩
                        case measure =>
                          show k.length - kOf (.int .i64 ((i + 1 : Nat) : Int)) < k.length - kOf (.int .i64 (i : Int))
                          simp only [kOf, Int.toNat_natCast]
                          omega
                  | false =>
                    have hn3 := Lib.hid (show nm ≠ Tz.olN from ne_of_beq_false e3)
                    have HIN := Lib.hid (show Tz.inLi nm false = false by unfold Tz.inLi; rw [if_neg hn1.out, if_neg (fun h => h.elim hn2.out hn3.out)])
                    cases ep : (nm == ([112] : B)) with
                    | true =>
                      have HNP := Lib.hid (show (nm == Tz.pN) = true from ep)
                      go_wp2_with fail
                      refine (H.out W4 S (.slice K1 kd.length ck) kd true false hTz (by omega) (by omega)).mono ?_
                      have hst := HST.out
                      rw [HOWN.out, show (false && blockL nm) = false from rfl, show (false && nm == Tz.liN) = false from rfl, show (false || nm == Tz.pN) = true by rw [HNP.out]; simp, HIN.out] at hst
                      generalize stG true false false kd = z at hst
                      have HST2 := Lib.hid (show res = (z && stG false false false (k.drop (i + 1))) by rw [hst]; simp)
                      clear hst
                      rintro e8 W8 ⟨rfl, hb8⟩
                      have hbw8 := hbz.trans (hb8.mono hbz.size)
                      cases z with
                      | false =>
                        go_wp2_with fail
                        go_ret
                        have hr : res = false := by rw [HST2.out]; rfl
                        exact ⟨by rw [hr]; rfl, hbw8⟩
                      | true =>
                        have HST3 := Lib.hid (show res = stG false false false (k.drop (i + 1)) by rw [HST2.out]; rfl)
                        go_wp2_with fail
                        go_roundw
                        case rel => exact ⟨i + 1, false, rfl, rfl, hlt, HST3, hbw8⟩
                        case measure =>
                          show k.length - kOf (.int .i64 ((i + 1 : Nat) : Int)) < k.length - kOf (.int .i64 (i : Int))
                          simp only [kOf, Int.toNat_natCast]
                          omega
                    | false =>
                      have HNP := Lib.hid (show (nm == Tz.pN) = false from ep)
                      go_wp2_with fail
                      refine (H.out W4 S (.slice K1 kd.length ck) kd false false hTz (by omega) (by omega)).mono ?_
                      have hst := HST.out
                      rw [HOWN.out, show (false && blockL nm) = false from rfl, show (false && nm == Tz.liN) = false from rfl, show (false || nm == Tz.pN) = false by rw [HNP.out]; rfl, HIN.out] at hst
                      generalize stG false false false kd = z at hst
                      have HST2 := Lib.hid (show res = (z && stG false false false (k.drop (i + 1))) by rw [hst]; simp)
                      clear hst
                      rintro e8 W8 ⟨rfl, hb8⟩
                      have hbw8 := hbz.trans (hb8.mono hbz.size)
                      cases z with
                      | false =>
                        go_wp2_with fail
                        go_ret
                        have hr : res = false := by rw [HST2.out]; rfl
                        exact ⟨by rw [hr]; rfl, hbw8⟩
                      | true =>
                        have HST3 := Lib.hid (show res = stG false false false (k.drop (i + 1)) by rw [HST2.out]; rfl)
                        go_wp2_with fail
                        go_roundw
                        case rel => exact ⟨i + 1, false, rfl, rfl, hlt, HST3, hbw8⟩
                        case measure =>
                          show k.length - kOf (.int .i64 ((i + 1 : Nat) : Int)) < k.length - kOf (.int .i64 (i : Int))
                          simp only [kOf, Int.toNat_natCast]
                          omega
            | true =>
              cases hl : (nm == ([108, 105] : B)) with
              | true =>
                have HLI := Lib.hid (show (nm == Tz.liN) = true from hl)
                go_wp2_with fail
                go_ret
                have hr : res = false := by rw [HST.out, HLI.out]; simp
                exact ⟨by rw [hr]; rfl, hbz⟩
              | false =>
                have HLI := Lib.hid (show (nm == Tz.liN) = false from hl)
                clear hl
                cases e1 : (nm == ([108, 105] : B)) with
                | true =>
                  exact absurd (HLI.out.symm.trans (show (nm == Tz.liN) = true from e1)) (by simp)
                | false =>
                  have hn1 := Lib.hid (show nm ≠ Tz.liN from ne_of_beq_false e1)
                  cases e2 : (nm == ([117, 108] : B)) with
                  | true =>
                    have HIN := Lib.hid (show Tz.inLi nm true = false by unfold Tz.inLi; rw [if_neg hn1.out, if_pos (.inl (show nm = Tz.ulN from eq_of_beq e2))])
                    cases ep : (nm == ([112] : B)) with
                    | true =>
                      have HNP := Lib.hid (show (nm == Tz.pN) = true from ep)
                      go_wp2_with fail
                      refine (H.out W4 S (.slice K1 kd.length ck) kd true false hTz (by omega) (by omega)).mono ?_
                      have hst := HST.out
                      rw [HOWN.out, show (false && blockL nm) = false from rfl, show (true && nm == Tz.liN) = false by rw [HLI.out]; rfl, show (false || nm == Tz.pN) = true by rw [HNP.out]; simp, HIN.out] at hst
                      generalize stG true false false kd = z at hst
                      have HST2 := Lib.hid (show res = (z && stG false true false (k.drop (i + 1))) by rw [hst]; simp)
                      clear hst
                      rintro e8 W8 ⟨rfl, hb8⟩
                      have hbw8 := hbz.trans (hb8.mono hbz.size)
                      cases z with
                      | false =>
                        go_wp2_with fail
                        go_ret
                        have hr : res = false := by rw [HST2.out]; rfl
                        exact ⟨by rw [hr]; rfl, hbw8⟩
                      | true =>
                        have HST3 := Lib.hid (show res = stG false true false (k.drop (i + 1)) by rw [HST2.out]; rfl)
                        go_wp2_with fail
                        go_roundw
                        case rel => exact ⟨i + 1, false, rfl, rfl, hlt, HST3, hbw8⟩
                        case measure =>
                          show k.length - kOf (.int .i64 ((i + 1 : Nat) : Int)) < k.length - kOf (.int .i64 (i : Int))
                          simp only [kOf, Int.toNat_natCast]
                          omega
                    | false =>
                      have HNP := Lib.hid (show (nm == Tz.pN) = false from ep)
                      go_wp2_with fail
                      refine (H.out W4 S (.slice K1 kd.length ck) kd false false hTz (by omega) (by omega)).mono ?_
                      have hst := HST.out
                      rw [HOWN.out, show (false && blockL nm) = false from rfl, show (true && nm == Tz.liN) = false by rw [HLI.out]; rfl, show (false || nm == Tz.pN) = false by rw [HNP.out]; rfl, HIN.out] at hst
                      generalize stG false false false kd = z at hst
                      have HST2 := Lib.hid (show res = (z && stG false true false (k.drop (i + 1))) by rw [hst]; simp)
                      clear hst
                      rintro e8 W8 ⟨rfl, hb8⟩
                      have hbw8 := hbz.trans (hb8.mono hbz.size)
                      cases z with
                      | false =>
                        go_wp2_with fail
                        go_ret
                        have hr : res = false := by rw [HST2.out]; rfl
                        exact ⟨by rw [hr]; rfl, hbw8⟩
                      | true =>
                        have HST3 := Lib.hid (show res = stG false true false (k.drop (i + 1)) by rw [HST2.out]; rfl)
                        go_wp2_with fail
                        go_roundw
                        case rel => exact ⟨i + 1, false, rfl, rfl, hlt, HST3, hbw8⟩
                        case measure =>
                          show k.length - kOf (.int .i64 ((i + 1 : Nat) : Int)) < k.length - kOf (.int .i64 (i : Int))
                          simp only [kOf, Int.toNat_natCast]
                          omega
                  | false =>
                    have hn2 := Lib.hid (show nm ≠ Tz.ulN from ne_of_beq_false e2)
                    cases e3 : (nm == ([111, 108] : B)) with
                    | true =>
                      have HIN := Lib.hid (show Tz.inLi nm true = false by unfold Tz.inLi; rw [if_neg hn1.out, if_pos (.inr (show nm = Tz.olN from eq_of_beq e3))])
                      cases ep : (nm == ([112] : B)) with
                      | true =>
                        have HNP := Lib.hid (show (nm == Tz.pN) = true from ep)
                        go_wp2_with fail
                        refine (H.out W4 S (.slice K1 kd.length ck) kd true false hTz (by omega) (by omega)).mono ?_
                        have hst := HST.out
                        rw [HOWN.out, show (false && blockL nm) = false from rfl, show (true && nm == Tz.liN) = false by rw [HLI.out]; rfl, show (false || nm == Tz.pN) = true by rw [HNP.out]; simp, HIN.out] at hst
                        generalize stG true false false kd = z at hst
                        have HST2 := Lib.hid (show res = (z && stG false true false (k.drop (i + 1))) by rw [hst]; simp)
                        clear hst
                        rintro e8 W8 ⟨rfl, hb8⟩
                        have hbw8 := hbz.trans (hb8.mono hbz.size)
                        cases z with
                        | false =>
                          go_wp2_with fail
                          go_ret
                          have hr : res = false := by rw [HST2.out]; rfl
                          exact ⟨by rw [hr]; rfl, hbw8⟩
                        | true =>
                          have HST3 := Lib.hid (show res = stG false true false (k.drop (i + 1)) by rw [HST2.out]; rfl)
                          go_wp2_with fail
                          go_roundw
                          case rel => exact ⟨i + 1, false, rfl, rfl, hlt, HST3, hbw8⟩
                          case measure =>
                            show k.length - kOf (.int .i64 ((i + 1 : Nat) : Int)) < k.length - kOf (.int .i64 (i : Int))
                            simp only [kOf, Int.toNat_natCast]
                            omega
                      | false =>
                        have HNP := Lib.hid (show (nm == Tz.pN) = false from ep)
                        go_wp2_with fail
                        refine (H.out W4 S (.slice K1 kd.length ck) kd false false hTz (by omega) (by omega)).mono ?_
                        have hst := HST.out
                        rw [HOWN.out, show (false && blockL nm) = false from rfl, show (true && nm == Tz.liN) = false by rw [HLI.out]; rfl, show (false || nm == Tz.pN) = false by rw [HNP.out]; rfl, HIN.out] at hst
                        generalize stG false false false kd = z at hst
                        have HST2 := Lib.hid (show res = (z && stG false true false (k.drop (i + 1))) by rw [hst]; simp)
                        clear hst
                        rintro e8 W8 ⟨rfl, hb8⟩
                        have hbw8 := hbz.trans (hb8.mono hbz.size)
                        cases z with
                        | false =>
                          go_wp2_with fail
                          go_ret
                          have hr : res = false := by rw [HST2.out]; rfl
                          exact ⟨by rw [hr]; rfl, hbw8⟩
                        | true =>
                          have HST3 := Lib.hid (show res = stG false true false (k.drop (i + 1)) by rw [HST2.out]; rfl)
                          go_wp2_with fail
                          go_roundw
                          case rel => exact ⟨i + 1, false, rfl, rfl, hlt, HST3, hbw8⟩
                          case measure =>
                            show k.length - kOf (.int .i64 ((i + 1 : Nat) : Int)) < k.length - kOf (.int .i64 (i : Int))
                            simp only [kOf, Int.toNat_natCast]
                            omega
                    | false =>
                      have hn3 := Lib.hid (show nm ≠ Tz.olN from ne_of_beq_false e3)
                      have HIN := Lib.hid (show Tz.inLi nm true = true by unfold Tz.inLi; rw [if_neg hn1.out, if_neg (fun h => h.elim hn2.out hn3.out)])
                      cases ep : (nm == ([112] : B)) with
                      | true =>
                        have HNP := Lib.hid (show (nm == Tz.pN) = true from ep)
                        go_wp2_with fail
                        refine (H.out W4 S (.slice K1 kd.length ck) kd true true hTz (by omega) (by omega)).mono ?_
                        have hst := HST.out
                        rw [HOWN.out, show (false && blockL nm) = false from rfl, show (true && nm == Tz.liN) = false by rw [HLI.out]; rfl, show (false || nm == Tz.pN) = true by rw [HNP.out]; simp, HIN.out] at hst
                        generalize stG true true false kd = z at hst
                        have HST2 := Lib.hid (show res = (z && stG false true false (k.drop (i + 1))) by rw [hst]; simp)
                        clear hst
                        rintro e8 W8 ⟨rfl, hb8⟩
                        have hbw8 := hbz.trans (hb8.mono hbz.size)
                        cases z with
                        | false =>
                          go_wp2_with fail
                          go_ret
                          have hr : res = false := by rw [HST2.out]; rfl
                          exact ⟨by rw [hr]; rfl, hbw8⟩
                        | true =>
                          have HST3 := Lib.hid (show res = stG false true false (k.drop (i + 1)) by rw [HST2.out]; rfl)
                          go_wp2_with fail
                          go_roundw
                          case rel => exact ⟨i + 1, false, rfl, rfl, hlt, HST3, hbw8⟩
                          case measure =>
                            show k.length - kOf (.int .i64 ((i + 1 : Nat) : Int)) < k.length - kOf (.int .i64 (i : Int))
                            simp only [kOf, Int.toNat_natCast]
                            omega
                      | false =>
                        have HNP := Lib.hid (show (nm == Tz.pN) = false from ep)
                        go_wp2_with fail
                        refine (H.out W4 S (.slice K1 kd.length ck) kd false true hTz (by omega) (by omega)).mono ?_
                        have hst := HST.out
                        rw [HOWN.out, show (false && blockL nm) = false from rfl, show (true && nm == Tz.liN) = false by rw [HLI.out]; rfl, show (false || nm == Tz.pN) = false by rw [HNP.out]; rfl, HIN.out] at hst
                        generalize stG false true false kd = z at hst
                        have HST2 := Lib.hid (show res = (z && stG false true false (k.drop (i + 1))) by rw [hst]; simp)
                        clear hst
                        rintro e8 W8 ⟨rfl, hb8⟩
                        have hbw8 := hbz.trans (hb8.mono hbz.size)
                        cases z with
                        | false =>
                          go_wp2_with fail
                          go_ret
                          have hr : res = false := by rw [HST2.out]; rfl
                          exact ⟨by rw [hr]; rfl, hbw8⟩
                        | true =>
                          have HST3 := Lib.hid (show res = stG false true false (k.drop (i + 1)) by rw [HST2.out]; rfl)
                          go_wp2_with fail
                          go_roundw
                          case rel => exact ⟨i + 1, false, rfl, rfl, hlt, HST3, hbw8⟩
                          case measure =>
                            show k.length - kOf (.int .i64 ((i + 1 : Nat) : Int)) < k.length - kOf (.int .i64 (i : Int))
                            simp only [kOf, Int.toNat_natCast]
                            omega
          | true =>
            go_wp2_with fail
            refine (block_u nm).mono ?_
            rintro e5 W5 ⟨rfl, hw5⟩
            have hRy : Blk W5 wr.heap.size 61 #[.string (bs nm), .slice A1 at_.length ca, .string (bs tx), .slice K1 kd.length ck] := by rw [hw5]; exact hRz
            have hny5 : NodC W5 S (.mk nm at_ tx kd) [.string (bs nm), .slice A1 at_.length ca, .string (bs tx), .slice K1 kd.length ck] := by rw [hw5]; exact NodC.keep (fun _ _ => rfl) _ _ hnyz
            have hb5 : Below w.heap.size w W5 := by rw [hw5]; exact ⟨hbz.os, hbz.tape, hbz.output, hbz.size, hbz.block⟩
            clear hw5 q0 q3 hRz hnyz hbz
            have hbz := hb5
            have q0 : W5.cell? ⟨wr.heap.size, 0, none⟩ = some (.string (bs nm)) := Blk.cell hRy 0
            have q3 : W5.cell? ⟨wr.heap.size, 3, none⟩ = some (.slice K1 kd.length ck) := Blk.cell hRy 3
            have hTz : TreeV W5 S (.slice K1 kd.length ck) kd := kids_tree hny5 (fun g hg => Nat.lt_of_lt_of_le (hSl g hg) hbz.size)
            cases hbl : blockL nm with
            | true =>
              have HBL := Lib.hid hbl
              clear hbl
              go_wp2_with fail
              go_ret
              have hr : res = false := by rw [HST.out, HBL.out]; simp
              exact ⟨by rw [hr]; rfl, hbz⟩
            | false =>
              have HBL := Lib.hid hbl
              clear hbl
              cases lf with
              | false =>
                cases e1 : (nm == ([108, 105] : B)) with
                | true =>
                  have HIN := Lib.hid (show Tz.inLi nm false = true by unfold Tz.inLi; rw [if_pos (show nm = Tz.liN from eq_of_beq e1)])
                  go_wp2_with fail
                  refine (H.out W5 S (.slice K1 kd.length ck) kd true true hTz (by omega) (by omega)).mono ?_
                  have hst := HST.out
                  rw [HOWN.out, show (true && blockL nm) = false by rw [HBL.out]; rfl, show (false && nm == Tz.liN) = false from rfl, show (true || nm == Tz.pN) = true from rfl, HIN.out] at hst
                  generalize stG true true false kd = z at hst
                  have HST2 := Lib.hid (show res = (z && stG true false false (k.drop (i + 1))) by rw [hst]; simp)
                  clear hst
                  rintro e8 W8 ⟨rfl, hb8⟩
                  have hbw8 := hbz.trans (hb8.mono hbz.size)
                  cases z with
                  | false =>
                    go_wp2_with fail
                    go_ret
                    have hr : res = false := by rw [HST2.out]; rfl
                    exact ⟨by rw [hr]; rfl, hbw8⟩
                  | true =>
                    have HST3 := Lib.hid (show res = stG true false false (k.drop (i + 1)) by rw [HST2.out]; rfl)
                    go_wp2_with fail
                    go_roundw
                    case rel => exact ⟨i + 1, false, rfl, rfl, hlt, HST3, hbw8⟩
                    case measure =>
                      show k.length - kOf (.int .i64 ((i + 1 : Nat) : Int)) < k.length - kOf (.int .i64 (i : Int))
                      simp only [kOf, Int.toNat_natCast]
                      omega
                | false =>
                  have hn1 := Lib.hid (show nm ≠ Tz.liN from ne_of_beq_false e1)
                  cases e2 : (nm == ([117, 108] : B)) with
                  | true =>
                    have HIN := Lib.hid (show Tz.inLi nm false = false by unfold Tz.inLi; rw [if_neg hn1.out, if_pos (.inl (show nm = Tz.ulN from eq_of_beq e2))])
                    go_wp2_with fail
                    refine (H.out W5 S (.slice K1 kd.length ck) kd true false hTz (by omega) (by omega)).mono ?_
                    have hst := HST.out
                    rw [HOWN.out, show (true && blockL nm) = false by rw [HBL.out]; rfl, show (false && nm == Tz.liN) = false from rfl, show (true || nm == Tz.pN) = true from rfl, HIN.out] at hst
                    generalize stG true false false kd = z at hst
                    have HST2 := Lib.hid (show res = (z && stG true false false (k.drop (i + 1))) by rw [hst]; simp)
                    clear hst
                    rintro e8 W8 ⟨rfl, hb8⟩
                    have hbw8 := hbz.trans (hb8.mono hbz.size)
                    cases z with
                    | false =>
                      go_wp2_with fail
                      go_ret
                      have hr : res = false := by rw [HST2.out]; rfl
                      exact ⟨by rw [hr]; rfl, hbw8⟩
                    | true =>
                      have HST3 := Lib.hid (show res = stG true false false (k.drop (i + 1)) by rw [HST2.out]; rfl)
                      go_wp2_with fail
                      go_roundw
                      case rel => exact ⟨i + 1, false, rfl, rfl, hlt, HST3, hbw8⟩
                      case measure =>
                        show k.length - kOf (.int .i64 ((i + 1 : Nat) : Int)) < k.length - kOf (.int .i64 (i : Int))
                        simp only [kOf, Int.toNat_natCast]
                        omega
                  | false =>
                    have hn2 := Lib.hid (show nm ≠ Tz.ulN from ne_of_beq_false e2)
                    cases e3 : (nm == ([111, 108] : B)) with
                    | true =>
                      have HIN := Lib.hid (show Tz.inLi nm false = false by unfold Tz.inLi; rw [if_neg hn1.out, if_pos (.inr (show nm = Tz.olN from eq_of_beq e3))])
                      go_wp2_with fail
                      refine (H.out W5 S (.slice K1 kd.length ck) kd true false hTz (by omega) (by omega)).mono ?_
                      have hst := HST.out
                      rw [HOWN.out, show (true && blockL nm) = false by rw [HBL.out]; rfl, show (false && nm == Tz.liN) = false from rfl, show (true || nm == Tz.pN) = true from rfl, HIN.out] at hst
                      generalize stG true false false kd = z at hst
                      have HST2 := Lib.hid (show res = (z && stG true false false (k.drop (i + 1))) by rw [hst]; simp)
                      clear hst
                      rintro e8 W8 ⟨rfl, hb8⟩
                      have hbw8 := hbz.trans (hb8.mono hbz.size)
                      cases z with
                      | false =>
                        go_wp2_with fail
                        go_ret
                        have hr : res = false := by rw [HST2.out]; rfl
                        exact ⟨by rw [hr]; rfl, hbw8⟩
                      | true =>
                        have HST3 := Lib.hid (show res = stG true false false (k.drop (i + 1)) by rw [HST2.out]; rfl)
                        go_wp2_with fail
                        go_roundw
                        case rel => exact ⟨i + 1, false, rfl, rfl, hlt, HST3, hbw8⟩
                        case measure =>
                          show k.length - kOf (.int .i64 ((i + 1 : Nat) : Int)) < k.length - kOf (.int .i64 (i : Int))
                          simp only [kOf, Int.toNat_natCast]
                          omega
                    | false =>
                      have hn3 := Lib.hid (show nm ≠ Tz.olN from ne_of_beq_false e3)
                      have HIN := Lib.hid (show Tz.inLi nm false = false by unfold Tz.inLi; rw [if_neg hn1.out, if_neg (fun h => h.elim hn2.out hn3.out)])
                      go_wp2_with fail
                      refine (H.out W5 S (.slice K1 kd.length ck) kd true false hTz (by omega) (by omega)).mono ?_
                      have hst := HST.out
                      rw [HOWN.out, show (true && blockL nm) = false by rw [HBL.out]; rfl, show (false && nm == Tz.liN) = false from rfl, show (true || nm == Tz.pN) = true from rfl, HIN.out] at hst
                      generalize stG true false false kd = z at hst
                      have HST2 := Lib.hid (show res = (z && stG true false false (k.drop (i + 1))) by rw [hst]; simp)
                      clear hst
                      rintro e8 W8 ⟨rfl, hb8⟩
                      have hbw8 := hbz.trans (hb8.mono hbz.size)
                      cases z with
                      | false =>
                        go_wp2_with fail
                        go_ret
                        have hr : res = false := by rw [HST2.out]; rfl
                        exact ⟨by rw [hr]; rfl, hbw8⟩
                      | true =>
                        have HST3 := Lib.hid (show res = stG true false false (k.drop (i + 1)) by rw [HST2.out]; rfl)
                        go_wp2_with fail
                        go_roundw
                        case rel => exact ⟨i + 1, false, rfl, rfl, hlt, HST3, hbw8⟩
                        case measure =>
                          show k.length - kOf (.int .i64 ((i + 1 : Nat) : Int)) < k.length - kOf (.int .i64 (i : Int))
                          simp only [kOf, Int.toNat_natCast]
                          omega
              | true =>
                cases hl : (nm == ([108, 105] : B)) with
                | true =>
                  have HLI := Lib.hid (show (nm == Tz.liN) = true from hl)
                  go_wp2_with fail
                  go_ret
                  have hr : res = false := by rw [HST.out, HLI.out]; simp
                  exact ⟨by rw [hr]; rfl, hbz⟩
                | false =>
                  have HLI := Lib.hid (show (nm == Tz.liN) = false from hl)
                  clear hl
                  cases e1 : (nm == ([108, 105] : B)) with
                  | true =>
                    exact absurd (HLI.out.symm.trans (show (nm == Tz.liN) = true from e1)) (by simp)
                  | false =>
                    have hn1 := Lib.hid (show nm ≠ Tz.liN from ne_of_beq_false e1)
                    cases e2 : (nm == ([117, 108] : B)) with
                    | true =>
                      have HIN := Lib.hid (show Tz.inLi nm true = false by unfold Tz.inLi; rw [if_neg hn1.out, if_pos (.inl (show nm = Tz.ulN from eq_of_beq e2))])
                      go_wp2_with fail
                      refine (H.out W5 S (.slice K1 kd.length ck) kd true false hTz (by omega) (by omega)).mono ?_
                      have hst := HST.out
                      rw [HOWN.out, show (true && blockL nm) = false by rw [HBL.out]; rfl, show (true && nm == Tz.liN) = false by rw [HLI.out]; rfl, show (true || nm == Tz.pN) = true from rfl, HIN.out] at hst
                      generalize stG true false false kd = z at hst
                      have HST2 := Lib.hid (show res = (z && stG true true false (k.drop (i + 1))) by rw [hst]; simp)
                      clear hst
                      rintro e8 W8 ⟨rfl, hb8⟩
                      have hbw8 := hbz.trans (hb8.mono hbz.size)
                      cases z with
                      | false =>
                        go_wp2_with fail
                        go_ret
                        have hr : res = false := by rw [HST2.out]; rfl
                        exact ⟨by rw [hr]; rfl, hbw8⟩
                      | true =>
                        have HST3 := Lib.hid (show res = stG true true false (k.drop (i + 1)) by rw [HST2.out]; rfl)
                        go_wp2_with fail
                        go_roundw
                        case rel => exact ⟨i + 1, false, rfl, rfl, hlt, HST3, hbw8⟩
                        case measure =>
                          show k.length - kOf (.int .i64 ((i + 1 : Nat) : Int)) < k.length - kOf (.int .i64 (i : Int))
                          simp only [kOf, Int.toNat_natCast]
                          omega
                    | false =>
                      have hn2 := Lib.hid (show nm ≠ Tz.ulN from ne_of_beq_false e2)
                      cases e3 : (nm == ([111, 108] : B)) with
                      | true =>
                        have HIN := Lib.hid (show Tz.inLi nm true = false by unfold Tz.inLi; rw [if_neg hn1.out, if_pos (.inr (show nm = Tz.olN from eq_of_beq e3))])
                        go_wp2_with fail
                        refine (H.out W5 S (.slice K1 kd.length ck) kd true false hTz (by omega) (by omega)).mono ?_
                        have hst := HST.out
                        rw [HOWN.out, show (true && blockL nm) = false by rw [HBL.out]; rfl, show (true && nm == Tz.liN) = false by rw [HLI.out]; rfl, show (true || nm == Tz.pN) = true from rfl, HIN.out] at hst
                        generalize stG true false false kd = z at hst
                        have HST2 := Lib.hid (show res = (z && stG true true false (k.drop (i + 1))) by rw [hst]; simp)
                        clear hst
                        rintro e8 W8 ⟨rfl, hb8⟩
                        have hbw8 := hbz.trans (hb8.mono hbz.size)
                        cases z with
                        | false =>
                          go_wp2_with fail
                          go_ret
                          have hr : res = false := by rw [HST2.out]; rfl
                          exact ⟨by rw [hr]; rfl, hbw8⟩
                        | true =>
                          have HST3 := Lib.hid (show res = stG true true false (k.drop (i + 1)) by rw [HST2.out]; rfl)
                          go_wp2_with fail
                          go_roundw
                          case rel => exact ⟨i + 1, false, rfl, rfl, hlt, HST3, hbw8⟩
                          case measure =>
                            show k.length - kOf (.int .i64 ((i + 1 : Nat) : Int)) < k.length - kOf (.int .i64 (i : Int))
                            simp only [kOf, Int.toNat_natCast]
                            omega
                      | false =>
                        have hn3 := Lib.hid (show nm ≠ Tz.olN from ne_of_beq_false e3)
                        have HIN := Lib.hid (show Tz.inLi nm true = true by unfold Tz.inLi; rw [if_neg hn1.out, if_neg (fun h => h.elim hn2.out hn3.out)])
                        go_wp2_with fail
                        refine (H.out W5 S (.slice K1 kd.length ck) kd true true hTz (by omega) (by omega)).mono ?_
                        have hst := HST.out
                        rw [HOWN.out, show (true && blockL nm) = false by rw [HBL.out]; rfl, show (true && nm == Tz.liN) = false by rw [HLI.out]; rfl, show (true || nm == Tz.pN) = true from rfl, HIN.out] at hst
                        generalize stG true true false kd = z at hst
                        have HST2 := Lib.hid (show res = (z && stG true true false (k.drop (i + 1))) by rw [hst]; simp)
                        clear hst
                        rintro e8 W8 ⟨rfl, hb8⟩
                        have hbw8 := hbz.trans (hb8.mono hbz.size)
                        cases z with
                        | false =>
                          go_wp2_with fail
                          go_ret
                          have hr : res = false := by rw [HST2.out]; rfl
                          exact ⟨by rw [hr]; rfl, hbw8⟩
                        | true =>
                          have HST3 := Lib.hid (show res = stG true true false (k.drop (i + 1)) by rw [HST2.out]; rfl)
                          go_wp2_with fail
                          go_roundw
                          case rel => exact ⟨i + 1, false, rfl, rfl, hlt, HST3, hbw8⟩
                          case measure =>
                            show k.length - kOf (.int .i64 ((i + 1 : Nat) : Int)) < k.length - kOf (.int .i64 (i : Int))
                            simp only [kOf, Int.toNat_natCast]
                            omega
    · have t0 : ¬ ((i : Int) < (k.length : Int)) := by omega
      have Hst := Lib.hid (show res = true by rw [HK0.out, List.drop_of_length_le (by omega)]; cases text <;> simp [stG])
      go_wp2_with fail
      go_ret
      exact ⟨by rw [Hst.out]; rfl, hbi⟩
theorem stable_all : ∀ N, StAll N
  | 0 => fun _ _ _ _ _ _ _ h => absurd h (by omega)
  | N + 1 => stable_step (stable_all N)
end Go.Proofs.YtlgaeeedkihfpaaGreatDoor.Uf
