/-
  Texts of the proof of Chain, one behind the other: ChgE.
-/
import Derived.Test.YtlgaeeedkihfpaaGreatDoorC35
import Derived.Test.YtlgaeeedkihfpaaGreatDoorC30
/-
  ser.own.
-/
namespace Go.Proofs.YtlgaeeedkihfpaaGreatDoor.Uf
open Go.RowKit
open Tz (B Atr Nod ownP onceN smallS rawL voidL)

theorem own_once {nm tx : B} {a : List Atr} {k : List Nod} (h1 : (rawL nm).1 = false) (h2 : smallS nm [45] = true) (h3 : tx = []) (h4 : (voidL nm && !k.isEmpty) = false) : ownP (.mk nm a tx k) = onceN a [] := by
  unfold ownP
  simp only [Nod.name, Nod.text, Nod.kids, Nod.attrs]
  rw [h1, h2, h3, h4]
  simp
theorem own_not {nm tx : B} {a : List Atr} {k : List Nod} (h : (rawL nm).1 = true ∨ smallS nm [45] = false ∨ tx ≠ [] ∨ (voidL nm && !k.isEmpty) = true) : ownP (.mk nm a tx k) = false := by
  unfold ownP
  simp only [Nod.name, Nod.text, Nod.kids, Nod.attrs]
  rcases h with h | h | h | h
  · rw [h]; simp
  · rw [h]; simp
  · have : (tx == []) = false := by simpa using h
    rw [this]; simp
  · rw [h]; simp

set_option maxRecDepth 100000 in
set_option maxHeartbeats 8000000 in
theorem own_u {w : World} {S : Nat → Prop} {y : List Value} {n : Nod} (hn : NodC w S n y) (hS : ∀ g, S g → g < w.heap.size) (hw : nodW n ≤ 100000000) :
    Calls Tryz.prog 90 #[.agg y.toArray] w fun e w' => e = .returned (.bool (ownP n)) ∧ Below w.heap.size w w' := by
  obtain ⟨nm, at_, tx, kd⟩ := n
  unfold NodC at hn
  obtain ⟨A, ca, K, ck, zs, rfl, hA, hK1, hK2⟩ := hn
  have hwk : nodsW kd + aw at_ + nm.length + tx.length + 1 = nodW (.mk nm at_ tx kd) := by simp [nodW]; omega
  have hkl := nodsW_len kd
  have hal := aw_len at_
  have hbV : Below w.heap.size w (w.alloc (.cells #[.string (bs nm), .slice A at_.length ca, .string (bs tx), .slice K kd.length ck] 61)) := (Below.refl _ w).alloc (Nat.le_refl _) _
  have hPV : Blk (w.alloc (.cells #[.string (bs nm), .slice A at_.length ca, .string (bs tx), .slice K kd.length ck] 61)) w.heap.size 61 #[.string (bs nm), .slice A at_.length ca, .string (bs tx), .slice K kd.length ck] := Blk.new w 61 #[.string (bs nm), .slice A at_.length ca, .string (bs tx), .slice K kd.length ck]
  obtain ⟨res, hres⟩ : ∃ res, res = ownP (.mk nm at_ tx kd) := ⟨_, rfl⟩
  rw [← hres]
  have HRES := Lib.hid hres
  clear hres hK1 hK2
  go_enter Tryz.func90, Tryz.ntmps90
  apply wp_seq_k
  intro K' hK
  have HK := Lib.hid hK
  clear hK
  go_wp2_with fail
  refine HK.out _ _ ?_
  clear HK K'
  generalize (w.alloc (.cells #[.string (bs nm), .slice A at_.length ca, .string (bs tx), .slice K kd.length ck] 61)) = V at hPV hbV ⊢
  have q0 : V.cell? ⟨w.heap.size, 0, none⟩ = some (.string (bs nm)) := Blk.cell hPV 0
  go_wp2_with fail
  refine (raw_name nm).mono ?_
  rintro e1 V1 ⟨rfl, hV1⟩
  have hb1 : Below w.heap.size w V1 := by rw [hV1]; exact ⟨hbV.os, hbV.tape, hbV.output, hbV.size, hbV.block⟩
  have hP1 : Blk V1 w.heap.size 61 #[.string (bs nm), .slice A at_.length ca, .string (bs tx), .slice K kd.length ck] := by rw [hV1]; exact hPV
  clear hV1 hbV hPV q0
  cases hr : (rawL nm).1 with
  | true =>
    have HR := Lib.hid (show res = false by rw [HRES.out]; exact own_not (.inl hr))
    clear hr
    go_wp2_with fail
    go_ret
    exact ⟨by rw [HR.out]; rfl, hb1⟩
  | false =>
    have HR1 := Lib.hid hr
    clear hr
    have q0 : V1.cell? ⟨w.heap.size, 0, none⟩ = some (.string (bs nm)) := Blk.cell hP1 0
    go_wp2_with fail
    refine (small_u nm [45] (by omega)).mono ?_
    rintro e2 V2 ⟨rfl, hb2⟩
    have hP2 := hP1.below hb2 (heap_lt hP1)
    have hbw2 := hb1.trans (hb2.mono hb1.size)
    clear hb1 hP1 q0 hb2
    cases hs : smallS nm [45] with
    | false =>
      have HR := Lib.hid (show res = false by rw [HRES.out]; exact own_not (.inr (.inl hs)))
      clear hs
      go_wp2_with fail
      go_ret
      exact ⟨by rw [HR.out]; rfl, hbw2⟩
    | true =>
      have HS1 := Lib.hid hs
      clear hs
      have q2 : V2.cell? ⟨w.heap.size, 2, none⟩ = some (.string (bs tx)) := Blk.cell hP2 2
      by_cases htx : tx = []
      · subst htx
        have e0 : (([] : B) == ([] : B)) = true := rfl
        have e1 : (([] : B) != ([] : B)) = false := rfl
        have q0 : V2.cell? ⟨w.heap.size, 0, none⟩ = some (.string (bs nm)) := Blk.cell hP2 0
        go_wp2_with fail
        refine (void_u nm).mono ?_
        rintro e3 V3 ⟨rfl, hV3⟩
        have hb3 : Below w.heap.size w V3 := by rw [hV3]; exact ⟨hbw2.os, hbw2.tape, hbw2.output, hbw2.size, hbw2.block⟩
        have hP3 : Blk V3 w.heap.size 61 #[.string (bs nm), .slice A at_.length ca, .string (bs []), .slice K kd.length ck] := by rw [hV3]; exact hP2
        have q3 : V3.cell? ⟨w.heap.size, 3, none⟩ = some (.slice K kd.length ck) := Blk.cell hP3 3
        have q1 : V3.cell? ⟨w.heap.size, 1, none⟩ = some (.slice A at_.length ca) := Blk.cell hP3 1
        clear hV3 hbw2 hP2 q0 q2
        have HC := Lib.hid (show (voidL nm && !kd.isEmpty) = false → res = onceN at_ [] from fun h => by rw [HRES.out]; exact own_once HR1.out HS1.out rfl h)
        have HN := Lib.hid (show (voidL nm && !kd.isEmpty) = true → res = false from fun h => by rw [HRES.out]; exact own_not (.inr (.inr (.inr h))))
        generalize voidL nm = vz at HC HN
        cases vz with
        | true =>
          by_cases hk0 : kd = []
          · subst hk0
            have HC2 := Lib.hid (HC.out rfl)
            clear HC HN
            have t0 : ¬ (0 : Int) < (([] : List Nod).length : Int) := by simp
            have hmm := @run_makeMap Tryz.prog
            have hP4 : Blk (V3.alloc (.map #[] 0)) w.heap.size 61 #[.string (bs nm), .slice A at_.length ca, .string (bs []), .slice K ([] : List Nod).length ck] := Blk.alloc hP3 _
            have q4 : (V3.alloc (.map #[] 0)).cell? ⟨w.heap.size, 1, none⟩ = some (.slice A at_.length ca) := Blk.cell hP4 1
            go_wp2_with fail
            clear hmm q4
            have hM : Seen (V3.alloc (.map #[] 0)) V3.heap.size 0 [] := seen_new V3
            have hbM : Below w.heap.size w (V3.alloc (.map #[] 0)) := hb3.alloc hb3.size _
            have hMl : w.heap.size ≤ V3.heap.size := hb3.size
            clear hP4
            generalize (V3.alloc (.map #[] 0)) = V4 at hM hbM ⊢
            clear q1 q3 hb3 hP3
            go_loopw [41] (fun vi wr => ∃ (i : Nat) (sn : List B), vi = .int .i64 i ∧ i ≤ at_.length ∧ Seen wr V3.heap.size i sn ∧ Below w.heap.size w wr ∧ Hid (onceN (at_.drop i) sn = onceN at_ [])) (fun vi _ => at_.length - kOf vi)
            case atStart => exact ⟨0, [], rfl, Nat.zero_le _, hM, hbM, Lib.hid rfl⟩
            case round =>
              obtain ⟨i, sn, rfl, hi, hsn, hbi, Hk⟩ := hrel
              by_cases hlt : i < at_.length
              · have t1 : (i : Int) < (at_.length : Int) := by omega
                obtain ⟨ad, rfl, hSb, hc⟩ := hA.2 (by omega)
                have hcells0 : ∀ j u, ([.string (bs at_[i].name), .string (bs at_[i].val)] : List Value)[j]? = some u → wr.cell? ((ad.add (i * 2)).add j) = some u := fun j u hu => by
                  rw [add_add]
                  refine (hbi.cell (by rw [block_of_add]; exact hS _ hSb)).trans ?_
                  exact hc _ _ (atrCells_get at_ i hlt j u hu)
                have hm := aw_mem (List.getElem_mem hlt)
                have hdc : at_.drop i = at_[i] :: at_.drop (i + 1) := List.drop_eq_getElem_cons hlt
                have hst : onceN (at_.drop i) sn = (smallS at_[i].name [45, 95, 58] && !sn.contains at_[i].name && onceN (at_.drop (i + 1)) (sn ++ [at_[i].name])) := by rw [hdc]; rfl
                rw [Hk.out] at hst
                clear hdc
                generalize at_[i] = a at hcells0 hm hst
                obtain ⟨an, av⟩ := a
                have hcells : ∀ j u, ([.string (bs an), .string (bs av)] : List Value)[j]? = some u → wr.cell? ((ad.add (i * 2)).add j) = some u := hcells0
                simp only at hm
                have HST := Lib.hid (show onceN at_ [] = (smallS an [45, 95, 58] && !sn.contains an && onceN (at_.drop (i + 1)) (sn ++ [an])) from hst)
                clear hst hcells0
                have hi1 : IntKind.i64.wrap ((i : Int) + 1) = ((i + 1 : Nat) : Int) := by rw [IntKind.wrap_i64]; omega
                go_wp2_with (first
                  | (with_reducible refine wpList_load_at rfl 57 (.tmp 43) rfl (ad.add (i * 2)) rfl [.string (bs an), .string (bs av)] _ hcells Tryz.underlying57 rfl (by kernel_rfl) ?_)
                  | ((with_reducible refine store_new rfl 57 (.tmp 7) (.tmp 44) rfl #[.string (bs an), .string (bs av)] rfl rfl (by kernel_rfl) (by kernel_rfl) (by simp [Value.oneCell']) ?_); intro W3 hB3 hb3; have n0 : W3.cell? ⟨wr.heap.size, 0, none⟩ = some (.string (bs an)) := Blk.cell hB3 0))
                have hbw3 := hbi.trans (hb3.mono hbi.size)
                have hR3 : Blk W3 wr.heap.size 57 #[.string (bs an), .string (bs av)] := hB3
                have hs3 := seen_kept hsn (hb3.block _ (seen_lt hsn))
                clear hB3 n0 hcells
                refine (small_u an [45, 95, 58] (by omega)).mono ?_
                generalize smallS an [45, 95, 58] = z at HST
                rintro e5 W5 ⟨rfl, hb5⟩
                have hbw5 := hbw3.trans (hb5.mono hbw3.size)
                have hR5 := hR3.below hb5 (heap_lt hR3)
                have hs5 := seen_kept hs3 (hb5.block _ (seen_lt hs3))
                clear hb5 hbw3 hR3 hs3 hb3
                cases z with
                | false =>
                  go_wp2_with fail
                  go_ret
                  have hr : res = false := by rw [HC2.out, HST.out]; rfl
                  exact ⟨by rw [hr]; rfl, hbw5⟩
                | true =>
                  have n0 : W5.cell? ⟨wr.heap.size, 0, none⟩ = some (.string (bs an)) := Blk.cell hR5 0
                  have hlook := seen_look (x := an) hs5 (by omega)
                  cases hsc : sn.contains an with
                  | true =>
                    rw [hsc] at hlook HST
                    clear hsc
                    go_wp2_with fail
                    go_ret
                    have hr : res = false := by rw [HC2.out, HST.out]; rfl
                    exact ⟨by rw [hr]; rfl, hbw5⟩
                  | false =>
                    rw [hsc] at hlook HST
                    clear hsc
                    obtain ⟨w6, hput, hs6, hg6⟩ := seen_put hs5 (x := an) (by omega) (by omega)
                    have hb6 : Below w.heap.size w w6 := hbw5.grown hg6 hbw5.size (fun k hk => by injection hk with hk; omega)
                    have Hst2 := Lib.hid (show onceN (at_.drop (i + 1)) (sn ++ [an]) = onceN at_ [] by rw [HST.out]; rfl)
                    clear hg6
                    go_wp2_with fail
                    go_roundw
                    case rel => exact ⟨i + 1, sn ++ [an], by go_num, hlt, hs6, hb6, Hst2⟩
                    case measure =>
                      show at_.length - kOf (.int .i64 ((i + 1 : Nat) : Int)) < at_.length - kOf (.int .i64 (i : Int))
                      simp only [kOf, Int.toNat_natCast]
                      omega
              · have t1 : ¬ (i : Int) < (at_.length : Int) := by omega
                have Hst := Lib.hid (show onceN at_ [] = true by rw [← Hk.out, List.drop_of_length_le (by omega)]; rfl)
                go_wp2_with fail
                go_ret
                have hr : res = true := by rw [HC2.out, Hst.out]
                exact ⟨by rw [hr]; rfl, hbi⟩
          · have hkp : 0 < kd.length := List.length_pos_iff.2 hk0
            have t0 : (0 : Int) < (kd.length : Int) := by omega
            have hr : res = false := HN.out (by simpa using hk0)
            go_wp2_with fail
            go_ret
            exact ⟨by rw [hr]; rfl, hb3⟩
        | false =>
          have HC2 := Lib.hid (HC.out rfl)
          clear HC HN
          have hmm := @run_makeMap Tryz.prog
          have hP4 : Blk (V3.alloc (.map #[] 0)) w.heap.size 61 #[.string (bs nm), .slice A at_.length ca, .string (bs []), .slice K kd.length ck] := Blk.alloc hP3 _
          have q4 : (V3.alloc (.map #[] 0)).cell? ⟨w.heap.size, 1, none⟩ = some (.slice A at_.length ca) := Blk.cell hP4 1
          go_wp2_with fail
          clear hmm q4
          have hM : Seen (V3.alloc (.map #[] 0)) V3.heap.size 0 [] := seen_new V3
          have hbM : Below w.heap.size w (V3.alloc (.map #[] 0)) := hb3.alloc hb3.size _
          have hMl : w.heap.size ≤ V3.heap.size := hb3.size
          clear hP4
          generalize (V3.alloc (.map #[] 0)) = V4 at hM hbM ⊢
          clear q1 q3 hb3 hP3
          go_loopw [41] (fun vi wr => ∃ (i : Nat) (sn : List B), vi = .int .i64 i ∧ i ≤ at_.length ∧ Seen wr V3.heap.size i sn ∧ Below w.heap.size w wr ∧ Hid (onceN (at_.drop i) sn = onceN at_ [])) (fun vi _ => at_.length - kOf vi)
          case atStart => exact ⟨0, [], rfl, Nat.zero_le _, hM, hbM, Lib.hid rfl⟩
          case round =>
            obtain ⟨i, sn, rfl, hi, hsn, hbi, Hk⟩ := hrel
            by_cases hlt : i < at_.length
            · have t1 : (i : Int) < (at_.length : Int) := by omega
              obtain ⟨ad, rfl, hSb, hc⟩ := hA.2 (by omega)
              have hcells0 : ∀ j u, ([.string (bs at_[i].name), .string (bs at_[i].val)] : List Value)[j]? = some u → wr.cell? ((ad.add (i * 2)).add j) = some u := fun j u hu => by
                rw [add_add]
                refine (hbi.cell (by rw [block_of_add]; exact hS _ hSb)).trans ?_
                exact hc _ _ (atrCells_get at_ i hlt j u hu)
              have hm := aw_mem (List.getElem_mem hlt)
              have hdc : at_.drop i = at_[i] :: at_.drop (i + 1) := List.drop_eq_getElem_cons hlt
              have hst : onceN (at_.drop i) sn = (smallS at_[i].name [45, 95, 58] && !sn.contains at_[i].name && onceN (at_.drop (i + 1)) (sn ++ [at_[i].name])) := by rw [hdc]; rfl
              rw [Hk.out] at hst
              clear hdc
              generalize at_[i] = a at hcells0 hm hst
              obtain ⟨an, av⟩ := a
              have hcells : ∀ j u, ([.string (bs an), .string (bs av)] : List Value)[j]? = some u → wr.cell? ((ad.add (i * 2)).add j) = some u := hcells0
              simp only at hm
              have HST := Lib.hid (show onceN at_ [] = (smallS an [45, 95, 58] && !sn.contains an && onceN (at_.drop (i + 1)) (sn ++ [an])) from hst)
              clear hst hcells0
              have hi1 : IntKind.i64.wrap ((i : Int) + 1) = ((i + 1 : Nat) : Int) := by rw [IntKind.wrap_i64]; omega
              go_wp2_with (first
                | (with_reducible refine wpList_load_at rfl 57 (.tmp 43) rfl (ad.add (i * 2)) rfl [.string (bs an), .string (bs av)] _ hcells Tryz.underlying57 rfl (by kernel_rfl) ?_)
                | ((with_reducible refine store_new rfl 57 (.tmp 7) (.tmp 44) rfl #[.string (bs an), .string (bs av)] rfl rfl (by kernel_rfl) (by kernel_rfl) (by simp [Value.oneCell']) ?_); intro W3 hB3 hb3; have n0 : W3.cell? ⟨wr.heap.size, 0, none⟩ = some (.string (bs an)) := Blk.cell hB3 0))
              have hbw3 := hbi.trans (hb3.mono hbi.size)
              have hR3 : Blk W3 wr.heap.size 57 #[.string (bs an), .string (bs av)] := hB3
              have hs3 := seen_kept hsn (hb3.block _ (seen_lt hsn))
              clear hB3 n0 hcells
              refine (small_u an [45, 95, 58] (by omega)).mono ?_
              generalize smallS an [45, 95, 58] = z at HST
              rintro e5 W5 ⟨rfl, hb5⟩
              have hbw5 := hbw3.trans (hb5.mono hbw3.size)
              have hR5 := hR3.below hb5 (heap_lt hR3)
              have hs5 := seen_kept hs3 (hb5.block _ (seen_lt hs3))
              clear hb5 hbw3 hR3 hs3 hb3
              cases z with
              | false =>
                go_wp2_with fail
                go_ret
                have hr : res = false := by rw [HC2.out, HST.out]; rfl
                exact ⟨by rw [hr]; rfl, hbw5⟩
              | true =>
                have n0 : W5.cell? ⟨wr.heap.size, 0, none⟩ = some (.string (bs an)) := Blk.cell hR5 0
                have hlook := seen_look (x := an) hs5 (by omega)
                cases hsc : sn.contains an with
                | true =>
                  rw [hsc] at hlook HST
                  clear hsc
                  go_wp2_with fail
                  go_ret
                  have hr : res = false := by rw [HC2.out, HST.out]; rfl
                  exact ⟨by rw [hr]; rfl, hbw5⟩
                | false =>
                  rw [hsc] at hlook HST
                  clear hsc
                  obtain ⟨w6, hput, hs6, hg6⟩ := seen_put hs5 (x := an) (by omega) (by omega)
                  have hb6 : Below w.heap.size w w6 := hbw5.grown hg6 hbw5.size (fun k hk => by injection hk with hk; omega)
                  have Hst2 := Lib.hid (show onceN (at_.drop (i + 1)) (sn ++ [an]) = onceN at_ [] by rw [HST.out]; rfl)
                  clear hg6
                  go_wp2_with fail
                  go_roundw
                  case rel => exact ⟨i + 1, sn ++ [an], by go_num, hlt, hs6, hb6, Hst2⟩
                  case measure =>
                    show at_.length - kOf (.int .i64 ((i + 1 : Nat) : Int)) < at_.length - kOf (.int .i64 (i : Int))
                    simp only [kOf, Int.toNat_natCast]
                    omega
            · have t1 : ¬ (i : Int) < (at_.length : Int) := by omega
              have Hst := Lib.hid (show onceN at_ [] = true by rw [← Hk.out, List.drop_of_length_le (by omega)]; rfl)
              go_wp2_with fail
              go_ret
              have hr : res = true := by rw [HC2.out, Hst.out]
              exact ⟨by rw [hr]; rfl, hbi⟩
      · have e0 : (tx == ([] : B)) = false := by simpa using htx
        have e1 : (tx != ([] : B)) = true := by simpa using htx
        have HR := Lib.hid (show res = false by rw [HRES.out]; exact own_not (.inr (.inr (.inl htx))))
        go_wp2_with fail
        go_ret
        exact ⟨by rw [HR.out]; rfl, hbw2⟩
end Go.Proofs.YtlgaeeedkihfpaaGreatDoor.Uf
