/-
  Texts of the proof of Chain, one behind the other: TokF, Seen, TagP.
-/
import Derived.Test.YtlgaeeedkihfpaaGreatDoorC13
import Derived.Maps.OwnOps
import Derived.Maps.Views
import Derived.Carry
import Derived.StringKeys
/-
  tok.reader's raw.
-/
namespace Go.Proofs.YtlgaeeedkihfpaaGreatDoor.Uf
open Go.RowKit
open Tz (B Atr Tok plainL textN textT resolveL rawL rawNames rawTexts rawEnd rawN plaintext blankB)

theorem lower_b {w : World} (l : B) (h : l.length ≤ 1600000000) : Calls Tryz.prog 81 #[.string (bs l)] w fun e w' => e = .returned (.string (bs (Tz.lowL l))) ∧ Below w.heap.size w w' := lower_u (bs l) (by rw [bs_size]; omega)
theorem resG_len : ∀ (f : Nat) (s : B), (Tz.resolveG f s).length ≤ 4 * s.length
  | 0, _ => by simp [Tz.resolveG]
  | f + 1, s => by
    unfold Tz.resolveG
    split
    · omega
    · rename_i c t ht
      obtain ⟨_, _, _, _, hl⟩ := ixB_some ht
      rw [List.length_append]
      have h1 := resG_len f t
      split
      · rename_i e he
        split
        · rename_i r hr
          have h2 := resG_len f (t.drop (e + 1))
          have h3 := stands_le hr
          rw [List.length_drop] at h2
          rw [List.length_append]
          omega
        · rw [List.length_cons]; omega
      · rw [List.length_cons]; omega
theorem res_len (s : B) : (resolveL s).length ≤ 4 * s.length := resG_len _ s
def endC (c : UInt8) : Bool := blankB c || c == 47 || c == 62
theorem endC_ix : ∀ c : Fin 256, decide ((0 : Int) ≤ ixB [9, 10, 12, 13, 32, 47, 62] (UInt8.ofNat c.val)) = endC (UInt8.ofNat c.val) := by decide +kernel
theorem endC_at (c : UInt8) : decide ((0 : Int) ≤ ixB [9, 10, 12, 13, 32, 47, 62] (UInt8.ofNat c.toNat)) = endC c := by
  have := endC_ix ⟨c.toNat, c.toNat_lt⟩
  simpa using this
theorem rawN_le (n : B) : ∀ s : B, rawN n s ≤ s.length
  | [] => Nat.le_refl _
  | c :: t => by
    unfold rawN
    split
    · exact Nat.zero_le _
    · have := rawN_le n t
      simp
      omega
theorem rawN_step {n s : B} {j : Nat} (h : j < s.length) (hp : rawEnd n (s.drop j) = false) : rawN n (s.drop j) = 1 + rawN n (s.drop (j + 1)) := by
  rw [List.drop_eq_getElem_cons h] at hp ⊢
  conv => lhs; unfold rawN
  rw [if_neg (by rw [hp]; simp)]
theorem rawN_stop {n s : B} {j : Nat} (h : j < s.length) (hp : rawEnd n (s.drop j) = true) : rawN n (s.drop j) = 0 := by
  rw [List.drop_eq_getElem_cons h] at hp ⊢
  unfold rawN
  rw [if_pos hp]
/-- What raw puts behind the tokens. -/
def rawT (count : Bool) (x : B) : List Tok := let y := if count then resolveL x else x; if y = [] then [] else [textT y]

set_option maxRecDepth 100000 in
set_option maxHeartbeats 8000000 in
theorem raw_u {w : World} {r base k : Nat} {s nm : B} {v : Value} {ts : List Tok} {count : Bool} (h : Rdr w r s k v) (ht : Toks w base v ts) (hk : k ≤ s.length) (hs : s.length ≤ 160000000) (hn : ts.length ≤ 1600000000) (hnm : nm.length ≤ 1600000000) (hbase : base ≤ w.heap.size) :
    Calls Tryz.prog 67 #[.pointer (some ⟨r, 0, none⟩), .string (bs nm), .bool count] w fun e w' => e = .returned (.tuple #[]) ∧ RdP w r base v s (k + rawN nm (s.drop k)) (ts ++ rawT count ((s.drop k).take (rawN nm (s.drop k)))) w' := by
  obtain ⟨i0, hi, hz0, hz1, hzb⟩ := info_parts info55
  obtain ⟨xs, hown, htc⟩ := ht
  have c1 := h.c1
  obtain ⟨E, hE⟩ : ∃ E, E = 2 + nm.length := ⟨_, rfl⟩
  have hwE : IntKind.i64.wrap (2 + ((bs nm).size : Int)) = (E : Int) := by rw [bs_size, IntKind.wrap_i64]; omega
  have HE := Lib.hid hE
  clear hE
  go_enter Tryz.func67, Tryz.ntmps67
  go_wp2_with fail
  go_loopw [14] (fun _ wr => ∃ j, Rdr wr r s j v ∧ Only (fun b => b = r) w wr ∧ k ≤ j ∧ j ≤ s.length ∧ Hid (k + rawN nm (s.drop k) = j + rawN nm (s.drop j))) (fun _ wr => s.length - atOf wr r)
  case atStart => exact ⟨k, h, Only.refl _ _, Nat.le_refl _, hk, Lib.hid rfl⟩
  case round =>
    obtain ⟨j, hr, ho, hkj, hjs, Hp⟩ := hrel
    have d0 := hr.c0
    have d1 := hr.c1
    have hkz : (0 : Int) ≤ (k : Int) := by omega
    have hkj' : (k : Int) ≤ (j : Int) := by omega
    have hjs' : (j : Int) ≤ ((bs s).size : Int) := by rw [bs_size]; omega
    have hex : (bs s).extract k j = bs ((s.drop k).take (j - k)) := bs_extract _ _ _
    by_cases hlt : j < s.length
    · have t1 : decide ((j : Int) < ((bs s).size : Int)) = true := by rw [bs_size]; simp; omega
      have t2 : decide (j < (bs s).size) = true := by rw [bs_size]; simp; omega
      have hwj : IntKind.i64.wrap ((j : Int) + 1) = ((j + 1 : Nat) : Int) := by rw [IntKind.wrap_i64]; omega
      obtain ⟨d, hd⟩ : ∃ d, d = s.drop j := ⟨_, rfl⟩
      have hdl : d.length ≤ 160000000 := by rw [hd]; simp; omega
      have hL : ∀ n, Calls Tryz.prog 60 #[.pointer (some ⟨r, 0, none⟩)] (wr.drewN n) fun e w' => e = .returned (.string (bs d)) ∧ ∃ m, w' = (wr.drewN n).drewN m := fun n => by rw [hd]; exact left_u (hr.drewN n) hjs
      go_wp2_with fail
      go_quiet (fail)
      go_wp2_with fail
      refine (hL nq).mono ?_
      rintro e w0 ⟨rfl, n0, rfl⟩
      have hr0 : Rdr ((wr.drewN nq).drewN n0) r s j v := hr
      have ho0 : Only (fun b => b = r) w ((wr.drewN nq).drewN n0) := (ho.drewN nq).drewN n0
      generalize (wr.drewN nq).drewN n0 = W0 at hr0 ho0 ⊢
      clear hL
      have Hd := Lib.hid hd
      clear hd
      by_cases hpt : nm = [112, 108, 97, 105, 110, 116, 101, 120, 116]
      · have Hend := Lib.hid (show rawEnd nm d = false by rw [hpt]; simp [rawEnd, plaintext])
        have p1 : (nm == [112, 108, 97, 105, 110, 116, 101, 120, 116]) = true := by rw [hpt]; rfl
        have p2 : (nm != [112, 108, 97, 105, 110, 116, 101, 120, 116]) = false := by rw [hpt]; rfl
        clear hpt
        have Hst := Lib.hid (show k + rawN nm (s.drop k) = (j + 1) + rawN nm (s.drop (j + 1)) by rw [Hp.out, rawN_step hlt (by rw [← Hd.out]; exact Hend.out)]; omega)
        have e1 := Rdr.c1 hr0
        have f1 := Blk.frozen hr0 1
        go_wp2_with fail
        go_roundw
        case rel => exact ⟨j + 1, Rdr.go hr0 (j + 1), only_set ho0 _ _, by omega, by omega, Hst⟩
        case measure =>
          have ha := (Rdr.go hr0 (j + 1)).at_
          rw [hr.at_]
          refine lt_of_eq_of_lt (congrArg (s.length - ·) ha) ?_
          omega
      have p1 : (nm == [112, 108, 97, 105, 110, 116, 101, 120, 116]) = false := beq_eq_false_iff_ne.2 hpt
      have p2 : (nm != [112, 108, 97, 105, 110, 116, 101, 120, 116]) = true := by simpa using hpt
      have Hpt := Lib.hid (show (nm != plaintext) = true from p2)
      clear hpt
      cases hpre : ([60, 47] : B).isPrefixOf d with
      | false =>
        have Hend := Lib.hid (show rawEnd nm d = false by unfold rawEnd; rw [hpre]; simp)
        have e1 := Rdr.c1 hr0
        have f1 := Blk.frozen hr0 1
        have Hst := Lib.hid (show k + rawN nm (s.drop k) = (j + 1) + rawN nm (s.drop (j + 1)) by rw [Hp.out, rawN_step hlt (by rw [← Hd.out]; exact Hend.out)]; omega)
        go_wp2_with fail
        refine (has_prefix d [60, 47]).mono ?_
        rintro e w1 ⟨rfl, rfl⟩
        rw [hpre]
        have Hst := Lib.hid (show k + rawN nm (s.drop k) = (j + 1) + rawN nm (s.drop (j + 1)) by rw [Hp.out, rawN_step hlt (by rw [← Hd.out]; exact Hend.out)]; omega)
        have e1 := Rdr.c1 hr0
        have f1 := Blk.frozen hr0 1
        go_wp2_with fail
        go_roundw
        case rel => exact ⟨j + 1, Rdr.go hr0 (j + 1), only_set ho0 _ _, by omega, by omega, Hst⟩
        case measure =>
          have ha := (Rdr.go hr0 (j + 1)).at_
          rw [hr.at_]
          refine lt_of_eq_of_lt (congrArg (s.length - ·) ha) ?_
          omega
      | true =>
        by_cases hE : E < d.length
        · have q1 : decide ((E : Int) < ((bs d).size : Int)) = true := by rw [bs_size]; simp; omega
          have q2 : decide (E < (bs d).size) = true := by rw [bs_size]; simp; omega
          have q3 : (2 : Int) ≤ (E : Int) := by have := HE.out; omega
          have q4 : (E : Int) ≤ ((bs d).size : Int) := by rw [bs_size]; omega
          have q5 : (E : Int) < ((bs d).size : Int) := by rw [bs_size]; omega
          have q6 : (bs d).extract 2 E = bs ((d.drop 2).take nm.length) := by rw [bs_extract, HE.out]; congr 3; omega
          obtain ⟨c, hc⟩ : ∃ c, c = d[E] := ⟨_, rfl⟩
          have q7 : ((bs d)[E]'(by rw [bs_size]; exact hE)).toNat = c.toNat := by rw [hc]; rfl
          have hdE : d.drop (2 + nm.length) = c :: d.drop (E + 1) := by rw [← HE.out, hc]; exact List.drop_eq_getElem_cons hE
          have hE2 : 2 + nm.length < d.length := by have := HE.out; omega
          cases hlo : (Tz.lowL ((d.drop 2).take nm.length) == nm) with
          | false =>
            have Hend := Lib.hid (show rawEnd nm d = false by unfold rawEnd; rw [hlo]; simp)
            clear hdE hc
            go_wp2_with fail
            refine (has_prefix d [60, 47]).mono ?_
            rintro e w1 ⟨rfl, rfl⟩
            rw [hpre]
            go_wp2_with fail
            refine (lower_b ((d.drop 2).take nm.length) (by simp; omega)).mono ?_
            rintro e w1 ⟨rfl, hb1⟩
            have hr1 : Rdr w1 r s j v := Blk.below hr0 hb1 (heap_lt hr0)
            have ho1 : Only (fun b => b = r) w w1 := only_below ho0 hb1
            have Hst := Lib.hid (show k + rawN nm (s.drop k) = (j + 1) + rawN nm (s.drop (j + 1)) by rw [Hp.out, rawN_step hlt (by rw [← Hd.out]; exact Hend.out)]; omega)
            have e1 := Rdr.c1 hr1
            have f1 := Blk.frozen hr1 1
            go_wp2_with fail
            go_roundw
            case rel => exact ⟨j + 1, Rdr.go hr1 (j + 1), only_set ho1 _ _, by omega, by omega, Hst⟩
            case measure =>
              have ha := (Rdr.go hr1 (j + 1)).at_
              rw [hr.at_]
              refine lt_of_eq_of_lt (congrArg (s.length - ·) ha) ?_
              omega
          | true =>
            have hec := endC_at c
            have hec2 := endC_at c
            rw [UInt8.ofNat_toNat] at hec2
            cases hcc : endC c with
            | false =>
              have Hend := Lib.hid (show rawEnd nm d = false by unfold rawEnd; rw [hdE]; unfold endC at hcc; simp only [hcc, Bool.and_false])
              rw [hcc] at hec hec2
              clear hdE hc
              go_wp2_with fail
              refine (has_prefix d [60, 47]).mono ?_
              rintro e w1 ⟨rfl, rfl⟩
              rw [hpre]
              go_wp2_with fail
              refine (lower_b ((d.drop 2).take nm.length) (by simp; omega)).mono ?_
              rintro e w1 ⟨rfl, hb1⟩
              have hr1 : Rdr w1 r s j v := Blk.below hr0 hb1 (heap_lt hr0)
              have ho1 : Only (fun b => b = r) w w1 := only_below ho0 hb1
              go_wp2_with fail
              refine (index_byte [9, 10, 12, 13, 32, 47, 62] c.toNat c.toNat_lt).mono ?_
              rintro e w2 ⟨rfl, hw2⟩
              rw [hw2]
              clear hw2 w2
              have Hst := Lib.hid (show k + rawN nm (s.drop k) = (j + 1) + rawN nm (s.drop (j + 1)) by rw [Hp.out, rawN_step hlt (by rw [← Hd.out]; exact Hend.out)]; omega)
              have e1 := Rdr.c1 hr1
              have f1 := Blk.frozen hr1 1
              go_wp2_with fail
              go_roundw
              case rel => exact ⟨j + 1, Rdr.go hr1 (j + 1), only_set ho1 _ _, by omega, by omega, Hst⟩
              case measure =>
                have ha := (Rdr.go hr1 (j + 1)).at_
                rw [hr.at_]
                refine lt_of_eq_of_lt (congrArg (s.length - ·) ha) ?_
                omega
            | true =>
              have Hend := Lib.hid (show rawEnd nm d = true by unfold rawEnd; rw [hdE, hpre, hlo, Hpt.out]; unfold endC at hcc; simp [hcc, hE2])
              rw [hcc] at hec hec2
              have Hst := Lib.hid (show k + rawN nm (s.drop k) = j by rw [Hp.out, rawN_stop hlt (by rw [← Hd.out]; exact Hend.out)]; omega)
              clear hdE hc
              go_wp2_with fail
              refine (has_prefix d [60, 47]).mono ?_
              rintro e w1 ⟨rfl, rfl⟩
              rw [hpre]
              go_wp2_with fail
              refine (lower_b ((d.drop 2).take nm.length) (by simp; omega)).mono ?_
              rintro e w1 ⟨rfl, hb1⟩
              have hr1 : Rdr w1 r s j v := Blk.below hr0 hb1 (heap_lt hr0)
              have ho1 : Only (fun b => b = r) w w1 := only_below ho0 hb1
              go_wp2_with fail
              refine (index_byte [9, 10, 12, 13, 32, 47, 62] c.toNat c.toNat_lt).mono ?_
              rintro e w2 ⟨rfl, hw2⟩
              rw [hw2]
              clear hw2 w2
              have e0 := Rdr.c0 hr1
              have e1 := Rdr.c1 hr1
              have hj2 := Lib.hid (show rawN nm (s.drop k) = j - k by have := Hst.out; omega)
              obtain ⟨X, hX⟩ : ∃ X, X = (s.drop k).take (j - k) := ⟨_, rfl⟩
              have hXl : X.length ≤ 160000000 := by rw [hX]; simp; omega
              rw [← hX] at hex
              have HX := Lib.hid hX
              clear hX
              go_wp2_with fail
              go_quiet (fail)
              cases count
              case false =>
                have hYl : X.length ≤ 1600000000 := by omega
                by_cases hy0 : X = []
                · have hT := Lib.hid (show ts ++ rawT false X = ts by unfold rawT; simp only [Bool.false_eq_true, if_false]; rw [if_pos hy0, List.append_nil])
                  have n1 : (X == []) = true := by rw [hy0]; rfl
                  have n2 : X.isEmpty = true := by rw [hy0]; rfl
                  have n3 : (X != []) = false := by rw [hy0]; rfl
                  go_wp2_with fail
                  go_end0
                  refine ⟨rfl, ?_⟩
                  rw [hj2.out, ← HX.out, hT.out, show k + (j - k) = j by omega]
                  exact ⟨v, (show Rdr (w1.drewN nq) r s j v from hr1), ⟨xs, own_only hown (Only.drewN ho1 nq) (fun k hk e => h.ne hown (e ▸ hk)), htc.keep (KeepT.ofOnly (Rdr.blk h) (by decide) (Only.drewN ho1 nq))⟩, Only.mono (Only.drewN ho1 nq) (fun _ _ h => .inl h), .inl rfl⟩
                · have hT := Lib.hid (show ts ++ rawT false X = ts ++ [textT X] by unfold rawT; simp only [Bool.false_eq_true, if_false, Bool.false_eq_true]; rw [if_neg hy0])
                  have n1 : (X == []) = false := beq_eq_false_iff_ne.2 hy0
                  have n2 : X.isEmpty = false := by simpa using hy0
                  have n3 : (X != []) = true := by simpa using hy0
                  have g2 := Rdr.c2 hr1
                  have ho2 : Only (fun b => b = r) w ((w1.drewN nq).alloc (.cells (tokCells (textT X) none 0).toArray 55)) := Only.alloc (Only.drewN ho1 nq) _
                  have hk2 : KeepT 57 w ((w1.drewN nq).alloc (.cells (tokCells (textT X) none 0).toArray 55)) := KeepT.ofOnly (Rdr.blk h) (by decide) ho2
                  have hown2 : World.ownsRow ((w1.drewN nq).alloc (.cells (tokCells (textT X) none 0).toArray 55)) base 55 5 v ts.length xs := own_only hown ho2 (fun k hk e => h.ne hown (e ▸ hk))
                  have hr2 : Rdr ((w1.drewN nq).alloc (.cells (tokCells (textT X) none 0).toArray 55)) r s j v := Blk.alloc (show Rdr (w1.drewN nq) r s j v from hr1) _
                  have hz2 := ho2.size
                  go_wp2_with (at_builtin; refine wpList_append_any _ rfl (.tmp 82) (.tmp 85) 40 rfl base 55 i0 _ 5 72 Tryz.underlying40 hi hz0 hz1 hzb rfl (by omega) v ts.length xs rfl hown2 _ _ 1 1 (tokCells (textT X) none 0) rfl (reads_row (w1.drewN nq) 55 _ 5 1 rfl) (tokCells_one _ _ _) (by unfold maxLen; omega) (by omega) (Nat.le_trans hbase hz2) ?_; intro v3 w3 hown3 hg3 hat3; have hr3 : Rdr w3 r s j v := Blk.grown hr2 hg3 (fun e => Rdr.ne hr2 hown2 e.symm); obtain ⟨a3, c3, rfl⟩ := own_slice hown3; have f3 := Blk.frozen hr3 2; have g3 := Rdr.c2 hr3)
                  go_end0
                  refine ⟨rfl, ?_⟩
                  rw [hj2.out, ← HX.out, hT.out, show k + (j - k) = j by omega]
                  exact tok_fin hr3 ho2 htc hk2 hown2 hown3 hg3 hat3 (World.ownsRow_nil _ _ _ _)
              case true =>
                go_wp2_with fail
                refine (resolve_u X (by omega)).mono ?_
                rintro e w7 ⟨rfl, hb7⟩
                have hb7 : Below (w1.drewN nq).heap.size (w1.drewN nq) w7 := id hb7
                have hr7 : Rdr w7 r s j v := Blk.below (show Rdr (w1.drewN nq) r s j v from hr1) hb7 (heap_lt (show Rdr (w1.drewN nq) r s j v from hr1))
                have ho7 : Only (fun b => b = r) w w7 := only_below (Only.drewN ho1 nq) hb7
                obtain ⟨Y, hY⟩ : ∃ Y, Y = resolveL X := ⟨_, rfl⟩
                have hYl : Y.length ≤ 1600000000 := by rw [hY]; exact Nat.le_trans (res_len X) (by omega)
                rw [← hY]
                have HY := Lib.hid hY
                clear hY
                by_cases hy0 : Y = []
                · have hT := Lib.hid (show ts ++ rawT true X = ts by unfold rawT; simp only [← HY.out, if_true, if_false, Bool.false_eq_true]; rw [if_pos hy0, List.append_nil])
                  have n1 : (Y == []) = true := by rw [hy0]; rfl
                  have n2 : Y.isEmpty = true := by rw [hy0]; rfl
                  have n3 : (Y != []) = false := by rw [hy0]; rfl
                  go_wp2_with fail
                  go_end0
                  refine ⟨rfl, ?_⟩
                  rw [hj2.out, ← HX.out, hT.out, show k + (j - k) = j by omega]
                  exact ⟨v, hr7, ⟨xs, own_only hown ho7 (fun k hk e => h.ne hown (e ▸ hk)), htc.keep (KeepT.ofOnly (Rdr.blk h) (by decide) ho7)⟩, Only.mono ho7 (fun _ _ h => .inl h), .inl rfl⟩
                · have hT := Lib.hid (show ts ++ rawT true X = ts ++ [textT Y] by unfold rawT; simp only [← HY.out, if_true, if_false, Bool.false_eq_true]; rw [if_neg hy0])
                  have n1 : (Y == []) = false := beq_eq_false_iff_ne.2 hy0
                  have n2 : Y.isEmpty = false := by simpa using hy0
                  have n3 : (Y != []) = true := by simpa using hy0
                  have g2 := Rdr.c2 hr7
                  have ho2 : Only (fun b => b = r) w (w7.alloc (.cells (tokCells (textT Y) none 0).toArray 55)) := Only.alloc ho7 _
                  have hk2 : KeepT 57 w (w7.alloc (.cells (tokCells (textT Y) none 0).toArray 55)) := KeepT.ofOnly (Rdr.blk h) (by decide) ho2
                  have hown2 : World.ownsRow (w7.alloc (.cells (tokCells (textT Y) none 0).toArray 55)) base 55 5 v ts.length xs := own_only hown ho2 (fun k hk e => h.ne hown (e ▸ hk))
                  have hr2 : Rdr (w7.alloc (.cells (tokCells (textT Y) none 0).toArray 55)) r s j v := Blk.alloc hr7 _
                  have hz2 := ho2.size
                  go_wp2_with (at_builtin; refine wpList_append_any _ rfl (.tmp 82) (.tmp 85) 40 rfl base 55 i0 _ 5 72 Tryz.underlying40 hi hz0 hz1 hzb rfl (by omega) v ts.length xs rfl hown2 _ _ 1 1 (tokCells (textT Y) none 0) rfl (reads_row w7 55 _ 5 1 rfl) (tokCells_one _ _ _) (by unfold maxLen; omega) (by omega) (Nat.le_trans hbase hz2) ?_; intro v3 w3 hown3 hg3 hat3; have hr3 : Rdr w3 r s j v := Blk.grown hr2 hg3 (fun e => Rdr.ne hr2 hown2 e.symm); obtain ⟨a3, c3, rfl⟩ := own_slice hown3; have f3 := Blk.frozen hr3 2; have g3 := Rdr.c2 hr3)
                  go_end0
                  refine ⟨rfl, ?_⟩
                  rw [hj2.out, ← HX.out, hT.out, show k + (j - k) = j by omega]
                  exact tok_fin hr3 ho2 htc hk2 hown2 hown3 hg3 hat3 (World.ownsRow_nil _ _ _ _)
        · have q1 : decide ((E : Int) < ((bs d).size : Int)) = false := by rw [bs_size]; simp; omega
          have q2 : decide (E < (bs d).size) = false := by rw [bs_size]; simp; omega
          have Hend := Lib.hid (show rawEnd nm d = false by unfold rawEnd; rw [show decide (2 + nm.length < d.length) = false by simp; have := HE.out; omega]; simp)
          go_wp2_with fail
          refine (has_prefix d [60, 47]).mono ?_
          rintro e w1 ⟨rfl, rfl⟩
          rw [hpre]
          have Hst := Lib.hid (show k + rawN nm (s.drop k) = (j + 1) + rawN nm (s.drop (j + 1)) by rw [Hp.out, rawN_step hlt (by rw [← Hd.out]; exact Hend.out)]; omega)
          have e1 := Rdr.c1 hr0
          have f1 := Blk.frozen hr0 1
          go_wp2_with fail
          go_roundw
          case rel => exact ⟨j + 1, Rdr.go hr0 (j + 1), only_set ho0 _ _, by omega, by omega, Hst⟩
          case measure =>
            have ha := (Rdr.go hr0 (j + 1)).at_
            rw [hr.at_]
            refine lt_of_eq_of_lt (congrArg (s.length - ·) ha) ?_
            omega
    · have t1 : decide ((j : Int) < ((bs s).size : Int)) = false := by rw [bs_size]; simp; omega
      have t2 : decide (j < (bs s).size) = false := by rw [bs_size]; simp; omega
      have Hst := Lib.hid (show k + rawN nm (s.drop k) = j by rw [Hp.out, List.drop_of_length_le (show s.length ≤ j by omega)]; rfl)
      go_wp2_with fail
      go_quiet (fail)
      have hr0 : Rdr (wr.drewN nq) r s j v := hr
      have ho0 : Only (fun b => b = r) w (wr.drewN nq) := ho.drewN nq
      generalize wr.drewN nq = W0 at hr0 ho0 ⊢
      have e0 := Rdr.c0 hr0
      have e1 := Rdr.c1 hr0
      have hj2 := Lib.hid (show rawN nm (s.drop k) = j - k by have := Hst.out; omega)
      obtain ⟨X, hX⟩ : ∃ X, X = (s.drop k).take (j - k) := ⟨_, rfl⟩
      have hXl : X.length ≤ 160000000 := by rw [hX]; simp; omega
      rw [← hX] at hex
      have HX := Lib.hid hX
      clear hX
      go_wp2_with fail
      go_quiet (fail)
      cases count
      case false =>
        have hYl : X.length ≤ 1600000000 := by omega
        by_cases hy0 : X = []
        · have hT := Lib.hid (show ts ++ rawT false X = ts by unfold rawT; simp only [Bool.false_eq_true, if_true, if_false, Bool.false_eq_true]; rw [if_pos hy0, List.append_nil])
          have n1 : (X == []) = true := by rw [hy0]; rfl
          have n2 : X.isEmpty = true := by rw [hy0]; rfl
          have n3 : (X != []) = false := by rw [hy0]; rfl
          go_wp2_with fail
          go_end0
          refine ⟨rfl, ?_⟩
          rw [hj2.out, ← HX.out, hT.out, show k + (j - k) = j by omega]
          exact ⟨v, (show Rdr (W0.drewN nq) r s j v from hr0), ⟨xs, own_only hown (Only.drewN ho0 nq) (fun k hk e => h.ne hown (e ▸ hk)), htc.keep (KeepT.ofOnly (Rdr.blk h) (by decide) (Only.drewN ho0 nq))⟩, Only.mono (Only.drewN ho0 nq) (fun _ _ h => .inl h), .inl rfl⟩
        · have hT := Lib.hid (show ts ++ rawT false X = ts ++ [textT X] by unfold rawT; simp only [Bool.false_eq_true, if_true, if_false, Bool.false_eq_true]; rw [if_neg hy0])
          have n1 : (X == []) = false := beq_eq_false_iff_ne.2 hy0
          have n2 : X.isEmpty = false := by simpa using hy0
          have n3 : (X != []) = true := by simpa using hy0
          have g2 := Rdr.c2 hr0
          have ho2 : Only (fun b => b = r) w ((W0.drewN nq).alloc (.cells (tokCells (textT X) none 0).toArray 55)) := Only.alloc (Only.drewN ho0 nq) _
          have hk2 : KeepT 57 w ((W0.drewN nq).alloc (.cells (tokCells (textT X) none 0).toArray 55)) := KeepT.ofOnly (Rdr.blk h) (by decide) ho2
          have hown2 : World.ownsRow ((W0.drewN nq).alloc (.cells (tokCells (textT X) none 0).toArray 55)) base 55 5 v ts.length xs := own_only hown ho2 (fun k hk e => h.ne hown (e ▸ hk))
          have hr2 : Rdr ((W0.drewN nq).alloc (.cells (tokCells (textT X) none 0).toArray 55)) r s j v := Blk.alloc (show Rdr (W0.drewN nq) r s j v from hr0) _
          have hz2 := ho2.size
          go_wp2_with (at_builtin; refine wpList_append_any _ rfl (.tmp 82) (.tmp 85) 40 rfl base 55 i0 _ 5 72 Tryz.underlying40 hi hz0 hz1 hzb rfl (by omega) v ts.length xs rfl hown2 _ _ 1 1 (tokCells (textT X) none 0) rfl (reads_row (W0.drewN nq) 55 _ 5 1 rfl) (tokCells_one _ _ _) (by unfold maxLen; omega) (by omega) (Nat.le_trans hbase hz2) ?_; intro v3 w3 hown3 hg3 hat3; have hr3 : Rdr w3 r s j v := Blk.grown hr2 hg3 (fun e => Rdr.ne hr2 hown2 e.symm); obtain ⟨a3, c3, rfl⟩ := own_slice hown3; have f3 := Blk.frozen hr3 2; have g3 := Rdr.c2 hr3)
          go_end0
          refine ⟨rfl, ?_⟩
          rw [hj2.out, ← HX.out, hT.out, show k + (j - k) = j by omega]
          exact tok_fin hr3 ho2 htc hk2 hown2 hown3 hg3 hat3 (World.ownsRow_nil _ _ _ _)
      case true =>
        go_wp2_with fail
        refine (resolve_u X (by omega)).mono ?_
        rintro e w7 ⟨rfl, hb7⟩
        have hb7 : Below (W0.drewN nq).heap.size (W0.drewN nq) w7 := id hb7
        have hr7 : Rdr w7 r s j v := Blk.below (show Rdr (W0.drewN nq) r s j v from hr0) hb7 (heap_lt (show Rdr (W0.drewN nq) r s j v from hr0))
        have ho7 : Only (fun b => b = r) w w7 := only_below (Only.drewN ho0 nq) hb7
        obtain ⟨Y, hY⟩ : ∃ Y, Y = resolveL X := ⟨_, rfl⟩
        have hYl : Y.length ≤ 1600000000 := by rw [hY]; exact Nat.le_trans (res_len X) (by omega)
        rw [← hY]
        have HY := Lib.hid hY
        clear hY
        by_cases hy0 : Y = []
        · have hT := Lib.hid (show ts ++ rawT true X = ts by unfold rawT; simp only [← HY.out, if_true, if_false, Bool.false_eq_true]; rw [if_pos hy0, List.append_nil])
          have n1 : (Y == []) = true := by rw [hy0]; rfl
          have n2 : Y.isEmpty = true := by rw [hy0]; rfl
          have n3 : (Y != []) = false := by rw [hy0]; rfl
          go_wp2_with fail
          go_end0
          refine ⟨rfl, ?_⟩
          rw [hj2.out, ← HX.out, hT.out, show k + (j - k) = j by omega]
          exact ⟨v, hr7, ⟨xs, own_only hown ho7 (fun k hk e => h.ne hown (e ▸ hk)), htc.keep (KeepT.ofOnly (Rdr.blk h) (by decide) ho7)⟩, Only.mono ho7 (fun _ _ h => .inl h), .inl rfl⟩
        · have hT := Lib.hid (show ts ++ rawT true X = ts ++ [textT Y] by unfold rawT; simp only [← HY.out, if_true, if_false, Bool.false_eq_true]; rw [if_neg hy0])
          have n1 : (Y == []) = false := beq_eq_false_iff_ne.2 hy0
          have n2 : Y.isEmpty = false := by simpa using hy0
          have n3 : (Y != []) = true := by simpa using hy0
          have g2 := Rdr.c2 hr7
          have ho2 : Only (fun b => b = r) w (w7.alloc (.cells (tokCells (textT Y) none 0).toArray 55)) := Only.alloc ho7 _
          have hk2 : KeepT 57 w (w7.alloc (.cells (tokCells (textT Y) none 0).toArray 55)) := KeepT.ofOnly (Rdr.blk h) (by decide) ho2
          have hown2 : World.ownsRow (w7.alloc (.cells (tokCells (textT Y) none 0).toArray 55)) base 55 5 v ts.length xs := own_only hown ho2 (fun k hk e => h.ne hown (e ▸ hk))
          have hr2 : Rdr (w7.alloc (.cells (tokCells (textT Y) none 0).toArray 55)) r s j v := Blk.alloc hr7 _
          have hz2 := ho2.size
          go_wp2_with (at_builtin; refine wpList_append_any _ rfl (.tmp 82) (.tmp 85) 40 rfl base 55 i0 _ 5 72 Tryz.underlying40 hi hz0 hz1 hzb rfl (by omega) v ts.length xs rfl hown2 _ _ 1 1 (tokCells (textT Y) none 0) rfl (reads_row w7 55 _ 5 1 rfl) (tokCells_one _ _ _) (by unfold maxLen; omega) (by omega) (Nat.le_trans hbase hz2) ?_; intro v3 w3 hown3 hg3 hat3; have hr3 : Rdr w3 r s j v := Blk.grown hr2 hg3 (fun e => Rdr.ne hr2 hown2 e.symm); obtain ⟨a3, c3, rfl⟩ := own_slice hown3; have f3 := Blk.frozen hr3 2; have g3 := Rdr.c2 hr3)
          go_end0
          refine ⟨rfl, ?_⟩
          rw [hj2.out, ← HX.out, hT.out, show k + (j - k) = j by omega]
          exact tok_fin hr3 ho2 htc hk2 hown2 hown3 hg3 hat3 (World.ownsRow_nil _ _ _ _)
end Go.Proofs.YtlgaeeedkihfpaaGreatDoor.Uf

/-
  A map of names that a call makes, as a set; and a scope with more than one label.
-/
namespace Go.Proofs.YtlgaeeedkihfpaaGreatDoor.Uf
open Go.RowKit Go.WideMaps Go.Maps
open Tz (B)

theorem law9 : Keyed Tryz.prog 9 := string_keyed Tryz.underlying9
theorem zero4 (w : World) : (zeroValue 4).run Tryz.prog w = .ok (.bool false) w := by kernel_rfl
theorem key_b {l : B} (h : l.length ≤ 1600000000) : keyOf Tryz.prog 9 (.string (bs l)) = some (.string l) :=
  keyOf_string_mk Tryz.underlying9 (by rw [bs_size]; unfold maxLen; omega)
/-- The call's own map (block b, at most n entries) tells of each name whether it is among these. -/
def Seen (w : World) (b n : Nat) (l : List B) : Prop :=
  ∃ D : DataW Unit, w.ownsMap Tryz.prog 9 (plainElem Tryz.prog 4) b n D ∧ IsMap D ∧ ∀ x : B, D.atKey (.string x) (.lit (.bool false)) = .lit (.bool (l.contains x))
theorem seen_new (w : World) : Seen (w.alloc (.map #[] 0)) w.heap.size 0 [] := ⟨.map [], World.ownsMap_made _ _ _ _, isMap_empty, fun _ => rfl⟩
theorem seen_lt {w : World} {b n : Nat} {l : List B} (h : Seen w b n l) : b < w.heap.size := by
  obtain ⟨D, h, _⟩ := h
  exact h.lt
theorem seen_kept {w w' : World} {b n : Nat} {l : List B} (h : Seen w b n l) (hb : w'.heap[b]? = w.heap[b]?) : Seen w' b n l := by
  obtain ⟨D, ⟨es, clock, h1, h2⟩, h3⟩ := h
  exact ⟨D, ⟨es, clock, hb.trans h1, h2⟩, h3⟩
theorem plainElem_bool_inv {e : TypeId} (he : Tryz.prog.underlying e = some .bool) {v : Value} {z : DataW Unit × List MemPlace} (h : plainElem Tryz.prog e v = some z) : ∃ x, v = .bool x ∧ z.1 = .lit (.bool x) := by
  cases v with
  | bool x =>
    simp only [plainElem, he, Option.some.injEq] at h
    exact ⟨x, rfl, by rw [← h]⟩
  | _ => simp [plainElem, he] at h
theorem seen_look {w : World} {b n : Nat} {l : List B} {x : B} (h : Seen w b n l) (hx : x.length ≤ 1600000000) :
    (Instr.lookup 126 (.map (some b)) (.string (bs x)) false).run Tryz.prog w = .ok (.bool (l.contains x)) w := by
  obtain ⟨D, h1, h2, h3⟩ := h
  obtain ⟨v, ps, hrun, hv⟩ := h1.lookup law9 (show Tryz.prog.underlying 126 = some (.map 9 4) by kernel_rfl) (zero4 w) (plainElem_bool Tryz.underlying4 false) (key_b hx)
  obtain ⟨y, rfl, hy⟩ := plainElem_bool_inv Tryz.underlying4 hv
  rw [h3] at hy
  simp only [DataW.lit.injEq, Lit.bool.injEq] at hy
  rw [hy]
  exact hrun
theorem seen_put {w : World} {b n : Nat} {l : List B} {x : B} (h : Seen w b n l) (hx : x.length ≤ 1600000000) (hn : n < 4000000000) :
    ∃ w', (Instr.mapUpdate 126 (.map (some b)) (.string (bs x)) (.bool true)).run Tryz.prog w = .ok () w' ∧ Seen w' b (n + 1) (l ++ [x]) ∧ w.grownBy w' (some b) := by
  obtain ⟨D, h1, h2, h3⟩ := h
  obtain ⟨w', hrun, r1, r2⟩ := h1.update law9 (show Tryz.prog.underlying 126 = some (.map 9 4) by kernel_rfl) (by unfold maxLen; omega) (key_b hx) (plainElem_bool Tryz.underlying4 true)
  refine ⟨w', hrun, ⟨_, r1, ?_, fun y => ?_⟩, r2⟩
  · obtain ⟨es, rfl⟩ := h2
    exact ⟨_, rfl⟩
  · by_cases hy : y = x
    · subst hy
      rw [atKey_put_same (k := .string y) h2 trivial]
      simp
    · rw [atKey_put_other (fun e => hy (by injection e)), h3]
      simp [hy]

/-- As Q; by a goto to label l: J l. -/
def exJumps (J : Nat → Act → World → Prop) (Q : Exit → Act → World → Prop) : Exit → Act → World → Prop
  | .goto l, a, w => J l a w
  | e, a, w => Q e a w
theorem scope_many {P : Program} {a : Act} {w : World} {Q : Exit → Act → World → Prop} {c : Code} (J : Nat → Act → World → Prop) (μ : Nat → Act → World → Nat)
    (first : c.wp P (exJumps J Q) a w)
    (pass : ∀ l a w, J l a w → ∃ rest, findLabel c l = some rest ∧ rest.wp P (exJumps (fun l' a' w' => J l' a' w' ∧ μ l' a' w' < μ l a w) Q) a w) : (Code.scope c).wp P Q a w := by
  intro b k cs
  have hg : ∀ l rest, findLabel c l = some rest → gotoIn l (.inScope c :: k) = some (.code rest :: .inScope c :: k) := fun l rest hf => by simp [gotoIn, hf]
  have key : ∀ n l a w, μ l a w = n → J l a w → ∀ rest, findLabel c l = some rest → ∃ e a' w', Q e a' w' ∧ Arrives P (lone (b.at a (.code rest :: .inScope c :: k)) cs w) b k cs e a' w' := by
    intro n
    induction n using Nat.strongRecOn with
    | _ n ih =>
      intro l a w hn hJ rest hrest
      obtain ⟨rest', hf, hp⟩ := pass l a w hJ
      rw [hrest] at hf
      injection hf with hf
      subst hf
      obtain ⟨e, a₁, w₁, hq, harr⟩ := hp b (.inScope c :: k) cs
      cases e with
      | normal => exact ⟨.normal, a₁, w₁, hq, Steps.trans harr (.one step_inScope)⟩
      | exit id => exact ⟨.exit id, a₁, w₁, hq, fun k' hk => harr k' (by simp [exitTo, hk])⟩
      | goto l' =>
        obtain ⟨hJ', hlt⟩ := hq
        obtain ⟨rest2, hf2, _⟩ := pass l' a₁ w₁ hJ'
        obtain ⟨e₂, a₂, w₂, hq₂, harr₂⟩ := ih _ (by omega) l' a₁ w₁ rfl hJ' rest2 hf2
        exact ⟨e₂, a₂, w₂, hq₂, .of_steps (harr _ (hg _ _ hf2)) harr₂⟩
      | ret => exact ⟨_, a₁, w₁, hq, harr⟩
      | panic ch => exact ⟨_, a₁, w₁, hq, harr⟩
      | outgrown => exact ⟨_, a₁, w₁, hq, harr⟩
  obtain ⟨e, a₁, w₁, hq, harr⟩ := first b (.inScope c :: k) cs
  cases e with
  | normal => exact ⟨.normal, a₁, w₁, hq, .head step_scope (Steps.trans harr (.one step_inScope))⟩
  | exit id => exact ⟨.exit id, a₁, w₁, hq, fun k' hk => .head step_scope (harr k' (by simp [exitTo, hk]))⟩
  | goto l' =>
    obtain ⟨rest2, hf2, _⟩ := pass l' a₁ w₁ hq
    obtain ⟨e₂, a₂, w₂, hq₂, harr₂⟩ := key _ l' a₁ w₁ rfl hq rest2 hf2
    exact ⟨e₂, a₂, w₂, hq₂, .of_steps (.head step_scope (harr _ (hg _ _ hf2))) harr₂⟩
  | ret => exact ⟨_, a₁, w₁, hq, .of_steps (.one step_scope) harr⟩
  | panic ch => exact ⟨_, a₁, w₁, hq, .of_steps (.one step_scope) harr⟩
  | outgrown => exact ⟨_, a₁, w₁, hq, .of_steps (.one step_scope) harr⟩
end Go.Proofs.YtlgaeeedkihfpaaGreatDoor.Uf

/-
  The plain side of tok.reader's tag: one step of it.
-/
namespace Go.Proofs.YtlgaeeedkihfpaaGreatDoor.Uf
open Go.RowKit
open Tz (B Atr Tok tagG tagL blankB attrC valC nameC addA resolveL)

theorem dropW_lt {p : UInt8 → Bool} {s : B} {c : UInt8} {t : B} (h : s.dropWhile p = c :: t) : t.length < s.length := by
  have := dropW_le p s
  rw [h] at this
  simp at this
  omega
theorem tagG_more : ∀ (f g : Nat) (s : B) (cl : Bool) (l : List Atr), s.length < f → s.length < g → tagG f s cl l = tagG g s cl l
  | 0, _, _, _, _, h, _ => by omega
  | _, 0, _, _, _, _, h => by omega
  | f + 1, g + 1, s, cl, l, hf, hg => by
    unfold tagG
    have e1 : ∀ (t' : B) (cl : Bool) (l : List Atr), t'.length < s.length → tagG f t' cl l = tagG g t' cl l := fun t' cl l h => tagG_more f g t' cl l (by omega) (by omega)
    cases h0 : s.dropWhile blankB with
    | nil => rfl
    | cons c t =>
      have l0 := dropW_lt h0
      dsimp only
      rw [e1 t _ _ l0]
      have l1 := dropW_le attrC t
      have l2 := dropW_le blankB (t.dropWhile attrC)
      rw [e1 [] _ _ (by simp; omega)]
      cases h1 : (t.dropWhile attrC).dropWhile blankB with
      | nil => rfl
      | cons e u =>
        have l3 := dropW_lt h1
        rw [h1] at l2
        simp only [List.length_cons] at l2
        dsimp only
        rw [e1 (e :: u) _ _ (by simp; omega), e1 [] _ _ (by simp; omega)]
        have l4 := dropW_le blankB u
        cases h2 : u.dropWhile blankB with
        | nil => rfl
        | cons q v =>
          rw [h2] at l4
          simp only [List.length_cons] at l4
          dsimp only
          have l5 := dropW_le (· != q) v
          have l6 := dropW_le valC (q :: v)
          simp only [List.length_cons] at l6
          rw [e1 ((v.dropWhile (· != q)).drop 1) _ _ (by simp; omega), e1 ((q :: v).dropWhile valC) _ _ (by omega)]
/-- The rest of a tag. -/
def tagR (s : B) (cl : Bool) (l : List Atr) : Option (Bool × List Atr × B) := tagG (s.length + 1) s cl l
theorem tagR_of {f : Nat} {s : B} {cl : Bool} {l : List Atr} (h : s.length < f) : tagG f s cl l = tagR s cl l := tagG_more _ _ _ _ _ h (Nat.lt_succ_self _)
theorem tag_end {s : B} {cl : Bool} {l : List Atr} (h : s.dropWhile blankB = []) : tagR s cl l = none := by
  unfold tagR tagG
  rw [h]
theorem tag_slash {s t : B} {cl : Bool} {l : List Atr} (h : s.dropWhile blankB = 47 :: t) : tagR s cl l = tagR t (cl || t.head? == some 62) l := by
  have l0 := dropW_lt h
  conv => lhs; unfold tagR tagG
  rw [h]
  dsimp only
  rw [if_pos rfl, tagR_of l0]
theorem tag_gt {s t : B} {cl : Bool} {l : List Atr} (h : s.dropWhile blankB = 62 :: t) : tagR s cl l = some (cl, l, t) := by
  unfold tagR tagG
  rw [h]
  dsimp only
  rw [if_neg (by decide), if_pos rfl]
/-- What stands behind an attribute's name: the value, and what is left; none: the tag never ends. -/
def valR (x : B) : Option (B × B) :=
  match x.dropWhile blankB with
  | [] => some ([], [])
  | e :: u => if e ≠ 61 then some ([], e :: u) else
    match u.dropWhile blankB with
    | [] => some (resolveL [], [])
    | q :: v => if q = 34 ∨ q = 39 then if v.contains q then some (resolveL (v.takeWhile (· != q)), (v.dropWhile (· != q)).drop 1) else none
      else some (resolveL ((q :: v).takeWhile valC), (q :: v).dropWhile valC)
theorem tag_name {s t : B} {c : UInt8} {cl : Bool} {l : List Atr} (h : s.dropWhile blankB = c :: t) (h1 : c ≠ 47) (h2 : c ≠ 62) :
    tagR s cl l = (match valR (t.dropWhile attrC) with | some (v, r) => tagR r cl (addA l (Tz.lowL (c :: t.takeWhile attrC)) v) | none => none) := by
  have l0 := dropW_lt h
  have l1 := dropW_le attrC t
  have l2 := dropW_le blankB (t.dropWhile attrC)
  conv => lhs; unfold tagR tagG
  rw [h]
  dsimp only
  rw [if_neg h1, if_neg h2]
  unfold valR
  cases h3 : (t.dropWhile attrC).dropWhile blankB with
  | nil =>
    dsimp only
    rw [tagR_of (by simp; omega)]
  | cons e u =>
    have l3 := dropW_lt h3
    rw [h3] at l2
    simp only [List.length_cons] at l2
    dsimp only
    by_cases he : e = 61
    · rw [if_neg (by simp [he]), if_neg (by simp [he])]
      have l4 := dropW_le blankB u
      cases h4 : u.dropWhile blankB with
      | nil =>
        dsimp only
        rw [tagR_of (by simp; omega)]
      | cons q v =>
        rw [h4] at l4
        simp only [List.length_cons] at l4
        dsimp only
        have l5 := dropW_le (· != q) v
        have l6 := dropW_le valC (q :: v)
        simp only [List.length_cons] at l6
        by_cases hq : q = 34 ∨ q = 39
        · rw [if_pos hq, if_pos hq]
          by_cases hc : v.contains q = true
          · rw [if_pos hc, if_pos hc]
            dsimp only
            rw [tagR_of (by simp; omega)]
          · rw [if_neg hc, if_neg hc]
        · rw [if_neg hq, if_neg hq]
          dsimp only
          rw [tagR_of (by omega)]
    · rw [if_pos he, if_pos he]
      dsimp only
      rw [tagR_of (by simp; omega)]
theorem drop_pass {p : UInt8 → Bool} {s : B} (k : Nat) : s.drop (k + ((s.drop k).takeWhile p).length) = (s.drop k).dropWhile p := by
  rw [← List.drop_drop]
  generalize s.drop k = l
  induction l with
  | nil => rfl
  | cons c l ih =>
    rw [List.takeWhile_cons, List.dropWhile_cons]
    split
    · simpa using ih
    · rfl
theorem takeW_le {p : UInt8 → Bool} (l : B) : (l.takeWhile p).length ≤ l.length := by
  induction l with
  | nil => simp
  | cons c l ih => rw [List.takeWhile_cons]; split <;> simp <;> omega
theorem pass_le {p : UInt8 → Bool} {s : B} {k : Nat} (h : k ≤ s.length) : k + ((s.drop k).takeWhile p).length ≤ s.length := by
  have := takeW_le (p := p) (s.drop k)
  rw [List.length_drop] at this
  omega
end Go.Proofs.YtlgaeeedkihfpaaGreatDoor.Uf
