/-
  Texts of the proof of Chain, one behind the other: ClnA, TopA, TopB.
-/
import Derived.Test.YtlgaeeedkihfpaaGreatDoorC33
import Derived.Deep.WholeRow
import Derived.Lib.SlBytesConst
import Derived.Test.YtlgaeeedkihfpaaGreatDoorC02
/-
  san.Clean.
-/
namespace Go.Proofs.YtlgaeeedkihfpaaGreatDoor.Uf
open Go.RowKit
open Tz (B Atr Nod Tok Pol rightP toksL buildL foldS htmlL sizeL escapeL)

theorem fix_l {w : World} {N n c : Nat} {A : Option Addr} {xs : List Int} {pg : B} (hr : Reads w N 1 A n (cellsOf xs)) (hB : N ≤ w.heap.size) (hs : bs pg = strOfNums xs) (hn : pg.length ≤ 100000) :
    Calls Tryz.prog 17 #[.slice A n c] w fun e w' => e = .returned (.string (bs (fixU pg))) ∧ Below w.heap.size w w' := fix_u hr hB hs hn

set_option maxRecDepth 100000 in
set_option maxHeartbeats 8000000 in
theorem clean_u {w : World} {SP : Nat → Prop} {cs : Array Value} {p : Pol} {m : Int} {N0 n c : Nat} {A : Option Addr} {xs : List Int} {pg : B} (h : PolV w SP cs p) (hp : PolSmall p) (hm : w.cell? ⟨0, 0, none⟩ = some (.int .i64 m)) (hr : Reads w N0 1 A n (cellsOf xs)) (hN0 : N0 ≤ w.heap.size) (hpg : bs pg = strOfNums xs) (hn : n = pg.length) :
    Calls Tryz.prog 7 #[.agg cs, .slice A n c] w fun e w' => e = .returned (.tuple #[.string (bs (cleanS p pg).1), .int .i64 (cleanS p pg).2]) ∧ Below w.heap.size w w' := by
  have hcs := pol_cells h
  have hsz : cs.size = 9 := by
    obtain ⟨_, _, _, _, _, _, _, _, _, _, rfl, _⟩ := h
    rfl
  have hi24 : (Tryz.prog.info? 24).map (·.size) = some cs.size := by rw [hsz]; kernel_rfl
  have ⟨k6, k7, k8⟩ : cs[6]? = some (.int .i64 p.depth) ∧ cs[7]? = some (.int .i64 p.nodes) ∧ cs[8]? = some (.int .i64 p.bytes) := by
    obtain ⟨_, _, _, _, _, _, _, _, _, _, ⟨_, _, _, _, _, _, k6, k7, k8⟩, _⟩ := h.cells
    exact ⟨k6, k7, k8⟩
  have hb : Below w.heap.size w (w.alloc (.cells cs 24)) := (Below.refl _ w).alloc (Nat.le_refl _) _
  have hP : Blk (w.alloc (.cells cs 24)) w.heap.size 24 cs := Blk.new w 24 cs
  have hval : ∀ V, Below w.heap.size w V → PolV V SP cs p ∧ V.cell? ⟨0, 0, none⟩ = some (.int .i64 m) ∧ Reads V N0 1 A n (cellsOf xs) ∧ N0 ≤ V.heap.size := fun V hV => ⟨h.keep hV, hm_below hm hV, hr.below (hV.mono hN0), Nat.le_trans hN0 hV.size⟩
  have HV := Lib.hid hval
  have HG := Lib.hid hpg
  have HK8 := Lib.hid (And.intro k6 (And.intro k7 k8))
  obtain ⟨res, hres⟩ : ∃ res, res = cleanS p pg := ⟨_, rfl⟩
  rw [← hres]
  have HRES := Lib.hid hres
  clear hval h hm hr hpg hcs k6 k7 k8 hres hN0
  subst hn
  go_enter Tryz.func7, Tryz.ntmps7
  apply wp_seq_k
  intro K' hK
  have HK := Lib.hid hK
  clear hK
  go_wp2_with fail
  refine HK.out _ _ ?_
  clear HK K'
  generalize (w.alloc (.cells cs 24)) = V at hb hP ⊢
  have hP1 : V.heap[w.heap.size]? = some (.cells cs 24 (0, 0)) := hP
  go_wp2_with (first
    | (with_reducible refine wpList_load_row rfl 24 (.tmp 2) rfl w.heap.size rfl 24 cs (0, 0) _ hP1 Tryz.underlying24 rfl hi24 ?_))
  obtain ⟨g1, g2, _, _⟩ := HV.out V hb
  refine (right_u g1 hp g2).mono ?_
  rintro e1 V1 ⟨rfl, hb1⟩
  have hP2 := hP.below hb1 (heap_lt hP)
  have hbw1 := hb.trans (hb1.mono hb.size)
  clear hP hP1 hb hb1 g1 g2
  cases hright : rightP p with
  | false =>
    have HR := Lib.hid hright
    clear hright
    go_wp2_with fail
    go_ret2
    rw [HRES.out, clean_wrong HR.out]
    exact ⟨rfl, hbw1⟩
  | true =>
    have HR := Lib.hid hright
    clear hright
    have c8 : V1.cell? ⟨w.heap.size, 8, none⟩ = some (.int .i64 p.bytes) := (Blk.cell hP2 8).trans HK8.out.2.2
    by_cases hl : p.bytes < (pg.length : Int)
    · go_wp2_with fail
      go_ret2
      rw [HRES.out, clean_long HR.out hl]
      exact ⟨rfl, hbw1⟩
    · have HL := Lib.hid hl
      have hlen : pg.length ≤ 16384 := by
        have := (Tz.right_caps HR.out).2.2.2.2.2
        omega
      go_wp2_with fail
      clear c8
      obtain ⟨_, _, g3, g4⟩ := HV.out V1 hbw1
      refine (fix_l g3 g4 HG.out (by omega)).mono ?_
      rintro e2 V2 ⟨rfl, hb2⟩
      have hP3 := hP2.below hb2 (heap_lt hP2)
      have hbw2 := hbw1.trans (hb2.mono hbw1.size)
      have hfl := fixU_len pg
      have HT := Lib.hid (fun k (h : rightP p = true) (hl : ¬ p.bytes < (pg.length : Int)) => (⟨clean_none h hl, clean_fits (k := k) h hl, clean_over (k := k) h hl⟩ : _ ∧ _ ∧ _))
      generalize fixU pg = s at hfl HT
      clear hP2 hbw1 hb2 g3 g4
      go_wp2_with fail
      obtain ⟨_, g2, _, _⟩ := HV.out V2 hbw2
      refine (tokens_u (s := s) (by omega) g2).mono ?_
      rintro e3 V3 ⟨v3, rfl, htk, hb3⟩
      have hP4 := hP3.below hb3 (heap_lt hP3)
      have hbw3 := hbw2.trans (hb3.mono hbw2.size)
      have ht1 := toksL_w s
      have ht2 := toksL_n s
      have HPW := Lib.hid (fun k => page_w (s := s) (k := k) (by omega))
      clear hP3 hbw2 hb3 g2
      go_wp2_with fail
      refine (build_u htk (by omega) (by omega)).mono ?_
      intro e4 V4 hB
      unfold BuildR at hB
      cases hbl : buildL (toksL s) with
      | none =>
        rw [hbl] at hB
        obtain ⟨rfl, hb4⟩ := hB
        have hbw4 := hbw3.trans (hb4.mono hbw3.size)
        have HBL := Lib.hid hbl
        clear hbl hb4 hbw3 htk
        go_wp2_with fail
        refine (escape_l s false (by omega)).mono ?_
        rintro e5 V5 ⟨rfl, hb5⟩
        go_wp2_with fail
        go_ret2
        rw [HRES.out, (HT.out [] HR.out HL.out).1 HBL.out]
        exact ⟨rfl, hbw4.trans (hb5.mono hbw4.size)⟩
      | some k =>
        rw [hbl] at hB
        obtain ⟨S4, v4, rfl, hT4, hb4⟩ := hB
        have hP5 := hP4.below hb4 (heap_lt hP4)
        have hbw4 := hbw3.trans (hb4.mono hbw3.size)
        have HBL := Lib.hid hbl
        clear hbl hb4 hbw3 htk hP4
        have hP6 : V4.heap[w.heap.size]? = some (.cells cs 24 (0, 0)) := hP5
        go_wp2_with (first
          | (with_reducible refine wpList_load_row rfl 24 (.tmp 2) rfl w.heap.size rfl 24 cs (0, 0) _ hP6 Tryz.underlying24 rfl hi24 ?_))
        have hk9 := HPW.out k HBL.out
        obtain ⟨g1, g2, _, _⟩ := HV.out V4 hbw4
        refine (tree_u g1 hp g2 hT4 hk9).mono ?_
        rintro e5 V5 ⟨v5, S5, rfl, hT5, hb5⟩
        have hP7 := hP5.below hb5 (heap_lt hP5)
        have hbw5 := hbw4.trans (hb5.mono hbw4.size)
        have hw5 := foldS_w p [] k
        simp only [nodsW, Nat.zero_add] at hw5
        generalize hck : foldS p [] k = ck at hT5 hw5
        have HCK := Lib.hid hck
        clear hck hT4 hP5 hP6 hb5 hbw4 g1 g2
        go_wp2_with fail
        refine (size_u hT5 (by omega)).mono ?_
        rintro e6 V6 ⟨rfl, hb6⟩
        have hP8 := hP7.below hb6 (heap_lt hP7)
        have hbw6 := hbw5.trans (hb6.mono hbw5.size)
        have hT6 := hT5.keep hb6
        have c7 : V6.cell? ⟨w.heap.size, 7, none⟩ = some (.int .i64 p.nodes) := (Blk.cell hP8 7).trans HK8.out.2.1
        have c6 : V6.cell? ⟨w.heap.size, 6, none⟩ = some (.int .i64 p.depth) := (Blk.cell hP8 6).trans HK8.out.1
        clear hb6 hbw5 hT5 hP7
        by_cases h1 : ((sizeL ck).1 : Int) ≤ p.nodes
        · by_cases h2 : ((sizeL ck).2 : Int) ≤ p.depth
          · have t1 : decide (((sizeL ck).1 : Int) ≤ p.nodes) = true := by simpa using h1
            have t2 : decide (((sizeL ck).2 : Int) ≤ p.depth) = true := by simpa using h2
            have HH := Lib.hid (And.intro h1 h2)
            go_wp2_with fail
            refine (html_u hT6 (by omega)).mono ?_
            rintro e7 V7 ⟨rfl, hb7⟩
            go_wp2_with fail
            go_ret2
            rw [HRES.out, (HT.out k HR.out HL.out).2.1 HBL.out (by rw [HCK.out]; exact HH.out.1) (by rw [HCK.out]; exact HH.out.2), HCK.out]
            exact ⟨rfl, hbw6.trans (hb7.mono hbw6.size)⟩
          · have t1 : decide (((sizeL ck).1 : Int) ≤ p.nodes) = true := by simpa using h1
            have t2 : decide (((sizeL ck).2 : Int) ≤ p.depth) = false := by simpa using h2
            have HH := Lib.hid h2
            go_wp2_with fail
            refine (escape_l s false (by omega)).mono ?_
            rintro e7 V7 ⟨rfl, hb7⟩
            go_wp2_with fail
            go_ret2
            rw [HRES.out, (HT.out k HR.out HL.out).2.2 HBL.out (by rw [HCK.out]; exact fun h => by have := HH.out; omega)]
            exact ⟨rfl, hbw6.trans (hb7.mono hbw6.size)⟩
        · have t1 : decide (((sizeL ck).1 : Int) ≤ p.nodes) = false := by simpa using h1
          have HH := Lib.hid h1
          go_wp2_with fail
          refine (escape_l s false (by omega)).mono ?_
          rintro e7 V7 ⟨rfl, hb7⟩
          go_wp2_with fail
          go_ret2
          rw [HRES.out, (HT.out k HR.out HL.out).2.2 HBL.out (by rw [HCK.out]; exact fun h => by have := HH.out; omega)]
          exact ⟨rfl, hbw6.trans (hb7.mono hbw6.size)⟩
end Go.Proofs.YtlgaeeedkihfpaaGreatDoor.Uf

/-
  The plain policy, and clean(), which tells that a page is cleaned under it.
-/
namespace Go.Proofs.YtlgaeeedkihfpaaGreatDoor.Uf
open Go.RowKit
open Tz (B Atr Nod Tok Pol)

def P0 : Pol := ⟨1, [], [], [], [], [], 9, 99, 999⟩
def C0 : Array Value := #[.int .i64 1, .slice none 0 0, .slice none 0 0, .slice none 0 0, .slice none 0 0, .slice none 0 0, .int .i64 9, .int .i64 99, .int .i64 999]
theorem clean_const : cleanS P0 [60, 98, 62, 120, 60, 47, 98, 62] = ([120], 0) := by kernel_rfl
theorem p0_small : PolSmall P0 := ⟨⟨by decide, fun _ h => by cases h⟩, ⟨by decide, fun _ h => by cases h⟩, ⟨by decide, fun _ h => by cases h⟩, ⟨by decide, fun _ h => by cases h⟩, ⟨by decide, fun _ h => by cases h⟩⟩
theorem strs_nil {w : World} {S : Nat → Prop} {A : Option Addr} : StrsAt w S A 0 [] := ⟨rfl, fun h => absurd h (by simp)⟩
theorem p0_v (w : World) : PolV w (fun _ => False) C0 P0 := ⟨none, 0, none, 0, none, 0, none, 0, none, 0, rfl, strs_nil, strs_nil, strs_nil, strs_nil, strs_nil, fun _ h => h.elim⟩

set_option maxRecDepth 100000 in
theorem plainp_u {w : World} : Calls Tryz.prog 15 #[] w fun e w' => e = .returned (.agg C0) ∧ Below w.heap.size w w' := by
  go_enter Tryz.func15, Tryz.ntmps15
  go_wp2_with (first
    | ((with_reducible refine store_new rfl 24 (.tmp 0) (.tmp 1) rfl C0 rfl rfl (by kernel_rfl) (by kernel_rfl) (by simp [C0, Value.oneCell']) ?_); intro W3 hB3 hb3))
  refine bodyPost_ret (results_cell_row rfl _ _ w.heap.size 24 C0 (0, 0) _ rfl hB3 Tryz.underlying24 rfl (by kernel_rfl)) rfl ?_
  exact ⟨rfl, hb3⟩

set_option maxRecDepth 100000 in
set_option maxHeartbeats 4000000 in
theorem cleanc_u {w : World} {m : Int} (hm : w.cell? ⟨0, 0, none⟩ = some (.int .i64 m)) : Calls Tryz.prog 5 #[] w fun e w' => e = .returned (.bool true) ∧ Below w.heap.size w w' := by
  have e1 : (([120] : B) == ([120] : B)) = true := rfl
  have hcl := fun (W : World) (hW : Below w.heap.size w W) (N n c : Nat) (A : Option Addr) (xs : List Int) (h1 : Reads W N 1 A n (cellsOf xs)) (h2 : N ≤ W.heap.size) (h3 : bs [60, 98, 62, 120, 60, 47, 98, 62] = strOfNums xs) (h4 : n = 8) => clean_u (c := c) (p0_v W) p0_small (hm_below hm hW) h1 h2 h3 h4
  have HC := Lib.hid hcl
  clear hcl hm
  go_enter Tryz.func5, Tryz.ntmps5
  go_wp2_with fail
  refine plainp_u.mono ?_
  rintro e2 w1 ⟨rfl, hb1⟩
  generalize hC : C0 = c0
  have HCC := Lib.hid hC
  clear hC
  have qc := Lib.run_convert_bytes_const (P := Tryz.prog) w1 25 5 #[.int .u8 60, .int .u8 98, .int .u8 62, .int .u8 120, .int .u8 60, .int .u8 47, .int .u8 98, .int .u8 62] 8 8 Tryz.underlying25 Tryz.underlying5
  have hbw : Below w.heap.size w (w1.alloc (.cells #[.int .u8 60, .int .u8 98, .int .u8 62, .int .u8 120, .int .u8 60, .int .u8 47, .int .u8 98, .int .u8 62] 5 (8, 9))) := hb1.alloc hb1.size _
  have hrd : Reads (w1.alloc (.cells #[.int .u8 60, .int .u8 98, .int .u8 62, .int .u8 120, .int .u8 60, .int .u8 47, .int .u8 98, .int .u8 62] 5 (8, 9))) (w1.alloc (.cells #[.int .u8 60, .int .u8 98, .int .u8 62, .int .u8 120, .int .u8 60, .int .u8 47, .int .u8 98, .int .u8 62] 5 (8, 9))).heap.size 1 (some ⟨w1.heap.size, 0, none⟩) 8 (cellsOf [60, 98, 62, 120, 60, 47, 98, 62]) := by
    refine ⟨rfl, fun _ => ⟨_, rfl, by rw [alloc_size]; simp, fun j u hu => ?_⟩⟩
    have e : (⟨w1.heap.size, 0, none⟩ : Addr).add j = ⟨w1.heap.size, j, none⟩ := by unfold Addr.add; split <;> simp_all
    rw [e]
    have h2 : (w1.alloc (.cells #[.int .u8 60, .int .u8 98, .int .u8 62, .int .u8 120, .int .u8 60, .int .u8 47, .int .u8 98, .int .u8 62] 5 (8, 9))).heap[w1.heap.size]? = some (.cells #[.int .u8 60, .int .u8 98, .int .u8 62, .int .u8 120, .int .u8 60, .int .u8 47, .int .u8 98, .int .u8 62] 5 (8, 9)) := heap_alloc_new w1 _
    rw [cell_of_row _ _ _ _ _ _ h2]
    have e2 : (#[.int .u8 60, .int .u8 98, .int .u8 62, .int .u8 120, .int .u8 60, .int .u8 47, .int .u8 98, .int .u8 62] : Array Value)[j]? = (cellsOf [60, 98, 62, 120, 60, 47, 98, 62])[j]? := by
      rw [← List.getElem?_toArray]
      rfl
    rw [e2]
    exact hu
  have HR := Lib.hid (And.intro hbw hrd)
  clear hb1 hbw hrd
  go_wp2_with fail
  obtain ⟨hbw, hrd⟩ := HR.out
  generalize (w1.alloc (.cells #[.int .u8 60, .int .u8 98, .int .u8 62, .int .u8 120, .int .u8 60, .int .u8 47, .int .u8 98, .int .u8 62] 5 (8, 9))) = w2 at hbw hrd ⊢
  clear HR qc
  rw [← HCC.out]
  refine (HC.out w2 hbw _ _ 8 _ _ hrd (Nat.le_refl _) rfl rfl).mono ?_
  rintro e3 w3 ⟨rfl, hb3⟩
  rw [clean_const]
  go_wp2_with fail
  go_ret
  exact ⟨rfl, hbw.trans (hb3.mono hbw.size)⟩
end Go.Proofs.YtlgaeeedkihfpaaGreatDoor.Uf

/-
  versotop.bad: has a page an element that is dropped, or an attribute that never may stay?
-/
namespace Go.Proofs.YtlgaeeedkihfpaaGreatDoor.Uf
open Go.RowKit
open Tz (B Atr Tok toksL badL harmT harmA onN srcdocN formactionN)

theorem any_take {l : List Tok} {i : Nat} (hi : i < l.length) (h : (l.take i).any harmT = false) : (l.take (i + 1)).any harmT = harmT l[i] := by
  rw [List.take_add_one, List.getElem?_eq_getElem hi, List.any_append, h]
  simp
theorem any_takeA {l : List Atr} {i : Nat} (hi : i < l.length) (h : (l.take i).any (fun a => harmA a.name) = false) : (l.take (i + 1)).any (fun a => harmA a.name) = harmA l[i].name := by
  rw [List.take_add_one, List.getElem?_eq_getElem hi, List.any_append, h]
  simp
theorem any_hit {α : Type} {l : List α} {f : α → Bool} {i : Nat} (hi : i < l.length) (h : f l[i] = true) : l.any f = true := List.any_eq_true.2 ⟨_, List.getElem_mem hi, h⟩
theorem harmA_short {n : B} (h : ¬ 1 < n.length) : harmA n = (n == srcdocN || n == formactionN) := by
  match n with
  | [] => rfl
  | [x] => simp [harmA, onN, List.isPrefixOf]
  | x :: y :: r => exact absurd (by simp) h
theorem harmA_long {n : B} (h : 1 < n.length) : harmA n = ((n.take 2 == [111, 110]) || n == srcdocN || n == formactionN) := by
  match n, h with
  | x :: y :: r, _ =>
    simp only [harmA, onN, List.isPrefixOf, List.take, List.cons_beq_cons]
    rw [show ((111 : UInt8) == x) = (x == 111) from Bool.beq_comm, show ((110 : UInt8) == y) = (y == 110) from Bool.beq_comm]
    simp

theorem toksW_mem {l : List Tok} {t : Tok} (h : t ∈ l) : tokW t ≤ toksW l := by
  induction l with
  | nil => cases h
  | cons x l ih =>
    rcases List.mem_cons.1 h with rfl | h
    · simp [toksW]
    · have := ih h
      simp [toksW] at this ⊢
      omega

set_option maxRecDepth 100000 in
set_option maxHeartbeats 8000000 in
theorem bad_u {w : World} {m : Int} (s : B) (hs : s.length ≤ 160000000) (hm : w.cell? ⟨0, 0, none⟩ = some (.int .i64 m)) :
    Calls Tryz.prog 8 #[.string (bs s)] w fun e w' => e = .returned (.bool (badL s)) ∧ Below w.heap.size w w' := by
  obtain ⟨res, hres⟩ : ∃ res, res = badL s := ⟨_, rfl⟩
  rw [← hres]
  have hres2 : res = (toksL s).any harmT := hres
  have HRES := Lib.hid hres2
  clear hres hres2
  go_enter Tryz.func8, Tryz.ntmps8
  go_wp2_with fail
  refine (tokens_u hs hm).mono ?_
  rintro e1 W1 ⟨v1, rfl, htk, hb1⟩
  have htn := toksL_n s
  have htw := toksL_w s
  generalize toksL s = ts at htk htn htw HRES
  obtain ⟨xs, hown, htc⟩ := htk
  obtain ⟨A0, c0, rfl⟩ := own_slice hown
  go_wp2_with fail
  go_loopw [4] (fun vi wr => ∃ i : Nat, vi = .int .i64 i ∧ i ≤ ts.length ∧ (ts.take i).any harmT = false ∧ Below W1.heap.size W1 wr) (fun vi _ => ts.length - kOf vi)
  case atStart => exact ⟨0, rfl, Nat.zero_le _, rfl, Below.refl _ _⟩
  case round =>
    obtain ⟨i, rfl, hi, hno, hbi⟩ := hrel
    by_cases hlt : i < ts.length
    · have t0 : (i : Int) < (ts.length : Int) := by omega
      obtain ⟨A, c, hcs, hA⟩ := tokC_at htc i hlt
      obtain ⟨g, cap, hvs, hgN, hgsz⟩ := hown.form (by omega)
      obtain ⟨rfl, rfl⟩ : A0 = some ⟨g, 0, none⟩ ∧ c0 = cap := by injection hvs with e1 _ e2; exact ⟨e1, e2⟩
      have hcell : ∀ j u, (tokCells ts[i] A c)[j]? = some u → wr.cell? ⟨g, i * 5 + j, none⟩ = some u := by
        intro j u hj
        have hj5 : j < 5 := by
          have := (List.getElem?_eq_some_iff.1 hj).1
          simpa [tokCells] using this
        refine (hbi.cell (p := ⟨g, i * 5 + j, none⟩) hgsz).trans ?_
        exact (hown.cellAt (i * 5 + j) (by omega)).trans (hcs j u hj)
      have hst := any_take hlt hno
      have hhit := fun h => any_hit (f := harmT) hlt h
      have hll := toksW_mem (List.getElem_mem hlt)
      obtain ⟨t, ht⟩ : ∃ t, t = ts[i] := ⟨_, rfl⟩
      rw [← ht] at hcell hA hst hhit hll
      rcases t with ⟨kd, nm, l, cl, tx⟩
      have hll2 : l.length ≤ 24000000000 := by
        have h1 := aw_len l
        simp only [tokW] at hll
        omega
      clear hll
      have HST := Lib.hid (And.intro hst hhit)
      have k0 : wr.cell? ⟨g, i * 5, none⟩ = some (.int .i64 (kd : Nat)) := hcell 0 _ rfl
      have k1 : wr.cell? ⟨g, i * 5 + 1, none⟩ = some (.string (bs nm)) := hcell 1 _ rfl
      have k2 : wr.cell? ⟨g, i * 5 + 2, none⟩ = some (.slice A l.length c) := hcell 2 _ rfl
      have HA := Lib.hid hA
      clear ht hst hhit hcell hcs hA
      have HK2 := Lib.hid (show W1.cell? ⟨g, i * 5 + 2, none⟩ = some (.slice A l.length c) from (hbi.cell (p := ⟨g, i * 5 + 2, none⟩) hgsz).symm.trans k2)
      by_cases hk : kd = 2
      · subst hk
        go_wp2_with fail
        refine (dropped_u nm).mono ?_
        rintro e2 w2 ⟨rfl, hw2⟩
        have hbi2 : Below W1.heap.size W1 w2 := by rw [hw2]; exact ⟨hbi.os, hbi.tape, hbi.output, hbi.size, hbi.block⟩
        have k2' : w2.cell? ⟨g, i * 5 + 2, none⟩ = some (.slice A l.length c) := (hbi2.cell (p := ⟨g, i * 5 + 2, none⟩) hgsz).trans HK2.out
        clear hw2 hbi k0 k1 k2
        have hbi := hbi2
        have k2 := k2'
        have k0 : True := trivial
        have k1 : True := trivial
        clear k2' hbi2
        cases hz : Tz.dropL nm with
        | true =>
          have HZ := Lib.hid hz
          clear hz
          go_wp2_with fail
          go_ret
          have hr : res = true := by
            rw [HRES.out, HST.out.2 ?_]
            show (((2 : Nat) == 2) && Tz.dropL nm || _) = true
            rw [HZ.out]
            rfl
          exact ⟨by rw [hr]; rfl, hb1.trans (hbi.mono hb1.size)⟩
        | false =>
          have HZ := Lib.hid hz
          clear hz
          go_wp2_with fail
          go_loopw [5] (fun vi wq => ∃ j : Nat, vi = .int .i64 j ∧ j ≤ l.length ∧ (l.take j).any (fun a => harmA a.name) = false ∧ Below W1.heap.size W1 wq) (fun vi _ => l.length - kOf vi)
          case atStart => exact ⟨0, rfl, Nat.zero_le _, rfl, hbi⟩
          case round =>
            clear k0 k1 k2
            obtain ⟨j, rfl, hj, hno2, hbj⟩ := hrel
            have k2 : wr.cell? ⟨g, i * 5 + 2, none⟩ = some (.slice A l.length c) := (hbj.cell (p := ⟨g, i * 5 + 2, none⟩) hgsz).trans HK2.out
            by_cases hjl : j < l.length
            · have t1 : (j : Int) < (l.length : Int) := by omega
              have hj1 : IntKind.i64.wrap ((j : Int) + 1) = ((j + 1 : Nat) : Int) := by rw [IntKind.wrap_i64]; omega
              obtain ⟨ga, capa, hva, hga0, hgasz⟩ := HA.out.form (by omega)
              obtain ⟨rfl, rfl⟩ : A = some ⟨ga, 0, none⟩ ∧ c = capa := by injection hva with e1 _ e2; exact ⟨e1, e2⟩
              have kc : wr.cell? ⟨ga, j * 2, none⟩ = some (.string (bs l[j].name)) := by
                refine (hbj.cell (p := ⟨ga, j * 2, none⟩) hgasz).trans ?_
                exact (HA.out.cellAt (j * 2) (by omega)).trans (atrCells_get l j hjl 0 _ rfl)
              have hst2 := any_takeA hjl hno2
              have hhit2 := fun h => any_hit (f := fun a => harmA a.name) hjl h
              generalize l[j].name = an at kc hst2 hhit2
              have HST2 := Lib.hid (And.intro hst2 hhit2)
              clear hst2 hhit2 hno2
              by_cases hlen : 1 < an.length
              · have hh := harmA_long hlen
                have HH := Lib.hid (show harmA an = ((an.take 2 == [111, 110]) || an == [115, 114, 99, 100, 111, 99] || an == [102, 111, 114, 109, 97, 99, 116, 105, 111, 110]) from hh)
                clear hh
                have z1 : (1 : Int) < ((bs an).size : Int) := by rw [bs_size]; omega
                have z2 : (2 : Int) ≤ ((bs an).size : Int) := by rw [bs_size]; omega
                have hex : (bs an).extract 0 2 = bs (an.take 2) := by rw [bs_extract]; simp
                clear hlen
                cases y1 : (an.take 2 == [111, 110]) with
                | true =>
                  have HM := Lib.hid (show harmA an = true by rw [HH.out, y1]; rfl)
                  go_wp2_with fail
                  go_ret
                  have hr : res = true := by
                    rw [HRES.out, HST.out.2 ?_]
                    show (_ || l.any fun a => harmA a.name) = true
                    rw [HST2.out.2 HM.out, Bool.or_true]
                  exact ⟨by rw [hr]; rfl, hb1.trans (hbj.mono hb1.size)⟩
                | false =>
                  cases y2 : (an == [115, 114, 99, 100, 111, 99]) with
                  | true =>
                    have HM := Lib.hid (show harmA an = true by rw [HH.out, y1, y2]; rfl)
                    go_wp2_with fail
                    go_ret
                    have hr : res = true := by
                      rw [HRES.out, HST.out.2 ?_]
                      show (_ || l.any fun a => harmA a.name) = true
                      rw [HST2.out.2 HM.out, Bool.or_true]
                    exact ⟨by rw [hr]; rfl, hb1.trans (hbj.mono hb1.size)⟩
                  | false =>
                    cases y3 : (an == [102, 111, 114, 109, 97, 99, 116, 105, 111, 110]) with
                    | true =>
                      have HM := Lib.hid (show harmA an = true by rw [HH.out, y1, y2, y3]; rfl)
                      go_wp2_with fail
                      go_ret
                      have hr : res = true := by
                        rw [HRES.out, HST.out.2 ?_]
                        show (_ || l.any fun a => harmA a.name) = true
                        rw [HST2.out.2 HM.out, Bool.or_true]
                      exact ⟨by rw [hr]; rfl, hb1.trans (hbj.mono hb1.size)⟩
                    | false =>
                      have HM := Lib.hid (show harmA an = false by rw [HH.out, y1, y2, y3]; rfl)
                      go_wp2_with fail
                      go_roundw
                      case rel => exact ⟨j + 1, rfl, hjl, by rw [HST2.out.1]; exact HM.out, hbj⟩
                      case measure =>
                        show l.length - kOf (.int .i64 ((j + 1 : Nat) : Int)) < l.length - kOf (.int .i64 (j : Int))
                        simp only [kOf, Int.toNat_natCast]
                        omega
              · have hh := harmA_short hlen
                have HH := Lib.hid (show harmA an = (an == [115, 114, 99, 100, 111, 99] || an == [102, 111, 114, 109, 97, 99, 116, 105, 111, 110]) from hh)
                clear hh
                have z1 : ¬ (1 : Int) < ((bs an).size : Int) := by rw [bs_size]; omega
                clear hlen
                cases y2 : (an == [115, 114, 99, 100, 111, 99]) with
                | true =>
                  have HM := Lib.hid (show harmA an = true by rw [HH.out, y2]; rfl)
                  go_wp2_with fail
                  go_ret
                  have hr : res = true := by
                    rw [HRES.out, HST.out.2 ?_]
                    show (_ || l.any fun a => harmA a.name) = true
                    rw [HST2.out.2 HM.out, Bool.or_true]
                  exact ⟨by rw [hr]; rfl, hb1.trans (hbj.mono hb1.size)⟩
                | false =>
                  cases y3 : (an == [102, 111, 114, 109, 97, 99, 116, 105, 111, 110]) with
                  | true =>
                    have HM := Lib.hid (show harmA an = true by rw [HH.out, y2, y3]; rfl)
                    go_wp2_with fail
                    go_ret
                    have hr : res = true := by
                      rw [HRES.out, HST.out.2 ?_]
                      show (_ || l.any fun a => harmA a.name) = true
                      rw [HST2.out.2 HM.out, Bool.or_true]
                    exact ⟨by rw [hr]; rfl, hb1.trans (hbj.mono hb1.size)⟩
                  | false =>
                    have HM := Lib.hid (show harmA an = false by rw [HH.out, y2, y3]; rfl)
                    go_wp2_with fail
                    go_roundw
                    case rel => exact ⟨j + 1, rfl, hjl, by rw [HST2.out.1]; exact HM.out, hbj⟩
                    case measure =>
                      show l.length - kOf (.int .i64 ((j + 1 : Nat) : Int)) < l.length - kOf (.int .i64 (j : Int))
                      simp only [kOf, Int.toNat_natCast]
                      omega
            · have t1 : ¬ (j : Int) < (l.length : Int) := by omega
              have hkt : l.take j = l := List.take_of_length_le (by omega)
              rw [hkt] at hno2
              have hmiss : (ts.take (i + 1)).any harmT = false := by
                rw [HST.out.1]
                show (_ || l.any fun a => harmA a.name) = false
                rw [hno2]
                show (((2 : Nat) == 2) && Tz.dropL nm || false) = false
                rw [HZ.out]
                rfl
              go_wp2_with fail
              go_roundw
              case rel => exact ⟨i + 1, rfl, hlt, hmiss, hbj⟩
              case measure =>
                show ts.length - kOf (.int .i64 ((i + 1 : Nat) : Int)) < ts.length - kOf (.int .i64 (i : Int))
                simp only [kOf, Int.toNat_natCast]
                omega
      · have e2 : ((kd : Int) == 2) = false := by simp; omega
        have HZ := Lib.hid hk
        go_wp2_with fail
        go_loopw [5] (fun vi wq => ∃ j : Nat, vi = .int .i64 j ∧ j ≤ l.length ∧ (l.take j).any (fun a => harmA a.name) = false ∧ Below W1.heap.size W1 wq) (fun vi _ => l.length - kOf vi)
        case atStart => exact ⟨0, rfl, Nat.zero_le _, rfl, hbi⟩
        case round =>
          clear k0 k1 k2
          obtain ⟨j, rfl, hj, hno2, hbj⟩ := hrel
          have k2 : wr.cell? ⟨g, i * 5 + 2, none⟩ = some (.slice A l.length c) := (hbj.cell (p := ⟨g, i * 5 + 2, none⟩) hgsz).trans HK2.out
          by_cases hjl : j < l.length
          · have t1 : (j : Int) < (l.length : Int) := by omega
            have hj1 : IntKind.i64.wrap ((j : Int) + 1) = ((j + 1 : Nat) : Int) := by rw [IntKind.wrap_i64]; omega
            obtain ⟨ga, capa, hva, hga0, hgasz⟩ := HA.out.form (by omega)
            obtain ⟨rfl, rfl⟩ : A = some ⟨ga, 0, none⟩ ∧ c = capa := by injection hva with e1 _ e2; exact ⟨e1, e2⟩
            have kc : wr.cell? ⟨ga, j * 2, none⟩ = some (.string (bs l[j].name)) := by
              refine (hbj.cell (p := ⟨ga, j * 2, none⟩) hgasz).trans ?_
              exact (HA.out.cellAt (j * 2) (by omega)).trans (atrCells_get l j hjl 0 _ rfl)
            have hst2 := any_takeA hjl hno2
            have hhit2 := fun h => any_hit (f := fun a => harmA a.name) hjl h
            generalize l[j].name = an at kc hst2 hhit2
            have HST2 := Lib.hid (And.intro hst2 hhit2)
            clear hst2 hhit2 hno2
            by_cases hlen : 1 < an.length
            · have hh := harmA_long hlen
              have HH := Lib.hid (show harmA an = ((an.take 2 == [111, 110]) || an == [115, 114, 99, 100, 111, 99] || an == [102, 111, 114, 109, 97, 99, 116, 105, 111, 110]) from hh)
              clear hh
              have z1 : (1 : Int) < ((bs an).size : Int) := by rw [bs_size]; omega
              have z2 : (2 : Int) ≤ ((bs an).size : Int) := by rw [bs_size]; omega
              have hex : (bs an).extract 0 2 = bs (an.take 2) := by rw [bs_extract]; simp
              clear hlen
              cases y1 : (an.take 2 == [111, 110]) with
              | true =>
                have HM := Lib.hid (show harmA an = true by rw [HH.out, y1]; rfl)
                go_wp2_with fail
                go_ret
                have hr : res = true := by
                  rw [HRES.out, HST.out.2 ?_]
                  show (_ || l.any fun a => harmA a.name) = true
                  rw [HST2.out.2 HM.out, Bool.or_true]
                exact ⟨by rw [hr]; rfl, hb1.trans (hbj.mono hb1.size)⟩
              | false =>
                cases y2 : (an == [115, 114, 99, 100, 111, 99]) with
                | true =>
                  have HM := Lib.hid (show harmA an = true by rw [HH.out, y1, y2]; rfl)
                  go_wp2_with fail
                  go_ret
                  have hr : res = true := by
                    rw [HRES.out, HST.out.2 ?_]
                    show (_ || l.any fun a => harmA a.name) = true
                    rw [HST2.out.2 HM.out, Bool.or_true]
                  exact ⟨by rw [hr]; rfl, hb1.trans (hbj.mono hb1.size)⟩
                | false =>
                  cases y3 : (an == [102, 111, 114, 109, 97, 99, 116, 105, 111, 110]) with
                  | true =>
                    have HM := Lib.hid (show harmA an = true by rw [HH.out, y1, y2, y3]; rfl)
                    go_wp2_with fail
                    go_ret
                    have hr : res = true := by
                      rw [HRES.out, HST.out.2 ?_]
                      show (_ || l.any fun a => harmA a.name) = true
                      rw [HST2.out.2 HM.out, Bool.or_true]
                    exact ⟨by rw [hr]; rfl, hb1.trans (hbj.mono hb1.size)⟩
                  | false =>
                    have HM := Lib.hid (show harmA an = false by rw [HH.out, y1, y2, y3]; rfl)
                    go_wp2_with fail
                    go_roundw
                    case rel => exact ⟨j + 1, rfl, hjl, by rw [HST2.out.1]; exact HM.out, hbj⟩
                    case measure =>
                      show l.length - kOf (.int .i64 ((j + 1 : Nat) : Int)) < l.length - kOf (.int .i64 (j : Int))
                      simp only [kOf, Int.toNat_natCast]
                      omega
            · have hh := harmA_short hlen
              have HH := Lib.hid (show harmA an = (an == [115, 114, 99, 100, 111, 99] || an == [102, 111, 114, 109, 97, 99, 116, 105, 111, 110]) from hh)
              clear hh
              have z1 : ¬ (1 : Int) < ((bs an).size : Int) := by rw [bs_size]; omega
              clear hlen
              cases y2 : (an == [115, 114, 99, 100, 111, 99]) with
              | true =>
                have HM := Lib.hid (show harmA an = true by rw [HH.out, y2]; rfl)
                go_wp2_with fail
                go_ret
                have hr : res = true := by
                  rw [HRES.out, HST.out.2 ?_]
                  show (_ || l.any fun a => harmA a.name) = true
                  rw [HST2.out.2 HM.out, Bool.or_true]
                exact ⟨by rw [hr]; rfl, hb1.trans (hbj.mono hb1.size)⟩
              | false =>
                cases y3 : (an == [102, 111, 114, 109, 97, 99, 116, 105, 111, 110]) with
                | true =>
                  have HM := Lib.hid (show harmA an = true by rw [HH.out, y2, y3]; rfl)
                  go_wp2_with fail
                  go_ret
                  have hr : res = true := by
                    rw [HRES.out, HST.out.2 ?_]
                    show (_ || l.any fun a => harmA a.name) = true
                    rw [HST2.out.2 HM.out, Bool.or_true]
                  exact ⟨by rw [hr]; rfl, hb1.trans (hbj.mono hb1.size)⟩
                | false =>
                  have HM := Lib.hid (show harmA an = false by rw [HH.out, y2, y3]; rfl)
                  go_wp2_with fail
                  go_roundw
                  case rel => exact ⟨j + 1, rfl, hjl, by rw [HST2.out.1]; exact HM.out, hbj⟩
                  case measure =>
                    show l.length - kOf (.int .i64 ((j + 1 : Nat) : Int)) < l.length - kOf (.int .i64 (j : Int))
                    simp only [kOf, Int.toNat_natCast]
                    omega
          · have t1 : ¬ (j : Int) < (l.length : Int) := by omega
            have hkt : l.take j = l := List.take_of_length_le (by omega)
            rw [hkt] at hno2
            have hmiss : (ts.take (i + 1)).any harmT = false := by
              rw [HST.out.1]
              show (_ || l.any fun a => harmA a.name) = false
              rw [hno2]
              show ((kd == 2) && Tz.dropL nm || false) = false
              rw [show (kd == 2) = false by simpa using HZ.out]
              rfl
            go_wp2_with fail
            go_roundw
            case rel => exact ⟨i + 1, rfl, hlt, hmiss, hbj⟩
            case measure =>
              show ts.length - kOf (.int .i64 ((i + 1 : Nat) : Int)) < ts.length - kOf (.int .i64 (i : Int))
              simp only [kOf, Int.toNat_natCast]
              omega
    · have t0 : ¬ (i : Int) < (ts.length : Int) := by omega
      have hkt : ts.take i = ts := List.take_of_length_le (by omega)
      rw [hkt] at hno
      go_wp2_with fail
      go_ret
      exact ⟨by rw [HRES.out, hno]; rfl, hb1.trans (hbi.mono hb1.size)⟩
end Go.Proofs.YtlgaeeedkihfpaaGreatDoor.Uf
