/-
  Texts of the proof of Chain, one behind the other: DomB, DomZ, PolA.
-/
import Derived.Test.YtlgaeeedkihfpaaGreatDoorC22
import Derived.Test.YtlgaeeedkihfpaaGreatDoorC15
import Derived.Test.YtlgaeeedkihfpaaGreatDoorC01
/-
  dom.Build: the tree of tokens.
-/
namespace Go.Proofs.YtlgaeeedkihfpaaGreatDoor.Uf
open Go.RowKit
open Tz (B Atr Tok Nod El Bd innerO shutO shutN putO closeO toksL buildG buildL)

theorem tokC_at {w : World} : ∀ {ts : List Tok} {xs : List Value}, TokC w ts xs → ∀ (j : Nat) (h : j < ts.length), ∃ A c, (∀ k u, (tokCells ts[j] A c)[k]? = some u → xs[j * 5 + k]? = some u) ∧ w.ownsRow 0 57 2 (.slice A ts[j].attrs.length c) ts[j].attrs.length (atrCells ts[j].attrs)
  | _, _, .nil, j, h => by simp at h
  | _, _, .snoc (ts := ts) (xs := xs) t A c h1 h2, j, h => by
    have hl : xs.length = ts.length * 5 := by
      clear h h2
      induction h1 with
      | nil => rfl
      | snoc t A c _ _ ih => simp [tokCells, ih]; omega
    by_cases hj : j < ts.length
    · obtain ⟨A', c', h3, h4⟩ := tokC_at h1 j hj
      rw [List.getElem_append_left hj]
      refine ⟨A', c', fun k u hu => ?_, h4⟩
      have hk : k < 5 := by
        have := (List.getElem?_eq_some_iff.1 hu).1
        simpa [tokCells] using this
      rw [List.getElem?_append_left (by omega)]
      exact h3 k u hu
    · have hj2 : j = ts.length := by simp at h; omega
      subst hj2
      have e : (ts ++ [t])[ts.length] = t := by simp
      rw [e]
      refine ⟨A, c, fun k u hu => ?_, h2⟩
      rw [List.getElem?_append_right (by omega), hl, show ts.length * 5 + k - ts.length * 5 = k by omega]
      exact hu
theorem BdM.over_ {w : World} {base b : Nat} {bd : Bd} (h : BdM w base b bd) : w.cell? ⟨b, 2, none⟩ = some (.bool bd.over) := by
  obtain ⟨S, v, xs, X, hX⟩ := h
  exact Blk.cell hX.blk 2
/-- A tree in memory. -/
def TreeV (w : World) (S : Nat → Prop) (v : Value) (k : List Nod) : Prop := ∃ A c ys, v = .slice A k.length c ∧ RdS w S 4 A k.length ys ∧ NodsC w S k ys ∧ ∀ g, S g → g < w.heap.size
theorem TreeV.keep {w w' : World} {S : Nat → Prop} {v : Value} {k : List Nod} (h : TreeV w S v k) (hb : Below w.heap.size w w') : TreeV w' S v k := by
  obtain ⟨A, c, ys, rfl, h1, h2, h3⟩ := h
  have hk := KeepS.below hb h3
  exact ⟨A, c, ys, rfl, h1.keep hk, NodsC.keep hk _ _ h2, fun g hg => Nat.lt_of_lt_of_le (h3 g hg) hb.size⟩
def BuildR (w : World) (ts : List Tok) (e : Ending) (w' : World) : Prop := match buildL ts with
  | none => e = .returned (.tuple #[.slice none 0 0, .int .i64 5]) ∧ Below w.heap.size w w'
  | some k => ∃ S v, e = .returned (.tuple #[v, .int .i64 0]) ∧ TreeV w' S v k ∧ Below w.heap.size w w'
theorem buildG_cons (t : Tok) (r : List Tok) (bd : Bd) : buildG (t :: r) bd = if (bd.take t).over then none else buildG r (bd.take t) := rfl
theorem take1 (bd : Bd) (nm : B) (l : List Atr) (cl : Bool) (tx : B) : bd.take ⟨1, nm, l, cl, tx⟩ = bd.text tx := rfl
theorem take2 (bd : Bd) (nm : B) (l : List Atr) (cl : Bool) (tx : B) : bd.take ⟨2, nm, l, cl, tx⟩ = bd.start nm l := rfl
theorem take3 (bd : Bd) (nm : B) (l : List Atr) (cl : Bool) (tx : B) : bd.take ⟨3, nm, l, cl, tx⟩ = bd.end_ nm := rfl
theorem take4 (bd : Bd) (k : Nat) (nm : B) (l : List Atr) (cl : Bool) (tx : B) (h1 : k ≠ 1) (h2 : k ≠ 2) (h3 : k ≠ 3) : bd.take ⟨k, nm, l, cl, tx⟩ = bd := by
  unfold Bd.take
  rw [if_neg h1, if_neg h2, if_neg h3]

theorem alloc_size (w : World) (o : Obj) : (w.alloc o).heap.size = w.heap.size + 1 := Array.size_push _
theorem add_mid (g o j : Nat) : (⟨g, o, none⟩ : Addr).add j = ⟨g, o + j, none⟩ := by unfold Addr.add; split <;> simp_all
def idxOf (v : Value) : Nat := match v with | .int _ k => k.toNat | _ => 0

set_option maxRecDepth 100000 in
set_option maxHeartbeats 8000000 in
theorem build_u {w : World} {N : Nat} {v : Value} {ts : List Tok} (h : Toks w N v ts) (hn : ts.length ≤ 3600000) (hw : toksW ts ≤ 30000000) :
    Calls Tryz.prog 11 #[v] w (BuildR w ts) := by
  obtain ⟨xs, hown, htc⟩ := h
  obtain ⟨A0, c0, rfl⟩ := own_slice hown
  go_enter Tryz.func11, Tryz.ntmps11
  go_wp2_with fail
  have hB0 : BdM ((w.alloc (.cells #[.string (bs []), .slice none 0 0, .string (bs []), .slice none 0 0, .string (bs [])] 63)).alloc (.cells #[.slice (some ⟨w.heap.size, 0, none⟩) 1 1, .int .i64 0, .bool false] 66)) w.heap.size (w.heap.size + 1) ⟨[⟨[], [], []⟩], 0, false⟩ := by
    refine ⟨fun _ => False, .slice (some ⟨w.heap.size, 0, none⟩) 1 1, [.string (bs []), .slice none 0 0, .string (bs []), .slice none 0 0, .string (bs [])], [], ⟨?_, by omega, ?_, ?_, fun _ hg => hg.elim⟩⟩
    · have hh := Blk.new (w.alloc (.cells #[.string (bs []), .slice none 0 0, .string (bs []), .slice none 0 0, .string (bs [])] 63)) 66 #[.slice (some ⟨w.heap.size, 0, none⟩) 1 1, .int .i64 0, .bool false]
      rw [alloc_size] at hh
      exact hh
    · refine ⟨rfl, .inr ⟨w.heap.size, 1, #[.string (bs []), .slice none 0 0, .string (bs []), .slice none 0 0, .string (bs [])], rfl, Nat.le_refl _, ?_, Nat.le_refl _, by unfold maxLen; omega, rfl, rfl⟩⟩
      exact Blk.alloc (Blk.new w 63 #[.string (bs []), .slice none 0 0, .string (bs []), .slice none 0 0, .string (bs [])]) _
    · exact OpC.cons (xs := []) (X := []) ⟨[], [], []⟩ none 0 none 0 [] .nil RdS.nil_ (World.ownsRow_nil _ _ _ _) NodsC.nil (fun g hg => by cases hg)
  have hb0 : Below w.heap.size w ((w.alloc (.cells #[.string (bs []), .slice none 0 0, .string (bs []), .slice none 0 0, .string (bs [])] 63)).alloc (.cells #[.slice (some ⟨w.heap.size, 0, none⟩) 1 1, .int .i64 0, .bool false] 66)) := ((Below.refl _ w).alloc (Nat.le_refl _) _).alloc (by rw [alloc_size]; omega) _
  go_loopw [13] (fun vi wr => ∃ (i : Nat) (bd : Bd), vi = .int .i64 i ∧ BdM wr w.heap.size (w.heap.size + 1) bd ∧ Below w.heap.size w wr ∧ Hid (i ≤ ts.length ∧ buildG (ts.drop i) bd = buildL ts ∧ 1 ≤ bd.open_.length ∧ Wt bd.open_ ≤ i + 1 ∧ bd.many ≤ i ∧ bdW bd.open_ + toksW (ts.drop i) + 3 * (ts.length - i) ≤ 1 + 30000000 + 3 * ts.length)) (fun vi _ => ts.length - idxOf vi)
  case atStart => exact ⟨0, _, rfl, hB0, hb0, Lib.hid ⟨Nat.zero_le _, rfl, by simp, by simp [Wt], by simp, by simp [bdW, elW, aw, nodsW]; omega⟩⟩
  case round =>
    obtain ⟨i, bd, rfl, hM, hb, HX⟩ := hrel
    have hmi : idxOf (.int .i64 (i : Nat)) = i := by simp [idxOf]
    by_cases hlt : i < ts.length
    · have t0 : (i : Int) < (ts.length : Int) := by omega
      obtain ⟨A, c, hcs, hA⟩ := tokC_at htc i hlt
      obtain ⟨g, cap, hvs, hgN, hgsz⟩ := hown.form (by omega)
      obtain rfl : A0 = some ⟨g, 0, none⟩ := by injection hvs
      have hdrop : ts.drop i = ts[i] :: ts.drop (i + 1) := List.drop_eq_getElem_cons hlt
      obtain ⟨t, ht⟩ : ∃ t, t = ts[i] := ⟨_, rfl⟩
      rw [← ht] at hdrop hcs hA
      obtain ⟨h1, h2, h3, h4, h5, h6⟩ := HX.out
      rw [hdrop] at h2 h6
      rw [buildG_cons] at h2
      have hbw := bdW_take bd t
      have hwt := Wt_take bd t
      have hmt := many_take bd t
      have hlt2 := take_len bd t h3
      have h6' : bdW bd.open_ + (tokW t + toksW (ts.drop (i + 1))) + 3 * (ts.length - i) ≤ 1 + 30000000 + 3 * ts.length := by simpa [toksW] using h6
      have HN2 := Lib.hid (show (bd.take t).over = true → buildL ts = none from fun e => by rw [← h2, if_pos e])
      have HX2 := Lib.hid (show (bd.take t).over = false → (i + 1 ≤ ts.length ∧ buildG (ts.drop (i + 1)) (bd.take t) = buildL ts ∧ 1 ≤ (bd.take t).open_.length ∧ Wt (bd.take t).open_ ≤ i + 1 + 1 ∧ (bd.take t).many ≤ i + 1 ∧ bdW (bd.take t).open_ + toksW (ts.drop (i + 1)) + 3 * (ts.length - (i + 1)) ≤ 1 + 30000000 + 3 * ts.length) from fun e => ⟨hlt, by rw [← h2, e]; rfl, hlt2, by omega, by omega, by omega⟩)
      have htw : tokW t ≤ 48000000 := by omega
      have hwb : Wt bd.open_ ≤ 4200000 := by omega
      have hmb : bd.many ≤ 4200000 := by omega
      have hbb : bdW bd.open_ ≤ 48000000 := by omega
      have hcells : ∀ j u, (tokCells t A c)[j]? = some u → wr.cell? ((⟨g, i * 5, none⟩ : Addr).add j) = some u := by
        intro j u hj
        have hj5 : j < 5 := by
          have := (List.getElem?_eq_some_iff.1 hj).1
          simpa [tokCells] using this
        have hadd := add_mid g (i * 5) j
        rw [hadd]
        refine (hb.cell (p := ⟨g, i * 5 + j, none⟩) hgsz).trans ?_
        exact (hown.cellAt (i * 5 + j) (by omega)).trans (hcs j u hj)
      have hAr : Reads wr w.heap.size 2 A t.attrs.length (atrCells t.attrs) := (Reads.of_own hA).below hb
      rcases t with ⟨kd, nm, l, cl, tx⟩
      simp only at hAr
      have hnl : l.length ≤ 60000000 := by have := aw_len l; simp only [tokW] at htw; omega
      have htl : tx.length ≤ 60000000 := by simp only [tokW] at htw; omega
      clear hA hcs hown htc hdrop ht h1 h2 h4 h5 h6 h6' hbw hwt hmt hlt2 htw hB0 hb0 HX
      by_cases k1 : kd = 1
      · subst k1
        go_wp2_with (first
          | (with_reducible refine wpList_load_at rfl 55 (.tmp 15) rfl ⟨g, i * 5, none⟩ rfl (tokCells ⟨1, nm, l, cl, tx⟩ A c) _ hcells Tryz.underlying55 rfl (by kernel_rfl) ?_)
          | ((with_reducible refine store_new rfl 55 (.tmp 6) (.tmp 16) rfl (tokCells ⟨1, nm, l, cl, tx⟩ A c).toArray rfl rfl (by kernel_rfl) (by kernel_rfl) (by simp [tokCells, Value.oneCell']) ?_); intro W3 hB3 hb3; have q0 : W3.cell? ⟨wr.heap.size, 0, none⟩ = some (.int .i64 (1 : Nat)) := Blk.cell hB3 0; have q1 : W3.cell? ⟨wr.heap.size, 1, none⟩ = some (.string (bs nm)) := Blk.cell hB3 1; have q2 : W3.cell? ⟨wr.heap.size, 2, none⟩ = some (.slice A l.length c) := Blk.cell hB3 2; have q4 : W3.cell? ⟨wr.heap.size, 4, none⟩ = some (.string (bs tx)) := Blk.cell hB3 4))
        have hM3 : BdM W3 w.heap.size (w.heap.size + 1) bd := BdE.keepB hM hb3
        have hbW3 := hb.trans (hb3.mono hb.size)
        have hAr3 : Reads W3 w.heap.size 2 A l.length (atrCells l) := hAr.below (hb3.mono hb.size)
        refine (bdtext_u hM3 h3 (by omega) (by omega) htl (fun e he n hn => by have := bdW_texts e he n hn; omega)).mono ?_
        rintro e2 w2 ⟨rfl, hb2, hM2⟩
        rw [take1] at HX2 HN2
        have hbw2 := hbW3.trans hb2
        generalize bd.text tx = bd2 at hM2 HX2 HN2
        have hl2 := hM2.over_
        cases hov : bd2.over with
        | true =>
          rw [hov] at hl2
          have HR := Lib.hid (HN2.out hov)
          go_wp2_with fail
          refine bodyPost_ret (results_tmp2 rfl _ _ _) rfl ?_
          unfold BuildR
          rw [HR.out]
          exact ⟨rfl, hbw2⟩
        | false =>
          rw [hov] at hl2
          have HX3 := Lib.hid (HX2.out hov)
          have hi1 : IntKind.i64.wrap ((i : Int) + 1) = ((i + 1 : Nat) : Int) := by rw [IntKind.wrap_i64]; omega
          go_wp2_with fail
          go_roundw
          case rel => exact ⟨i + 1, bd2, rfl, hM2, hbw2, HX3⟩
          case measure =>
            show ts.length - idxOf (.int .i64 ((i + 1 : Nat) : Int)) < ts.length - idxOf (.int .i64 (i : Int))
            simp only [idxOf, Int.toNat_natCast]
            omega
      · by_cases k2 : kd = 2
        · subst k2
          go_wp2_with (first
            | (with_reducible refine wpList_load_at rfl 55 (.tmp 15) rfl ⟨g, i * 5, none⟩ rfl (tokCells ⟨2, nm, l, cl, tx⟩ A c) _ hcells Tryz.underlying55 rfl (by kernel_rfl) ?_)
            | ((with_reducible refine store_new rfl 55 (.tmp 6) (.tmp 16) rfl (tokCells ⟨2, nm, l, cl, tx⟩ A c).toArray rfl rfl (by kernel_rfl) (by kernel_rfl) (by simp [tokCells, Value.oneCell']) ?_); intro W3 hB3 hb3; have q0 : W3.cell? ⟨wr.heap.size, 0, none⟩ = some (.int .i64 (2 : Nat)) := Blk.cell hB3 0; have q1 : W3.cell? ⟨wr.heap.size, 1, none⟩ = some (.string (bs nm)) := Blk.cell hB3 1; have q2 : W3.cell? ⟨wr.heap.size, 2, none⟩ = some (.slice A l.length c) := Blk.cell hB3 2; have q4 : W3.cell? ⟨wr.heap.size, 4, none⟩ = some (.string (bs tx)) := Blk.cell hB3 4))
          have hM3 : BdM W3 w.heap.size (w.heap.size + 1) bd := BdE.keepB hM hb3
          have hbW3 := hb.trans (hb3.mono hb.size)
          have hAr3 : Reads W3 w.heap.size 2 A l.length (atrCells l) := hAr.below (hb3.mono hb.size)
          refine (start_u hM3 h3 (by omega) (by omega) hAr3 hnl).mono ?_
          rintro e2 w2 ⟨rfl, hb2, hM2⟩
          rw [take2] at HX2 HN2
          have hbw2 := hbW3.trans hb2
          generalize bd.start nm l = bd2 at hM2 HX2 HN2
          have hl2 := hM2.over_
          cases hov : bd2.over with
          | true =>
            rw [hov] at hl2
            have HR := Lib.hid (HN2.out hov)
            go_wp2_with fail
            refine bodyPost_ret (results_tmp2 rfl _ _ _) rfl ?_
            unfold BuildR
            rw [HR.out]
            exact ⟨rfl, hbw2⟩
          | false =>
            rw [hov] at hl2
            have HX3 := Lib.hid (HX2.out hov)
            have hi1 : IntKind.i64.wrap ((i : Int) + 1) = ((i + 1 : Nat) : Int) := by rw [IntKind.wrap_i64]; omega
            go_wp2_with fail
            go_roundw
            case rel => exact ⟨i + 1, bd2, rfl, hM2, hbw2, HX3⟩
            case measure =>
              show ts.length - idxOf (.int .i64 ((i + 1 : Nat) : Int)) < ts.length - idxOf (.int .i64 (i : Int))
              simp only [idxOf, Int.toNat_natCast]
              omega
        · by_cases k3 : kd = 3
          · subst k3
            go_wp2_with (first
              | (with_reducible refine wpList_load_at rfl 55 (.tmp 15) rfl ⟨g, i * 5, none⟩ rfl (tokCells ⟨3, nm, l, cl, tx⟩ A c) _ hcells Tryz.underlying55 rfl (by kernel_rfl) ?_)
              | ((with_reducible refine store_new rfl 55 (.tmp 6) (.tmp 16) rfl (tokCells ⟨3, nm, l, cl, tx⟩ A c).toArray rfl rfl (by kernel_rfl) (by kernel_rfl) (by simp [tokCells, Value.oneCell']) ?_); intro W3 hB3 hb3; have q0 : W3.cell? ⟨wr.heap.size, 0, none⟩ = some (.int .i64 (3 : Nat)) := Blk.cell hB3 0; have q1 : W3.cell? ⟨wr.heap.size, 1, none⟩ = some (.string (bs nm)) := Blk.cell hB3 1; have q2 : W3.cell? ⟨wr.heap.size, 2, none⟩ = some (.slice A l.length c) := Blk.cell hB3 2; have q4 : W3.cell? ⟨wr.heap.size, 4, none⟩ = some (.string (bs tx)) := Blk.cell hB3 4))
            have hM3 : BdM W3 w.heap.size (w.heap.size + 1) bd := BdE.keepB hM hb3
            have hbW3 := hb.trans (hb3.mono hb.size)
            have hAr3 : Reads W3 w.heap.size 2 A l.length (atrCells l) := hAr.below (hb3.mono hb.size)
            refine (end_u hM3 h3 (by omega) (by omega)).mono ?_
            rintro e2 w2 ⟨rfl, hb2, hM2⟩
            rw [take3] at HX2 HN2
            have hbw2 := hbW3.trans hb2
            generalize bd.end_ nm = bd2 at hM2 HX2 HN2
            have hl2 := hM2.over_
            cases hov : bd2.over with
            | true =>
              rw [hov] at hl2
              have HR := Lib.hid (HN2.out hov)
              go_wp2_with fail
              refine bodyPost_ret (results_tmp2 rfl _ _ _) rfl ?_
              unfold BuildR
              rw [HR.out]
              exact ⟨rfl, hbw2⟩
            | false =>
              rw [hov] at hl2
              have HX3 := Lib.hid (HX2.out hov)
              have hi1 : IntKind.i64.wrap ((i : Int) + 1) = ((i + 1 : Nat) : Int) := by rw [IntKind.wrap_i64]; omega
              go_wp2_with fail
              go_roundw
              case rel => exact ⟨i + 1, bd2, rfl, hM2, hbw2, HX3⟩
              case measure =>
                show ts.length - idxOf (.int .i64 ((i + 1 : Nat) : Int)) < ts.length - idxOf (.int .i64 (i : Int))
                simp only [idxOf, Int.toNat_natCast]
                omega
          · have k1' : ¬ ((kd : Int) = 1) := by omega
            have k2' : ¬ ((kd : Int) = 2) := by omega
            have k3' : ¬ ((kd : Int) = 3) := by omega
            rw [take4 _ _ _ _ _ _ k1 k2 k3] at HX2 HN2
            cases hov : bd.over with
            | true =>
              have HR := Lib.hid (HN2.out hov)
              go_wp2_with (first
                | (with_reducible refine wpList_load_at rfl 55 (.tmp 15) rfl ⟨g, i * 5, none⟩ rfl (tokCells ⟨kd, nm, l, cl, tx⟩ A c) _ hcells Tryz.underlying55 rfl (by kernel_rfl) ?_)
                | ((with_reducible refine store_new rfl 55 (.tmp 6) (.tmp 16) rfl (tokCells ⟨kd, nm, l, cl, tx⟩ A c).toArray rfl rfl (by kernel_rfl) (by kernel_rfl) (by simp [tokCells, Value.oneCell']) ?_); intro W3 hB3 hb3; have q0 : W3.cell? ⟨wr.heap.size, 0, none⟩ = some (.int .i64 (kd : Nat)) := Blk.cell hB3 0; have q1 : W3.cell? ⟨wr.heap.size, 1, none⟩ = some (.string (bs nm)) := Blk.cell hB3 1; have q2 : W3.cell? ⟨wr.heap.size, 2, none⟩ = some (.slice A l.length c) := Blk.cell hB3 2; have hl2 : W3.cell? ⟨w.heap.size + 1, 2, none⟩ = some (.bool true) := (BdM.over_ (bd := bd) (BdE.keepB hM hb3)).trans (by rw [hov]); have q4 : W3.cell? ⟨wr.heap.size, 4, none⟩ = some (.string (bs tx)) := Blk.cell hB3 4))
              have hM3 : BdM W3 w.heap.size (w.heap.size + 1) bd := BdE.keepB hM hb3
              have hbW3 := hb.trans (hb3.mono hb.size)
              refine bodyPost_ret (results_tmp2 rfl _ _ _) rfl ?_
              unfold BuildR
              rw [HR.out]
              exact ⟨rfl, hbW3⟩
            | false =>
              have HX3 := Lib.hid (HX2.out hov)
              have hi1 : IntKind.i64.wrap ((i : Int) + 1) = ((i + 1 : Nat) : Int) := by rw [IntKind.wrap_i64]; omega
              go_wp2_with (first
                | (with_reducible refine wpList_load_at rfl 55 (.tmp 15) rfl ⟨g, i * 5, none⟩ rfl (tokCells ⟨kd, nm, l, cl, tx⟩ A c) _ hcells Tryz.underlying55 rfl (by kernel_rfl) ?_)
                | ((with_reducible refine store_new rfl 55 (.tmp 6) (.tmp 16) rfl (tokCells ⟨kd, nm, l, cl, tx⟩ A c).toArray rfl rfl (by kernel_rfl) (by kernel_rfl) (by simp [tokCells, Value.oneCell']) ?_); intro W3 hB3 hb3; have q0 : W3.cell? ⟨wr.heap.size, 0, none⟩ = some (.int .i64 (kd : Nat)) := Blk.cell hB3 0; have q1 : W3.cell? ⟨wr.heap.size, 1, none⟩ = some (.string (bs nm)) := Blk.cell hB3 1; have q2 : W3.cell? ⟨wr.heap.size, 2, none⟩ = some (.slice A l.length c) := Blk.cell hB3 2; have hl2 : W3.cell? ⟨w.heap.size + 1, 2, none⟩ = some (.bool false) := (BdM.over_ (bd := bd) (BdE.keepB hM hb3)).trans (by rw [hov]); have q4 : W3.cell? ⟨wr.heap.size, 4, none⟩ = some (.string (bs tx)) := Blk.cell hB3 4))
              have hM3 : BdM W3 w.heap.size (w.heap.size + 1) bd := BdE.keepB hM hb3
              have hbW3 := hb.trans (hb3.mono hb.size)
              go_roundw
              case rel => exact ⟨i + 1, bd, rfl, hM3, hbW3, HX3⟩
              case measure =>
                show ts.length - idxOf (.int .i64 ((i + 1 : Nat) : Int)) < ts.length - idxOf (.int .i64 (i : Int))
                simp only [idxOf, Int.toNat_natCast]
                omega
    · have t0 : ¬ ((i : Int) < (ts.length : Int)) := by omega
      have hi : i = ts.length := by have := HX.out.1; omega
      subst hi
      obtain ⟨_, h2, h3, h4, h5, h6⟩ := HX.out
      rw [List.drop_length] at h2
      obtain ⟨o, many, over⟩ := bd
      have hM : BdE wr w.heap.size (w.heap.size + 1) o many over := hM
      simp only at h3 h4 h5
      have hwo : Wt o ≤ 4200000 := by omega
      have HB := Lib.hid (show buildL ts = match shutN (o.length - 1) o with | e :: _ => some e.kids | [] => none from h2.symm)
      clear h2 h4 h5 h6 HX
      go_wp2_with fail
      go_loopw [50] (fun _ wr => ∃ m, BdE wr w.heap.size (w.heap.size + 1) (shutN m o) many over ∧ Below w.heap.size w wr ∧ Hid (m + 1 ≤ o.length)) (fun _ wr => lenAt wr (w.heap.size + 1))
      case atStart => exact ⟨0, hM, hb, Lib.hid (by omega)⟩
      case round =>
        obtain ⟨m, hEr, hbr, Hm⟩ := hrel
        obtain ⟨A, c, c0⟩ := hEr.c0
        have hL := shutN_len m o
        have hWr := Wt_shutN m o
        have hla := lenAt_of c0
        by_cases hgt : 1 < (shutN m o).length
        · have t2 : (1 : Int) < ((shutN m o).length : Int) := by omega
          obtain ⟨e, e2, r, hshape⟩ : ∃ e e2 r, shutN m o = e :: e2 :: r := by
            cases hs : shutN m o with
            | nil => rw [hs] at hgt; simp at hgt
            | cons e r =>
              cases r with
              | nil => rw [hs] at hgt; simp at hgt
              | cons e2 r => exact ⟨e, e2, r, rfl⟩
          obtain ⟨S', v', xs', X', hXr⟩ := hEr
          have hk2 : e2.kids.length ≤ 60000000 := by
            have := Wt_kids (o := shutN m o) (e := e2) (by rw [hshape]; simp)
            omega
          have hrl : r.length ≤ 6000000 := by
            have := Wt_len (shutN m o)
            rw [hshape] at this
            simp only [List.length_cons] at this
            rw [hshape] at hWr
            omega
          have hXr2 := hXr
          rw [hshape] at hXr2
          have hcall := shut_u hXr2 hrl hk2
          rw [← hshape, ← shutN_succ] at hcall
          have Hm2 := Lib.hid (show (m + 1) + 1 ≤ o.length by omega)
          have HL := Lib.hid (show (shutN (m + 1) o).length < (shutN m o).length by rw [shutN_len, shutN_len]; omega)
          clear hshape hXr2 hXr hL
          obtain ⟨om, hom⟩ : ∃ om, om = shutN m o := ⟨_, rfl⟩
          obtain ⟨om2, hom2⟩ : ∃ om2, om2 = shutN (m + 1) o := ⟨_, rfl⟩
          rw [← hom] at hWr HL c0 hla hgt t2
          rw [← hom2] at hcall HL
          have Hom2 := Lib.hid hom2
          clear hom hom2
          go_wp2_with fail
          refine hcall.mono ?_
          rintro e3 w3 ⟨rfl, hb3, hE3⟩
          have hb3' := hbr.trans hb3
          have hE3' : BdE w3 w.heap.size (w.heap.size + 1) om2 many over := hE3
          obtain ⟨A3, c3, c03⟩ := hE3'.c0
          have hla3 := lenAt_of c03
          go_wp2_with fail
          go_roundw
          case rel => exact ⟨m + 1, by rw [← Hom2.out]; exact hE3', hb3', Hm2⟩
          case measure =>
            rw [hla3, hla]
            exact HL.out
        · have hm : m = o.length - 1 := by have := Hm.out; omega
          obtain ⟨e, he⟩ : ∃ e, shutN m o = [e] := by
            cases hs : shutN m o with
            | nil => rw [hs] at hL; simp at hL; have := Hm.out; omega
            | cons e r =>
              cases r with
              | nil => exact ⟨e, rfl⟩
              | cons e2 r => rw [hs] at hgt; simp at hgt
          have HB2 := Lib.hid (show buildL ts = some e.kids by rw [HB.out, ← hm, he])
          rw [he] at hEr c0
          obtain ⟨S', v', xs', X', hXr⟩ := hEr
          obtain ⟨g, cap, rfl⟩ := hXr.slice
          obtain ⟨A1, ca1, K1, ck1, ys1, xs01, X01, rfl, rfl, h11, h12, h13, h14, h15, hc1⟩ := hXr.top
          clear c0
          have c0 : wr.cell? ⟨w.heap.size + 1, 0, none⟩ = some (.slice (some ⟨g, 0, none⟩) 1 cap) := Blk.cell hXr.blk 0
          have c3 : wr.cell? ⟨g, 3, none⟩ = some (.slice K1 e.kids.length ck1) := by
            have := hc1 3 (by omega)
            simp only [List.length_nil, Nat.zero_mul, Nat.zero_add] at this
            exact this
          have hS : ∀ k, S' k → k < wr.heap.size := fun k hk => by obtain ⟨cs, t, a1, _⟩ := hXr.st k hk; exact heap_lt a1
          have HT : TreeV wr (fun k => S' k ∨ (Value.slice K1 e.kids.length ck1).ownBlock = some k) (.slice K1 e.kids.length ck1) e.kids :=
            ⟨K1, ck1, ys1, rfl, (RdS.of_own h13).mono (fun _ hs => .inr hs), NodsC.mono (fun _ hs => .inl hs) _ _ h14, fun k hk => by
              rcases hk with hk | hk
              · exact hS k hk
              · exact (h13.lt k hk).2⟩
          clear h11 h12 h13 h14 h15 hc1 hXr hL hWr hgt hla
          go_wp2_with fail
          refine bodyPost_ret (results_tmp2 rfl _ _ _) rfl ?_
          unfold BuildR
          rw [HB2.out]
          exact ⟨_, _, rfl, HT, hbr⟩
end Go.Proofs.YtlgaeeedkihfpaaGreatDoor.Uf

/-
  dom.Size: depth and number of nodes.
-/
namespace Go.Proofs.YtlgaeeedkihfpaaGreatDoor.Uf
open Go.RowKit
open Tz (B Atr Tok Nod El Bd sizeN sizeL)

def nodV (n : Nod) (A : Option Addr) (ca : Nat) (K : Option Addr) (ck : Nat) : List Value := [.string (bs n.name), .slice A n.attrs.length ca, .string (bs n.text), .slice K n.kids.length ck]
theorem add_add (p : Addr) (a b : Nat) : (p.add a).add b = p.add (a + b) := by
  unfold Addr.add
  by_cases ha : a = 0
  · subst ha
    simp
  · by_cases hb : b = 0
    · subst hb
      simp
    · rw [if_neg ha, if_neg hb, if_neg (by omega)]
      simp [Nat.add_assoc]
/-- Node number i of a tree in memory. -/
theorem TreeV.node {w : World} {S : Nat → Prop} {v : Value} {k : List Nod} (h : TreeV w S v k) (i : Nat) (hi : i < k.length) :
    ∃ ad c A ca K ck, v = .slice (some ad) k.length c ∧ S ad.block ∧ (∀ j u, (nodV k[i] A ca K ck)[j]? = some u → w.cell? ((ad.add (i * 4)).add j) = some u) ∧ RdS w S 2 A k[i].attrs.length (atrCells k[i].attrs) ∧ TreeV w S (.slice K k[i].kids.length ck) k[i].kids := by
  obtain ⟨A0, c, ys, rfl, h1, h2, h3⟩ := h
  obtain ⟨ad, rfl, hS, hc⟩ := h1.2 (by omega)
  obtain ⟨y, hy, hj⟩ := h2.at_ i hi
  obtain ⟨n, hn⟩ : ∃ n, n = k[i] := ⟨_, rfl⟩
  rw [← hn] at hy ⊢
  obtain ⟨nm, at_, tx, kd⟩ := n
  unfold NodC at hy
  obtain ⟨A, ca, K, ck, zs, rfl, h4, h5, h6⟩ := hy
  refine ⟨ad, c, A, ca, K, ck, rfl, hS, fun j u hu => ?_, h4, ⟨K, ck, zs, rfl, h5, h6, h3⟩⟩
  have hj4 : j < 4 := by
    have := (List.getElem?_eq_some_iff.1 hu).1
    simpa [nodV] using this
  rw [add_add]
  exact hc _ _ ((hj j hj4).trans hu)
theorem size_app : ∀ (l : List Nod) (n : Nod), sizeL (l ++ [n]) = ((sizeL l).1 + (sizeN n).1, max (sizeL l).2 (sizeN n).2)
  | [], n => by simp [sizeL]
  | x :: l, n => by
    have := size_app l n
    simp [sizeL] at this ⊢
    rw [this]
    simp [Nat.add_assoc]
theorem sizeN_eq (n : Nod) : sizeN n = (1 + (sizeL n.kids).1, if n.name ≠ [] then 1 + (sizeL n.kids).2 else 0) := by
  obtain ⟨nm, at_, tx, kd⟩ := n
  by_cases h : nm = [] <;> simp [sizeN, Nod.kids, Nod.name, h]
mutual
theorem sizeN_le : ∀ n : Nod, (sizeN n).1 ≤ nodW n ∧ (sizeN n).2 ≤ nodW n
  | .mk n a t k => by
    have := sizeL_le k
    simp only [sizeN, nodW]
    constructor
    · omega
    · split <;> omega
theorem sizeL_le : ∀ l : List Nod, (sizeL l).1 ≤ nodsW l ∧ (sizeL l).2 ≤ nodsW l
  | [] => by simp [sizeL, nodsW]
  | n :: r => by
    have h1 := sizeN_le n
    have h2 := sizeL_le r
    simp only [sizeL, nodsW]
    omega
end
theorem kids_w (n : Nod) : nodsW n.kids < nodW n := by
  obtain ⟨nm, at_, tx, kd⟩ := n
  simp [nodW, Nod.kids]
  omega
theorem take_w : ∀ (l : List Nod) (i : Nat), nodsW (l.take i) ≤ nodsW l
  | [], i => by simp
  | n :: l, 0 => by simp [nodsW]
  | n :: l, i + 1 => by have := take_w l i; simp [nodsW]; omega

def kOf (v : Value) : Nat := match v with | .int _ k => k.toNat | _ => 0
set_option maxRecDepth 100000 in
set_option maxHeartbeats 8000000 in
theorem size_g : ∀ (N : Nat) {w : World} {S : Nat → Prop} {v : Value} {k : List Nod}, TreeV w S v k → nodsW k < N → N ≤ 6000000000 →
    Calls Tryz.prog 19 #[v] w fun e w' => e = .returned (.tuple #[.int .i64 ((sizeL k).1 : Nat), .int .i64 ((sizeL k).2 : Nat)]) ∧ Below w.heap.size w w'
  | 0, _, _, _, _, _, hN, _ => by omega
  | N + 1, w, S, v, k, h, hN, hb => by
    have IH : Hid (∀ (w : World) (S : Nat → Prop) (v : Value) (k : List Nod), TreeV w S v k → nodsW k < N → Calls Tryz.prog 19 #[v] w fun e w' => e = .returned (.tuple #[.int .i64 ((sizeL k).1 : Nat), .int .i64 ((sizeL k).2 : Nat)]) ∧ Below w.heap.size w w') := Lib.hid fun w S v k h1 h2 => size_g N h1 h2 (by omega)
    have hkl := nodsW_len k
    obtain ⟨A0, c, ys, rfl, h1, h2, h3⟩ := id h
    go_enter Tryz.func19, Tryz.ntmps19
    go_wp2_with fail
    go_loopw [12, 4, 5] (fun vi a1 a2 wr => ∃ i : Nat, vi = .int .i64 i ∧ a1 = .int .i64 ((sizeL (k.take i)).1 : Nat) ∧ a2 = .int .i64 ((sizeL (k.take i)).2 : Nat) ∧ i ≤ k.length ∧ Below w.heap.size w wr) (fun vi _ _ _ => k.length - kOf vi)
    case atStart => exact ⟨0, rfl, by simp [sizeL], by simp [sizeL], Nat.zero_le _, Below.refl _ _⟩
    case round =>
      obtain ⟨i, rfl, rfl, rfl, hi, hbw⟩ := hrel
      by_cases hlt : i < k.length
      · have t0 : (i : Int) < (k.length : Int) := by omega
        obtain ⟨ad, c1, A, ca, K, ck, hv, hSb, hcs, hA, hK⟩ := h.node i hlt
        obtain ⟨rfl, rfl⟩ : A0 = some ad ∧ c = c1 := by injection hv with e1 _ e2; exact ⟨e1, e2⟩
        have hcells : ∀ j u, (nodV k[i] A ca K ck)[j]? = some u → wr.cell? ((ad.add (i * 4)).add j) = some u := fun j u hu => (hbw.cell (by rw [block_of_add, block_of_add]; exact h3 _ hSb)).trans (hcs j u hu)
        have hKw := hK.keep hbw
        have hnw := kids_w k[i]
        have hmem : nodW k[i] ≤ nodsW k := nodsW_mem (List.getElem_mem hlt)
        have hst : k.take (i + 1) = k.take i ++ [k[i]] := by rw [List.take_add_one, List.getElem?_eq_getElem hlt]; rfl
        have hsz := size_app (k.take i) k[i]
        rw [← hst, sizeN_eq] at hsz
        have hle := sizeL_le (k.take (i + 1))
        have htw := take_w k (i + 1)
        generalize k[i] = n at hcells hKw hnw hmem hsz hst
        clear hcs hA hK hst hv
        have hlk := sizeL_le n.kids
        go_wp2_with (first
          | (with_reducible refine wpList_load_at rfl 61 (.tmp 14) rfl (ad.add (i * 4)) rfl (nodV n A ca K ck) _ hcells Tryz.underlying61 rfl (by kernel_rfl) ?_)
          | ((with_reducible refine store_new rfl 61 (.tmp 7) (.tmp 15) rfl (nodV n A ca K ck).toArray rfl rfl (by kernel_rfl) (by kernel_rfl) (by simp [nodV, Value.oneCell']) ?_); intro W3 hB3 hb3; have q0 : W3.cell? ⟨wr.heap.size, 0, none⟩ = some (.string (bs n.name)) := Blk.cell hB3 0; have q3 : W3.cell? ⟨wr.heap.size, 3, none⟩ = some (.slice K n.kids.length ck) := Blk.cell hB3 3))
        have hb3' := hb3.mono hbw.size
        have hbW3 := hbw.trans hb3'
        have hK3 := hKw.keep hb3
        have hrec := IH.out _ _ _ _ hK3 (by omega)
        refine hrec.mono ?_
        rintro e4 w4 ⟨rfl, hb4⟩
        have r0 : w4.cell? ⟨wr.heap.size, 0, none⟩ = some (.string (bs n.name)) := (hb4.cell (p := ⟨wr.heap.size, 0, none⟩) (heap_lt hB3)).trans q0
        have hb4' := hbW3.trans (hb4.mono hbW3.size)
        obtain ⟨x1, hx1⟩ : ∃ x, x = (sizeL (k.take i)).1 := ⟨_, rfl⟩
        obtain ⟨x2, hx2⟩ : ∃ x, x = (sizeL (k.take i)).2 := ⟨_, rfl⟩
        obtain ⟨y1, hy1⟩ : ∃ x, x = (sizeL n.kids).1 := ⟨_, rfl⟩
        obtain ⟨y2, hy2⟩ : ∃ x, x = (sizeL n.kids).2 := ⟨_, rfl⟩
        have htw0 := take_w k i
        have hle0 := sizeL_le (k.take i)
        rw [← hx1, ← hx2, ← hy1, ← hy2] at hsz
        rw [← hx1, ← hx2] at hle0
        rw [← hy1, ← hy2] at hlk
        rw [← hx1, ← hx2, ← hy1, ← hy2]
        clear hx1 hx2 hy1 hy2 hcells hK3 hKw hrec
        have hi1 : IntKind.i64.wrap ((i : Int) + 1) = ((i + 1 : Nat) : Int) := by rw [IntKind.wrap_i64]; omega
        have z1 : IntKind.i64.wrap (1 + (y1 : Int)) = ((1 + y1 : Nat) : Int) := by rw [IntKind.wrap_i64]; omega
        have z2 : IntKind.i64.wrap ((x1 : Int) + ((1 + y1 : Nat) : Int)) = ((x1 + (1 + y1) : Nat) : Int) := by rw [IntKind.wrap_i64]; omega
        have z3 : IntKind.i64.wrap (1 + (y2 : Int)) = ((1 + y2 : Nat) : Int) := by rw [IntKind.wrap_i64]; omega
        have HSZ := Lib.hid hsz
        clear hsz hle
        by_cases hn : n.name = []
        · have en : (n.name == ([] : B)) = true := by rw [hn]; rfl
          go_wp2_with fail
          go_roundw
          case rel => exact ⟨i + 1, rfl, by rw [HSZ.out]; simp, by rw [HSZ.out, hn]; simp, hlt, hb4'⟩
          case measure =>
            show k.length - kOf (.int .i64 ((i + 1 : Nat) : Int)) < k.length - kOf (.int .i64 (i : Int))
            simp only [kOf, Int.toNat_natCast]
            omega
        · have en : (n.name == ([] : B)) = false := by simpa using hn
          go_wp2_with fail
          go_roundw
          case rel => exact ⟨i + 1, rfl, by rw [HSZ.out]; simp, by rw [HSZ.out, if_pos hn]; simp; omega, hlt, hb4'⟩
          case measure =>
            show k.length - kOf (.int .i64 ((i + 1 : Nat) : Int)) < k.length - kOf (.int .i64 (i : Int))
            simp only [kOf, Int.toNat_natCast]
            omega
      · have t0 : ¬ ((i : Int) < (k.length : Int)) := by omega
        have hi2 : k.take i = k := List.take_of_length_le (by omega)
        rw [hi2]
        clear h
        go_wp2_with fail
        refine bodyPost_ret (results_tmp2 rfl _ _ _) rfl ?_
        exact ⟨rfl, hbw⟩
theorem size_u {w : World} {S : Nat → Prop} {v : Value} {k : List Nod} (h : TreeV w S v k) (hw : nodsW k ≤ 600000000) :
    Calls Tryz.prog 19 #[v] w fun e w' => e = .returned (.tuple #[.int .i64 ((sizeL k).1 : Nat), .int .i64 ((sizeL k).2 : Nat)]) ∧ Below w.heap.size w w' := size_g (nodsW k + 1) h (by omega) (by omega)
end Go.Proofs.YtlgaeeedkihfpaaGreatDoor.Uf

/-
  policy.word.
-/
namespace Go.Proofs.YtlgaeeedkihfpaaGreatDoor.Uf
open Go.RowKit
open Tz (B smallB wordC wordL)

def okAt (first : Bool) (c : UInt8) : Bool := smallB c || (!first && (decide (48 ≤ c.toNat) && decide (c.toNat ≤ 57) || c == 45))
def wokG : Bool → B → Bool
  | _, [] => true
  | f, c :: s => okAt f c && wokG false s
theorem wokG_cons (f : Bool) (c : UInt8) (s : B) : wokG f (c :: s) = (okAt f c && wokG false s) := rfl
theorem okAt_no (c : UInt8) : okAt false c = wordC c := by unfold okAt wordC; simp [Bool.or_assoc]
theorem wokG_all : ∀ s : B, wokG false s = s.all wordC
  | [] => rfl
  | c :: s => by unfold wokG; rw [okAt_no, wokG_all s]; simp
theorem wordL_eq (l : B) : wordL l = (wokG true l && l != [] && decide (l.length ≤ 32)) := by
  cases l with
  | nil => rfl
  | cons c s =>
    unfold wordL wokG okAt
    rw [wokG_all]
    simp [bne]
theorem c45 {c : UInt8} : (c == 45) = decide (c.toNat = 45) := by
  by_cases h : c = 45
  · subst h; rfl
  · have : c.toNat ≠ 45 := fun e => h (by apply UInt8.toNat_inj.1; rw [e]; rfl)
    simp [h, this]
theorem okAt_x {c : UInt8} {x : Nat} {f : Bool} (h : x = c.toNat) : okAt f c = ((decide (97 ≤ x) && decide (x ≤ 122)) || (!f && (decide (48 ≤ x) && decide (x ≤ 57) || decide (x = 45)))) := by
  unfold okAt smallB
  rw [c45, h]
theorem k0 {k : Nat} (h : 0 < k) : (k == 0) = false := by simp; omega

set_option maxRecDepth 100000 in
set_option maxHeartbeats 4000000 in
theorem word_u {w : World} (l : B) (hl : l.length ≤ 600000000) : Calls Tryz.prog 38 #[.string (bs l)] w fun e w' => e = .returned (.bool (wordL l)) ∧ w' = w := by
  go_enter Tryz.func38, Tryz.ntmps38
  go_wp2_with fail
  go_loopw [7] (fun vi wr => ∃ k : Nat, vi = .int .i64 k ∧ k ≤ l.length ∧ wr = w ∧ Hid (wokG (k == 0) (l.drop k) = wokG true l)) (fun vi _ => l.length - kOf vi)
  case atStart => exact ⟨0, rfl, Nat.zero_le _, rfl, Lib.hid rfl⟩
  case round =>
    obtain ⟨k, rfl, hk, rfl, Hk⟩ := hrel
    by_cases hlt : k < l.length
    · have t0 : (k : Int) < ((bs l).size : Int) := by rw [bs_size]; omega
      have t1 : k < (bs l).size := by rw [bs_size]; omega
      obtain ⟨c, hc⟩ : ∃ c, c = l[k] := ⟨_, rfl⟩
      have hdc : l.drop k = c :: l.drop (k + 1) := hc ▸ List.drop_eq_getElem_cons hlt
      have hb0 : ((bs l)[k]'t1).toNat = c.toNat := by rw [hc]; rfl
      obtain ⟨x, hx⟩ : ∃ x, x = c.toNat := ⟨_, rfl⟩
      rw [← hx] at hb0
      have Hx := Lib.hid hx
      have Hdc := Lib.hid hdc
      have hi1 : IntKind.i64.wrap ((k : Int) + 1) = ((k + 1 : Nat) : Int) := by rw [IntKind.wrap_i64]; omega
      clear hx hdc hc
      by_cases a1 : (97 : Int) ≤ (x : Int)
      · by_cases a2 : (x : Int) ≤ 122
        · skip
          have Hst := Lib.hid (show wokG (k + 1 == 0) (l.drop (k + 1)) = wokG true l by rw [← Hk.out, Hdc.out]; rw [wokG_cons, show okAt (k == 0) c = true by rw [okAt_x Hx.out]; simp; omega]; simp)
          go_wp2_with fail
          go_roundw
          case rel => exact ⟨k + 1, rfl, hlt, trivial, Hst⟩
          case measure =>
            show l.length - kOf (.int .i64 ((k + 1 : Nat) : Int)) < l.length - kOf (.int .i64 (k : Int))
            simp only [kOf, Int.toNat_natCast]
            omega
        · have b1 : ¬ ((x : Int) ≤ 57) := by omega
          have b2 : (48 : Int) ≤ (x : Int) := by omega
          have b3 : ¬ ((x : Int) = 45) := by omega
          by_cases kz : 0 < k
          · have kz1 : (0 : Int) < (k : Int) := by omega
            have Hst := Lib.hid (show wokG true l = false by rw [← Hk.out, Hdc.out]; rw [wokG_cons, show okAt (k == 0) c = false by rw [okAt_x Hx.out]; simp; omega]; simp)
            go_wp2_with fail
            go_ret
            rw [wordL_eq, Hst.out]
            exact ⟨rfl, rfl⟩
          · have kz1 : ¬ ((0 : Int) < (k : Int)) := by omega
            have Hst := Lib.hid (show wokG true l = false by rw [← Hk.out, Hdc.out]; rw [wokG_cons, show okAt (k == 0) c = false by rw [okAt_x Hx.out]; simp; omega]; simp)
            go_wp2_with fail
            go_ret
            rw [wordL_eq, Hst.out]
            exact ⟨rfl, rfl⟩
      · by_cases kz : 0 < k
        · have kz1 : (0 : Int) < (k : Int) := by omega
          by_cases b2 : (48 : Int) ≤ (x : Int)
          · by_cases b1 : (x : Int) ≤ 57
            · skip
              have Hst := Lib.hid (show wokG (k + 1 == 0) (l.drop (k + 1)) = wokG true l by rw [← Hk.out, Hdc.out]; rw [wokG_cons, show okAt (k == 0) c = true by rw [okAt_x Hx.out]; simp; omega]; simp)
              go_wp2_with fail
              go_roundw
              case rel => exact ⟨k + 1, rfl, hlt, trivial, Hst⟩
              case measure =>
                show l.length - kOf (.int .i64 ((k + 1 : Nat) : Int)) < l.length - kOf (.int .i64 (k : Int))
                simp only [kOf, Int.toNat_natCast]
                omega
            · have b3 : ¬ ((x : Int) = 45) := by omega
              have Hst := Lib.hid (show wokG true l = false by rw [← Hk.out, Hdc.out]; rw [wokG_cons, show okAt (k == 0) c = false by rw [okAt_x Hx.out]; simp; omega]; simp)
              go_wp2_with fail
              go_ret
              rw [wordL_eq, Hst.out]
              exact ⟨rfl, rfl⟩
          · by_cases b3 : (x : Int) = 45
            · skip
              have Hst := Lib.hid (show wokG (k + 1 == 0) (l.drop (k + 1)) = wokG true l by rw [← Hk.out, Hdc.out]; rw [wokG_cons, show okAt (k == 0) c = true by rw [okAt_x Hx.out]; simp; omega]; simp)
              go_wp2_with fail
              go_roundw
              case rel => exact ⟨k + 1, rfl, hlt, trivial, Hst⟩
              case measure =>
                show l.length - kOf (.int .i64 ((k + 1 : Nat) : Int)) < l.length - kOf (.int .i64 (k : Int))
                simp only [kOf, Int.toNat_natCast]
                omega
            · skip
              have Hst := Lib.hid (show wokG true l = false by rw [← Hk.out, Hdc.out]; rw [wokG_cons, show okAt (k == 0) c = false by rw [okAt_x Hx.out]; simp; omega]; simp)
              go_wp2_with fail
              go_ret
              rw [wordL_eq, Hst.out]
              exact ⟨rfl, rfl⟩
        · have kz1 : ¬ ((0 : Int) < (k : Int)) := by omega
          have Hst := Lib.hid (show wokG true l = false by rw [← Hk.out, Hdc.out]; rw [wokG_cons, show okAt (k == 0) c = false by rw [okAt_x Hx.out]; simp; omega]; simp)
          go_wp2_with fail
          go_ret
          rw [wordL_eq, Hst.out]
          exact ⟨rfl, rfl⟩
    · have t0 : ¬ ((k : Int) < ((bs l).size : Int)) := by rw [bs_size]; omega
      have Hst := Lib.hid (show wokG true l = true by rw [← Hk.out, List.drop_of_length_le (by omega)]; rfl)
      obtain ⟨sz, hsz⟩ : ∃ sz, sz = (bs l).size := ⟨_, rfl⟩
      rw [← hsz] at t0
      rw [bs_size] at hsz
      by_cases h0 : l = []
      · subst h0
        have e0 : (([] : B) == ([] : B)) = true := rfl
        go_wp2_with fail
        go_ret
        exact ⟨rfl, rfl⟩
      · have e0 : (l == ([] : B)) = false := by simpa using h0
        by_cases h32 : l.length ≤ 32
        · have t32 : ((bs l).size : Int) ≤ 32 := by rw [bs_size]; omega
          go_wp2_with fail
          go_ret
          rw [wordL_eq, Hst.out]
          exact ⟨by simp [h0, h32], rfl⟩
        · have t32 : ¬ (((bs l).size : Int) ≤ 32) := by rw [bs_size]; omega
          go_wp2_with fail
          go_ret
          rw [wordL_eq, Hst.out]
          exact ⟨by simp [h0, h32], rfl⟩
end Go.Proofs.YtlgaeeedkihfpaaGreatDoor.Uf
