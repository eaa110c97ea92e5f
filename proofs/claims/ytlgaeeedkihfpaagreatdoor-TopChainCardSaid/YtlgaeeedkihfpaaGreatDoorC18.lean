/-
  Texts of the proof of Chain, one behind the other: DomT, DomU.
-/
import Derived.Laws.Cover3
import Derived.Test.YtlgaeeedkihfpaaGreatDoorC15
import Derived.Test.YtlgaeeedkihfpaaGreatDoorC17
/-
  slices.Clone of attributes; dom's builder: text, start, end.
-/
namespace Go.Proofs.YtlgaeeedkihfpaaGreatDoor.Uf
open Go.RowKit
open Tz (B Atr Tok Nod El Bd innerO shutO shutN putO closeO)

theorem run_eql_slice_nil {P : Program} (w : World) (t e : TypeId) (a : Option Addr) (l c : Nat) (h : P.underlying t = some (.slice e)) : (binOp .eql t (.slice a l c) (.slice none 0 0)).run P w = .ok (.bool a.isNone) w := by
  simp only [binOp]
  simp [run_equal_slice_nil w t e a l c h]

set_option maxRecDepth 100000 in
set_option maxHeartbeats 4000000 in
theorem clone_u {w : World} {A : Option Addr} {c : Nat} {l : List Atr} (h : Reads w w.heap.size 2 A l.length (atrCells l)) (hl : l.length ≤ 60000000) :
    Calls Tryz.prog 58 #[.slice A l.length c] w fun e w' => ∃ A' c', e = .returned (.slice A' l.length c') ∧ w'.ownsRow w.heap.size 57 2 (.slice A' l.length c') l.length (atrCells l) ∧ Below w.heap.size w w' := by
  obtain ⟨i0, hi, hz0, hz1, hzb⟩ := info_parts info57
  cases A with
  | none =>
    have hl0 : l = [] := by
      cases l with
      | nil => rfl
      | cons a l => obtain ⟨ad, e, _⟩ := h.2 (by simp); cases e
    subst hl0
    have he := run_eql_slice_nil w 53 57 none 0 c Tryz.underlying53
    go_enter Tryz.func58, Tryz.ntmps58
    go_wp2_with fail
    go_ret
    exact ⟨none, 0, rfl, World.ownsRow_nil _ _ _ _, Below.refl _ _⟩
  | some ad =>
    have he := run_eql_slice_nil w 53 57 (some ad) l.length c Tryz.underlying53
    have hR : Reads (w.alloc (.cells #[] 57)) w.heap.size 2 (some ad) l.length (atrCells l) := h.alloc (Nat.le_refl _) _
    have hO : (w.alloc (.cells #[] 57)).ownsRow w.heap.size 57 2 (.slice (some ⟨w.heap.size, 0, none⟩) 0 0) 0 [] := ⟨rfl, .inr ⟨w.heap.size, 0, #[], rfl, Nat.le_refl _, heap_alloc_new w _, Nat.le_refl _, by unfold maxLen; omega, rfl, rfl⟩⟩
    have hB : Below w.heap.size w (w.alloc (.cells #[] 57)) := (Below.refl _ w).alloc (Nat.le_refl _) _
    go_enter Tryz.func58, Tryz.ntmps58
    go_wp2_with (first
      | (at_builtin; refine wpList_append_any _ rfl (.tmp 5) (.tmp 6) 53 rfl w.heap.size 57 i0 _ 2 32 Tryz.underlying53 hi hz0 hz1 hzb rfl (by omega) (.slice (some ⟨w.heap.size, 0, none⟩) 0 0) 0 [] rfl hO _ _ l.length c (atrCells l) rfl hR (atrCells_one l) (by unfold maxLen; omega) (by omega) (by simp) ?_; intro v4 w4 hown4 hg4 hat4))
    go_ret
    rw [Nat.zero_add, List.nil_append] at hown4
    obtain ⟨A', c', rfl⟩ := own_slice hown4
    refine ⟨A', c', rfl, hown4, hg4.os.trans hB.os, hg4.tape.trans hB.tape, hg4.output.trans hB.output, Nat.le_trans hB.size hg4.size, fun k hk => ?_⟩
    refine (hg4.block k (Nat.lt_of_lt_of_le hk hB.size) (fun e => ?_)).trans (hB.block k hk)
    have e' : some k = some w.heap.size := e
    injection e' with e'
    omega

theorem setCell_self {w : World} {p : Addr} {u : Value} (h : w.cell? p = some u) : w.setCell p u = w := by
  unfold World.cell? at h
  cases w with
  | mk heap tape drawn os output =>
    simp only [World.setCell, World.mk.injEq, and_true]
    apply Array.ext_getElem?
    intro i
    rw [Array.getElem?_modify]
    split
    · rename_i hi
      subst hi
      cases hh : heap[p.block]? with
      | none => rfl
      | some o =>
        simp only [hh] at h
        cases o with
        | cells c t fz =>
          simp only at h
          split at h
          · cases h
          · rename_i hs
            obtain ⟨hlt, hv⟩ := Array.getElem?_eq_some_iff.1 h
            simp only [Option.map_some, Option.some.injEq, Obj.cells.injEq, and_true]
            rw [if_neg hs]
            apply Array.ext_getElem?
            intro j
            rw [Array.getElem?_setIfInBounds]
            split
            · rename_i hj; subst hj; first | exact h.symm | (rw [if_pos hlt]; exact h.symm)
            · rfl
        | _ => rfl
    · rfl
/-- A text behind the last kid's. -/
theorem joinK_app {s : B} {init : List Nod} {n : Nod} : Tz.joinK s (init ++ [n]) = if n.name = [] then some (init ++ [.mk n.name n.attrs (n.text ++ s) n.kids]) else none := by
  unfold Tz.joinK
  rw [List.getLast?_append]
  simp
theorem nodC_text {w : World} {S : Nat → Prop} {n : Nod} {y : List Value} (h : NodC w S n y) (s : B) : ∃ a d, y = [.string (bs n.name), a, .string (bs n.text), d] ∧ NodC w S (.mk n.name n.attrs s n.kids) [.string (bs n.name), a, .string (bs s), d] := by
  obtain ⟨nm, at_, tx, kd⟩ := n
  unfold NodC at h
  obtain ⟨A, ca, K, ck, ys, rfl, h1, h2, h3⟩ := h
  refine ⟨_, _, rfl, ?_⟩
  unfold NodC
  exact ⟨A, ca, K, ck, ys, rfl, h1, h2, h3⟩

set_option maxRecDepth 100000 in
set_option maxHeartbeats 4000000 in
theorem text_join {w : World} {base b : Nat} {e : El} {r : List El} {many : Nat} {over : Bool} {s : B} {init : List Nod} {n : Nod} (h : BdE w base b (e :: r) many over) (hr : r.length ≤ 6000000) (hk : e.kids.length ≤ 6000000) (hs : s ≠ []) (hsl : s.length ≤ 60000000) (hkd : e.kids = init ++ [n]) (hnm : n.name = []) (htl : n.text.length ≤ 6000000000) :
    Calls Tryz.prog 24 #[.pointer (some ⟨b, 0, none⟩), .string (bs s)] w fun e' w' => e' = .returned (.tuple #[]) ∧ Below base w w' ∧ BdE w' base b ({ e with kids := init ++ [.mk n.name n.attrs (n.text ++ s) n.kids] } :: r) many over := by
  obtain ⟨S, v, xs, X, hX⟩ := h
  obtain ⟨g, cap, rfl⟩ := hX.slice
  have e0 : (s == ([] : B)) = false := by simpa using hs
  have hm : e.kids.length = init.length + 1 := by rw [hkd]; simp
  go_enter Tryz.func24, Tryz.ntmps24
  go_wp2_with fail
  refine (last_u hX (by omega)).mono ?_
  rintro e1 w1 ⟨rfl, n1, rfl⟩
  have hX1 := hX.drewN n1
  have hb1 : Below base w (w.drewN n1) := drewN_below _ w n1
  clear hX
  generalize w.drewN n1 = W1 at hX1 hb1 ⊢
  obtain ⟨A, ca, K, ck, ys, xs0, X0, rfl, rfl, h1, h2, h3, h4, h5, hc⟩ := hX1.top
  have c3 : W1.cell? ⟨g, r.length * 5 + 3, none⟩ = some (.slice K e.kids.length ck) := hc 3 (by omega)
  obtain ⟨gk, capk, hKv, hbk, hgk⟩ := h3.form (by omega)
  obtain rfl : K = some ⟨gk, 0, none⟩ := by injection hKv
  have h4' := h4
  rw [hkd] at h4'
  obtain ⟨ys0, y, rfl, hn0, hn1⟩ := h4'.parts
  have hy0 := hn0.len
  unfold NodsC at hn1
  obtain ⟨y', ysn, rfl, hny, hnil⟩ := hn1
  unfold NodsC at hnil
  subst hnil
  rw [List.append_nil] at h3 h4
  obtain ⟨ya, yd, rfl, hnew⟩ := nodC_text hny (n.text ++ s)
  rw [hm] at h3 c3
  have q0 : W1.cell? ⟨gk, init.length * 4, none⟩ = some (.string (bs [])) := by
    have := h3.cellAt (init.length * 4) (by omega)
    rw [this, List.getElem?_append_right (by omega), hy0, Nat.sub_self, hnm]
    rfl
  have q2 : W1.cell? ⟨gk, init.length * 4 + 2, none⟩ = some (.string (bs n.text)) := by
    have := h3.cellAt (init.length * 4 + 2) (by omega)
    rw [this, List.getElem?_append_right (by omega), hy0, show init.length * 4 + 2 - init.length * 4 = 2 by omega]
    rfl
  have f2 : W1.frozen? ⟨gk, init.length * 4 + 2, none⟩ = false := h3.frozenAt _
  obtain ⟨M, hM⟩ : ∃ M, M = init.length := ⟨_, rfl⟩
  rw [← hM] at q0 q2 f2 c3
  have hw1 : IntKind.i64.wrap ((M : Int) + 1 - 1) = (M : Int) := by rw [IntKind.wrap_i64]; omega
  have hw2 : IntKind.i64.wrap (M : Int) = (M : Int) := by rw [IntKind.wrap_i64]; omega
  have t0 : (0 : Int) < (M : Int) + 1 := by omega
  have t1 : (M : Int) < (M : Int) + 1 := by omega
  have t2 : M < M + 1 := by omega
  have hap : bs n.text ++ bs s = bs (n.text ++ s) := bs_append _ _
  have hsz : ¬ (9223372036854775807 < (bs n.text).size + (bs s).size) := by rw [bs_size, bs_size]; omega
  have HM := Lib.hid hM
  clear hM
  clear hc
  go_wp2_with fail
  refine bodyPost_ret (results_none rfl _ _ _) rfl ?_
  have hkids : (init ++ [Nod.mk n.name n.attrs (n.text ++ s) n.kids]).length = M + 1 := by rw [HM.out]; simp
  have h3' : W1.ownsRow base 61 4 (.slice (some ⟨gk, 0, none⟩) e.kids.length ck) e.kids.length (ys0 ++ [.string (bs n.name), ya, .string (bs n.text), yd]) := by rw [hm]; exact h3
  have hP := BdX.put_ (kids := init ++ [Nod.mk n.name n.attrs (n.text ++ s) n.kids]) (K2 := some ⟨gk, 0, none⟩) (ck2 := ck) (zs := ys0 ++ [.string (bs n.name), ya, .string (bs (n.text ++ s)), yd]) (wb := W1) (wc := W1) (wd := W1.setCell ⟨gk, M * 4 + 2, none⟩ (.string (bs (n.text ++ s)))) hX1 h1 h2 h3' h5 (Below.refl _ _) (World.grownBy.refl _ _) (.inl rfl)
    (h3.stored (M * 4 + 2) _).2 (by
      rw [hkids, HM.out]
      have := (h3.stored (M * 4 + 2) (.string (bs (n.text ++ s)))).1
      rw [List.set_append_right _ _ (by rw [hy0, HM.out]; omega), hy0, HM.out, show init.length * 4 + 2 - init.length * 4 = 2 by omega] at this
      exact this) (fun W hkW => (NodsC.keep hkW _ _ hn0).app (NodsC.one (NodC.keep hkW _ _ hnew)))
  rw [hkids] at hP
  have hgk2 : gk ≠ g := by
    obtain ⟨cs, ht⟩ := own_row hX1.row rfl
    obtain ⟨cs', ht'⟩ := own_row h3 rfl
    exact type_ne ht' ht (by decide)
  have hself : (W1.setCell ⟨gk, M * 4 + 2, none⟩ (.string (bs (n.text ++ s)))).setCell ⟨g, r.length * 5 + 3, none⟩ (.slice (some ⟨gk, 0, none⟩) (M + 1) ck) = W1.setCell ⟨gk, M * 4 + 2, none⟩ (.string (bs (n.text ++ s))) :=
    setCell_self ((World.cell?_setCell_other W1 ⟨gk, M * 4 + 2, none⟩ ⟨g, r.length * 5 + 3, none⟩ _ (fun e => hgk2 (congrArg Addr.block e))).trans c3)
  rw [hself] at hP
  exact ⟨rfl, hb1.trans hP.2, _, _, _, _, hP.1⟩

theorem nodC_txt (w : World) (S : Nat → Prop) (s : B) : NodC w S (Tz.txt s) [.string (bs []), .slice none 0 0, .string (bs s), .slice none 0 0] := by
  unfold Tz.txt NodC
  exact ⟨none, 0, none, 0, [], rfl, RdS.nil_, RdS.nil_, NodsC.nil⟩

set_option maxRecDepth 100000 in
set_option maxHeartbeats 4000000 in
theorem text_new {w : World} {base b : Nat} {e : El} {r : List El} {many : Nat} {over : Bool} {s : B} (h : BdE w base b (e :: r) many over) (hr : r.length ≤ 6000000) (hk : e.kids.length ≤ 6000000) (hm : many ≤ 6000000) (hs : s ≠ []) (hkd : e.kids = [] ∨ ∃ init n, e.kids = init ++ [n] ∧ n.name ≠ []) :
    Calls Tryz.prog 24 #[.pointer (some ⟨b, 0, none⟩), .string (bs s)] w fun e' w' => e' = .returned (.tuple #[]) ∧ Below base w w' ∧ BdE w' base b ({ e with kids := e.kids ++ [Tz.txt s] } :: r) (many + 1) (over || decide (64 < r.length + 1 - 1) || decide (2000 < many + 1)) := by
  obtain ⟨S, v, xs, X, hX⟩ := h
  obtain ⟨g, cap, rfl⟩ := hX.slice
  have e0 : (s == ([] : B)) = false := by simpa using hs
  have fin : ∀ (W : World), BdX W base b S (.slice (some ⟨g, 0, none⟩) (r.length + 1) cap) xs X (e :: r) many over → Calls Tryz.prog 53 #[.pointer (some ⟨b, 0, none⟩), .agg #[.string ⟨#[]⟩, .slice none 0 0, .string (bs s), .slice none 0 0]] W fun e' w' => e' = .returned (.tuple #[]) ∧ Below base W w' ∧ BdE w' base b ({ e with kids := e.kids ++ [Tz.txt s] } :: r) many over := by
    intro W hW
    refine (put_u hW (nodC_txt W S s) (by omega) (by omega)).mono ?_
    rintro e' w' ⟨rfl, hb, xs', X', hX'⟩
    exact ⟨rfl, hb, _, _, _, _, hX'⟩
  have Fin := Lib.hid fin
  clear fin
  go_enter Tryz.func24, Tryz.ntmps24
  go_wp2_with fail
  refine (last_u hX (by omega)).mono ?_
  rintro e1 w1 ⟨rfl, n1, rfl⟩
  have hX1 := hX.drewN n1
  have hb1 : Below base w (w.drewN n1) := drewN_below _ w n1
  clear hX
  generalize w.drewN n1 = W1 at hX1 hb1 ⊢
  obtain ⟨A, ca, K, ck, ys, xs0, X0, rfl, rfl, h1, h2, h3, h4, h5, hc⟩ := hX1.top
  have c3 : W1.cell? ⟨g, r.length * 5 + 3, none⟩ = some (.slice K e.kids.length ck) := hc 3 (by omega)
  clear hc h1 h2 h5
  have hP := Fin.out W1 hX1
  clear hX1
  rcases hkd with hkd | ⟨init, n, hkd, hnm⟩
  · have hm0 : e.kids.length = 0 := by rw [hkd]; rfl
    rw [hm0] at c3
    go_wp2_with fail
    refine hP.mono ?_
    rintro e2 w2 ⟨rfl, hb2, S2, v2, xs2, X2, hX2⟩
    go_wp2_with fail
    refine (count_u hX2 (by simp only [List.length_cons]; omega) (by simp) (by omega)).mono ?_
    rintro e3 w3 ⟨rfl, hb3, hX3⟩
    go_wp2_with fail
    go_end0
    exact ⟨rfl, hb1.trans (hb2.trans hb3), _, _, _, _, hX3⟩
  · have hm' : e.kids.length = init.length + 1 := by rw [hkd]; simp
    obtain ⟨gk, capk, hKv, hbk, hgk⟩ := h3.form (by omega)
    obtain rfl : K = some ⟨gk, 0, none⟩ := by injection hKv
    rw [hkd] at h4
    obtain ⟨ys0, y, rfl, hn0, hn1⟩ := h4.parts
    have hy0 := hn0.len
    unfold NodsC at hn1
    obtain ⟨y', ysn, rfl, hny, hnil⟩ := hn1
    unfold NodsC at hnil
    subst hnil
    rw [List.append_nil] at h3
    obtain ⟨ya, yd, rfl, _⟩ := nodC_text hny n.text
    rw [hm'] at h3 c3
    have q0 : W1.cell? ⟨gk, init.length * 4, none⟩ = some (.string (bs n.name)) := by
      have := h3.cellAt (init.length * 4) (by omega)
      rw [this, List.getElem?_append_right (by omega), hy0, Nat.sub_self]
      rfl
    obtain ⟨M, hM⟩ : ∃ M, M = init.length := ⟨_, rfl⟩
    rw [← hM] at q0 c3
    have hw1 : IntKind.i64.wrap ((M : Int) + 1 - 1) = (M : Int) := by rw [IntKind.wrap_i64]; omega
    have hw2 : IntKind.i64.wrap (M : Int) = (M : Int) := by rw [IntKind.wrap_i64]; omega
    have t0 : (0 : Int) < (M : Int) + 1 := by omega
    have t1 : (M : Int) < (M : Int) + 1 := by omega
    have t2 : M < M + 1 := by omega
    have en : (n.name == ([] : B)) = false := by simpa using hnm
    clear hM h3 h4 hn0 hny hkd hnm
    go_wp2_with fail
    refine hP.mono ?_
    rintro e2 w2 ⟨rfl, hb2, S2, v2, xs2, X2, hX2⟩
    go_wp2_with fail
    refine (count_u hX2 (by simp only [List.length_cons]; omega) (by simp) (by omega)).mono ?_
    rintro e3 w3 ⟨rfl, hb3, hX3⟩
    go_wp2_with fail
    go_end0
    exact ⟨rfl, hb1.trans (hb2.trans hb3), _, _, _, _, hX3⟩
set_option maxRecDepth 100000 in
set_option maxHeartbeats 4000000 in
theorem text_empty {w : World} {b : Nat} : Calls Tryz.prog 24 #[.pointer (some ⟨b, 0, none⟩), .string (bs [])] w fun e' w' => e' = .returned (.tuple #[]) ∧ w' = w := by
  have e0 : (([] : B) == ([] : B)) = true := rfl
  go_enter Tryz.func24, Tryz.ntmps24
  go_wp2_with fail
  refine bodyPost_ret (results_none rfl _ _ _) rfl ?_
  exact ⟨rfl, rfl⟩
/-- The builder in memory. -/
def BdM (w : World) (base b : Nat) (bd : Bd) : Prop := BdE w base b bd.open_ bd.many bd.over
theorem bdtext_u {w : World} {base b : Nat} {bd : Bd} {s : B} (h : BdM w base b bd) (ho : 1 ≤ bd.open_.length) (hw : Wt bd.open_ ≤ 6000000) (hm : bd.many ≤ 6000000) (hs : s.length ≤ 60000000) (ht : ∀ e ∈ bd.open_, ∀ n ∈ e.kids, n.text.length ≤ 6000000000) :
    Calls Tryz.prog 24 #[.pointer (some ⟨b, 0, none⟩), .string (bs s)] w fun e' w' => e' = .returned (.tuple #[]) ∧ Below base w w' ∧ BdM w' base b (bd.text s) := by
  obtain ⟨o, many, over⟩ := bd
  cases o with
  | nil => simp at ho
  | cons e r =>
    have h1 : r.length ≤ 6000000 := by have := Wt_len (e :: r); simp only [List.length_cons] at this; simp only at hw; omega
    have h2 : e.kids.length ≤ 6000000 := by have := Wt_kids (o := e :: r) (e := e) (by simp); simp only at hw; omega
    by_cases h0 : s = []
    · subst h0
      refine text_empty.mono ?_
      rintro e' w' ⟨rfl, rfl⟩
      refine ⟨rfl, Below.refl _ _, ?_⟩
      unfold Bd.text
      rw [if_pos rfl]
      exact h
    · have key : Bd.text ⟨e :: r, many, over⟩ s = (match Tz.joinK s e.kids with | some k => ⟨{ e with kids := k } :: r, many, over⟩ | none => Bd.count (Bd.put ⟨e :: r, many, over⟩ (Tz.txt s))) := by
        unfold Bd.text
        rw [if_neg h0]
        rfl
      rw [key]
      rcases List.eq_nil_or_concat e.kids with hk | ⟨init, n, hk⟩ <;> try rw [List.concat_eq_append] at hk
      · have hj : Tz.joinK s e.kids = none := by rw [hk]; rfl
        rw [hj]
        exact text_new h h1 h2 hm h0 (.inl hk)
      · have hj : Tz.joinK s e.kids = if n.name = [] then some (init ++ [.mk n.name n.attrs (n.text ++ s) n.kids]) else none := by rw [hk]; exact joinK_app
        by_cases hn : n.name = []
        · rw [hj, if_pos hn]
          exact text_join h h1 h2 h0 hs hk hn (ht e (by simp) n (by rw [hk]; simp))
        · rw [hj, if_neg hn]
          exact text_new h h1 h2 hm h0 (.inr ⟨init, n, hk, hn⟩)
end Go.Proofs.YtlgaeeedkihfpaaGreatDoor.Uf

/-
  dom's builder: start.
-/
namespace Go.Proofs.YtlgaeeedkihfpaaGreatDoor.Uf
open Go.RowKit
open Tz (B Atr Tok Nod El Bd innerO shutO shutN putO closeO)

theorem info63 : (Tryz.prog.info? 63).map (fun i => (i.zero, i.size, i.bytes)) = some (some (.agg #[.string ⟨#[]⟩, .slice none 0 0, .string ⟨#[]⟩, .slice none 0 0, .string ⟨#[]⟩]), 5, 96) := by kernel_rfl
/-- An element is opened. -/
theorem BdX.push {w wb wc : World} {base b : Nat} {S : Nat → Prop} {v v2 : Value} {xs : List Value} {X : List Nat} {o : List El} {e : El} {many : Nat} {over : Bool} {A : Option Addr} {ca : Nat}
    (h : BdX w base b S v xs X o many over) (hA : RdS w S 2 A e.attrs.length (atrCells e.attrs)) (hk : e.kids = []) (hb : Below w.heap.size w wb) (hg : wb.grownBy wc v.ownBlock)
    (hown : wc.ownsRow base 63 5 v2 (o.length + 1) (xs ++ elCells e A ca none 0)) :
    BdX (wc.setCell ⟨b, 0, none⟩ v2) base b S v2 (xs ++ elCells e A ca none 0) X (e :: o) many over ∧ Below base w (wc.setCell ⟨b, 0, none⟩ v2) := by
  have hvlt : ∀ k, v.ownBlock = some k → base ≤ k ∧ k < w.heap.size := h.row.lt
  have far : ∀ k, k < w.heap.size → v.ownBlock ≠ some k → k ≠ b → (wc.setCell ⟨b, 0, none⟩ v2).heap[k]? = w.heap[k]? := fun k hk hne hkb =>
    (Below.heap_setCell wc ⟨b, 0, none⟩ _ k hkb).trans ((hg.block k (Nat.lt_of_lt_of_le hk hb.size) (fun e => hne e.symm)).trans (hb.block k hk))
  have tyfar : ∀ {k : Nat} {t : TypeId} {cs : Array Value}, w.heap[k]? = some (.cells cs t (0, 0)) → t ≠ 63 → t ≠ 66 → (wc.setCell ⟨b, 0, none⟩ v2).heap[k]? = w.heap[k]? := fun {k t cs} ht h1 h2 => by
    refine far k (heap_lt ht) (fun e => ?_) (type_ne ht h.blk h2)
    obtain ⟨cs', ht'⟩ := own_row h.row e
    exact type_ne ht ht' h1 rfl
  have hkS : KeepS S w (wc.setCell ⟨b, 0, none⟩ v2) := fun k hs => by
    obtain ⟨cs, t, ht, htt⟩ := h.st k hs
    exact tyfar ht (by rcases htt with rfl | rfl <;> decide) (by rcases htt with rfl | rfl <;> decide)
  have hvb : v.ownBlock ≠ some b := own_blk_ne h.row h.blk (by decide)
  have hblk : Blk wc b 66 #[v, .int .i64 (many : Nat), .bool over] := ((h.blk.below hb (heap_lt h.blk)).grown hg (fun e => hvb e.symm))
  have hv2b : v2.ownBlock ≠ some b := own_blk_ne hown hblk (by decide)
  refine ⟨⟨Blk.set_ hblk 0 v2, h.ge, ?_, ?_, fun k hs => ?_⟩, ?_⟩
  · exact ownsRow_setCell_other hown (a := ⟨b, 0, none⟩) hv2b v2
  · have hop := OpC.keep hkS h.opn (fun k hx => by obtain ⟨_, cs, ht⟩ := h.opn.x61 k hx; exact tyfar ht (by decide) (by decide))
    have hc := OpC.cons (w := wc.setCell ⟨b, 0, none⟩ v2) (base := base) (S := S) e A ca none 0 [] hop (hA.keep hkS) (by rw [hk]; exact World.ownsRow_nil _ _ _ _) (by rw [hk]; exact NodsC.nil) (fun g hg' => by cases hg')
    exact hc
  · obtain ⟨cs, t, ht, htt⟩ := h.st k hs
    exact ⟨cs, t, (hkS k hs).trans ht, htt⟩
  · have hbb : base ≤ w.heap.size := Nat.le_trans h.ge (Nat.le_of_lt (heap_lt h.blk))
    have hge := h.ge
    refine ⟨hg.os.trans hb.os, hg.tape.trans hb.tape, hg.output.trans hb.output, Nat.le_trans (Nat.le_trans hb.size hg.size) (by simp [World.setCell]), fun k hk => far k (by omega) (fun e => ?_) (by omega)⟩
    have := (hvlt k e).1
    omega
theorem innerO_name (names : List B) : ∀ {o : List El} {k : Nat} {x : B}, innerO names o = some (k, x) → ∃ h : k < o.length, o[k].name = x
  | [], _, _, h => by simp [innerO] at h
  | [_], _, _, h => by simp [innerO] at h
  | e :: e2 :: r, k, x, h => by
    rw [innerO_step] at h
    split at h
    · injection h with h
      injection h with h1 h2
      subst h1 h2
      exact ⟨by simp, rfl⟩
    · cases h2 : innerO names (e2 :: r) with
      | none => rw [h2] at h; cases h
      | some y =>
        obtain ⟨k2, x2⟩ := y
        rw [h2] at h
        injection h with h
        injection h with h3 h4
        simp only at h3 h4
        subst h3 h4
        obtain ⟨hlt, he⟩ := innerO_name names h2
        exact ⟨by simpa using hlt, he⟩
/-- Whether a li is to be closed. -/
def liB (name : B) (o : List El) : Bool := name == Tz.liN && (match innerO [Tz.liN, Tz.ulN, Tz.olN] o with | some (_, x) => x == Tz.liN | none => false)
def st1 (name : B) (o : List El) : List El := if Tz.blockL name then (closeO Tz.pN o).1 else o
def st2 (name : B) (o : List El) : List El := if liB name o then (closeO Tz.liN o).1 else o
theorem st2_eq (name : B) (o1 : List El) : (if name = Tz.liN then (match innerO [Tz.liN, Tz.ulN, Tz.olN] o1 with | some (_, x) => if x = Tz.liN then (closeO Tz.liN o1).1 else o1 | none => o1) else o1) = st2 name o1 := by
  unfold st2 liB
  by_cases h : name = Tz.liN
  · rw [if_pos h]
    cases innerO [Tz.liN, Tz.ulN, Tz.olN] o1 with
    | none => simp
    | some kx =>
      obtain ⟨k, x⟩ := kx
      by_cases hx : x = Tz.liN
      · simp [h, hx]
      · simp [h, hx]
  · rw [if_neg h, if_neg (by simp [h])]
theorem closeO_len (name : B) (o : List El) (h : 1 ≤ o.length) : 1 ≤ (closeO name o).1.length := by
  unfold closeO
  cases hi : innerO [name] o with
  | none => exact h
  | some kx =>
    obtain ⟨k, x⟩ := kx
    have := innerO_lt [name] hi
    simp only [shutN_len]
    omega
theorem Wt_close (name : B) (o : List El) : Wt (closeO name o).1 ≤ Wt o := by
  unfold closeO
  cases innerO [name] o with
  | none => exact Nat.le_refl _
  | some kx => exact Wt_shutN _ _

set_option maxRecDepth 100000 in
set_option maxHeartbeats 8000000 in
theorem start_u {w : World} {base b : Nat} {bd : Bd} {name : B} {A : Option Addr} {c : Nat} {l : List Atr} (h : BdM w base b bd) (ho : 1 ≤ bd.open_.length) (hw : Wt bd.open_ ≤ 5400000) (hm : bd.many ≤ 6000000)
    (hA : Reads w base 2 A l.length (atrCells l)) (hl : l.length ≤ 60000000) :
    Calls Tryz.prog 25 #[.pointer (some ⟨b, 0, none⟩), .string (bs name), .slice A l.length c] w fun e' w' => e' = .returned (.tuple #[]) ∧ Below base w w' ∧ BdM w' base b (bd.start name l) := by
  obtain ⟨o, many, over⟩ := bd
  simp only at ho hw hm
  have hbase := BdE.base_le (show BdE w base b o many over from h)
  obtain ⟨BS, hBS⟩ : ∃ BS : Bd, BS = Bd.start ⟨o, many, over⟩ name l := ⟨_, rfl⟩
  rw [← hBS]
  have hBS2 : BS = Bd.count ⟨if Tz.voidL name then putO (.mk name l [] []) (st2 name (st1 name o)) else ⟨name, l, []⟩ :: st2 name (st1 name o), many, over⟩ := by
    rw [hBS, ← st2_eq]
    rfl
  have HBS := Lib.hid hBS2
  clear hBS hBS2
  go_enter Tryz.func25, Tryz.ntmps25
  apply wp_seq_k
  intro K1 hK1
  have hmid1 : ∀ (u8 u9 u10 u11 : Value) (W : World), BdE W base b (st1 name o) many over → Below base w W → K1 ⟨#[.pointer (some ⟨b, 0, none⟩), .string (bs name), .slice A l.length c, undef, undef, undef, undef, undef, u8, u9, u10, u11, undef, undef, undef, undef, undef, undef, undef, undef, undef, undef, undef, undef, undef, undef, undef, undef, undef, undef, undef, undef, undef, undef, undef, undef, undef, undef, undef, undef, undef, undef, undef, undef, undef, undef, undef, undef, undef, undef, undef, undef, undef, undef, undef, undef, undef], []⟩ W := by
    intro u8 u9 u10 u11 W hE hbW
    refine hK1 _ _ ?_
    clear hK1 K1
    have ho1 : 1 ≤ (st1 name o).length := by
      unfold st1
      split
      · exact closeO_len _ _ ho
      · exact ho
    have hw1 : Wt (st1 name o) ≤ 5400000 := by
      unfold st1
      split
      · exact Nat.le_trans (Wt_close _ _) hw
      · exact hw
    generalize st1 name o = o1 at hE ho1 hw1 HBS
    apply wp_seq_k
    intro K2 hK2
    have hmid2 : ∀ (u6 u8 u9 u10 u11 u12 u13 u14 u15 u16 u17 u18 u19 u20 u21 u22 u23 u24 u25 u26 u27 u28 u29 u30 u31 u32 u33 : Value) (W2 : World), BdE W2 base b (st2 name o1) many over → Below base w W2 → K2 ⟨#[.pointer (some ⟨b, 0, none⟩), .string (bs name), .slice A l.length c, undef, undef, undef, u6, undef, u8, u9, u10, u11, u12, u13, u14, u15, u16, u17, u18, u19, u20, u21, u22, u23, u24, u25, u26, u27, u28, u29, u30, u31, u32, u33, undef, undef, undef, undef, undef, undef, undef, undef, undef, undef, undef, undef, undef, undef, undef, undef, undef, undef, undef, undef, undef, undef, undef], []⟩ W2 := by
      intro u6 u8 u9 u10 u11 u12 u13 u14 u15 u16 u17 u18 u19 u20 u21 u22 u23 u24 u25 u26 u27 u28 u29 u30 u31 u32 u33 W2 hE2 hbW2
      refine hK2 _ _ ?_
      clear hK2 K2
      have ho2 : 1 ≤ (st2 name o1).length := by
        unfold st2
        split
        · exact closeO_len _ _ ho1
        · exact ho1
      have hw2 : Wt (st2 name o1) ≤ 5400000 := by
        unfold st2
        split
        · exact Nat.le_trans (Wt_close _ _) hw1
        · exact hw1
      generalize st2 name o1 = o2 at hE2 ho2 hw2 HBS
      obtain ⟨S, v, xs, X, hX⟩ := hE2
      have hAr : Reads W2 W2.heap.size 2 A l.length (atrCells l) := (hA.below hbW2).more (Nat.le_trans hbase hbW2.size)
      go_wp2_with fail
      refine (clone_u hAr hl).mono ?_
      rintro e1 w1 ⟨A', c', rfl, hown, hb1⟩
      have hX1 := hX.keepB hb1
      have hbw1 : Below base w w1 := hbW2.trans (hb1.mono (Nat.le_trans hbase hbW2.size))
      clear hX hb1 hAr hbW2
      go_wp2_with (first
        | (with_reducible refine store_new rfl 61 (.tmp 7) (.tmp 37) rfl #[.string (bs name), .slice A' l.length c', .string (bs []), .slice none 0 0] rfl rfl (by kernel_rfl) (by kernel_rfl) (by simp [Value.oneCell']) ?_; intro W3 hB3 hb3))
      refine (void_u name).mono ?_
      rintro e2 w2 ⟨rfl, hw2e⟩
      rw [hw2e]
      clear hw2e w2
      have hX3 := hX1.keepB hb3
      have hown3 := own_keepT hown (KeepT.below hb3)
      have hbw3 : Below base w W3 := hbw1.trans (hb3.mono (Nat.le_trans hbase hbw1.size))
      clear hX1 hown hbw1 hb3
      have hX4 := hX3.more (S' := fun k => S k ∨ (Value.slice A' l.length c').ownBlock = some k) (fun k hs => .inl hs) (fun k hx hs => by
        rcases hs with hs | hs
        · exact hX3.opn.notS k hx hs
        · obtain ⟨_, cs, a1⟩ := hX3.opn.x61 k hx
          obtain ⟨cs', a2⟩ := own_row hown3 hs
          exact type_ne a1 a2 (by decide) rfl) (fun k hs => by
        rcases hs with hs | hs
        · exact hX3.st k hs
        · obtain ⟨cs, a1⟩ := own_row hown3 hs
          exact ⟨cs, 57, a1, .inl rfl⟩)
      have hRA : RdS W3 (fun k => S k ∨ (Value.slice A' l.length c').ownBlock = some k) 2 A' l.length (atrCells l) := (RdS.of_own hown3).mono (fun _ hs => .inr hs)
      clear hX3 hown3
      generalize (fun k => S k ∨ (Value.slice A' l.length c').ownBlock = some k) = S4 at hX4 hRA
      obtain ⟨e, r, rfl⟩ : ∃ e r, o2 = e :: r := by
        cases o2 with
        | nil => simp at ho2
        | cons e r => exact ⟨e, r, rfl⟩
      have hr : r.length ≤ 6000000 := by have := Wt_len (e :: r); simp only [List.length_cons] at this; omega
      have hkl : e.kids.length ≤ 6000000 := by have := Wt_kids (o := e :: r) (e := e) (by simp); omega
      cases hv : Tz.voidL name with
      | true =>
        rw [hv] at HBS
        have hnod : NodC W3 S4 (.mk name l [] []) [.string (bs name), .slice A' l.length c', .string (bs []), .slice none 0 0] := by
          unfold NodC
          exact ⟨A', c', none, 0, [], rfl, hRA, RdS.nil_, NodsC.nil⟩
        have hp := put_u hX4 hnod (by omega) (by omega)
        clear hnod hRA hX4
        go_wp2_with (first
          | (with_reducible refine wpList_load_row rfl 61 (.tmp 7) rfl w1.heap.size rfl 61 #[.string (bs name), .slice A' l.length c', .string (bs []), .slice none 0 0] (0, 0) _ hB3 Tryz.underlying61 rfl (by kernel_rfl) ?_))
        refine hp.mono ?_
        rintro e3 w3 ⟨rfl, hb4, xs', X', hX'⟩
        go_wp2_with fail
        refine (count_u hX' (by simp only [List.length_cons]; omega) (by simp) (by omega)).mono ?_
        rintro e4 w4 ⟨rfl, hb5, hX5⟩
        go_wp2_with fail
        go_end0
        rw [HBS.out]
        exact ⟨rfl, hbw3.trans (hb4.trans hb5), _, _, _, _, hX5⟩
      | false =>
        rw [hv] at HBS
        go_wp2_with fail
        obtain ⟨i0, hi, hz0, hz1, hzb⟩ := info_parts info63
        have hB3d : W3.drew.heap[w1.heap.size]? = some (.cells #[.string (bs name), .slice A' l.length c', .string (bs []), .slice none 0 0] 61 (0, 0)) := hB3
        have hX5 := hX4.keepB (below_drew (Below.refl W3.heap.size W3))
        have hRB : RdS W3.drew S4 2 A' l.length (atrCells l) := hRA
        have hbd := below_drew hbw3
        clear hB3 hX4 hRA hbw3
        generalize hgn : w1.heap.size = g at hB3d ⊢
        clear hgn
        obtain ⟨ι, hne, F, hF, hcov⟩ := class_of (fun Y => Y.cell? ⟨b, 0, none⟩ = some v ∧ Y.heap[g]? = some (.cells #[.string (bs name), .slice A' l.length c', .string (bs []), .slice none 0 0] 61 (0, 0))) (W3.drew) (show _ ∧ _ from ⟨Blk.cell hX5.blk 0, hB3d⟩)
        have q0 : ∀ i, (F i).cell? ⟨b, 0, none⟩ = some v := fun i => (hF i).1
        have q30 : ∀ i, (F i).cell? ⟨g, 0, none⟩ = some (.string (bs name)) := fun i => Blk.cell (hF i).2 0
        have q31 : ∀ i, (F i).cell? ⟨g, 1, none⟩ = some (.slice A' l.length c') := fun i => Blk.cell (hF i).2 1
        have q32 : ∀ i, (F i).cell? ⟨g, 2, none⟩ = some (.string (bs [])) := fun i => Blk.cell (hF i).2 2
        have q33 : ∀ i, (F i).cell? ⟨g, 3, none⟩ = some (.slice none 0 0) := fun i => Blk.cell (hF i).2 3
        have hS0 := hcov W3.drew (show _ ∧ _ from ⟨Blk.cell hX5.blk 0, hB3d⟩)
        refine wp_region_tailS 8 2 (S := fun X => ∃ i, X = F i) (by kernel_rfl) (by kernel_rfl) (fun _ _ _ _ _ h => h) hS0 ?_
        generalize W3.drew = W5 at hB3d hX5 hRB hbd hS0 ⊢
        dsimp only [List.take, List.drop]
        repeat (go_big_quiet_step (fail))
        refine wpQuiet_nil ?_
        refine wpListS_step (hS0) (fun K hK => ?_)
        go_simp
        have hX6 := hX5.keepB ((Below.refl _ W5).alloc (Nat.le_refl _) (.cells #[.string (bs name), .slice A' l.length c', .string (bs []), .slice none 0 0, .string (bs name)] 63))
        have hg6 : (W5.alloc (.cells #[.string (bs name), .slice A' l.length c', .string (bs []), .slice none 0 0, .string (bs name)] 63)).heap[g]? = some (.cells #[.string (bs name), .slice A' l.length c', .string (bs []), .slice none 0 0] 61 (0, 0)) := Blk.alloc hB3d _
        have hb6 : Below W5.heap.size W5 (W5.alloc (.cells #[.string (bs name), .slice A' l.length c', .string (bs []), .slice none 0 0, .string (bs name)] 63)) := (Below.refl _ W5).alloc (Nat.le_refl _) _
        have hr6 := reads_row W5 63 [.string (bs name), .slice A' l.length c', .string (bs []), .slice none 0 0, .string (bs name)] 5 1 rfl
        refine hK.out _ _ (hcov _ ⟨Blk.cell hX6.blk 0, hg6⟩) ?_
        clear hK K
        try simp only [Act.put, List.setIfInBounds_toArray, List.set_cons_zero, List.set_cons_succ]
        refine wpListS_step (hcov _ ⟨Blk.cell hX6.blk 0, hg6⟩) (fun K hK => ?_)
        refine step_append_any _ rfl (.tmp 47) (.tmp 51) 64 rfl base 63 i0 _ 5 96 Tryz.underlying64 hi hz0 hz1 hzb rfl (by omega) v (e :: r).length xs rfl hX6.row _ _ 1 1 [.string (bs name), .slice A' l.length c', .string (bs []), .slice none 0 0, .string (bs name)] rfl hr6 (by intro u hu; simp at hu; rcases hu with rfl | rfl | rfl | rfl | rfl <;> rfl) (by unfold maxLen; simp only [List.length_cons]; omega) (by simp only [List.length_cons]; omega) (Nat.le_trans (Nat.le_trans hbase hbd.size) hb6.size) ?_
        intro v6 w6 hown6 hgr6 hat6
        have hvb : v.ownBlock ≠ some b := own_blk_ne hX6.row hX6.blk (by decide)
        have hblk6 : Blk w6 b 66 #[v, .int .i64 (many : Nat), .bool over] := Blk.grown hX6.blk hgr6 (fun e => hvb e.symm)
        have hvg : v.ownBlock ≠ some g := fun e1 => by
          obtain ⟨cs, ht⟩ := own_row hX6.row e1
          exact type_ne ht hg6 (by decide) rfl
        refine hK.out _ _ (hcov _ ⟨Blk.cell hblk6 0, Blk.grown hg6 hgr6 (fun e => hvg e.symm)⟩) ?_
        clear hK K
        try simp only [Act.put, List.setIfInBounds_toArray, List.set_cons_zero, List.set_cons_succ]
        refine wpListS_zero ?_
        have hP := BdX.push (e := ⟨name, l, []⟩) hX5 hRB rfl hb6 hgr6 hown6
        obtain ⟨a6, c6, rfl⟩ := own_slice hown6
        have f2 := Blk.frozen hblk6 0
        have g2 := Blk.cell hblk6 0
        go_wp2_with fail
        refine (count_u hP.1 (by simp only [List.length_cons]; omega) (by simp) (by omega)).mono ?_
        rintro e4 w4 ⟨rfl, hb5, hX5⟩
        go_wp2_with fail
        go_end0
        rw [HBS.out]
        exact ⟨rfl, hbd.trans (hP.2.trans hb5), _, _, _, _, hX5⟩
    clear hK2
    have ho1l := Wt_len o1
    obtain ⟨S, v, xs, X, hX⟩ := hE
    have hX1 := hX.keepB ((Below.refl _ W).alloc (Nat.le_refl _) (.cells #[.string (bs Tz.liN), .string (bs Tz.ulN), .string (bs Tz.olN)] 9))
    have hb1 : Below base W (W.alloc (.cells #[.string (bs Tz.liN), .string (bs Tz.ulN), .string (bs Tz.olN)] 9)) := (Below.refl _ W).alloc (Nat.le_trans hbase hbW.size) _
    have hs1 := StrsAt.of_blk (l := [Tz.liN, Tz.ulN, Tz.olN]) (Blk.new W 9 #[.string (bs Tz.liN), .string (bs Tz.ulN), .string (bs Tz.olN)])
    go_wp2_with fail
    refine (inner_u hX1 hs1 (by simp) (by omega) ho1).mono ?_
    rintro e1 w1 ⟨rfl, hw1'⟩
    rw [hw1']
    clear hw1' hs1 w1
    have hb2 := hbW.trans hb1
    generalize W.alloc (.cells #[.string (bs Tz.liN), .string (bs Tz.ulN), .string (bs Tz.olN)] 9) = W1 at hX1 hb2 ⊢
    clear hb1 hX hbW
    have hE1 : BdE W1 base b o1 many over := ⟨_, _, _, _, hX1⟩
    obtain ⟨g, cap, hvs, hgb, hgsz⟩ := hX1.row.form (by omega)
    have c0 : W1.cell? ⟨b, 0, none⟩ = some (.slice (some ⟨g, 0, none⟩) o1.length cap) := by rw [← hvs]; exact Blk.cell hX1.blk 0
    by_cases hn : name = [108, 105]
    · subst hn
      cases hI : innerO [Tz.liN, Tz.ulN, Tz.olN] o1 with
      | none =>
        have hst : st2 [108, 105] o1 = o1 := by unfold st2 liB; rw [hI]; rfl
        rw [hst] at hmid2
        have hi0 : innerI [Tz.liN, Tz.ulN, Tz.olN] o1 = 0 := by unfold innerI; rw [hI]
        rw [hi0]
        clear hX1 c0
        have h00 : ¬ ((0 : Int) < 0) := by omega
        go_wp2_with fail
        exact hmid2 _ _ _ _ _ _ _ _ _ _ _ _ _ _ _ _ _ _ _ _ _ _ _ _ _ _ _ _ hE1 hb2
      | some kx =>
        obtain ⟨k, x⟩ := kx
        have hlt := innerO_lt _ hI
        obtain ⟨hk, hkn⟩ := innerO_name _ hI
        obtain ⟨M, hM⟩ : ∃ M, M = o1.length - 1 - k := ⟨_, rfl⟩
        have hiM : innerI [Tz.liN, Tz.ulN, Tz.olN] o1 = M := by unfold innerI; rw [hI, hM]
        rw [hiM]
        have c4 : W1.cell? ⟨g, M * 5 + 4, none⟩ = some (.string (bs x)) := by
          have := hX1.opn.name_at k hk
          rw [hkn, ← hM] at this
          rw [hvs] at hX1
          exact (hX1.row.cellAt (M * 5 + 4) (by omega)).trans this
        obtain ⟨L, hL⟩ : ∃ L, L = o1.length := ⟨_, rfl⟩
        rw [← hL] at c0
        have t0 : (0 : Int) < (M : Int) := by omega
        have t1 : (M : Int) < (L : Int) := by omega
        have t2 : M < L := by omega
        have t3 : (0 : Int) ≤ (M : Int) := by omega
        clear hX1 hvs
        by_cases hx : x = [108, 105]
        · subst hx
          have hst : st2 [108, 105] o1 = (closeO Tz.liN o1).1 := by unfold st2 liB; rw [hI]; rfl
          rw [hst] at hmid2
          have HE := Lib.hid hE1
          have HW := Lib.hid hw1
          clear hE1 hlt hM hL hk hkn hI
          go_wp2_with fail
          refine (close_u (name := Tz.liN) HE.out (by have := HW.out; omega) ho1).mono ?_
          rintro e2 w2 ⟨rfl, hb3, hE3⟩
          go_wp2_with fail
          exact hmid2 _ _ _ _ _ _ _ _ _ _ _ _ _ _ _ _ _ _ _ _ _ _ _ _ _ _ _ _ hE3 (hb2.trans hb3)
        · have hx1 : (x == [108, 105]) = false := by simpa using hx
          have hst : st2 [108, 105] o1 = o1 := by
            unfold st2 liB
            rw [hI]
            show (if ((true && (x == [108, 105])) = true) then _ else _) = _
            rw [hx1]
            rfl
          rw [hst] at hmid2
          have HE := Lib.hid hE1
          clear hE1 hlt hM hL hk hkn hI
          go_wp2_with fail
          exact hmid2 _ _ _ _ _ _ _ _ _ _ _ _ _ _ _ _ _ _ _ _ _ _ _ _ _ _ _ _ HE.out hb2
    · have hn1 : (name == [108, 105]) = false := by simpa using hn
      have hst : st2 name o1 = o1 := by
        unfold st2 liB
        show (if (((name == [108, 105]) && _) = true) then _ else _) = _
        rw [hn1]
        rfl
      rw [hst] at hmid2
      clear hX1 c0
      go_wp2_with fail
      exact hmid2 _ _ _ _ _ _ _ _ _ _ _ _ _ _ _ _ _ _ _ _ _ _ _ _ _ _ _ _ hE1 hb2
  clear hK1
  have hE0 : BdE w base b o many over := h
  go_wp2_with fail
  refine (block_u name).mono ?_
  rintro e1 w1 ⟨rfl, hw1⟩
  rw [hw1]
  clear hw1 w1
  cases hbl : Tz.blockL name with
  | true =>
    have hst : st1 name o = (closeO Tz.pN o).1 := by unfold st1; rw [hbl]; rfl
    rw [hst] at hmid1
    go_wp2_with fail
    refine (close_u (name := Tz.pN) hE0 (by omega) ho).mono ?_
    rintro e1 w1 ⟨rfl, hb1, hE1⟩
    go_wp2_with fail
    exact hmid1 _ _ _ _ _ hE1 hb1
  | false =>
    have hst : st1 name o = o := by unfold st1; rw [hbl]; rfl
    rw [hst] at hmid1
    go_wp2_with fail
    exact hmid1 _ _ _ _ _ hE0 (Below.refl _ _)
end Go.Proofs.YtlgaeeedkihfpaaGreatDoor.Uf
