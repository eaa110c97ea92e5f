/-
  Texts of the proof of Chain, one behind the other: PolE, ChgA, ChgB.
-/
import Derived.Test.YtlgaeeedkihfpaaGreatDoorC24
import Derived.Test.YtlgaeeedkihfpaaGreatDoorC04
import Derived.Test.YtlgaeeedkihfpaaGreatDoorC09
/-
  policy.Elem, policy.Attr.
-/
namespace Go.Proofs.YtlgaeeedkihfpaaGreatDoor.Uf
open Go.RowKit
open Tz (B Pol elemP attrP)

theorem PolV.cells {w : World} {S : Nat → Prop} {cs : Array Value} {p : Pol} (h : PolV w S cs p) : ∃ A1 c1 A2 c2 A3 c3 A4 c4 A5 c5, (cs[0]? = some (.int .i64 p.epoch) ∧ cs[1]? = some (.slice A1 p.elems.length c1) ∧ cs[2]? = some (.slice A2 p.attrs.length c2) ∧ cs[3]? = some (.slice A3 p.schemes.length c3) ∧ cs[4]? = some (.slice A4 p.classes.length c4) ∧ cs[5]? = some (.slice A5 p.props.length c5) ∧ cs[6]? = some (.int .i64 p.depth) ∧ cs[7]? = some (.int .i64 p.nodes) ∧ cs[8]? = some (.int .i64 p.bytes)) ∧
    StrsAt w S A1 p.elems.length p.elems ∧ StrsAt w S A2 p.attrs.length p.attrs ∧ StrsAt w S A3 p.schemes.length p.schemes ∧ StrsAt w S A4 p.classes.length p.classes ∧ StrsAt w S A5 p.props.length p.props ∧ ∀ g, S g → g < w.heap.size := by
  obtain ⟨A1, c1, A2, c2, A3, c3, A4, c4, A5, c5, rfl, h1, h2, h3, h4, h5, h6⟩ := h
  exact ⟨A1, c1, A2, c2, A3, c3, A4, c4, A5, c5, ⟨rfl, rfl, rfl, rfl, rfl, rfl, rfl, rfl, rfl⟩, h1, h2, h3, h4, h5, h6⟩

set_option maxRecDepth 100000 in
set_option maxHeartbeats 4000000 in
theorem elem_u {w : World} {S : Nat → Prop} {cs : Array Value} {p : Pol} (s : B) (h : PolV w S cs p) (hp : PolSmall p) :
    Calls Tryz.prog 70 #[.agg cs, .string (bs s)] w fun e w' => e = .returned (.bool (elemP p s)) ∧ Below w.heap.size w w' := by
  have hcs := pol_cells h
  obtain ⟨A1, c1, A2, c2, A3, c3, A4, c4, A5, c5, ⟨k0, k1, k2, k3, k4, k5, k6, k7, k8⟩, h1, h2, h3, h4, h5, h6⟩ := h.cells
  have hb : Below w.heap.size w (w.alloc (.cells cs 24)) := (Below.refl _ w).alloc (Nat.le_refl _) _
  have h1' := h1.keep (KeepS.below hb h6)
  go_enter Tryz.func70, Tryz.ntmps70
  go_wp2_with fail
  refine (contains_u s h1' (by have := hp.1.1; omega)).mono ?_
  rintro e w1 ⟨rfl, hw1⟩
  rw [hw1]
  clear hw1
  go_wp2_with fail
  go_ret
  exact ⟨by unfold elemP; simp, hb⟩

set_option maxRecDepth 100000 in
set_option maxHeartbeats 4000000 in
theorem attr_u {w : World} {S : Nat → Prop} {cs : Array Value} {p : Pol} (e a : B) (h : PolV w S cs p) (hp : PolSmall p) (hl : e.length + a.length ≤ 60000000) :
    Calls Tryz.prog 92 #[.agg cs, .string (bs e), .string (bs a)] w fun e' w' => e' = .returned (.bool (attrP p e a)) ∧ Below w.heap.size w w' := by
  have hcs := pol_cells h
  obtain ⟨A1, c1, A2, c2, A3, c3, A4, c4, A5, c5, ⟨k0, k1, k2, k3, k4, k5, k6, k7, k8⟩, h1, h2, h3, h4, h5, h6⟩ := h.cells
  have hb : Below w.heap.size w (w.alloc (.cells cs 24)) := (Below.refl _ w).alloc (Nat.le_refl _) _
  have hV := h.keep hb
  have hB : Blk (w.alloc (.cells cs 24)) w.heap.size 24 cs := Blk.new w 24 cs
  go_enter Tryz.func92, Tryz.ntmps92
  apply wp_seq_k
  intro K hK
  have HK := Lib.hid hK
  clear hK
  go_wp2_with fail
  refine HK.out _ _ ?_
  clear HK K
  have hsz : cs.size = 9 := by
    obtain ⟨_, _, _, _, _, _, _, _, _, _, rfl, _⟩ := h
    rfl
  have hi24 : (Tryz.prog.info? 24).map (·.size) = some cs.size := by rw [hsz]; kernel_rfl
  have a2 : (w.alloc (.cells cs 24)).cell? ⟨w.heap.size, 2, none⟩ = some (.slice A2 p.attrs.length c2) := (Blk.cell hB 2).trans k2
  have h2' := h2.keep (KeepS.below hb h6)
  generalize w.alloc (.cells cs 24) = W at hV hB hb a2 h2' ⊢
  have hB' : W.heap[w.heap.size]? = some (.cells cs 24 (0, 0)) := hB
  have hbw := hb.size
  clear hcs k0 k1 k2 k3 k4 k5 k6 k7 k8 h1 h2 h3 h4 h5 hB
  have he := elem_u e hV hp
  go_wp2_with (first
    | (with_reducible refine wpList_load_row rfl 24 (.tmp 3) rfl w.heap.size rfl 24 cs (0, 0) _ hB' Tryz.underlying24 rfl hi24 ?_))
  refine he.mono ?_
  rintro e1 w1 ⟨rfl, hb1⟩
  have b2 : w1.cell? ⟨w.heap.size, 2, none⟩ = some (.slice A2 p.attrs.length c2) := (hb1.cell (p := ⟨w.heap.size, 2, none⟩) (World.block_lt_of_cell? W ⟨w.heap.size, 2, none⟩ a2)).trans a2
  have s2 := h2'.keep (KeepS.below hb1 (fun g hg => Nat.lt_of_lt_of_le (h6 g hg) hbw))
  have hb3 := hb.trans (hb1.mono hbw)
  clear hB' he hi24 a2 h2' hb hb1
  have ap1 : (⟨#[42, 46]⟩ : ByteArray) ++ bs a = bs (42 :: 46 :: a) := bs_append [42, 46] a
  have ap2 : bs e ++ (⟨#[46]⟩ : ByteArray) = bs (e ++ [46]) := bs_append e [46]
  have ap3 : bs (e ++ [46]) ++ bs a = bs (e ++ 46 :: a) := by rw [bs_append, List.append_assoc]; rfl
  have z1 : ¬ (9223372036854775807 < (⟨#[42, 46]⟩ : ByteArray).size + (bs a).size) := by rw [bs_size]; have : (⟨#[42, 46]⟩ : ByteArray).size = 2 := rfl; omega
  have z2 : ¬ (9223372036854775807 < (bs e).size + (⟨#[46]⟩ : ByteArray).size) := by rw [bs_size]; have : (⟨#[46]⟩ : ByteArray).size = 1 := rfl; omega
  have z3 : ¬ (9223372036854775807 < (bs (e ++ [46])).size + (bs a).size) := by rw [bs_size, bs_size, List.length_append, List.length_singleton]; omega
  have HA := Lib.hid (show attrP p e a = (elemP p e && (p.attrs.contains (42 :: 46 :: a) || p.attrs.contains (e ++ 46 :: a))) from by unfold attrP; rw [List.append_assoc]; rfl)
  cases hel : elemP p e with
  | false =>
    rw [hel] at HA
    go_wp2_with fail
    go_ret
    exact ⟨by rw [HA.out]; rfl, hb3⟩
  | true =>
    rw [hel] at HA
    go_wp2_with fail
    refine (contains_u (42 :: 46 :: a) s2 (by have := hp.2.1.1; omega)).mono ?_
    generalize p.attrs.contains (42 :: 46 :: a) = z at HA
    rintro e2 w2 ⟨rfl, hw2⟩
    rw [hw2]
    clear hw2 w2
    cases z with
    | true =>
      go_wp2_with fail
      go_ret
      exact ⟨by rw [HA.out]; rfl, hb3⟩
    | false =>
      go_wp2_with fail
      refine (contains_u (e ++ 46 :: a) s2 (by have := hp.2.1.1; omega)).mono ?_
      generalize p.attrs.contains (e ++ 46 :: a) = z2 at HA
      rintro e3 w3 ⟨rfl, hw3⟩
      rw [hw3]
      clear hw3 w3
      go_wp2_with fail
      go_ret
      exact ⟨by rw [HA.out]; rfl, hb3⟩
end Go.Proofs.YtlgaeeedkihfpaaGreatDoor.Uf

/-
  policy.all.
-/
namespace Go.Proofs.YtlgaeeedkihfpaaGreatDoor.Uf
open Go.RowKit
open Tz (B Pol allP strictP looseA)

theorem all_take {a b : List B} {i : Nat} (hi : i < a.length) (h : (a.take i).all (fun s => b.contains s) = true) : (a.take (i + 1)).all (fun s => b.contains s) = b.contains a[i] := by
  rw [List.take_add_one, List.getElem?_eq_getElem hi, List.all_append, h]
  simp
theorem all_miss {α : Type} {l : List α} {f : α → Bool} {i : Nat} (hi : i < l.length) (h : f l[i] = false) : l.all f = false := by
  rw [← Bool.not_eq_true, List.all_eq_true]
  intro hh
  rw [hh _ (List.getElem_mem hi)] at h
  cases h
set_option maxRecDepth 100000 in
set_option maxHeartbeats 4000000 in
theorem all_u {w : World} {S1 S2 : Nat → Prop} {A1 A2 : Option Addr} {c1 c2 : Nat} {a b : List B} (h1 : StrsAt w S1 A1 a.length a) (h2 : StrsAt w S2 A2 b.length b) (hS1 : ∀ g, S1 g → g < w.heap.size) (hS2 : ∀ g, S2 g → g < w.heap.size) (ha : a.length ≤ 1000000) (hb : b.length ≤ 1000000) :
    Calls Tryz.prog 34 #[.slice A1 a.length c1, .slice A2 b.length c2] w fun e w' => e = .returned (.bool (allP a b)) ∧ Below w.heap.size w w' := by
  obtain ⟨res, hres⟩ : ∃ res, res = allP a b := ⟨_, rfl⟩
  rw [← hres]
  have HRES := Lib.hid (show res = a.all (fun s => b.contains s) from hres)
  clear hres
  go_enter Tryz.func34, Tryz.ntmps34
  go_wp2_with fail
  go_loopw [9] (fun vi wr => ∃ i : Nat, vi = .int .i64 i ∧ i ≤ a.length ∧ (a.take i).all (fun s => b.contains s) = true ∧ Below w.heap.size w wr) (fun vi _ => a.length - kOf vi)
  case atStart => exact ⟨0, rfl, Nat.zero_le _, rfl, Below.refl _ _⟩
  case round =>
    obtain ⟨i, rfl, hi, hall, hbi⟩ := hrel
    by_cases hlt : i < a.length
    · have t0 : (i : Int) < (a.length : Int) := by omega
      obtain ⟨g, o, rfl, hSg, hcs⟩ := h1.2 (by omega)
      have kc : wr.cell? ⟨g, o + i, none⟩ = some (.string (bs a[i])) := (hbi.cell (p := ⟨g, o + i, none⟩) (hS1 g hSg)).trans (hcs i hlt)
      have hst := all_take hlt hall
      have hms := fun h => all_miss (f := fun s => b.contains s) hlt h
      generalize a[i] = x at kc hst hms
      have hi1 : IntKind.i64.wrap ((i : Int) + 1) = ((i + 1 : Nat) : Int) := by rw [IntKind.wrap_i64]; omega
      have HST := Lib.hid (And.intro hst hms)
      clear hst hms hall
      go_wp2_with fail
      refine (contains_u x (h2.keep (KeepS.below hbi hS2)) (by omega)).mono ?_
      rintro e2 w2 ⟨rfl, hw2⟩
      have hb2 : Below w.heap.size w w2 := by rw [hw2]; exact ⟨hbi.os, hbi.tape, hbi.output, hbi.size, hbi.block⟩
      clear hw2 kc
      cases hz : b.contains x with
      | true =>
        have HZ := Lib.hid hz
        clear hz
        go_wp2_with fail
        go_roundw
        case rel => exact ⟨i + 1, rfl, hlt, by rw [HST.out.1]; exact HZ.out, hb2⟩
        case measure =>
          show a.length - kOf (.int .i64 ((i + 1 : Nat) : Int)) < a.length - kOf (.int .i64 (i : Int))
          simp only [kOf, Int.toNat_natCast]
          omega
      | false =>
        have HZ := Lib.hid hz
        clear hz
        go_wp2_with fail
        go_ret
        have hr : res = false := by rw [HRES.out]; exact HST.out.2 HZ.out
        exact ⟨by rw [hr]; rfl, hb2⟩
    · have t0 : ¬ (i : Int) < (a.length : Int) := by omega
      have hkt : a.take i = a := List.take_of_length_le (by omega)
      rw [hkt] at hall
      go_wp2_with fail
      go_ret
      have hr : res = true := by rw [HRES.out]; exact hall
      exact ⟨by rw [hr]; rfl, hbi⟩
end Go.Proofs.YtlgaeeedkihfpaaGreatDoor.Uf

/-
  policy.Stricter.
-/
namespace Go.Proofs.YtlgaeeedkihfpaaGreatDoor.Uf
open Go.RowKit
open Tz (B Pol allP strictP looseA)

theorem strict_miss {p q : Pol} (h : p.attrs.all (looseA q) = false) : strictP p q = false := by unfold strictP; rw [h]; rfl
theorem strict_caps {p q : Pol} (h : ¬ (p.depth ≤ q.depth ∧ p.nodes ≤ q.nodes ∧ p.bytes ≤ q.bytes)) : strictP p q = false := by
  unfold strictP
  have : (decide (p.depth ≤ q.depth) && decide (p.nodes ≤ q.nodes) && decide (p.bytes ≤ q.bytes)) = false := by
    rw [← Bool.not_eq_true]
    intro hh
    simp only [Bool.and_eq_true, decide_eq_true_eq] at hh
    exact h ⟨hh.1.1, hh.1.2, hh.2⟩
  rw [this]
  simp
theorem strict_rest {p q : Pol} (h1 : p.attrs.all (looseA q) = true) (h2 : p.depth ≤ q.depth ∧ p.nodes ≤ q.nodes ∧ p.bytes ≤ q.bytes) : strictP p q = (allP p.elems q.elems && allP p.schemes q.schemes && allP p.classes q.classes && allP p.props q.props) := by
  unfold strictP
  rw [h1]
  simp [h2.1, h2.2.1, h2.2.2]
theorem loose_take {p q : Pol} {i : Nat} (hi : i < p.attrs.length) (h : (p.attrs.take i).all (looseA q) = true) : (p.attrs.take (i + 1)).all (looseA q) = looseA q p.attrs[i] := by
  rw [List.take_add_one, List.getElem?_eq_getElem hi, List.all_append, h]
  simp

set_option maxRecDepth 100000 in
set_option maxHeartbeats 8000000 in
theorem strict_u {w : World} {SP SQ : Nat → Prop} {cs ds : Array Value} {p q : Pol} (h : PolV w SP cs p) (hq : PolV w SQ ds q) (hp : PolSmall p) (hqs : PolSmall q) :
    Calls Tryz.prog 14 #[.agg cs, .agg ds] w fun e w' => e = .returned (.bool (strictP p q)) ∧ Below w.heap.size w w' := by
  have hcs := pol_cells h
  have hds := pol_cells hq
  obtain ⟨A1, c1, A2, c2, A3, c3, A4, c4, A5, c5, ⟨k0, k1, k2, k3, k4, k5, k6, k7, k8⟩, h1, h2, h3, h4, h5, h6⟩ := h.cells
  obtain ⟨B1, e1, B2, e2, B3, e3, B4, e4, B5, e5, ⟨l0, l1, l2, l3, l4, l5, l6, l7, l8⟩, g1, g2, g3, g4, g5, g6⟩ := hq.cells
  have hb : Below w.heap.size w ((w.alloc (.cells cs 24)).alloc (.cells ds 24)) := ((Below.refl _ w).alloc (Nat.le_refl _) _).alloc (by rw [alloc_size]; omega) _
  have hP : Blk ((w.alloc (.cells cs 24)).alloc (.cells ds 24)) w.heap.size 24 cs := Blk.alloc (Blk.new w 24 cs) _
  have hQ : Blk ((w.alloc (.cells cs 24)).alloc (.cells ds 24)) (w.heap.size + 1) 24 ds := by
    have := Blk.new (w.alloc (.cells cs 24)) 24 ds
    rw [alloc_size] at this
    exact this
  obtain ⟨res, hres⟩ : ∃ res, res = strictP p q := ⟨_, rfl⟩
  rw [← hres]
  have HRES := Lib.hid hres
  have HKL := Lib.hid (And.intro (And.intro k1 (And.intro k2 (And.intro k3 (And.intro k4 (And.intro k5 (And.intro k6 (And.intro k7 k8))))))) (And.intro l1 (And.intro l2 (And.intro l3 (And.intro l4 (And.intro l5 (And.intro l6 (And.intro l7 l8))))))))
  have HS := Lib.hid (And.intro (And.intro h1 (And.intro h2 (And.intro h3 (And.intro h4 h5)))) (And.intro g1 (And.intro g2 (And.intro g3 (And.intro g4 g5)))))
  have hla := hp.2.1.1
  have hlq := hqs.2.1.1
  clear hres h hq h1 h2 h3 h4 h5 g1 g2 g3 g4 g5 k0 k1 k2 k3 k4 k5 k6 k7 k8 l0 l1 l2 l3 l4 l5 l6 l7 l8
  go_enter Tryz.func14, Tryz.ntmps14
  apply wp_seq_k
  intro K' hK
  have HK := Lib.hid hK
  clear hK
  go_wp2_with fail
  refine HK.out _ _ ?_
  clear HK K' hcs hds
  generalize ((w.alloc (.cells cs 24)).alloc (.cells ds 24)) = V at hb hP hQ ⊢
  have a2 : V.cell? ⟨w.heap.size, 2, none⟩ = some (.slice A2 p.attrs.length c2) := (Blk.cell hP 2).trans HKL.out.1.2.1
  have hbs := hb.size
  have hPl := heap_lt hP
  have hQl := heap_lt hQ
  apply wp_seq_k
  intro K' hK
  have HK := Lib.hid hK
  clear hK
  go_wp2_with fail
  go_loopw [13] (fun vi wr => ∃ i : Nat, vi = .int .i64 i ∧ i ≤ p.attrs.length ∧ (p.attrs.take i).all (looseA q) = true ∧ Below V.heap.size V wr) (fun vi _ => p.attrs.length - kOf vi)
  case atStart => exact ⟨0, rfl, Nat.zero_le _, rfl, Below.refl _ _⟩
  case round =>
    clear a2
    obtain ⟨i, rfl, hi, hall, hbi⟩ := hrel
    by_cases hlt : i < p.attrs.length
    · have t0 : (i : Int) < (p.attrs.length : Int) := by omega
      obtain ⟨g, o, rfl, hSg, hcc⟩ := HS.out.1.2.1.2 (by omega)
      have hgl := h6 g hSg
      have kc : wr.cell? ⟨g, o + i, none⟩ = some (.string (bs p.attrs[i])) := (hbi.cell (p := ⟨g, o + i, none⟩) (Nat.lt_of_lt_of_le hgl hbs)).trans ((hb.cell (p := ⟨g, o + i, none⟩) hgl).trans (hcc i hlt))
      have hsx := hp.2.1.2 p.attrs[i] (List.getElem_mem hlt)
      have hst := loose_take (q := q) hlt hall
      have hms := fun h => all_miss (f := looseA q) hlt h
      generalize p.attrs[i] = x at kc hst hms hsx
      have hi1 : IntKind.i64.wrap ((i : Int) + 1) = ((i + 1 : Nat) : Int) := by rw [IntKind.wrap_i64]; omega
      have HST := Lib.hid (And.intro hst hms)
      clear hst hms hall
      have hb2 : Below w.heap.size w wr := hb.trans (hbi.mono hbs)
      have hL : ∀ W, Below V.heap.size V W → StrsAt W SQ B2 q.attrs.length q.attrs ∧ W.cell? ⟨w.heap.size + 1, 2, none⟩ = some (.slice B2 q.attrs.length e2) := fun W hW => ⟨HS.out.2.2.1.keep (KeepS.below (hb.trans (hW.mono hbs)) g6), (hW.cell (p := ⟨w.heap.size + 1, 2, none⟩) hQl).trans ((Blk.cell hQ 2).trans HKL.out.2.2.1)⟩
      have HL := Lib.hid hL
      clear hL
      go_wp2_with fail
      refine (index_byte x 46 (by decide)).mono ?_
      rintro e1 w1 ⟨rfl, hw1⟩
      have hb1 : Below V.heap.size V w1 := by rw [hw1]; exact ⟨hbi.os, hbi.tape, hbi.output, hbi.size, hbi.block⟩
      clear hw1 kc hbi hb2
      have e46 : UInt8.ofNat 46 = (46 : UInt8) := rfl
      rw [e46]
      have hd1 := HL.out w1 hb1
      have q21 := hd1.2
      cases hdw : x.dropWhile (· != 46) with
      | nil =>
        have hix := ixB_none hdw
        have HDW := Lib.hid hdw
        rw [hix]
        clear hdw hix
        go_wp2_with fail
        refine (contains_u x hd1.1 (by omega)).mono ?_
        rintro e2 w2 ⟨rfl, hw2⟩
        have hb2 : Below V.heap.size V w2 := by rw [hw2]; exact ⟨hb1.os, hb1.tape, hb1.output, hb1.size, hb1.block⟩
        have hd2 := HL.out w2 hb2
        have q22 := hd2.2
        clear hw2 q21 hd1
        cases hz : q.attrs.contains x with
        | true =>
          have hlo := Lib.hid (show looseA q x = true by unfold looseA; rw [hz]; rfl)
          clear hz
          go_wp2_with fail
          go_roundw
          case rel => exact ⟨i + 1, rfl, hlt, by rw [HST.out.1]; exact hlo.out, hb2⟩
          case measure =>
            show p.attrs.length - kOf (.int .i64 ((i + 1 : Nat) : Int)) < p.attrs.length - kOf (.int .i64 (i : Int))
            simp only [kOf, Int.toNat_natCast]
            omega
        | false =>
          have hlo := Lib.hid (show looseA q x = q.attrs.contains [42] by unfold looseA; rw [hz, HDW.out]; rfl)
          clear hz
          go_wp2_with fail
          refine (contains_u [42] hd2.1 (by omega)).mono ?_
          rintro e3 w3 ⟨rfl, hw3⟩
          have hb3 : Below V.heap.size V w3 := by rw [hw3]; exact ⟨hb2.os, hb2.tape, hb2.output, hb2.size, hb2.block⟩
          clear hw3 hd2 q22
          generalize q.attrs.contains [42] = z at hlo
          cases z with
          | true =>
            go_wp2_with fail
            go_roundw
            case rel => exact ⟨i + 1, rfl, hlt, by rw [HST.out.1]; exact hlo.out, hb3⟩
            case measure =>
              show p.attrs.length - kOf (.int .i64 ((i + 1 : Nat) : Int)) < p.attrs.length - kOf (.int .i64 (i : Int))
              simp only [kOf, Int.toNat_natCast]
              omega
          | false =>
            go_wp2_with fail
            go_ret
            have hr : res = false := by rw [HRES.out]; exact strict_miss (HST.out.2 hlo.out)
            exact ⟨by rw [hr]; rfl, hb.trans (hb3.mono hbs)⟩
      | cons d t =>
        obtain ⟨hix, hd, htk, hdr, hxl⟩ := ixB_some hdw
        subst hd
        have HDW := Lib.hid hdw
        rw [hix]
        obtain ⟨k, hk⟩ : ∃ k, k = (x.takeWhile (· != 46)).length := ⟨_, rfl⟩
        rw [← hk] at hdr hxl ⊢
        have hex : (bs x).extract k (bs x).size = bs (46 :: t) := by rw [bs_extract, hdr, List.take_of_length_le]; rw [bs_size]; rw [← hdr, List.length_drop]; omega
        have ap : (⟨#[42]⟩ : ByteArray) ++ bs (46 :: t) = bs (42 :: 46 :: t) := bs_append [42] (46 :: t)
        have z1 : (k : Int) ≤ ((bs x).size : Int) := by rw [bs_size]; omega
        have z2 : ¬ (9223372036854775807 < (⟨#[42]⟩ : ByteArray).size + (bs (46 :: t)).size) := by rw [bs_size]; have : (⟨#[42]⟩ : ByteArray).size = 1 := rfl; simp only [List.length_cons]; omega
        have z3 : ¬ (9223372036854775807 < 1 + (bs (46 :: t)).size) := z2
        clear hdw hix hk hdr hxl htk
        go_wp2_with fail
        refine (contains_u x hd1.1 (by omega)).mono ?_
        rintro e2 w2 ⟨rfl, hw2⟩
        have hb2 : Below V.heap.size V w2 := by rw [hw2]; exact ⟨hb1.os, hb1.tape, hb1.output, hb1.size, hb1.block⟩
        have hd2 := HL.out w2 hb2
        have q22 := hd2.2
        clear hw2 q21 hd1
        cases hz : q.attrs.contains x with
        | true =>
          have hlo := Lib.hid (show looseA q x = true by unfold looseA; rw [hz]; rfl)
          clear hz
          go_wp2_with fail
          go_roundw
          case rel => exact ⟨i + 1, rfl, hlt, by rw [HST.out.1]; exact hlo.out, hb2⟩
          case measure =>
            show p.attrs.length - kOf (.int .i64 ((i + 1 : Nat) : Int)) < p.attrs.length - kOf (.int .i64 (i : Int))
            simp only [kOf, Int.toNat_natCast]
            omega
        | false =>
          have hlo := Lib.hid (show looseA q x = q.attrs.contains (42 :: 46 :: t) by unfold looseA; rw [hz, HDW.out]; rfl)
          clear hz
          go_wp2_with fail
          refine (contains_u (42 :: 46 :: t) hd2.1 (by omega)).mono ?_
          rintro e3 w3 ⟨rfl, hw3⟩
          have hb3 : Below V.heap.size V w3 := by rw [hw3]; exact ⟨hb2.os, hb2.tape, hb2.output, hb2.size, hb2.block⟩
          clear hw3 hd2 q22
          generalize q.attrs.contains (42 :: 46 :: t) = z at hlo
          cases z with
          | true =>
            go_wp2_with fail
            go_roundw
            case rel => exact ⟨i + 1, rfl, hlt, by rw [HST.out.1]; exact hlo.out, hb3⟩
            case measure =>
              show p.attrs.length - kOf (.int .i64 ((i + 1 : Nat) : Int)) < p.attrs.length - kOf (.int .i64 (i : Int))
              simp only [kOf, Int.toNat_natCast]
              omega
          | false =>
            go_wp2_with fail
            go_ret
            have hr : res = false := by rw [HRES.out]; exact strict_miss (HST.out.2 hlo.out)
            exact ⟨by rw [hr]; rfl, hb.trans (hb3.mono hbs)⟩
    · have t0 : ¬ (i : Int) < (p.attrs.length : Int) := by omega
      have hkt : p.attrs.take i = p.attrs := List.take_of_length_le (by omega)
      rw [hkt] at hall
      have hb2 : Below w.heap.size w wr := hb.trans (hbi.mono hbs)
      go_wp2_with fail
      refine HK.out _ _ ?_
      clear HK
      have a6 : wr.cell? ⟨w.heap.size, 6, none⟩ = some (.int .i64 p.depth) := (hbi.cell (p := ⟨w.heap.size, 6, none⟩) hPl).trans ((Blk.cell hP 6).trans HKL.out.1.2.2.2.2.2.1)
      have a7 : wr.cell? ⟨w.heap.size, 7, none⟩ = some (.int .i64 p.nodes) := (hbi.cell (p := ⟨w.heap.size, 7, none⟩) hPl).trans ((Blk.cell hP 7).trans HKL.out.1.2.2.2.2.2.2.1)
      have a8 : wr.cell? ⟨w.heap.size, 8, none⟩ = some (.int .i64 p.bytes) := (hbi.cell (p := ⟨w.heap.size, 8, none⟩) hPl).trans ((Blk.cell hP 8).trans HKL.out.1.2.2.2.2.2.2.2)
      have b6 : wr.cell? ⟨w.heap.size + 1, 6, none⟩ = some (.int .i64 q.depth) := (hbi.cell (p := ⟨w.heap.size + 1, 6, none⟩) hQl).trans ((Blk.cell hQ 6).trans HKL.out.2.2.2.2.2.2.1)
      have b7 : wr.cell? ⟨w.heap.size + 1, 7, none⟩ = some (.int .i64 q.nodes) := (hbi.cell (p := ⟨w.heap.size + 1, 7, none⟩) hQl).trans ((Blk.cell hQ 7).trans HKL.out.2.2.2.2.2.2.2.1)
      have b8 : wr.cell? ⟨w.heap.size + 1, 8, none⟩ = some (.int .i64 q.bytes) := (hbi.cell (p := ⟨w.heap.size + 1, 8, none⟩) hQl).trans ((Blk.cell hQ 8).trans HKL.out.2.2.2.2.2.2.2.2)
      have HALL := Lib.hid hall
      clear hall
      have hPw : w.heap.size < wr.heap.size := Nat.lt_of_lt_of_le hPl hbi.size
      have hQw : w.heap.size + 1 < wr.heap.size := Nat.lt_of_lt_of_le hQl hbi.size
      have HZ := Lib.hid (And.intro ((hbi.cell (p := ⟨w.heap.size, 1, none⟩) hPl).trans ((Blk.cell hP 1).trans HKL.out.1.1)) ((hbi.cell (p := ⟨w.heap.size + 1, 1, none⟩) hQl).trans ((Blk.cell hQ 1).trans HKL.out.2.1)))
      by_cases hcaps : p.depth ≤ q.depth ∧ p.nodes ≤ q.nodes ∧ p.bytes ≤ q.bytes
      · have m1 : min p.depth q.depth = p.depth := by omega
        have m2 : min p.nodes q.nodes = p.nodes := by omega
        have m3 : min p.bytes q.bytes = p.bytes := by omega
        have HR := Lib.hid (show res = (allP p.elems q.elems && allP p.schemes q.schemes && allP p.classes q.classes && allP p.props q.props) by rw [HRES.out]; exact strict_rest HALL.out hcaps)
        clear hcaps
        go_wp2_with (first
          | ((with_reducible refine store_new rfl 77 (.tmp 9) (.tmp 44) rfl #[.int .i64 p.depth, .int .i64 p.nodes, .int .i64 p.bytes] rfl rfl (by kernel_rfl) (by kernel_rfl) (by simp [Value.oneCell']) ?_); intro W3 hB3 hb3; have n0 : W3.cell? ⟨wr.heap.size, 0, none⟩ = some (.int .i64 p.depth) := Blk.cell hB3 0; have n1 : W3.cell? ⟨wr.heap.size, 1, none⟩ = some (.int .i64 p.nodes) := Blk.cell hB3 1; have n2 : W3.cell? ⟨wr.heap.size, 2, none⟩ = some (.int .i64 p.bytes) := Blk.cell hB3 2; have b6 := (hb3.cell (p := ⟨w.heap.size + 1, 6, none⟩) hQw).trans b6; have b7 := (hb3.cell (p := ⟨w.heap.size + 1, 7, none⟩) hQw).trans b7; have b8 := (hb3.cell (p := ⟨w.heap.size + 1, 8, none⟩) hQw).trans b8; have z1 := (hb3.cell (p := ⟨w.heap.size, 1, none⟩) hPw).trans HZ.out.1; have z2 := (hb3.cell (p := ⟨w.heap.size + 1, 1, none⟩) hQw).trans HZ.out.2)
          | (with_reducible refine wpList_load_row rfl 77 (.tmp 9) rfl wr.heap.size rfl 77 #[.int .i64 p.depth, .int .i64 p.nodes, .int .i64 p.bytes] (0, 0) _ hB3 Tryz.underlying77 rfl (by kernel_rfl) ?_))
        have hV0 := hbi.trans (hb3.mono hbi.size)
        have hX0 := hb2.trans (hb3.mono hb2.size)
        clear hB3 n0 n1 n2 b6 b7 b8 m1 m2 m3 z1 z2 a6 a7 a8
        refine (all_u (HS.out.1.1.keep (KeepS.below hX0 h6)) (HS.out.2.1.keep (KeepS.below hX0 g6)) (fun g hg => Nat.lt_of_lt_of_le (h6 g hg) hX0.size) (fun g hg => Nat.lt_of_lt_of_le (g6 g hg) hX0.size) (by have := hp.1.1; omega) (by have := hqs.1.1; omega)).mono ?_
        generalize allP p.elems q.elems = y0 at HR
        rintro x0 Y0 ⟨rfl, hy0⟩
        have hX1 := hX0.trans (hy0.mono hX0.size)
        have hV1 := hV0.trans (hy0.mono hV0.size)
        have z3 := (hV1.cell (p := ⟨w.heap.size, 3, none⟩) hPl).trans ((Blk.cell hP 3).trans HKL.out.1.2.2.1)
        have z4 := (hV1.cell (p := ⟨w.heap.size + 1, 3, none⟩) hQl).trans ((Blk.cell hQ 3).trans HKL.out.2.2.2.1)
        clear hy0
        cases y0 with
        | false =>
          go_wp2_with fail
          go_ret
          have hr : res = false := by rw [HR.out]; simp
          exact ⟨by rw [hr]; rfl, hX1⟩
        | true =>
          go_wp2_with fail
          refine (all_u (HS.out.1.2.2.1.keep (KeepS.below hX1 h6)) (HS.out.2.2.2.1.keep (KeepS.below hX1 g6)) (fun g hg => Nat.lt_of_lt_of_le (h6 g hg) hX1.size) (fun g hg => Nat.lt_of_lt_of_le (g6 g hg) hX1.size) (by have := hp.2.2.1.1; omega) (by have := hqs.2.2.1.1; omega)).mono ?_
          generalize allP p.schemes q.schemes = y1 at HR
          rintro x1 Y1 ⟨rfl, hy1⟩
          have hX2 := hX1.trans (hy1.mono hX1.size)
          have hV2 := hV1.trans (hy1.mono hV1.size)
          have z5 := (hV2.cell (p := ⟨w.heap.size, 4, none⟩) hPl).trans ((Blk.cell hP 4).trans HKL.out.1.2.2.2.1)
          have z6 := (hV2.cell (p := ⟨w.heap.size + 1, 4, none⟩) hQl).trans ((Blk.cell hQ 4).trans HKL.out.2.2.2.2.1)
          clear hy1
          cases y1 with
          | false =>
            go_wp2_with fail
            go_ret
            have hr : res = false := by rw [HR.out]; simp
            exact ⟨by rw [hr]; rfl, hX2⟩
          | true =>
            go_wp2_with fail
            refine (all_u (HS.out.1.2.2.2.1.keep (KeepS.below hX2 h6)) (HS.out.2.2.2.2.1.keep (KeepS.below hX2 g6)) (fun g hg => Nat.lt_of_lt_of_le (h6 g hg) hX2.size) (fun g hg => Nat.lt_of_lt_of_le (g6 g hg) hX2.size) (by have := hp.2.2.2.1.1; omega) (by have := hqs.2.2.2.1.1; omega)).mono ?_
            generalize allP p.classes q.classes = y2 at HR
            rintro x2 Y2 ⟨rfl, hy2⟩
            have hX3 := hX2.trans (hy2.mono hX2.size)
            have hV3 := hV2.trans (hy2.mono hV2.size)
            have z7 := (hV3.cell (p := ⟨w.heap.size, 5, none⟩) hPl).trans ((Blk.cell hP 5).trans HKL.out.1.2.2.2.2.1)
            have z8 := (hV3.cell (p := ⟨w.heap.size + 1, 5, none⟩) hQl).trans ((Blk.cell hQ 5).trans HKL.out.2.2.2.2.2.1)
            clear hy2
            cases y2 with
            | false =>
              go_wp2_with fail
              go_ret
              have hr : res = false := by rw [HR.out]; simp
              exact ⟨by rw [hr]; rfl, hX3⟩
            | true =>
              go_wp2_with fail
              refine (all_u (HS.out.1.2.2.2.2.keep (KeepS.below hX3 h6)) (HS.out.2.2.2.2.2.keep (KeepS.below hX3 g6)) (fun g hg => Nat.lt_of_lt_of_le (h6 g hg) hX3.size) (fun g hg => Nat.lt_of_lt_of_le (g6 g hg) hX3.size) (by have := hp.2.2.2.2.1; omega) (by have := hqs.2.2.2.2.1; omega)).mono ?_
              generalize allP p.props q.props = y3 at HR
              rintro x3 Y3 ⟨rfl, hy3⟩
              have hX4 := hX3.trans (hy3.mono hX3.size)
              clear hy3
              cases y3 with
              | false =>
                go_wp2_with fail
                go_ret
                have hr : res = false := by rw [HR.out]; simp
                exact ⟨by rw [hr]; rfl, hX4⟩
              | true =>
                go_wp2_with fail
                go_ret
                have hr : res = true := by rw [HR.out]; simp
                exact ⟨by rw [hr]; rfl, hX4⟩
      · have HR := Lib.hid (show res = false by rw [HRES.out]; exact strict_caps hcaps)
        by_cases c1 : p.depth ≤ q.depth
        · have m1 : min p.depth q.depth = p.depth := by omega
          by_cases c2 : p.nodes ≤ q.nodes
          · have m2 : min p.nodes q.nodes = p.nodes := by omega
            have c3 : ¬ p.bytes ≤ q.bytes := fun h => hcaps ⟨c1, c2, h⟩
            have m3 : min p.bytes q.bytes = q.bytes := by omega
            have ne : ¬ p.bytes = q.bytes := by omega
            clear c1 c2 c3 hcaps
            go_wp2_with (first
          | ((with_reducible refine store_new rfl 77 (.tmp 9) (.tmp 44) rfl #[.int .i64 p.depth, .int .i64 p.nodes, .int .i64 p.bytes] rfl rfl (by kernel_rfl) (by kernel_rfl) (by simp [Value.oneCell']) ?_); intro W3 hB3 hb3; have n0 : W3.cell? ⟨wr.heap.size, 0, none⟩ = some (.int .i64 p.depth) := Blk.cell hB3 0; have n1 : W3.cell? ⟨wr.heap.size, 1, none⟩ = some (.int .i64 p.nodes) := Blk.cell hB3 1; have n2 : W3.cell? ⟨wr.heap.size, 2, none⟩ = some (.int .i64 p.bytes) := Blk.cell hB3 2; have b6 := (hb3.cell (p := ⟨w.heap.size + 1, 6, none⟩) hQw).trans b6; have b7 := (hb3.cell (p := ⟨w.heap.size + 1, 7, none⟩) hQw).trans b7; have b8 := (hb3.cell (p := ⟨w.heap.size + 1, 8, none⟩) hQw).trans b8; have z1 := (hb3.cell (p := ⟨w.heap.size, 1, none⟩) hPw).trans HZ.out.1; have z2 := (hb3.cell (p := ⟨w.heap.size + 1, 1, none⟩) hQw).trans HZ.out.2)
          | (with_reducible refine wpList_load_row rfl 77 (.tmp 9) rfl wr.heap.size rfl 77 #[.int .i64 p.depth, .int .i64 p.nodes, .int .i64 p.bytes] (0, 0) _ hB3 Tryz.underlying77 rfl (by kernel_rfl) ?_))
            go_ret
            exact ⟨by rw [HR.out]; rfl, hb2.trans (hb3.mono hb2.size)⟩
          · have m2 : min p.nodes q.nodes = q.nodes := by omega
            have ne : ¬ p.nodes = q.nodes := by omega
            clear c1 c2 hcaps
            go_wp2_with (first
          | ((with_reducible refine store_new rfl 77 (.tmp 9) (.tmp 44) rfl #[.int .i64 p.depth, .int .i64 p.nodes, .int .i64 p.bytes] rfl rfl (by kernel_rfl) (by kernel_rfl) (by simp [Value.oneCell']) ?_); intro W3 hB3 hb3; have n0 : W3.cell? ⟨wr.heap.size, 0, none⟩ = some (.int .i64 p.depth) := Blk.cell hB3 0; have n1 : W3.cell? ⟨wr.heap.size, 1, none⟩ = some (.int .i64 p.nodes) := Blk.cell hB3 1; have n2 : W3.cell? ⟨wr.heap.size, 2, none⟩ = some (.int .i64 p.bytes) := Blk.cell hB3 2; have b6 := (hb3.cell (p := ⟨w.heap.size + 1, 6, none⟩) hQw).trans b6; have b7 := (hb3.cell (p := ⟨w.heap.size + 1, 7, none⟩) hQw).trans b7; have b8 := (hb3.cell (p := ⟨w.heap.size + 1, 8, none⟩) hQw).trans b8; have z1 := (hb3.cell (p := ⟨w.heap.size, 1, none⟩) hPw).trans HZ.out.1; have z2 := (hb3.cell (p := ⟨w.heap.size + 1, 1, none⟩) hQw).trans HZ.out.2)
          | (with_reducible refine wpList_load_row rfl 77 (.tmp 9) rfl wr.heap.size rfl 77 #[.int .i64 p.depth, .int .i64 p.nodes, .int .i64 p.bytes] (0, 0) _ hB3 Tryz.underlying77 rfl (by kernel_rfl) ?_))
            go_ret
            exact ⟨by rw [HR.out]; rfl, hb2.trans (hb3.mono hb2.size)⟩
        · have m1 : min p.depth q.depth = q.depth := by omega
          have ne : ¬ p.depth = q.depth := by omega
          clear c1 hcaps
          go_wp2_with (first
          | ((with_reducible refine store_new rfl 77 (.tmp 9) (.tmp 44) rfl #[.int .i64 p.depth, .int .i64 p.nodes, .int .i64 p.bytes] rfl rfl (by kernel_rfl) (by kernel_rfl) (by simp [Value.oneCell']) ?_); intro W3 hB3 hb3; have n0 : W3.cell? ⟨wr.heap.size, 0, none⟩ = some (.int .i64 p.depth) := Blk.cell hB3 0; have n1 : W3.cell? ⟨wr.heap.size, 1, none⟩ = some (.int .i64 p.nodes) := Blk.cell hB3 1; have n2 : W3.cell? ⟨wr.heap.size, 2, none⟩ = some (.int .i64 p.bytes) := Blk.cell hB3 2; have b6 := (hb3.cell (p := ⟨w.heap.size + 1, 6, none⟩) hQw).trans b6; have b7 := (hb3.cell (p := ⟨w.heap.size + 1, 7, none⟩) hQw).trans b7; have b8 := (hb3.cell (p := ⟨w.heap.size + 1, 8, none⟩) hQw).trans b8; have z1 := (hb3.cell (p := ⟨w.heap.size, 1, none⟩) hPw).trans HZ.out.1; have z2 := (hb3.cell (p := ⟨w.heap.size + 1, 1, none⟩) hQw).trans HZ.out.2)
          | (with_reducible refine wpList_load_row rfl 77 (.tmp 9) rfl wr.heap.size rfl 77 #[.int .i64 p.depth, .int .i64 p.nodes, .int .i64 p.bytes] (0, 0) _ hB3 Tryz.underlying77 rfl (by kernel_rfl) ?_))
          go_ret
          exact ⟨by rw [HR.out]; rfl, hb2.trans (hb3.mono hb2.size)⟩
end Go.Proofs.YtlgaeeedkihfpaaGreatDoor.Uf
