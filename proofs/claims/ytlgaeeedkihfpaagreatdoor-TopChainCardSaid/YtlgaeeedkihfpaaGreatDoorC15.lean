/-
  Texts of the proof of Chain, one behind the other: Lst, DomI, DomC.
-/
import Derived.Lib.SplitLaws
import Derived.Lib.CountLaws
import Derived.Test.YtlgaeeedkihfpaaGreatDoorC10
import Derived.Test.YtlgaeeedkihfpaaGreatDoorC08
import Derived.Test.YtlgaeeedkihfpaaGreatDoorC14
/-
  Lists of strings in memory; slices.Contains, strings.Cut, Split, Join, said over lists.
-/
namespace Go.Proofs.YtlgaeeedkihfpaaGreatDoor.Uf
open Go.RowKit
open Tz (B splitL cutL joinL)

/-- Strings as cells. -/
def strCells (l : List B) : List Value := l.map fun b => .string (bs b)
@[simp] theorem strCells_len (l : List B) : (strCells l).length = l.length := by simp [strCells]
theorem strCells_one (l : List B) : ∀ u ∈ strCells l, u.oneCell' = true := by
  intro u hu
  obtain ⟨b, _, rfl⟩ := List.mem_map.1 hu
  rfl
/-- A slice of strings in memory, in blocks of S. -/
def StrsAt (w : World) (S : Nat → Prop) (A : Option Addr) (n : Nat) (l : List B) : Prop := n = l.length ∧ (0 < l.length → ∃ g o, A = some ⟨g, o, none⟩ ∧ S g ∧ ∀ j (h : j < l.length), w.cell? ⟨g, o + j, none⟩ = some (.string (bs l[j])))
theorem StrsAt.keep {w w' : World} {S : Nat → Prop} {A : Option Addr} {n : Nat} {l : List B} (h : StrsAt w S A n l) (hk : KeepS S w w') : StrsAt w' S A n l :=
  ⟨h.1, fun hn => by
    obtain ⟨g, o, e, hb, hc⟩ := h.2 hn
    exact ⟨g, o, e, hb, fun j hj => (cell_heap (hk _ hb)).trans (hc j hj)⟩⟩
theorem StrsAt.mono {w : World} {S S' : Nat → Prop} {A : Option Addr} {n : Nat} {l : List B} (h : StrsAt w S A n l) (hS : ∀ g, S g → S' g) : StrsAt w S' A n l :=
  ⟨h.1, fun hn => by
    obtain ⟨g, o, e, hb, hc⟩ := h.2 hn
    exact ⟨g, o, e, hS _ hb, hc⟩⟩
theorem bs_out (s : ByteArray) : s = bs s.data.toList := rfl
theorem StrsAt.of_blk {w : World} {g : Nat} {t : TypeId} {l : List B} (h : Blk w g t (strCells l).toArray) : StrsAt w (fun b => b = g) (some ⟨g, 0, none⟩) l.length l :=
  ⟨rfl, fun _ => ⟨g, 0, rfl, rfl, fun j hj => by
    rw [Blk.cell h (0 + j), List.getElem?_toArray, Nat.zero_add, List.getElem?_eq_getElem (by simpa using hj)]
    simp [strCells]⟩⟩
theorem containsS_eq (l : List B) (x : B) : Lib.containsS (l.map bs) (bs x) = l.contains x := by
  rw [Bool.eq_iff_iff, Lib.containsS_iff, List.contains_iff_mem, List.mem_map]
  constructor
  · rintro ⟨y, hy, e⟩
    rw [← bs_inj.1 e]
    exact hy
  · intro h
    exact ⟨x, h, rfl⟩
theorem contains_u {w : World} {S : Nat → Prop} {A : Option Addr} {n c : Nat} {l : List B} (x : B) (h : StrsAt w S A n l) (hl : l.length ≤ 60000000) :
    Calls Tryz.prog 33 #[.slice A n c, .string (bs x)] w fun e w' => e = .returned (.bool (l.contains x)) ∧ w' = w := by
  obtain ⟨rfl, h2⟩ := h
  by_cases h0 : 0 < l.length
  · obtain ⟨g, o, rfl, _, hc⟩ := h2 h0
    refine (Tryz.slices_Contains_string g o l.length c (l.map bs) (bs x) w (by simp) (by omega) (fun j hj => ?_)).mono ?_
    · have hj' : j < l.length := by simpa using hj
      rw [hc j hj']
      simp [List.getD, List.getElem?_eq_getElem hj']
    · rintro e w' ⟨rfl, h⟩
      rw [List.take_of_length_le (by simp), containsS_eq]
      exact ⟨rfl, h⟩
  · have hl0 : l = [] := List.eq_nil_of_length_eq_zero (by omega)
    subst hl0
    exact Tryz.slices_Contains_string_empty A c (bs x) w
/-! ### Cut, Split, Join -/
theorem index_c (c : UInt8) : ∀ l : B, Lib.index l [c] = (if l.contains c then ((l.takeWhile (· != c)).length : Int) else -1)
  | [] => by simp [Lib.index]
  | x :: l => by
    have ih := index_c c l
    unfold Lib.index
    by_cases h : c = x
    · subst h
      simp [List.isPrefixOf]
    · have h1 : ([c] : B).isPrefixOf (x :: l) = false := by simp [List.isPrefixOf]; exact h
      rw [if_neg (by rw [h1]; simp), ih, List.takeWhile_cons_of_pos (by simpa using fun e => h e.symm)]
      have h2 : (x :: l).contains c = l.contains c := by simp [h]
      rw [h2]
      cases l.contains c with
      | true =>
        rw [if_pos rfl, if_pos rfl, if_neg (by simp)]
        simp
      | false => rfl
theorem take_tw {p : UInt8 → Bool} : ∀ l : B, l.take (l.takeWhile p).length = l.takeWhile p
  | [] => rfl
  | c :: l => by
    rw [List.takeWhile_cons]
    split
    · simp [take_tw l]
    · rfl
theorem drop_tw {p : UInt8 → Bool} : ∀ l : B, l.drop (l.takeWhile p).length = l.dropWhile p
  | [] => rfl
  | c :: l => by
    rw [List.takeWhile_cons, List.dropWhile_cons]
    split
    · simpa using drop_tw l
    · rfl
theorem cut_eq (c : UInt8) (l : B) : Lib.cut l [c] = (match cutL c l with | some (a, b) => (a, b, true) | none => (l, [], false)) := by
  unfold Lib.cut cutL
  rw [index_c]
  cases h : l.contains c with
  | true =>
    rw [if_pos rfl, if_pos (by omega), if_pos rfl]
    simp only [List.length_singleton, Int.toNat_natCast]
    have h1 := take_tw (p := (· != c)) l
    have h2 : l.drop ((l.takeWhile (· != c)).length + 1) = (l.dropWhile (· != c)).drop 1 := by rw [← List.drop_drop, drop_tw]
    rw [h1, h2]
  | false => rfl
theorem cut_u {w : World} (l : B) (c : UInt8) {m : Int} (hl : l.length ≤ 600000000) (hm : w.cell? ⟨0, 0, none⟩ = some (.int .i64 m)) :
    Calls Tryz.prog 41 #[.string (bs l), .string (bs [c])] w fun e w' => (match cutL c l with | some (a, b) => e = .returned (.tuple #[.string (bs a), .string (bs b), .bool true]) | none => e = .returned (.tuple #[.string (bs l), .string (bs []), .bool false])) ∧ ∃ n, w' = w.drewN n := by
  refine (Tryz.strings_Cut (bs l) (bs [c]) m w (by rw [bs_size]; omega) hm).mono ?_
  rintro e w' ⟨rfl, h⟩
  refine ⟨?_, h⟩
  rw [bs_data, bs_data, cut_eq]
  cases cutL c l with
  | none => rfl
  | some ab => rfl
theorem joinL_eq (sep : B) : ∀ l : List B, Lib.join l sep = joinL sep l
  | [] => rfl
  | [x] => by rw [Lib.join_one]; rfl
  | x :: y :: r => by
    have ih := joinL_eq sep (y :: r)
    rw [Lib.join_cons] at ih ⊢
    unfold joinL
    rw [← ih]
    simp [Lib.joinTail]
theorem join_u {w : World} {S : Nat → Prop} {A : Option Addr} {n c : Nat} {l : List B} (sep : B) (h : StrsAt w S A n l) (hS : ∀ g, S g → g < w.heap.size) (hl : l.length ≤ 60000000) (hc : l.length ≤ c) (ht : (joinL sep l).length ≤ 140737488355328) :
    Calls Tryz.prog 108 #[.slice A n c, .string (bs sep)] w fun e w' => e = .returned (.string (bs (joinL sep l))) ∧ Below w.heap.size w w' := by
  obtain ⟨rfl, h2⟩ := h
  by_cases h0 : 0 < l.length
  · obtain ⟨g, o, rfl, hg, hcl⟩ := h2 h0
    have hmm : ((l.map bs).map (·.data.toList)) = l := by
      rw [List.map_map]
      conv => rhs; rw [← List.map_id l]
      rfl
    have := Tryz.strings_Join g o c (l.map bs) (bs sep) w (fun j x hj => by
      rw [List.getElem?_map] at hj
      obtain ⟨y, hy, rfl⟩ := Option.map_eq_some_iff.1 hj
      obtain ⟨hj', rfl⟩ := List.getElem?_eq_some_iff.1 hy
      exact hcl j hj') (hS g hg) (by simp; omega) (by simpa using hc) (by rw [hmm, bs_data, joinL_eq]; exact ht)
    rw [List.length_map] at this
    refine this.mono ?_
    rintro e w' ⟨rfl, h⟩
    rw [hmm, bs_data, joinL_eq]
    exact ⟨rfl, h⟩
  · have hl0 : l = [] := List.eq_nil_of_length_eq_zero (by omega)
    subst hl0
    refine (Tryz.strings_Join_none A c (bs sep) w).mono ?_
    rintro e w' ⟨rfl, rfl⟩
    exact ⟨rfl, Below.refl _ _⟩
theorem splitL_not (c : UInt8) : ∀ l : B, l.contains c = false → splitL c l = [l]
  | [], _ => rfl
  | x :: l, h => by
    simp only [List.contains_cons, Bool.or_eq_false_iff] at h
    unfold splitL
    rw [if_neg (by intro e; rw [e] at h; simp at h), splitL_not c l h.2]
theorem splitL_hit (c : UInt8) : ∀ l : B, l.contains c = true → splitL c l = l.takeWhile (· != c) :: splitL c (l.drop ((l.takeWhile (· != c)).length + 1))
  | [], h => by simp at h
  | x :: l, h => by
    by_cases hx : x = c
    · subst hx
      simp [splitL]
    · have hc : l.contains c = true := by
        rcases (by simpa using h : c = x ∨ c ∈ l) with e | e
        · exact absurd e.symm hx
        · simpa using e
      unfold splitL
      rw [if_neg hx, splitL_hit c l hc, List.takeWhile_cons_of_pos (by simpa using hx)]
      simp only [List.length_cons, List.drop_succ_cons]
      congr 2
      cases hl : l.drop ((l.takeWhile (· != c)).length + 1) <;> simp [splitL]
theorem indexB_bs (l : B) (c : UInt8) : Lib.indexB (bs l) (bs [c]) = (if l.contains c then ((l.takeWhile (· != c)).length : Int) else -1) := index_c c l
theorem splitB_eq (c : UInt8) : ∀ (n : Nat) (l : B), l.length ≤ n → Lib.splitB (bs [c]) 0 (Lib.countB (bs l) (bs [c])) (bs l) = (splitL c l).map bs := by
  intro n
  induction n with
  | zero =>
    intro l h
    obtain rfl := List.eq_nil_of_length_eq_zero (Nat.le_zero.1 h)
    rw [Lib.countB_miss _ _ (by rw [indexB_bs]; rfl)]
    rfl
  | succ n ih =>
    intro l h
    cases hc : l.contains c with
    | false =>
      have hi : Lib.indexB (bs l) (bs [c]) = -1 := by rw [indexB_bs, hc]; rfl
      rw [Lib.splitB_miss _ _ _ _ hi, splitL_not c l hc]
      rfl
    | true =>
      have hi : Lib.indexB (bs l) (bs [c]) = ((l.takeWhile (· != c)).length : Nat) := by rw [indexB_bs, hc]; rfl
      have hlen : (l.drop ((l.takeWhile (· != c)).length + 1)).length ≤ n := by
        rw [List.length_drop]
        omega
      have he : (bs l).extract ((l.takeWhile (· != c)).length + (bs [c]).size) (bs l).size = bs (l.drop ((l.takeWhile (· != c)).length + 1)) := bs_from _ _
      rw [Lib.countB_hit _ _ _ (by rw [bs_size]; simp) hi, Nat.add_comm 1, Lib.splitB_hit _ _ _ _ _ hi, he, ih _ hlen, Nat.add_zero, bs_upto, take_tw, splitL_hit c l hc]
      rfl
theorem split_u {w : World} (l : B) (c : UInt8) {m : Int} (hl : l.length ≤ 600000000) (hm : w.cell? ⟨0, 0, none⟩ = some (.int .i64 m)) :
    Calls Tryz.prog 109 #[.string (bs l), .string (bs [c])] w fun e w' => e = .returned (.slice (some ⟨w.heap.size, 0, none⟩) (splitL c l).length (splitL c l).length) ∧ w' = w.alloc (.cells (strCells (splitL c l)).toArray 9) := by
  refine (Tryz.strings_Split (bs l) (bs [c]) m w (by rw [bs_size]; omega) hm (by rw [bs_size]; simp)).mono ?_
  rintro e w' ⟨rfl, rfl⟩
  have h1 := Lib.splitB_all (bs [c]) (by rw [bs_size]; simp) 0 _ (bs l) rfl
  rw [splitB_eq c l.length l (Nat.le_refl _), List.length_map] at h1
  rw [← h1, splitB_eq c l.length l (Nat.le_refl _), List.map_map]
  exact ⟨rfl, rfl⟩
end Go.Proofs.YtlgaeeedkihfpaaGreatDoor.Uf

/-
  dom's builder: inner, close.
-/
namespace Go.Proofs.YtlgaeeedkihfpaaGreatDoor.Uf
open Go.RowKit
open Tz (B Atr Tok Nod El Bd innerO)

/-- The names of what is open, as they stand in memory. -/
theorem OpC.name_at {w : World} {base : Nat} {S : Nat → Prop} : ∀ {X : List Nat} {o : List El} {xs : List Value}, OpC w base S X o xs → ∀ j (h : j < o.length), xs[(o.length - 1 - j) * 5 + 4]? = some (.string (bs o[j].name))
  | _, _, _, .nil, j, h => by simp at h
  | _, _, _, .cons (r := r) e A ca K ck ys h1 _ _ _ _, 0, h => by
    have := h1.len
    simp only [List.length_cons, Nat.add_sub_cancel, Nat.sub_zero]
    rw [List.getElem?_append_right (by omega), this, show r.length * 5 + 4 - r.length * 5 = 4 by omega]
    rfl
  | _, _, _, .cons (r := r) e A ca K ck ys h1 _ _ _ _, j + 1, h => by
    have hl := h1.len
    have hj : j < r.length := by simpa using h
    have := h1.name_at j hj
    simp only [List.length_cons, Nat.add_sub_cancel]
    rw [List.getElem?_append_left (by omega), show r.length - (j + 1) = r.length - 1 - j by omega, this]
    rfl
/-- The place of the innermost element of some names, as dom counts. -/
def innerI (names : List B) (o : List El) : Nat := match innerO names o with | some (k, _) => o.length - 1 - k | none => 0
def numV : Value → Nat
  | .int _ n => n.toNat
  | _ => 0
theorem innerO_step (names : List B) (e e2 : El) (r : List El) : innerO names (e :: e2 :: r) = if names.contains e.name then some (0, e.name) else (innerO names (e2 :: r)).map fun x => (x.1 + 1, x.2) := by
  conv => lhs; unfold innerO

set_option maxRecDepth 100000 in
set_option maxHeartbeats 4000000 in
theorem inner_u {w : World} {base b : Nat} {S S2 : Nat → Prop} {v : Value} {xs : List Value} {X : List Nat} {o : List El} {many : Nat} {over : Bool} {A : Option Addr} {n c : Nat} {names : List B} (h : BdX w base b S v xs X o many over) (hn : StrsAt w S2 A n names) (hnl : names.length ≤ 1000) (ho : o.length ≤ 60000000) (ho1 : 1 ≤ o.length) :
    Calls Tryz.prog 57 #[.pointer (some ⟨b, 0, none⟩), .slice A n c] w fun e' w' => e' = .returned (.int .i64 (innerI names o : Nat)) ∧ w' = w := by
  obtain ⟨g, cap, rfl⟩ : ∃ g cap, v = .slice (some ⟨g, 0, none⟩) o.length cap := by
    obtain ⟨g, cap, hv, _, _⟩ := h.row.form (by omega)
    exact ⟨g, cap, hv⟩
  have c0 : w.cell? ⟨b, 0, none⟩ = some (.slice (some ⟨g, 0, none⟩) o.length cap) := Blk.cell h.blk 0
  obtain ⟨R, hR⟩ : ∃ R, R = o.length - 1 := ⟨_, rfl⟩
  have hw2 : IntKind.i64.wrap ((o.length : Int) - 1) = (R : Int) := by rw [IntKind.wrap_i64]; omega
  have HR := Lib.hid (show o.length = R + 1 by omega)
  have hnm : ∀ j, j ≤ R → w.cell? ⟨g, (R - j) * 5 + 4, none⟩ = some (.string (bs ((o[j]?).getD ⟨[], [], []⟩).name)) := by
    intro j hj
    have hj' : j < o.length := by rw [HR.out]; omega
    have := h.opn.name_at j hj'
    rw [h.row.cellAt _ (by rw [HR.out]; omega), show R - j = o.length - 1 - j by omega, this, List.getElem?_eq_getElem hj']
    rfl
  have Hnm := Lib.hid hnm
  clear hR hnm ho1
  go_enter Tryz.func57, Tryz.ntmps57
  go_wp2_with fail
  go_step3
  go_wp2_with fail
  go_step3
  go_wp2_with fail
  go_loop [5, 6] (fun v5 v6 => ∃ i j, v5 = .int .i64 0 ∧ v6 = .int .i64 (i : Nat) ∧ Hid (i + j = R ∧ innerO names o = (innerO names (o.drop j)).map fun x => (x.1 + j, x.2))) (fun _ v6 => numV v6)
  case atStart =>
    refine ⟨R, 0, rfl, rfl, Lib.hid ⟨rfl, ?_⟩⟩
    rw [List.drop_zero]
    cases innerO names o <;> rfl
  case round =>
    obtain ⟨i, j, rfl, rfl, Hij⟩ := hrel
    have hiR : i ≤ R := by have := Hij.out.1; omega
    by_cases hi : 0 < i
    · have hjlt : j + 1 < o.length := by have := Hij.out.1; have := HR.out; omega
      have hix : (i : Int) < (o.length : Int) := by have := HR.out; omega
      have hix' : i < o.length := by have := HR.out; omega
      have hi0 : (0 : Int) < (i : Int) := by omega
      have hi1 : (0 : Int) ≤ (i : Int) := by omega
      obtain ⟨e0, he0⟩ : ∃ e0, e0 = o[j]'(by omega) := ⟨_, rfl⟩
      have hcell : w.cell? ⟨g, i * 5 + 4, none⟩ = some (.string (bs e0.name)) := by
        have := Hnm.out j (by have := Hij.out.1; omega)
        rw [show R - j = i by have := Hij.out.1; omega, List.getElem?_eq_getElem (by omega)] at this
        rw [he0]
        exact this
      have hdrop : o.drop j = e0 :: o.drop (j + 1) := by rw [he0]; exact List.drop_eq_getElem_cons (by omega)
      obtain ⟨e2, r2, hd2⟩ : ∃ e2 r2, o.drop (j + 1) = e2 :: r2 := ⟨_, _, List.drop_eq_getElem_cons hjlt⟩
      have hst : innerO names (o.drop j) = if names.contains e0.name then some (0, e0.name) else (innerO names (o.drop (j + 1))).map fun x => (x.1 + 1, x.2) := by rw [hdrop, hd2, innerO_step]
      have Hst := Lib.hid hst
      have hw3 : IntKind.i64.wrap ((i : Int) - 1) = ((i - 1 : Nat) : Int) := by rw [IntKind.wrap_i64]; omega
      clear hst hd2 hdrop he0
      go_wp2_with fail
      refine (contains_u e0.name hn (by omega)).mono ?_
      rintro e' w' ⟨rfl, hw'⟩
      rw [hw']
      clear hw'
      cases hcn : names.contains e0.name with
      | true =>
        have Hres := Lib.hid (show innerI names o = i by
          unfold innerI
          rw [Hij.out.2, Hst.out, if_pos hcn]
          simp only [Option.map_some, Nat.zero_add]
          have := Hij.out.1
          have := HR.out
          omega)
        clear hcn
        go_wp2_with fail
        try rw [Exit.noGoto_ret]
        go_ret
        rw [Hres.out]
        exact ⟨rfl, rfl⟩
      | false =>
        have Hij2 := Lib.hid (show (i - 1) + (j + 1) = R ∧ innerO names o = (innerO names (o.drop (j + 1))).map fun x => (x.1 + (j + 1), x.2) by
          refine ⟨by have := Hij.out.1; omega, ?_⟩
          rw [Hij.out.2, Hst.out, if_neg (by rw [hcn]; simp), Option.map_map]
          congr 1
          funext x
          simp only [Function.comp]
          rw [Nat.add_assoc, Nat.add_comm 1 j])
        obtain ⟨i', hi'⟩ : ∃ i', i' = i - 1 := ⟨_, rfl⟩
        rw [← hi'] at Hij2 hw3
        have Hi' := Lib.hid hi'
        clear hcn hi'
        go_wp2_with fail
        go_round
        case rel => exact ⟨i', j + 1, rfl, rfl, Hij2⟩
        case measure =>
          show (numV (.int .i64 (i' : Nat))) < numV (.int .i64 (i : Nat))
          simp only [numV, Int.toNat_natCast]
          have := Hi'.out
          omega
    · obtain rfl : i = 0 := by omega
      have Hres := Lib.hid (show innerI names o = 0 by
        unfold innerI
        have hjR : j = R := by have := Hij.out.1; omega
        have hd : o.drop j = [o[j]'(by have := HR.out; omega)] := by
          rw [List.drop_eq_getElem_cons (by have := HR.out; omega), List.drop_of_length_le (by have := HR.out; omega)]
        rw [Hij.out.2, hd]
        rfl)
      go_wp2_with fail
      try rw [Exit.noGoto_ret]
      go_ret
      rw [Hres.out]
      exact ⟨rfl, rfl⟩
end Go.Proofs.YtlgaeeedkihfpaaGreatDoor.Uf

/-
  dom's builder: close.
-/
namespace Go.Proofs.YtlgaeeedkihfpaaGreatDoor.Uf
open Go.RowKit
open Tz (B Atr Tok Nod El Bd innerO shutO shutN putO closeO)

/-- How much is open. -/
def Wt (o : List El) : Nat := (o.map (·.kids.length)).sum + o.length
theorem Wt_len (o : List El) : o.length ≤ Wt o := Nat.le_add_left _ _
theorem Wt_kids : ∀ {o : List El} {e : El}, e ∈ o → e.kids.length ≤ Wt o
  | x :: o, e, h => by
    unfold Wt
    simp only [List.map_cons, List.sum_cons, List.length_cons]
    rcases List.mem_cons.1 h with rfl | h
    · omega
    · have := Wt_kids h
      unfold Wt at this
      omega
theorem putO_len (n : Nod) : ∀ o : List El, (putO n o).length = o.length
  | [] => rfl
  | _ :: _ => rfl
theorem Wt_put (n : Nod) (o : List El) : Wt (putO n o) ≤ Wt o + 1 := by
  cases o with
  | nil => simp [putO, Wt]
  | cons e r =>
    simp [putO, Wt]
    omega
theorem shutO_len (o : List El) : (shutO o).length = o.length - 1 := by
  cases o with
  | nil => rfl
  | cons e r => simp [shutO, putO_len]
theorem Wt_shut (o : List El) : Wt (shutO o) ≤ Wt o := by
  cases o with
  | nil => simp [shutO]
  | cons e r =>
    have := Wt_put e.nod r
    simp only [shutO]
    unfold Wt at this ⊢
    simp only [List.map_cons, List.sum_cons, List.length_cons]
    omega
theorem shutN_succ : ∀ (m : Nat) (o : List El), shutN (m + 1) o = shutO (shutN m o)
  | 0, _ => rfl
  | m + 1, o => by
    show shutN (m + 1) (shutO o) = _
    rw [shutN_succ m (shutO o)]
    rfl
theorem shutN_len (m : Nat) (o : List El) : (shutN m o).length = o.length - m := by
  induction m with
  | zero => rfl
  | succ m ih => rw [shutN_succ, shutO_len, ih]; omega
theorem Wt_shutN (m : Nat) (o : List El) : Wt (shutN m o) ≤ Wt o := by
  induction m with
  | zero => exact Nat.le_refl _
  | succ m ih => rw [shutN_succ]; exact Nat.le_trans (Wt_shut _) ih
theorem innerO_lt (names : List B) : ∀ {o : List El} {k : Nat} {x : B}, innerO names o = some (k, x) → k + 1 < o.length
  | [], _, _, h => by simp [innerO] at h
  | [_], _, _, h => by simp [innerO] at h
  | e :: e2 :: r, k, x, h => by
    rw [innerO_step] at h
    split at h
    · injection h with h
      injection h with h _
      simp
      omega
    · cases h2 : innerO names (e2 :: r) with
      | none => rw [h2] at h; cases h
      | some y =>
        obtain ⟨k2, x2⟩ := y
        rw [h2] at h
        injection h with h
        injection h with h _
        have := innerO_lt names h2
        simp only [List.length_cons] at this ⊢
        simp only at h
        omega
/-- The builder in memory, whatever else there is. -/
def BdE (w : World) (base b : Nat) (o : List El) (many : Nat) (over : Bool) : Prop := ∃ S v xs X, BdX w base b S v xs X o many over
theorem BdE.keepB {w w' : World} {base b : Nat} {o : List El} {many : Nat} {over : Bool} (h : BdE w base b o many over) (hb : Below w.heap.size w w') : BdE w' base b o many over := by
  obtain ⟨S, v, xs, X, hX⟩ := h
  exact ⟨S, v, xs, X, hX.keepB hb⟩
theorem BdE.base_le {w : World} {base b : Nat} {o : List El} {many : Nat} {over : Bool} (h : BdE w base b o many over) : base ≤ w.heap.size := by
  obtain ⟨S, v, xs, X, hX⟩ := h
  exact Nat.le_trans hX.ge (Nat.le_of_lt (heap_lt hX.blk))
/-- The place's slice in the builder's first cell. -/
theorem BdE.c0 {w : World} {base b : Nat} {o : List El} {many : Nat} {over : Bool} (h : BdE w base b o many over) : ∃ A c, w.cell? ⟨b, 0, none⟩ = some (.slice A o.length c) := by
  obtain ⟨S, v, xs, X, hX⟩ := h
  obtain ⟨A, c, rfl⟩ := own_slice hX.row
  exact ⟨A, c, Blk.cell hX.blk 0⟩

def lenAt (w : World) (b : Nat) : Nat := match w.cell? ⟨b, 0, none⟩ with | some (.slice _ n _) => n | _ => 0
theorem lenAt_of {w : World} {b n c : Nat} {A : Option Addr} (h : w.cell? ⟨b, 0, none⟩ = some (.slice A n c)) : lenAt w b = n := by unfold lenAt; rw [h]

set_option maxRecDepth 100000 in
set_option maxHeartbeats 4000000 in
theorem close_u {w : World} {base b : Nat} {o : List El} {many : Nat} {over : Bool} {name : B} (h : BdE w base b o many over) (hw : Wt o ≤ 6000000) (ho1 : 1 ≤ o.length) :
    Calls Tryz.prog 56 #[.pointer (some ⟨b, 0, none⟩), .string (bs name)] w fun e' w' => e' = .returned (.bool (closeO name o).2) ∧ Below base w w' ∧ BdE w' base b (closeO name o).1 many over := by
  have hol := Wt_len o
  have hbase := h.base_le
  obtain ⟨S, v, xs, X, hX⟩ := h
  go_enter Tryz.func56, Tryz.ntmps56
  go_wp2_with fail
  have hX1 := hX.keepB ((Below.refl _ w).alloc (Nat.le_refl _) (.cells #[.string (bs name)] 9))
  have hb1 : Below base w (w.alloc (.cells #[.string (bs name)] 9)) := (Below.refl _ w).alloc hbase _
  have hs1 := StrsAt.of_blk (l := [name]) (Blk.new w 9 #[.string (bs name)])
  refine (inner_u hX1 hs1 (by simp) (by omega) ho1).mono ?_
  rintro e1 w1 ⟨rfl, hw1⟩
  rw [hw1]
  clear hw1 hs1 w1
  have hE : BdE (w.alloc (.cells #[.string (bs name)] 9)) base b o many over := ⟨_, _, _, _, hX1⟩
  clear hX1 hX
  generalize w.alloc (.cells #[.string (bs name)] 9) = W1 at hb1 hE ⊢
  obtain ⟨I, hI⟩ : ∃ I, I = innerI [name] o := ⟨_, rfl⟩
  rw [← hI]
  have HI := Lib.hid hI
  clear hI
  go_wp2_with fail
  have hI1 : I + 1 ≤ o.length := by
    rw [HI.out]
    unfold innerI
    split
    · rename_i k x hk
      have := innerO_lt [name] hk
      omega
    · omega
  go_loopw [10] (fun _ wr => ∃ m, BdE wr base b (shutN m o) many over ∧ Below base w wr ∧ Hid ((I = 0 → m = 0) ∧ I + m ≤ o.length)) (fun _ wr => lenAt wr b)
  case atStart => exact ⟨0, hE, hb1, Lib.hid ⟨fun _ => rfl, by omega⟩⟩
  case round =>
    obtain ⟨m, hEr, hbr, Hm⟩ := hrel
    obtain ⟨A, c, c0⟩ := hEr.c0
    have hL := shutN_len m o
    have hWr := Wt_shutN m o
    have hla := lenAt_of c0
    by_cases hI0 : 0 < I
    · have t1 : (0 : Int) < (I : Int) := by omega
      by_cases hgt : I < (shutN m o).length
      · have t2 : (I : Int) < ((shutN m o).length : Int) := by omega
        obtain ⟨e, e2, r, hshape⟩ : ∃ e e2 r, shutN m o = e :: e2 :: r := by
          cases hs : shutN m o with
          | nil => rw [hs] at hgt; simp at hgt
          | cons e r =>
            cases r with
            | nil => rw [hs] at hgt; simp at hgt; omega
            | cons e2 r => exact ⟨e, e2, r, rfl⟩
        obtain ⟨S', v', xs', X', hXr⟩ := hEr
        have hk2 : e2.kids.length ≤ 60000000 := by
          have := Wt_kids (o := shutN m o) (e := e2) (by rw [hshape]; simp)
          omega
        have hrl : r.length ≤ 6000000 := by
          have := Wt_len (shutN m o)
          rw [hshape] at this
          simp only [List.length_cons] at this
          rw [hshape] at hWr
          omega
        have hXr2 := hXr
        rw [hshape] at hXr2
        have hcall := shut_u hXr2 hrl hk2
        rw [← hshape, ← shutN_succ] at hcall
        have Hm2 := Lib.hid (show (I = 0 → m + 1 = 0) ∧ I + (m + 1) ≤ o.length from ⟨fun h => by omega, by omega⟩)
        have HL := Lib.hid (show (shutN (m + 1) o).length < (shutN m o).length by rw [shutN_len, shutN_len]; omega)
        clear hshape hXr2 hXr hL
        obtain ⟨om, hom⟩ : ∃ om, om = shutN m o := ⟨_, rfl⟩
        obtain ⟨om2, hom2⟩ : ∃ om2, om2 = shutN (m + 1) o := ⟨_, rfl⟩
        rw [← hom] at hWr HL c0 hla hgt t2
        rw [← hom2] at hcall HL
        have Hom2 := Lib.hid hom2
        clear hom hom2
        go_wp2_with fail
        refine hcall.mono ?_
        rintro e3 w3 ⟨rfl, hb3, hE3⟩
        have hb3' := hbr.trans hb3
        have hE3' : BdE w3 base b om2 many over := hE3
        obtain ⟨A3, c3, c03⟩ := hE3'.c0
        have hla3 := lenAt_of c03
        go_wp2_with fail
        go_roundw
        case rel => exact ⟨m + 1, by rw [← Hom2.out]; exact hE3', hb3', Hm2⟩
        case measure =>
          rw [hla3, hla]
          exact HL.out
      · have t2 : ((shutN m o).length : Int) ≤ (I : Int) := by omega
        have hres : closeO name o = (shutN m o, true) := by
          unfold closeO
          have hIe := HI.out
          unfold innerI at hIe
          cases hin : innerO [name] o with
          | none => rw [hin] at hIe; simp only at hIe; omega
          | some kx =>
            obtain ⟨k, x⟩ := kx
            rw [hin] at hIe
            have := innerO_lt [name] hin
            have hmk : m = k + 1 := by
              have := Hm.out.2
              simp only at hIe
              omega
            rw [hmk]
        have Hres := Lib.hid hres
        clear hL hWr hres
        go_wp2_with fail
        go_ret
        rw [Hres.out]
        exact ⟨rfl, hbr, hEr⟩
    · obtain rfl : I = 0 := by omega
      have hres : closeO name o = (shutN m o, false) := by
        rw [Hm.out.1 rfl]
        unfold closeO
        have hIe := HI.out
        unfold innerI at hIe
        cases hin : innerO [name] o with
        | none => rfl
        | some kx =>
          obtain ⟨k, x⟩ := kx
          rw [hin] at hIe
          have := innerO_lt [name] hin
          simp only at hIe
          omega
      have Hres := Lib.hid hres
      clear hL hWr hres
      go_wp2_with fail
      go_ret
      rw [Hres.out]
      exact ⟨rfl, hbr, hEr⟩
end Go.Proofs.YtlgaeeedkihfpaaGreatDoor.Uf
