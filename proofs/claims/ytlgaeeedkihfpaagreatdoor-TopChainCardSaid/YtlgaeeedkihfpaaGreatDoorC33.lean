/-
  Texts of the proof of Chain, one behind the other: SerA, SerB, SerC, ClnP.
-/
import Derived.Handy
import Derived.Test.YtlgaeeedkihfpaaGreatDoorC32
import Derived.Test.YtlgaeeedkihfpaaGreatDoorC22
import Derived.Test.YtlgaeeedkihfpaaGreatDoorC23
import Derived.Test.YtlgaeeedkihfpaaGreatDoorC04
/-
  ser: a builder's text, partOf, words.
-/
namespace Go.Proofs.YtlgaeeedkihfpaaGreatDoor.Uf
open Go.RowKit
open Tz (B Atr Nod escapeL htmlN htmlL attrH)

/-- The builder at block b holds the text l. -/
def BldL (N b : Nat) (l : B) (w : World) : Prop := Lib.IsBuilderF 84 5 N b (Lib.byteCells l) w
theorem grown_below {w w' : World} (hb : Below w.heap.size w w') : w.grownBy w' none := ⟨hb.os, hb.tape, hb.output, hb.size, fun k hk _ => hb.block k hk⟩
theorem BldL.below {N b : Nat} {l : B} {w w' : World} (h : BldL N b l w) (hb : Below w.heap.size w w') : BldL N b l w' := by
  have aux : ∀ p, Lib.BuilderAtF 84 5 N b p (Lib.byteCells l) w → Lib.BuilderAtF 84 5 N b p (Lib.byteCells l) w' := fun p ⟨h1, v, h2, h3, h4⟩ => by
    refine ⟨h1, v, (hb.block b (heap_lt h2)).trans h2, h3.kept (grown_below hb) ?_, h4⟩
    cases v.ownBlock with
    | none => exact .inl rfl
    | some _ => exact .inr (by simp)
  exact h.imp (aux _) (aux _)
theorem BldL.base {N b : Nat} {l : B} {w : World} (h : BldL N b l w) : N ≤ b ∧ b < w.heap.size := by
  rcases h with ⟨h1, v, h2, _⟩ | ⟨h1, v, h2, _⟩ <;> exact ⟨h1, heap_lt h2⟩
theorem others_below {e : TypeId} {b : Option Nat} {w w' : World} (hb : Below w.heap.size w w') : Lib.OthersKept e b w w' := fun k _ h _ _ => (hb.block k (heap_lt h)).trans h
theorem Blk.others {w w' : World} {g b : Nat} {t : TypeId} {cs : Array Value} (h : Blk w g t cs) (ho : Lib.OthersKept 5 (some b) w w') (hne : g ≠ b) (ht : t ≠ 5) : Blk w' g t cs := ho g _ h (fun e => hne (Option.some.inj e)) (fun c fz e => ht (by injection e))
theorem write_l {N b : Nat} {l s : B} {w : World} (h : BldL N b l w) (hn : l.length + s.length ≤ 60000000000) : Calls Tryz.prog 44 #[.pointer (some ⟨b, 0, none⟩), .string (bs s)] w fun e w' => (∃ n : Int, e = .returned (.tuple #[.int .i64 n, .nilIface])) ∧ BldL N b (l ++ s) w' ∧ Below N w w' ∧ Lib.OthersKept 5 (some b) w w' := by
  have hb := h.base
  refine (write_string N b _ (bs s) w h (by rw [Lib.byteCells_length]; show l.length + (bs s).size ≤ _; simp only [bs_size]; omega) (by omega)).mono ?_
  rintro e w' ⟨rfl, h1, h2, h3⟩
  exact ⟨⟨_, rfl⟩, by unfold BldL; rw [Lib.byteCells_append]; exact .inr h1, h2, h3⟩
theorem string_l {N b : Nat} {l : B} {w : World} (h : BldL N b l w) : Calls Tryz.prog 47 #[.pointer (some ⟨b, 0, none⟩)] w fun e w' => e = .returned (.string (bs l)) ∧ Below N w w' := by
  have hb := h.base
  refine (Tryz.Builder_String_any_k N b l _ h (by omega)).mono ?_
  rintro e W1 ⟨rfl, _, b1, _⟩
  exact ⟨rfl, b1⟩
theorem escape_l {w : World} (s : B) (q : Bool) (hs : s.length ≤ 600000000) :
    Calls Tryz.prog 21 #[.string (bs s), .bool q] w fun e w' => e = .returned (.string (bs (escapeL q s))) ∧ Below w.heap.size w w' := escape_u (bs s) q (by simpa only [bs_size] using hs)

set_option maxRecDepth 100000 in
theorem part_u {w : World} {nm tx : B} {va vk : Value} : Calls Tryz.prog 50 #[.agg #[.string (bs nm), va, .string (bs tx), vk]] w fun e w' => (e = .returned (if nm = [] then .iface 120 (.string (bs tx)) else .iface 121 (.agg #[.string (bs nm), va, .string (bs tx), vk]))) ∧ Below w.heap.size w w' := by
  go_enter Tryz.func50, Tryz.ntmps50
  have e0 : (([] : B) == ([] : B)) = true := rfl
  by_cases hnm : nm = []
  · subst hnm
    go_wp2
    go_ret
    exact ⟨rfl, (Below.refl _ w).alloc (Nat.le_refl _) _⟩
  · have e1 : (nm == ([] : B)) = false := by simpa using hnm
    go_wp2
    go_ret
    exact ⟨rfl, (Below.refl _ w).alloc (Nat.le_refl _) _⟩

set_option maxRecDepth 100000 in
theorem words_u {N b : Nat} {l tx : B} {w : World} (h : BldL N b l w) (hn : l.length + 6 * tx.length ≤ 3600000000) : Calls Tryz.prog 163 #[.string (bs tx), .pointer (some ⟨b, 0, none⟩)] w fun e w' => e = .returned (.tuple #[]) ∧ BldL N b (l ++ escapeL false tx) w' ∧ Below N w w' ∧ Lib.OthersKept 5 (some b) w w' := by
  have hb := h.base
  have hl := esc_len false tx.length tx (Nat.le_refl _)
  go_enter Tryz.func163, Tryz.ntmps163
  go_wp2_with fail
  refine (escape_l tx false (by omega)).mono ?_
  rintro e1 w1 ⟨rfl, hb1⟩
  generalize hx : escapeL false tx = x at hl ⊢
  have HX := Lib.hid hx
  clear hx
  go_wp2_with fail
  refine (write_l (h.below hb1) (by omega)).mono ?_
  rintro e2 w2 ⟨⟨n, rfl⟩, h2, hb2, ko2⟩
  go_wp2_with fail
  go_end0
  exact ⟨rfl, by rw [HX.out]; exact h2, (hb1.mono (by omega)).trans hb2, (others_below hb1).trans ko2⟩
end Go.Proofs.YtlgaeeedkihfpaaGreatDoor.Uf

/-
  ser.HTML, element.lay given.
-/
namespace Go.Proofs.YtlgaeeedkihfpaaGreatDoor.Uf
open Go.RowKit
open Tz (B Atr Nod escapeL htmlN htmlL attrH)

theorem attrH_len (l : List Atr) : ((l.map attrH).flatten).length ≤ 10 * aw l := by
  induction l with
  | nil => simp
  | cons a l ih =>
    have h1 := esc_len true a.val.length a.val (Nat.le_refl _)
    have e : (((a :: l).map attrH).flatten).length = (attrH a).length + ((l.map attrH).flatten).length := by simp
    have e2 : (attrH a).length = a.name.length + (escapeL true a.val).length + 4 := by simp [attrH]; omega
    have e3 : aw (a :: l) = a.name.length + a.val.length + 1 + aw l := by simp [aw]
    omega
mutual
theorem htmlN_len : ∀ (n : Nod), (htmlN n).length ≤ 10 * nodW n
  | .mk n a t k => by
    have h1 := htmlL_len k
    have h2 := esc_len false t.length t (Nat.le_refl _)
    have h3 := attrH_len a
    unfold htmlN nodW
    split
    · omega
    · split
      · simp only [List.length_append, List.length_cons, List.length_nil]; omega
      · simp only [List.length_append, List.length_cons, List.length_nil]; omega
theorem htmlL_len : ∀ (k : List Nod), (htmlL k).length ≤ 10 * nodsW k
  | [] => by simp [htmlL]
  | n :: r => by
    have h1 := htmlN_len n
    have h2 := htmlL_len r
    unfold htmlL nodsW
    rw [List.length_append]
    omega
end
theorem htmlL_app : ∀ (k r : List Nod), htmlL (k ++ r) = htmlL k ++ htmlL r
  | [], r => by simp [htmlL]
  | n :: k, r => by
    have e : htmlL (n :: (k ++ r)) = htmlN n ++ htmlL (k ++ r) := by conv => lhs; unfold htmlL
    have e2 : htmlL (n :: k) = htmlN n ++ htmlL k := by conv => lhs; unfold htmlL
    show htmlL (n :: (k ++ r)) = _
    rw [e, e2, htmlL_app k r, List.append_assoc]
theorem part_text {w : World} {tx : B} {va vk : Value} : Calls Tryz.prog 50 #[.agg #[.string (bs []), va, .string (bs tx), vk]] w fun e w' => e = .returned (.iface 120 (.string (bs tx))) ∧ Below w.heap.size w w' := by
  refine part_u.mono ?_
  intro e w' h
  rw [if_pos rfl] at h
  exact h
theorem part_el {w : World} {nm tx : B} {va vk : Value} (hnm : nm ≠ []) : Calls Tryz.prog 50 #[.agg #[.string (bs nm), va, .string (bs tx), vk]] w fun e w' => e = .returned (.iface 121 (.agg #[.string (bs nm), va, .string (bs tx), vk])) ∧ Below w.heap.size w w' := by
  refine part_u.mono ?_
  intro e w' h
  rw [if_neg hnm] at h
  exact h
def LayAll (N : Nat) : Prop := ∀ (w : World) (N0 b : Nat) (l : B) (S : Nat → Prop) (y : List Value) (n : Nod), BldL N0 b l w → NodC w S n y → (∀ g, S g → g < N0) → nodW n < N → n.name ≠ [] → nodW n ≤ 240000000 → l.length + 10 * nodW n ≤ 3000000000 →
  Calls Tryz.prog 164 #[.agg y.toArray, .pointer (some ⟨b, 0, none⟩)] w fun e w' => e = .returned (.tuple #[]) ∧ BldL N0 b (l ++ htmlN n) w' ∧ Below N0 w w' ∧ Lib.OthersKept 5 (some b) w w'
theorem htmlN_text (a : List Atr) (t : B) (k : List Nod) : htmlN (.mk [] a t k) = escapeL false t := by unfold htmlN; simp

set_option maxRecDepth 100000 in
set_option maxHeartbeats 8000000 in
theorem html_of {N : Nat} (HN : LayAll N) {w : World} {S : Nat → Prop} {kv : Value} {k : List Nod} (hT : TreeV w S kv k) (hN : nodsW k < N) (hk : nodsW k ≤ 240000000) :
    Calls Tryz.prog 20 #[kv] w fun e w' => e = .returned (.string (bs (htmlL k))) ∧ Below w.heap.size w w' := by
  obtain ⟨A0, c0, _, hkv, _⟩ := id hT
  have hkl := nodsW_len k
  have hlt : ∀ g, S g → g < w.heap.size := by
    obtain ⟨_, _, _, _, _, _, h⟩ := id hT
    exact h
  have hI : BldL w.heap.size w.heap.size [] (w.alloc (.cells #[.pointer none, .slice none 0 0] 84)) := Lib.IsBuilderF.of (Lib.fresh_isBuilder 84 5 w)
  have hb : Below w.heap.size w (w.alloc (.cells #[.pointer none, .slice none 0 0] 84)) := (Below.refl _ w).alloc (Nat.le_refl _) _
  have H := Lib.hid HN
  clear HN
  subst hkv
  go_enter Tryz.func20, Tryz.ntmps20
  go_wp2_with fail
  go_loopw [8] (fun vi wr => ∃ (i : Nat), vi = .int .i64 i ∧ i ≤ k.length ∧ BldL w.heap.size w.heap.size (htmlL (k.take i)) wr ∧ Below w.heap.size w wr) (fun vi _ => k.length - kOf vi)
  case atStart => exact ⟨0, rfl, Nat.zero_le _, hI, hb⟩
  case round =>
    obtain ⟨i, rfl, hi, hIi, hbi⟩ := hrel
    by_cases hlt' : i < k.length
    · have t0 : (i : Int) < (k.length : Int) := by omega
      have hTr := hT.keep hbi
      obtain ⟨ad, c1, y0, y1, y2, y3, hkv, hSb, hny, hcells⟩ := hTr.at_ i hlt'
      obtain ⟨rfl, rfl⟩ : A0 = some ad ∧ c0 = c1 := by injection hkv with e1 _ e2; exact ⟨e1, e2⟩
      have hst : k.take (i + 1) = k.take i ++ [k[i]] := by rw [List.take_add_one, List.getElem?_eq_getElem hlt']; rfl
      have hf := htmlL_app (k.take i) [k[i]]
      rw [← hst] at hf
      have hf : htmlL (k.take (i + 1)) = htmlL (k.take i) ++ htmlN k[i] := by rw [hf]; simp [htmlL]
      have hmem : nodW k[i] ≤ nodsW k := nodsW_mem (List.getElem_mem hlt')
      have hwt := htmlL_len (k.take i)
      have hwa : nodsW (k.take i) + nodW k[i] ≤ nodsW k := by
        have h1 := take_w k (i + 1)
        rw [hst, nodsW_app] at h1
        simp [nodsW] at h1
        omega
      generalize k[i] = n at hny hf hmem hwa
      have hF := Lib.hid hf
      clear hf hst hkv
      generalize htmlL (k.take i) = O at hIi hF hwt
      have hi1 : IntKind.i64.wrap ((i : Int) + 1) = ((i + 1 : Nat) : Int) := by rw [IntKind.wrap_i64]; omega
      obtain ⟨nm, at_, tx, kd⟩ := n
      have hny0 := hny
      unfold NodC at hny0
      obtain ⟨A1, ca, K1, ck, zs, ey, _⟩ := hny0
      simp only [List.cons.injEq, and_true] at ey
      obtain ⟨rfl, rfl, rfl, rfl⟩ := ey
      have hone := hny.one_
      have o0 := hone (.string (bs nm)) (by simp)
      have o1 := hone (.slice A1 at_.length ca) (by simp)
      have o2 := hone (.string (bs tx)) (by simp)
      have o3 := hone (.slice K1 kd.length ck) (by simp)
      have HX := Lib.hid (And.intro hIi hny)
      clear hIi hny hone hTr
      go_wp2_with (first
        | (with_reducible refine wpList_load_at rfl 61 (.tmp 10) rfl (ad.add (i * 4)) rfl [.string (bs nm), .slice A1 at_.length ca, .string (bs tx), .slice K1 kd.length ck] _ hcells Tryz.underlying61 rfl (by kernel_rfl) ?_)
        | ((with_reducible refine store_new rfl 61 (.tmp 5) (.tmp 11) rfl #[.string (bs nm), .slice A1 at_.length ca, .string (bs tx), .slice K1 kd.length ck] rfl rfl (by kernel_rfl) (by kernel_rfl) (by simp [o0, o1, o2, o3]) ?_); intro W3 hB3 hb3)
        | (with_reducible refine wpList_load_row rfl 61 (.tmp 5) rfl wr.heap.size rfl 61 #[.string (bs nm), .slice A1 at_.length ca, .string (bs tx), .slice K1 kd.length ck] (0, 0) _ hB3 Tryz.underlying61 rfl (by kernel_rfl) ?_))
      have hs3 := hb3.size
      by_cases hnm : nm = []
      · subst hnm
        refine part_text.mono ?_
        rintro e4 W4 ⟨rfl, hb4⟩
        go_wp2_with fail
        have hI4 := (HX.out.1.below hb3).below hb4
        have htx := nodW_text (.mk [] at_ tx kd)
        have htx : tx.length ≤ nodW (.mk [] at_ tx kd) := htx
        refine (words_u hI4 (by omega)).mono ?_
        rintro e5 W5 ⟨rfl, hI5, hb5, _⟩
        have hb6 : Below w.heap.size w W5 := ((hbi.trans (hb3.mono hbi.size)).trans (hb4.mono (by have := hbi.size; omega))).trans hb5
        rw [← htmlN_text at_ tx kd, ← hF.out] at hI5
        go_wp2_with fail
        go_roundw
        case rel => exact ⟨i + 1, rfl, hlt', hI5, hb6⟩
        case measure =>
          show k.length - kOf (.int .i64 ((i + 1 : Nat) : Int)) < k.length - kOf (.int .i64 (i : Int))
          simp only [kOf, Int.toNat_natCast]
          omega
      · refine (part_el hnm).mono ?_
        rintro e4 W4 ⟨rfl, hb4⟩
        go_wp2_with fail
        have hI4 := (HX.out.1.below hb3).below hb4
        have hsz := hbi.size
        have hny4 := NodC.keep (KeepS.below (hb3.trans (hb4.mono hs3)) (fun g hg => Nat.lt_of_lt_of_le (hlt g hg) hsz)) _ _ HX.out.2
        refine (H.out W4 w.heap.size w.heap.size O S _ (.mk nm at_ tx kd) hI4 hny4 hlt (by omega) hnm (by omega) (by omega)).mono ?_
        rintro e5 W5 ⟨rfl, hI5, hb5, _⟩
        have hb6 : Below w.heap.size w W5 := ((hbi.trans (hb3.mono hbi.size)).trans (hb4.mono (by omega))).trans hb5
        rw [← hF.out] at hI5
        go_wp2_with fail
        go_roundw
        case rel => exact ⟨i + 1, rfl, hlt', hI5, hb6⟩
        case measure =>
          show k.length - kOf (.int .i64 ((i + 1 : Nat) : Int)) < k.length - kOf (.int .i64 (i : Int))
          simp only [kOf, Int.toNat_natCast]
          omega
    · have t0 : ¬ ((i : Int) < (k.length : Int)) := by omega
      have hkt : k.take i = k := List.take_of_length_le (by omega)
      rw [hkt] at hIi
      go_wp2_with fail
      refine (string_l hIi).mono ?_
      rintro e5 W5 ⟨rfl, hb5⟩
      go_wp2_with fail
      go_ret
      exact ⟨rfl, hbi.trans hb5⟩
end Go.Proofs.YtlgaeeedkihfpaaGreatDoor.Uf

/-
  ser: an element's text; HTML.
-/
namespace Go.Proofs.YtlgaeeedkihfpaaGreatDoor.Uf
open Go.RowKit
open Tz (B Atr Nod escapeL htmlN htmlL attrH)

theorem aw_take (l : List Atr) (i : Nat) : aw (l.take i) ≤ aw l := by
  have := aw_app (l.take i) (l.drop i)
  rw [List.take_append_drop] at this
  omega
theorem htmlN_el {nm : B} (h : nm ≠ []) (a : List Atr) (t : B) (k : List Nod) : htmlN (.mk nm a t k) = (([60] ++ nm ++ (a.map attrH).flatten ++ [62]) ++ if Tz.voidL nm then [] else htmlL k ++ ([60, 47] ++ nm ++ [62])) := by
  conv => lhs; unfold htmlN
  rw [if_neg h]

set_option maxRecDepth 100000 in
set_option maxHeartbeats 8000000 in
theorem lay_step {N : Nat} (HN : LayAll N) : LayAll (N + 1) := by
  intro w N0 b l S y n hI hny hSlt hnN hname hn4 hlen
  obtain ⟨nm, at_, tx, kd⟩ := n
  have hny0 := hny
  unfold NodC at hny0
  obtain ⟨A, ca, K, ck, zs, rfl, hA, hK1, hK2⟩ := hny0
  have hwk : nodsW kd + aw at_ + nm.length + tx.length + 1 = nodW (.mk nm at_ tx kd) := by simp [nodW]; omega
  have hbase := hI.base
  have hbV : Below w.heap.size w (w.alloc (.cells #[.string (bs nm), .slice A at_.length ca, .string (bs tx), .slice K kd.length ck] 121)) := (Below.refl _ w).alloc (Nat.le_refl _) _
  have hPV : Blk (w.alloc (.cells #[.string (bs nm), .slice A at_.length ca, .string (bs tx), .slice K kd.length ck] 121)) w.heap.size 121 #[.string (bs nm), .slice A at_.length ca, .string (bs tx), .slice K kd.length ck] := Blk.new w 121 #[.string (bs nm), .slice A at_.length ca, .string (bs tx), .slice K kd.length ck]
  have hIV := hI.below hbV
  have hkV : Lib.OthersKept 5 (some b) w (w.alloc (.cells #[.string (bs nm), .slice A at_.length ca, .string (bs tx), .slice K kd.length ck] 121)) := others_below hbV
  have hbV0 := hbV.mono (show N0 ≤ w.heap.size by omega)
  have hT : TreeV w S (.slice K kd.length ck) kd := ⟨K, ck, zs, rfl, hK1, hK2, fun g hg => by have := hSlt g hg; omega⟩
  have HE := Lib.hid (htmlN_el hname at_ tx kd)
  have H := Lib.hid HN
  have hkl := nodsW_len kd
  have hal := aw_len at_
  have hname : nm ≠ [] := hname
  clear HN hI hbV hny hK1 hK2
  go_enter Tryz.func164, Tryz.ntmps164
  apply wp_seq_k
  intro K' hK
  have HK := Lib.hid hK
  clear hK
  go_wp2_with fail
  refine HK.out _ _ ?_
  clear HK K'
  generalize (w.alloc (.cells #[.string (bs nm), .slice A at_.length ca, .string (bs tx), .slice K kd.length ck] 121)) = V at hPV hIV hkV hbV0 ⊢
  have q0 : V.cell? ⟨w.heap.size, 0, none⟩ = some (.string (bs nm)) := Blk.cell hPV 0
  have z0 : ¬ (9223372036854775807 < (⟨#[60]⟩ : ByteArray).size + (bs nm).size) := by rw [bs_size]; have : (⟨#[60]⟩ : ByteArray).size = 1 := rfl; omega
  have ap0 : (⟨#[60]⟩ : ByteArray) ++ bs nm = bs (60 :: nm) := bs_append [60] nm
  go_wp2_with fail
  have hls : (60 :: nm : B).length = nm.length + 1 := rfl
  refine (write_l hIV (by omega)).mono ?_
  rintro e1 V1 ⟨⟨n1, rfl⟩, hI1, hb1, ko1⟩
  have hP1 := hPV.others ko1 (by omega) (by decide)
  have hk1 := hkV.trans ko1
  have hbw1 := hbV0.trans hb1
  have q1 : V1.cell? ⟨w.heap.size, 1, none⟩ = some (.slice A at_.length ca) := Blk.cell hP1 1
  clear hPV hIV hkV hbV0 q0 ap0 z0 hb1 ko1
  obtain ⟨L1, hL1⟩ : ∃ L1, L1 = l ++ 60 :: nm := ⟨_, rfl⟩
  have hl1 : L1.length = l.length + nm.length + 1 := by rw [hL1]; simp; omega
  rw [← hL1] at hI1
  have HL1 := Lib.hid hL1
  clear hL1
  go_wp2_with fail
  go_loopw [16] (fun vi wr => ∃ i : Nat, vi = .int .i64 i ∧ i ≤ at_.length ∧ BldL N0 b (L1 ++ ((at_.take i).map attrH).flatten) wr ∧ Blk wr w.heap.size 121 #[.string (bs nm), .slice A at_.length ca, .string (bs tx), .slice K kd.length ck] ∧ Below N0 w wr ∧ Lib.OthersKept 5 (some b) w wr) (fun vi _ => at_.length - kOf vi)
  case atStart => exact ⟨0, rfl, Nat.zero_le _, by simpa using hI1, hP1, hbw1, hk1⟩
  case round =>
    obtain ⟨i, rfl, hi, hIi, hPi, hbi, hki⟩ := hrel
    by_cases hlt : i < at_.length
    · have t0 : (i : Int) < (at_.length : Int) := by omega
      obtain ⟨ad, rfl, hSb, hc⟩ := hA.2 (by omega)
      have hcells0 : ∀ j u, ([.string (bs at_[i].name), .string (bs at_[i].val)] : List Value)[j]? = some u → wr.cell? ((ad.add (i * 2)).add j) = some u := fun j u hu => by
        rw [add_add]
        refine (hbi.cell (by rw [block_of_add]; exact hSlt _ hSb)).trans ?_
        exact hc _ _ (atrCells_get at_ i hlt j u hu)
      have hst : at_.take (i + 1) = at_.take i ++ [at_[i]] := by rw [List.take_add_one, List.getElem?_eq_getElem hlt]; rfl
      have hsn : ((at_.take (i + 1)).map attrH).flatten = ((at_.take i).map attrH).flatten ++ attrH at_[i] := by rw [hst, List.map_append, List.flatten_append]; simp
      have hw1 := attrH_len (at_.take i)
      have hw2 := aw_take at_ i
      have hm := aw_mem (List.getElem_mem hlt)
      clear hst
      generalize at_[i] = a at hcells0 hsn hm
      obtain ⟨an, av⟩ := a
      have hcells : ∀ j u, ([.string (bs an), .string (bs av)] : List Value)[j]? = some u → wr.cell? ((ad.add (i * 2)).add j) = some u := hcells0
      simp only at hm
      have HS := Lib.hid hsn
      clear hsn hcells0
      generalize ((at_.take i).map attrH).flatten = F at hIi HS hw1
      have hi1 : IntKind.i64.wrap ((i : Int) + 1) = ((i + 1 : Nat) : Int) := by rw [IntKind.wrap_i64]; omega
      have HX := Lib.hid (And.intro hIi (And.intro hPi (And.intro hbi hki)))
      have hsr := hbi.size
      clear hIi hPi hki
      go_wp2_with (first
        | (with_reducible refine wpList_load_at rfl 57 (.tmp 18) rfl (ad.add (i * 2)) rfl [.string (bs an), .string (bs av)] _ hcells Tryz.underlying57 rfl (by kernel_rfl) ?_)
        | ((with_reducible refine store_new rfl 57 (.tmp 5) (.tmp 19) rfl #[.string (bs an), .string (bs av)] rfl rfl (by kernel_rfl) (by kernel_rfl) (by simp [Value.oneCell']) ?_); intro W3 hB3 hb3))
      have c0 : W3.cell? ⟨wr.heap.size, 0, none⟩ = some (.string (bs an)) := Blk.cell hB3 0
      have c1 : W3.cell? ⟨wr.heap.size, 1, none⟩ = some (.string (bs av)) := Blk.cell hB3 1
      have hes := esc_len true av.length av (Nat.le_refl _)
      have hb4 : Below wr.heap.size wr W3.drew := hb3.drew
      have hR4 : Blk W3.drew wr.heap.size 57 #[.string (bs an), .string (bs av)] := hB3
      obtain ⟨ι, hne, F', hF, hcov⟩ := class_of (fun X => X.cell? ⟨wr.heap.size, 0, none⟩ = some (.string (bs an)) ∧ X.cell? ⟨wr.heap.size, 1, none⟩ = some (.string (bs av))) W3.drew ⟨Blk.cell hR4 0, Blk.cell hR4 1⟩
      have r0 : ∀ i, (F' i).cell? ⟨wr.heap.size, 0, none⟩ = some (.string (bs an)) := fun i => (hF i).1
      have r1 : ∀ i, (F' i).cell? ⟨wr.heap.size, 1, none⟩ = some (.string (bs av)) := fun i => (hF i).2
      have hS0 := hcov W3.drew ⟨Blk.cell hR4 0, Blk.cell hR4 1⟩
      have HES := Lib.hid (fun W => escape_l (w := W) av true (by omega))
      generalize hev : escapeL true av = ev at hes HES
      have HEV := Lib.hid hev
      clear hev hb3 hcells hB3 c0 c1
      have s1 : (⟨#[32]⟩ : ByteArray).size = 1 := rfl
      have s2 : (⟨#[61, 34]⟩ : ByteArray).size = 2 := rfl
      have s3 : (⟨#[34]⟩ : ByteArray).size = 1 := rfl
      have a1 : (⟨#[32]⟩ : ByteArray) ++ bs an = bs (32 :: an) := bs_append [32] an
      have a2 : bs (32 :: an) ++ (⟨#[61, 34]⟩ : ByteArray) = bs (32 :: (an ++ [61, 34])) := bs_append (32 :: an) [61, 34]
      have a3 : bs (32 :: (an ++ [61, 34])) ++ bs ev = bs (32 :: (an ++ 61 :: 34 :: ev)) := by rw [bs_append]; simp
      have a4 : bs (32 :: (an ++ 61 :: 34 :: ev)) ++ (⟨#[34]⟩ : ByteArray) = bs (32 :: (an ++ 61 :: 34 :: (ev ++ [34]))) := by
        have := bs_append (32 :: (an ++ 61 :: 34 :: ev)) [34]
        rw [show (⟨#[34]⟩ : ByteArray) = bs [34] from rfl, this]
        simp
      have z1 : ¬ (9223372036854775807 < (⟨#[32]⟩ : ByteArray).size + (bs an).size) := by rw [bs_size]; omega
      have z2 : ¬ (9223372036854775807 < (bs (32 :: an)).size + (⟨#[61, 34]⟩ : ByteArray).size) := by rw [bs_size, List.length_cons]; omega
      have z3 : ¬ (9223372036854775807 < (bs (32 :: (an ++ [61, 34]))).size + (bs ev).size) := by rw [bs_size, bs_size, List.length_cons, List.length_append]; simp; omega
      have z4 : ¬ (9223372036854775807 < (bs (32 :: (an ++ 61 :: 34 :: ev))).size + (⟨#[34]⟩ : ByteArray).size) := by rw [bs_size, List.length_cons, List.length_append, List.length_cons, List.length_cons]; omega
      have z5 : ¬ (9223372036854775807 < (bs (32 :: (an ++ 61 :: 34 :: ev))).size + 1) := z4
      clear s1 s2 s3
      refine wp_region_every 7 4 (S := fun X => ∃ i, X = F' i) (by kernel_rfl) (by kernel_rfl) (fun _ _ _ _ _ h => h) hS0 ?_
      generalize W3.drew = W4 at hb4 hR4 hS0 ⊢
      dsimp only [List.take, List.drop]
      try simp only [Act.put]
      repeat (go_big_quiet_step (fail))
      refine wpQuiet_nil ?_
      refine wpAnyZ_one (i := 7) (F := 3) hS0 (by kernel_rfl) rfl (fun Kx hK => ?_)
      go_simp
      refine (HES.out W4).mono ?_
      rintro e5 W5 ⟨rfl, hb5⟩
      have hR5 := hR4.below hb5 (heap_lt hR4)
      have hS5 := hcov W5 ⟨Blk.cell hR5 0, Blk.cell hR5 1⟩
      refine hK.out _ _ hS5 ?_
      clear hK Kx
      try simp only [Act.put, List.setIfInBounds_toArray, List.set_cons_zero, List.set_cons_succ]
      refine wpAnyZ_one (i := 8) (F := 2) hS5 (by kernel_rfl) rfl (fun Kx hK => ?_)
      go_simp
      refine hK.out _ _ hS5 ?_
      clear hK Kx
      try simp only [Act.put, List.setIfInBounds_toArray, List.set_cons_zero, List.set_cons_succ]
      refine wpAnyZ_one (i := 9) (F := 1) hS5 (by kernel_rfl) rfl (fun Kx hK => ?_)
      go_simp
      refine hK.out _ _ hS5 ?_
      clear hK Kx
      try simp only [Act.put, List.setIfInBounds_toArray, List.set_cons_zero, List.set_cons_succ]
      refine wpAnyZ_one (i := 10) (F := 0) hS5 (by kernel_rfl) rfl (fun Kx hK => ?_)
      go_simp
      have hsz4 := hb4.size
      have hI5 := (HX.out.1.below hb4).below hb5
      refine (write_l hI5 (by simp only [List.length_append, List.length_cons, List.length_nil]; omega)).mono ?_
      rintro e6 W6 ⟨⟨n6, rfl⟩, hI6, hb6, ko6⟩
      have hR6 := hR5.others ko6 (by omega) (by decide)
      have hS6 := hcov W6 ⟨Blk.cell hR6 0, Blk.cell hR6 1⟩
      refine hK.out _ _ hS6 ?_
      clear hK Kx
      try simp only [Act.put, List.setIfInBounds_toArray, List.set_cons_zero, List.set_cons_succ]
      refine wpAnyZ_end (by kernel_rfl) ?_
      have hIn : BldL N0 b (L1 ++ ((at_.take (i + 1)).map attrH).flatten) W6 := by
        rw [HS.out]
        have e : L1 ++ (F ++ attrH ⟨an, av⟩) = L1 ++ F ++ 32 :: (an ++ 61 :: 34 :: (ev ++ [34])) := by
          unfold attrH
          rw [HEV.out]
          simp
        rw [e]
        exact hI6
      have hPn := (((HX.out.2.1).below hb4 (Nat.lt_of_lt_of_le (heap_lt HX.out.2.1) (Nat.le_refl _))).below hb5 (Nat.lt_of_lt_of_le (heap_lt HX.out.2.1) hsz4)).others ko6 (by omega) (by decide)
      have hbn := ((hbi.trans (hb4.mono (by omega))).trans (hb5.mono (by omega))).trans hb6
      have hkn := ((HX.out.2.2.2.trans (others_below hb4)).trans (others_below hb5)).trans ko6
      clear a1 a2 a3 a4 z1 z2 z3 z4 z5
      go_wp2_with fail
      go_roundw
      case rel => exact ⟨i + 1, rfl, hlt, hIn, hPn, hbn, hkn⟩
      case measure =>
        show at_.length - kOf (.int .i64 ((i + 1 : Nat) : Int)) < at_.length - kOf (.int .i64 (i : Int))
        simp only [kOf, Int.toNat_natCast]
        omega
    · have t0 : ¬ ((i : Int) < (at_.length : Int)) := by omega
      have hkt : at_.take i = at_ := List.take_of_length_le (by omega)
      rw [hkt] at hIi
      have hfl := attrH_len at_
      clear hI1 hP1 hbw1 hk1
      generalize hfe : (at_.map attrH).flatten = FL at hIi hfl
      have HFL := Lib.hid hfe
      clear hfe
      go_wp2_with fail
      refine (write_l (s := [62]) hIi (by simp only [List.length_append, List.length_cons, List.length_nil]; omega)).mono ?_
      rintro e2 V2 ⟨⟨n2, rfl⟩, hI2, hb2, ko2⟩
      have hP2 := hPi.others ko2 (by omega) (by decide)
      have hk2 := hki.trans ko2
      have hbw2 := hbi.trans hb2
      have q0 : V2.cell? ⟨w.heap.size, 0, none⟩ = some (.string (bs nm)) := Blk.cell hP2 0
      clear hIi hPi hki hb2 ko2
      go_wp2_with fail
      refine (void_u nm).mono ?_
      rintro e3 V3 ⟨rfl, hV3⟩
      obtain ⟨L2, hL2⟩ : ∃ L2, L2 = L1 ++ FL ++ [62] := ⟨_, rfl⟩
      have hl2 : L2.length = L1.length + FL.length + 1 := by rw [hL2]; simp; omega
      rw [← hL2] at hI2
      have HEND := Lib.hid (show L2 = l ++ ([60] ++ nm ++ (at_.map attrH).flatten ++ [62]) by rw [hL2, HL1.out, HFL.out]; simp)
      clear hL2 q0
      have hI3 : BldL N0 b L2 V3 := by rw [hV3]; exact hI2
      have hP3 : Blk V3 w.heap.size 121 #[.string (bs nm), .slice A at_.length ca, .string (bs tx), .slice K kd.length ck] := by rw [hV3]; exact hP2
      have hb3 : Below N0 w V3 := by rw [hV3]; exact ⟨hbw2.os, hbw2.tape, hbw2.output, hbw2.size, hbw2.block⟩
      have hk3 : Lib.OthersKept 5 (some b) w V3 := by rw [hV3]; exact hk2
      have hHE := HE.out
      clear hV3 hI2 hP2 hbw2 hk2
      have HE2 := Lib.hid (show l ++ htmlN (.mk nm at_ tx kd) = L2 ++ if Tz.voidL nm = true then [] else htmlL kd ++ ([60, 47] ++ nm ++ [62]) by
        rw [HEND.out, htmlN_el hname]
        simp only [List.append_assoc])
      clear hHE
      generalize Tz.voidL nm = z at HE2
      cases z with
      | true =>
        go_wp2_with fail
        refine bodyPost_ret (results_none rfl _ _ _) rfl ?_
        exact ⟨rfl, by rw [HE2.out]; simpa using hI3, hb3, hk3⟩
      | false =>
        have HE3 := Lib.hid (show l ++ htmlN (.mk nm at_ tx kd) = (L2 ++ htmlL kd) ++ (60 :: 47 :: (nm ++ [62])) by
          rw [HE2.out, if_neg (by simp)]
          simp)
        have q3 : V3.cell? ⟨w.heap.size, 3, none⟩ = some (.slice K kd.length ck) := Blk.cell hP3 3
        clear HE2
        go_wp2_with fail
        go_loopw [40] (fun vi wr => ∃ i : Nat, vi = .int .i64 i ∧ i ≤ kd.length ∧ BldL N0 b (L2 ++ htmlL (kd.take i)) wr ∧ Blk wr w.heap.size 121 #[.string (bs nm), .slice A at_.length ca, .string (bs tx), .slice K kd.length ck] ∧ Below N0 w wr ∧ Lib.OthersKept 5 (some b) w wr) (fun vi _ => kd.length - kOf vi)
        case atStart => exact ⟨0, rfl, Nat.zero_le _, by simpa [htmlL] using hI3, hP3, hb3, hk3⟩
        case round =>
          clear hI3 hP3 hb3 hk3 q3
          obtain ⟨i, rfl, hi, hIi, hPi, hbi, hki⟩ := hrel
          by_cases hlt' : i < kd.length
          · have t0 : (i : Int) < (kd.length : Int) := by omega
            have hkS : KeepS S w wr := fun g hg => hbi.block g (hSlt g hg)
            have hTr := hT.keepS hkS hbi.size
            obtain ⟨ad, c1, y0, y1, y2, y3, hkv, hSb, hny, hcells⟩ := hTr.at_ i hlt'
            obtain ⟨rfl, rfl⟩ : K = some ad ∧ ck = c1 := by injection hkv with e1 _ e2; exact ⟨e1, e2⟩
            have hst : kd.take (i + 1) = kd.take i ++ [kd[i]] := by rw [List.take_add_one, List.getElem?_eq_getElem hlt']; rfl
            have hf := htmlL_app (kd.take i) [kd[i]]
            rw [← hst] at hf
            have hf : htmlL (kd.take (i + 1)) = htmlL (kd.take i) ++ htmlN kd[i] := by rw [hf]; simp [htmlL]
            have hmem : nodW kd[i] ≤ nodsW kd := nodsW_mem (List.getElem_mem hlt')
            have hwt := htmlL_len (kd.take i)
            have hwa : nodsW (kd.take i) + nodW kd[i] ≤ nodsW kd := by
              have h1 := take_w kd (i + 1)
              rw [hst, nodsW_app] at h1
              simp [nodsW] at h1
              omega
            generalize kd[i] = n at hny hf hmem hwa
            have hF := Lib.hid hf
            clear hf hst hkv
            generalize htmlL (kd.take i) = O at hIi hF hwt
            have hi1 : IntKind.i64.wrap ((i : Int) + 1) = ((i + 1 : Nat) : Int) := by rw [IntKind.wrap_i64]; omega
            obtain ⟨nm2, at2, tx2, kd2⟩ := n
            have hny0 := hny
            unfold NodC at hny0
            obtain ⟨A2, ca2, K2, ck2, zs2, ey, _⟩ := hny0
            simp only [List.cons.injEq, and_true] at ey
            obtain ⟨rfl, rfl, rfl, rfl⟩ := ey
            have hone := hny.one_
            have o0 := hone (.string (bs nm2)) (by simp)
            have o1 := hone (.slice A2 at2.length ca2) (by simp)
            have o2 := hone (.string (bs tx2)) (by simp)
            have o3 := hone (.slice K2 kd2.length ck2) (by simp)
            have HX := Lib.hid (And.intro hIi (And.intro hny (And.intro hPi hki)))
            clear hIi hny hone hTr hPi hki
            go_wp2_with (first
              | (with_reducible refine wpList_load_at rfl 61 (.tmp 42) rfl (ad.add (i * 4)) rfl [.string (bs nm2), .slice A2 at2.length ca2, .string (bs tx2), .slice K2 kd2.length ck2] _ hcells Tryz.underlying61 rfl (by kernel_rfl) ?_)
              | ((with_reducible refine store_new rfl 61 (.tmp 7) (.tmp 43) rfl #[.string (bs nm2), .slice A2 at2.length ca2, .string (bs tx2), .slice K2 kd2.length ck2] rfl rfl (by kernel_rfl) (by kernel_rfl) (by simp [o0, o1, o2, o3]) ?_); intro W3 hB3 hb3)
              | (with_reducible refine wpList_load_row rfl 61 (.tmp 7) rfl wr.heap.size rfl 61 #[.string (bs nm2), .slice A2 at2.length ca2, .string (bs tx2), .slice K2 kd2.length ck2] (0, 0) _ hB3 Tryz.underlying61 rfl (by kernel_rfl) ?_))
            have hs3 := hb3.size
            have hsr := hbi.size
            by_cases hnm2 : nm2 = []
            · subst hnm2
              refine part_text.mono ?_
              rintro e4 W4 ⟨rfl, hb4⟩
              go_wp2_with fail
              have hI4 := (HX.out.1.below hb3).below hb4
              have htx := nodW_text (.mk [] at2 tx2 kd2)
              have htx : tx2.length ≤ nodW (.mk [] at2 tx2 kd2) := htx
              refine (words_u hI4 (by rw [List.length_append]; omega)).mono ?_
              rintro e5 W5 ⟨rfl, hI5, hb5, ko5⟩
              have hb6 : Below N0 w W5 := ((hbi.trans (hb3.mono (by omega))).trans (hb4.mono (by omega))).trans hb5
              have hk6 := ((HX.out.2.2.2.trans (others_below hb3)).trans (others_below hb4)).trans ko5
              have hP6 := ((HX.out.2.2.1.below hb3 (heap_lt HX.out.2.2.1)).below hb4 (Nat.lt_of_lt_of_le (heap_lt HX.out.2.2.1) hs3)).others ko5 (by omega) (by decide)
              rw [← htmlN_text at2 tx2 kd2, List.append_assoc, ← hF.out] at hI5
              go_wp2_with fail
              go_roundw
              case rel => exact ⟨i + 1, rfl, hlt', hI5, hP6, hb6, hk6⟩
              case measure =>
                show kd.length - kOf (.int .i64 ((i + 1 : Nat) : Int)) < kd.length - kOf (.int .i64 (i : Int))
                simp only [kOf, Int.toNat_natCast]
                omega
            · refine (part_el hnm2).mono ?_
              rintro e4 W4 ⟨rfl, hb4⟩
              go_wp2_with fail
              have hI4 := (HX.out.1.below hb3).below hb4
              have hny4 := NodC.keep (KeepS.below (hb3.trans (hb4.mono hs3)) (fun g hg => by have := hSlt g hg; omega)) _ _ HX.out.2.1
              refine (H.out W4 N0 b (L2 ++ O) S _ (.mk nm2 at2 tx2 kd2) hI4 hny4 hSlt (by omega) hnm2 (by omega) (by rw [List.length_append]; omega)).mono ?_
              rintro e5 W5 ⟨rfl, hI5, hb5, ko5⟩
              have hb6 : Below N0 w W5 := ((hbi.trans (hb3.mono (by omega))).trans (hb4.mono (by omega))).trans hb5
              have hk6 := ((HX.out.2.2.2.trans (others_below hb3)).trans (others_below hb4)).trans ko5
              have hP6 := ((HX.out.2.2.1.below hb3 (heap_lt HX.out.2.2.1)).below hb4 (Nat.lt_of_lt_of_le (heap_lt HX.out.2.2.1) hs3)).others ko5 (by omega) (by decide)
              rw [List.append_assoc, ← hF.out] at hI5
              go_wp2_with fail
              go_roundw
              case rel => exact ⟨i + 1, rfl, hlt', hI5, hP6, hb6, hk6⟩
              case measure =>
                show kd.length - kOf (.int .i64 ((i + 1 : Nat) : Int)) < kd.length - kOf (.int .i64 (i : Int))
                simp only [kOf, Int.toNat_natCast]
                omega
          · have t0 : ¬ ((i : Int) < (kd.length : Int)) := by omega
            have hkt : kd.take i = kd := List.take_of_length_le (by omega)
            rw [hkt] at hIi
            have hhl := htmlL_len kd
            generalize htmlL kd = HT at HE3 hIi hhl
            have q0 : wr.cell? ⟨w.heap.size, 0, none⟩ = some (.string (bs nm)) := Blk.cell hPi 0
            have s1 : (⟨#[60, 47]⟩ : ByteArray).size = 2 := rfl
            have s2 : (⟨#[62]⟩ : ByteArray).size = 1 := rfl
            have a1 : (⟨#[60, 47]⟩ : ByteArray) ++ bs nm = bs (60 :: 47 :: nm) := bs_append [60, 47] nm
            have a2 : bs (60 :: 47 :: nm) ++ (⟨#[62]⟩ : ByteArray) = bs (60 :: 47 :: (nm ++ [62])) := bs_append (60 :: 47 :: nm) [62]
            have z1 : ¬ (9223372036854775807 < (⟨#[60, 47]⟩ : ByteArray).size + (bs nm).size) := by rw [bs_size]; omega
            have z2 : ¬ (9223372036854775807 < (bs (60 :: 47 :: nm)).size + (⟨#[62]⟩ : ByteArray).size) := by rw [bs_size, List.length_cons, List.length_cons]; omega
            have z3 : ¬ (9223372036854775807 < (bs (60 :: 47 :: nm)).size + 1) := z2
            clear s1 s2
            go_wp2_with fail
            refine (write_l hIi (by simp only [List.length_append, List.length_cons, List.length_nil]; omega)).mono ?_
            rintro e5 W5 ⟨⟨n5, rfl⟩, hI5, hb5, ko5⟩
            rw [← HE3.out] at hI5
            clear a1 a2 z1 z2 z3
            go_wp2_with fail
            go_end0
            exact ⟨rfl, hI5, hbi.trans hb5, hki.trans ko5⟩

theorem lay_all : ∀ N, LayAll N
  | 0 => fun _ _ _ _ _ _ _ _ _ _ h => absurd h (by omega)
  | N + 1 => lay_step (lay_all N)
/-- ser.HTML. -/
theorem html_u {w : World} {S : Nat → Prop} {kv : Value} {k : List Nod} (hT : TreeV w S kv k) (hk : nodsW k ≤ 240000000) :
    Calls Tryz.prog 20 #[kv] w fun e w' => e = .returned (.string (bs (htmlL k))) ∧ Below w.heap.size w w' :=
  html_of (lay_all (nodsW k + 1)) hT (by omega) hk
end Go.Proofs.YtlgaeeedkihfpaaGreatDoor.Uf

/-
  san.Clean: what it computes, and how long (plain).
-/
namespace Go.Proofs.YtlgaeeedkihfpaaGreatDoor.Uf
open Lib
open Tz (B Atr Nod Tok Bd Pol rightP toksL buildL buildG foldS htmlL sizeL escapeL shutN)

theorem outOf_len (l : List UInt8) (hne : l ≠ []) (last : Nat) : (outOf (decodeL l).1 last).length ≤ 3 * (decodeL l).2 := by
  have hw := decodeL_width l
  unfold outOf
  split
  · simp [odd]; omega
  · rename_i h
    split
    · simp; omega
    · split
      · simp
      · rw [encode_decode l hne (fun e => h (.inr e.1)), List.length_take]
        omega
theorem fixG_len : ∀ (n : Nat) (l : List UInt8) (last : Nat), (fixG n l last).length ≤ 3 * l.length
  | 0, _, _ => by simp [fixG]
  | n + 1, l, last => by
    unfold fixG
    split
    · simp
    · rename_i hne
      have h1 := outOf_len l hne last
      have h2 := fixG_len n (l.drop (decodeL l).2) (decodeL l).1
      have h3 := decodeL_le l hne
      rw [List.length_drop] at h2
      rw [List.length_append]
      omega
theorem fixU_len (l : List UInt8) : (fixU l).length ≤ 3 * l.length := fixG_len _ _ _
theorem buildG_w : ∀ (l : List Tok) (b : Bd) (k : List Nod), buildG l b = some k → nodsW k ≤ bdW b.open_ + toksW l + 3 * l.length
  | [], b, k, h => by
    unfold buildG at h
    have hs := bdW_shutN (b.open_.length - 1) b.open_
    split at h
    · rename_i e r he
      injection h with h
      subst h
      rw [he] at hs
      simp [bdW, elW] at hs
      simp [toksW, bdW]
      omega
    · cases h
  | t :: r, b, k, h => by
    rw [buildG_cons] at h
    split at h
    · cases h
    · have h1 := buildG_w r (b.take t) k h
      have h2 := bdW_take b t
      have e : toksW (t :: r) = tokW t + toksW r := by simp [toksW]
      rw [e, List.length_cons]
      omega
theorem buildL_w {l : List Tok} {k : List Nod} (h : buildL l = some k) : nodsW k ≤ toksW l + 3 * l.length + 1 := by
  have h1 := buildG_w l _ k h
  have e : bdW (⟨[⟨[], [], []⟩], 0, false⟩ : Bd).open_ = 1 := rfl
  omega
/-- The tree of a page's text: its weight. -/
theorem page_w {s : B} {k : List Nod} (hs : s.length ≤ 50000) (h : buildL (toksL s) = some k) : nodsW k ≤ 900000 := by
  have h1 := buildL_w h
  have h2 := toksL_w s
  have h3 := toksL_n s
  omega
/-- What Clean answers: a text, and an error's number. -/
def cleanS (p : Pol) (pg : B) : B × Int :=
  if rightP p = false then ([], 2) else if p.bytes < (pg.length : Int) then ([], 4) else
  match buildL (toksL (fixU pg)) with
  | none => (escapeL false (fixU pg), 0)
  | some k => if ((sizeL (foldS p [] k)).1 : Int) ≤ p.nodes ∧ ((sizeL (foldS p [] k)).2 : Int) ≤ p.depth then (htmlL (foldS p [] k), 0) else (escapeL false (fixU pg), 0)
theorem clean_wrong {p : Pol} {pg : B} (h : rightP p = false) : cleanS p pg = ([], 2) := by unfold cleanS; rw [if_pos h]
theorem clean_long {p : Pol} {pg : B} (h : rightP p = true) (hl : p.bytes < (pg.length : Int)) : cleanS p pg = ([], 4) := by unfold cleanS; rw [h, if_neg (by simp), if_pos hl]
theorem clean_none {p : Pol} {pg : B} (h : rightP p = true) (hl : ¬ p.bytes < (pg.length : Int)) (hb : buildL (toksL (fixU pg)) = none) : cleanS p pg = (escapeL false (fixU pg), 0) := by unfold cleanS; rw [h, if_neg (by simp), if_neg hl, hb]
theorem clean_fits {p : Pol} {pg : B} {k : List Nod} (h : rightP p = true) (hl : ¬ p.bytes < (pg.length : Int)) (hb : buildL (toksL (fixU pg)) = some k) (h1 : ((sizeL (foldS p [] k)).1 : Int) ≤ p.nodes) (h2 : ((sizeL (foldS p [] k)).2 : Int) ≤ p.depth) : cleanS p pg = (htmlL (foldS p [] k), 0) := by
  unfold cleanS
  rw [h, if_neg (by simp), if_neg hl, hb]
  show (if _ then _ else _) = _
  rw [if_pos ⟨h1, h2⟩]
theorem clean_over {p : Pol} {pg : B} {k : List Nod} (h : rightP p = true) (hl : ¬ p.bytes < (pg.length : Int)) (hb : buildL (toksL (fixU pg)) = some k) (h1 : ¬ (((sizeL (foldS p [] k)).1 : Int) ≤ p.nodes ∧ ((sizeL (foldS p [] k)).2 : Int) ≤ p.depth)) : cleanS p pg = (escapeL false (fixU pg), 0) := by
  unfold cleanS
  rw [h, if_neg (by simp), if_neg hl, hb]
  show (if _ then _ else _) = _
  rw [if_neg h1]
/-- A cleaned page is harmless: no error, or no text; and no bad token in it. -/
theorem clean_fail {p : Pol} {pg : B} (h : (cleanS p pg).2 ≠ 0) : (cleanS p pg).1 = [] := by
  cases hr : rightP p with
  | false => rw [clean_wrong hr]
  | true =>
    by_cases hl : p.bytes < (pg.length : Int)
    · rw [clean_long hr hl]
    · exfalso
      apply h
      cases hb : buildL (toksL (fixU pg)) with
      | none => rw [clean_none hr hl hb]
      | some k =>
        by_cases h1 : ((sizeL (foldS p [] k)).1 : Int) ≤ p.nodes ∧ ((sizeL (foldS p [] k)).2 : Int) ≤ p.depth
        · rw [clean_fits hr hl hb h1.1 h1.2]
        · rw [clean_over hr hl hb h1]
end Go.Proofs.YtlgaeeedkihfpaaGreatDoor.Uf
