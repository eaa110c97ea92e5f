/-
  Texts of the proof of Chain, one behind the other: ResP, ResW, TokA, TokB.
-/
import Derived.Test.YtlgaeeedkihfpaaGreatDoorC08
/-
  The plain side of refs.Resolve: one step of it, and how long what comes out is.
-/
namespace Go.Proofs.YtlgaeeedkihfpaaGreatDoor.Uf
open Go.RowKit
open Tz (B standsL numberL numG namedL runeL oddN resolveG resolveL)

theorem dropW_le (p : UInt8 → Bool) (s : B) : (s.dropWhile p).length ≤ s.length := by
  induction s with
  | nil => simp
  | cons c s ih => rw [List.dropWhile_cons]; split <;> simp <;> omega
theorem resolveG_more : ∀ (f g : Nat) (s : B), s.length < f → s.length < g → resolveG f s = resolveG g s
  | 0, _, _, h, _ => by omega
  | _, 0, _, _, h => by omega
  | f + 1, g + 1, s, hf, hg => by
    unfold resolveG
    have hd := dropW_le (· != 38) s
    split
    · rfl
    · rename_i c t ht
      rw [ht] at hd
      simp at hd
      have e1 : ∀ t' : B, t'.length ≤ t.length → resolveG f t' = resolveG g t' := fun t' h => resolveG_more f g t' (by omega) (by omega)
      rw [e1 t (Nat.le_refl _)]
      split
      · rename_i e _
        rw [e1 (t.drop (e + 1)) (by simp)]
      · rfl
theorem res_stop {s : B} (h : s.dropWhile (· != 38) = []) : resolveL s = s := by
  unfold resolveL resolveG
  rw [h]
theorem res_go {s t : B} {c : UInt8} (h : s.dropWhile (· != 38) = c :: t) : resolveL s = s.takeWhile (· != 38) ++ (match ((t.take 11).findIdx? (· == 59)) with
        | some e => (match standsL (t.take e) with
          | some r => r ++ resolveL (t.drop (e + 1))
          | none => 38 :: resolveL t)
        | none => 38 :: resolveL t) := by
  have hd := dropW_le (· != 38) s
  rw [h] at hd
  simp at hd
  have e1 : ∀ t' : B, t'.length ≤ t.length → resolveG s.length t' = resolveL t' := fun t' h => resolveG_more _ _ t' (by omega) (by omega)
  conv => lhs; unfold resolveL resolveG
  rw [h]
  dsimp only
  rw [e1 t (Nat.le_refl _)]
  congr 1
  cases hf : (t.take 11).findIdx? (· == 59) with
  | none => rfl
  | some e =>
    dsimp only
    rw [e1 (t.drop (e + 1)) (by simp)]
    cases standsL (t.take e) <;> rfl
theorem runeL_le (n : Nat) : (runeL n).length ≤ 4 := by
  unfold runeL
  repeat' split
  all_goals simp
theorem stands_le {s r : B} (h : standsL s = some r) : r.length ≤ 4 := by
  unfold standsL at h
  split at h
  · obtain ⟨n, _, rfl⟩ := Option.map_eq_some_iff.1 h
    exact runeL_le _
  · unfold namedL at h
    obtain ⟨n, _, rfl⟩ := Option.map_eq_some_iff.1 h
    exact runeL_le _
theorem ixB_none {c : UInt8} : ∀ {s : B}, s.dropWhile (· != c) = [] → ixB s c = -1
  | [], _ => rfl
  | b :: s, h => by
    rw [List.dropWhile_cons] at h
    split at h
    · rename_i hb
      have ih := ixB_none h
      unfold ixB at ih ⊢
      rw [List.findIdx?_cons, if_neg (by simpa using hb)]
      cases hf : s.findIdx? (· == c) with
      | none => rfl
      | some i => rw [hf] at ih; simp at ih
    · cases h
theorem ixB_some {c d : UInt8} {t : B} : ∀ {s : B}, s.dropWhile (· != c) = d :: t → ixB s c = ((s.takeWhile (· != c)).length : Int) ∧ d = c ∧ (s.takeWhile (· != c)) = s.take (s.takeWhile (· != c)).length ∧ s.drop (s.takeWhile (· != c)).length = d :: t ∧ s.length = (s.takeWhile (· != c)).length + 1 + t.length
  | [], h => by simp at h
  | b :: s, h => by
    rw [List.dropWhile_cons] at h
    split at h
    · rename_i hb
      obtain ⟨h1, h2, h3, h4, h5⟩ := ixB_some h
      rw [List.takeWhile_cons, if_pos hb]
      refine ⟨?_, h2, ?_, ?_, ?_⟩
      · unfold ixB at h1 ⊢
        rw [List.findIdx?_cons, if_neg (by simpa using hb)]
        cases hf : s.findIdx? (· == c) with
        | none => rw [hf] at h1; simp at h1
        | some i => rw [hf] at h1; simp at h1 ⊢; omega
      · simp only [List.length_cons, List.take_succ_cons]; rw [← h3]
      · simpa using h4
      · simp; omega
    · rename_i hb
      rw [List.takeWhile_cons, if_neg hb]
      have hbc : b = c := by simpa using hb
      injection h with h1 h2
      refine ⟨?_, by rw [← h1, hbc], rfl, by simp [h1, h2], by simp [h2]; omega⟩
      unfold ixB
      rw [List.findIdx?_cons, if_pos (by simp [hbc])]
      rfl

/-- A builder that holds these bytes. -/
def Bw (B0 b : Nat) (acc : B) (w : World) : Prop := Lib.IsBuilderF 84 5 B0 b (Lib.byteCells acc) w
theorem wr_string {w : World} {B0 b : Nat} {acc : B} (t : B) (h : Bw B0 b acc w) (hlen : acc.length + t.length ≤ 140737488355328) (hBw : B0 ≤ w.heap.size) :
    Calls Tryz.prog 44 #[.pointer (some ⟨b, 0, none⟩), .string (bs t)] w fun e w' => e = .returned (.tuple #[.int .i64 t.length, .nilIface]) ∧ Bw B0 b (acc ++ t) w' ∧ Below B0 w w' ∧ Lib.OthersKept 5 (some b) w w' := by
  refine (write_string B0 b _ (bs t) w h (by rw [Lib.byteCells_length]; exact hlen) hBw).mono ?_
  rintro e w' ⟨rfl, h1, b1, k1⟩
  refine ⟨rfl, ?_, b1, k1⟩
  unfold Bw
  rw [Lib.byteCells_append]
  exact Or.inr h1
theorem wr_byte {w : World} {B0 b : Nat} {acc : B} (c : Nat) (hc : c < 256) (h : Bw B0 b acc w) (hlen : acc.length + 1 ≤ 140737488355328) (hBw : B0 ≤ w.heap.size) :
    Calls Tryz.prog 45 #[.pointer (some ⟨b, 0, none⟩), .int .u8 c] w fun e w' => e = .returned .nilIface ∧ Bw B0 b (acc ++ [UInt8.ofNat c]) w' ∧ Below B0 w w' ∧ Lib.OthersKept 5 (some b) w w' := by
  refine (write_byte B0 b _ (c : Int) w h (by rw [Lib.byteCells_length]; exact hlen) hBw).mono ?_
  rintro e w' ⟨rfl, h1, b1, k1⟩
  refine ⟨rfl, ?_, b1, k1⟩
  unfold Bw
  rw [Lib.byteCells_append, show Lib.byteCells [UInt8.ofNat c] = [.int .u8 (c : Int)] by simp [Lib.byteCells]; omega]
  exact Or.inr h1
theorem bw_str {w : World} {B0 b : Nat} {acc : B} (h : Bw B0 b acc w) (hBw : B0 ≤ w.heap.size) :
    Calls Tryz.prog 47 #[.pointer (some ⟨b, 0, none⟩)] w fun e w' => e = .returned (.string (bs acc)) ∧ Bw B0 b acc w' ∧ Below B0 w w' ∧ Lib.OthersKept 5 (some b) w w' := Tryz.Builder_String_any_k B0 b acc w h hBw
theorem bw_new (w : World) : Bw w.heap.size w.heap.size [] (w.alloc (.cells #[.pointer none, .slice none 0 0] 84)) := Lib.IsBuilderF.of (Lib.fresh_isBuilder 84 5 w)
theorem bw_lt {w : World} {B0 b : Nat} {acc : B} (h : Bw B0 b acc w) : b < w.heap.size := by
  rcases h with h | h
  · exact h.lt
  · exact h.lt
theorem bw_below {w w' : World} {B0 b : Nat} {acc : B} (h : Bw B0 b acc w) (hb : Below w.heap.size w w') : Bw B0 b acc w' := by
  have hg : w.grownBy w' none := ⟨hb.os, hb.tape, hb.output, hb.size, fun k hk _ => hb.block k hk⟩
  have hlt := bw_lt h
  rcases h with h | h <;> obtain ⟨hB, v, hv, hown, hne⟩ := h
  · exact .inl ⟨hB, v, (hb.block b hlt).trans hv, hown.kept hg (Classical.em _), hne⟩
  · exact .inr ⟨hB, v, (hb.block b hlt).trans hv, hown.kept hg (Classical.em _), hne⟩
end Go.Proofs.YtlgaeeedkihfpaaGreatDoor.Uf

/-
  refs.Resolve: what it computes.
-/
namespace Go.Proofs.YtlgaeeedkihfpaaGreatDoor.Uf
open Go.RowKit
open Tz (B standsL resolveL)

/-- The text that a slot holds. -/
def strOf : Value → B
  | .string s => s.data.toList
  | _ => []
@[simp] theorem strOf_bs (l : B) : strOf (.string (bs l)) = l := rfl

set_option maxRecDepth 100000 in
set_option maxHeartbeats 4000000 in
theorem resolve_u {w : World} (l : B) (hs : l.length ≤ 1600000000) :
    Calls Tryz.prog 78 #[.string (bs l)] w fun e w' => e = .returned (.string (bs (resolveL l))) ∧ Below w.heap.size w w' := by
  obtain ⟨R, hR⟩ : ∃ R, R = resolveL l := ⟨_, rfl⟩
  rw [← hR]
  go_enter Tryz.func78, Tryz.ntmps78
  go_wp2
  go_step3
  go_wp2
  go_step3
  go_wp2
  go_loopw [0] (fun i wr => ∃ (s acc : B), i = .string (bs s) ∧ Bw w.heap.size w.heap.size acc wr ∧ Below w.heap.size w wr ∧ w.heap.size < wr.heap.size ∧ Hid (acc ++ resolveL s = R) ∧ s.length ≤ l.length ∧ acc.length + 4 * s.length ≤ 4 * l.length) (fun i _ => (strOf i).length)
  case atStart => exact ⟨l, [], rfl, bw_new w, (Below.refl _ w).alloc (Nat.le_refl _) _, by simp, Lib.hid (by rw [hR]; rfl), Nat.le_refl _, by simp⟩
  case round =>
    obtain ⟨s, acc, rfl, hI, hbw, hsz, Hacc, hsl, hal⟩ := hrel
    cases hd : s.dropWhile (· != 38) with
    | nil =>
      have hix : ixB s (UInt8.ofNat 38) = -1 := ixB_none hd
      have hfin : acc ++ s = R := by rw [← Hacc.out, res_stop hd]
      have Hfin := Lib.hid hfin
      clear hfin hd
      go_wp2_with fail
      refine (index_byte s 38 (by omega)).mono ?_
      rintro e w1 ⟨rfl, hw1⟩
      rw [hw1, hix]
      clear hw1 w1
      go_wp2_with fail
      refine (wr_string s hI (by omega) (by omega)).mono ?_
      rintro e W1 ⟨rfl, h1, b1, k1⟩
      have hz1 := b1.size
      go_wp2_with fail
      refine (bw_str h1 (by omega)).mono ?_
      rintro e W2 ⟨rfl, _, b2, _⟩
      go_wp2_with fail
      rw [Exit.noGoto_ret]
      go_ret
      exact ⟨by rw [Hfin.out]; rfl, (hbw.trans b1).trans b2⟩
    | cons c t =>
      obtain ⟨hix, rfl, htk, hdr, hlen⟩ := ixB_some hd
      obtain ⟨p, hp⟩ : ∃ p, p = s.takeWhile (· != 38) := ⟨_, rfl⟩
      rw [← hp] at hix htk hdr hlen
      have hst := res_go hd
      rw [← hp] at hst
      have Hst := Lib.hid hst
      have hle : ((p.length : Nat) : Int) ≤ ((bs s).size : Int) := by rw [bs_size]; omega
      have hneg : decide (((p.length : Nat) : Int) < 0) = false := by simp
      have ex1 : (bs s).extract 0 p.length = bs p := by rw [bs_upto, ← htk]
      have ex2 : (bs s).extract p.length (bs s).size = bs (38 :: t) := by rw [bs_from, hdr]
      have hmin : min (((bs (38 :: t)).size : Nat) : Int) 12 = ((min (t.length + 1) 12 : Nat) : Int) := by rw [bs_size, List.length_cons]; omega
      have ex3 : (bs (38 :: t)).extract 0 (min (t.length + 1) 12) = bs (38 :: t.take 11) := by
        rw [bs_upto]
        congr 1
        by_cases h : t.length < 11
        · rw [show min (t.length + 1) 12 = t.length + 1 by omega, List.take_succ_cons, List.take_of_length_le (by omega), List.take_of_length_le (by omega)]
        · rw [show min (t.length + 1) 12 = 11 + 1 by omega, List.take_succ_cons]
      clear hd hst hp htk hdr
      go_wp2_with fail
      refine (index_byte s 38 (by omega)).mono ?_
      rintro e w1 ⟨rfl, hw1⟩
      rw [hw1, show ixB s (UInt8.ofNat 38) = (p.length : Int) from hix]
      clear hw1 w1
      have Hlen := Lib.hid hlen
      clear hlen
      cases hf : (t.take 11).findIdx? (· == 59) with
      | none =>
        have hix2 : ixB (38 :: t.take 11) (UInt8.ofNat 59) = -1 := by
          have hf' : (t.take 11).findIdx? (· == UInt8.ofNat 59) = none := hf
          unfold ixB
          rw [List.findIdx?_cons, if_neg (by decide), hf']
          rfl
        have hst2 : (acc ++ p ++ [UInt8.ofNat 38]) ++ resolveL t = R := by
          rw [← Hacc.out, Hst.out, hf]
          simp
        have ex4 : (bs (38 :: t)).extract 1 (bs (38 :: t)).size = bs t := by rw [bs_from]; rfl
        have hle4 : (1 : Int) ≤ ((bs (38 :: t)).size : Int) := by rw [bs_size, List.length_cons]; omega
        have Hst2 := Lib.hid hst2
        clear hst2 hf
        go_wp2_with fail
        refine (wr_string p hI (by have := Hlen.out; omega) (by omega)).mono ?_
        rintro e W1 ⟨rfl, h1, b1, k1⟩
        have hz1 := b1.size
        go_wp2_with fail
        refine (index_byte _ 59 (by omega)).mono ?_
        rintro e w1 ⟨rfl, hw1⟩
        rw [hw1, hix2]
        clear hw1 w1
        go_wp2_with fail
        refine (wr_byte 38 (by omega) h1 (by have := Hlen.out; simp; omega) (by omega)).mono ?_
        rintro e W2 ⟨rfl, h2, b2, k2⟩
        have hz2 := b2.size
        go_wp2_with fail
        go_roundw
        case rel => exact ⟨t, _, rfl, h2, (hbw.trans b1).trans b2, by omega, Hst2, by have := Hlen.out; omega, by have := Hlen.out; simp; omega⟩
        case measure => have := Hlen.out; simp; omega
      | some e =>
        have hel : e < (t.take 11).length := by
          obtain ⟨h, _⟩ := List.findIdx?_eq_some_iff_getElem.1 hf
          exact h
        have het : e < t.length := by simp at hel; omega
        have hix2 : ixB (38 :: t.take 11) (UInt8.ofNat 59) = ((e + 1 : Nat) : Int) := by
          have hf' : (t.take 11).findIdx? (· == UInt8.ofNat 59) = some e := hf
          unfold ixB
          rw [List.findIdx?_cons, if_neg (by decide), hf']
          rfl
        obtain ⟨k, hk⟩ : ∃ k, k = e + 1 := ⟨_, rfl⟩
        have ex5 : (bs (38 :: t)).extract 1 k = bs (t.take e) := by rw [bs_extract, hk]; rfl
        have hle5 : (k : Int) ≤ ((bs (38 :: t)).size : Int) := by rw [bs_size, List.length_cons]; omega
        have hle6 : (1 : Int) ≤ (k : Int) := by omega
        have hpos : decide ((0 : Int) < (k : Int)) = true := by simp; omega
        rw [← hk] at hix2
        have Hk := Lib.hid hk
        have Het := Lib.hid het
        clear hk hel het
        cases hsd : standsL (t.take e) with
        | none =>
          have hst2 : (acc ++ p ++ [UInt8.ofNat 38]) ++ resolveL t = R := by
            rw [← Hacc.out, Hst.out, hf]
            simp only [hsd]
            simp
          have ex4 : (bs (38 :: t)).extract 1 (bs (38 :: t)).size = bs t := by rw [bs_from]; rfl
          have hle4 : (1 : Int) ≤ ((bs (38 :: t)).size : Int) := by rw [bs_size, List.length_cons]; omega
          have Hst2 := Lib.hid hst2
          clear hst2 hf
          go_wp2_with fail
          refine (wr_string p hI (by have := Hlen.out; omega) (by omega)).mono ?_
          rintro e W1 ⟨rfl, h1, b1, k1⟩
          have hz1 := b1.size
          go_wp2_with fail
          refine (index_byte _ 59 (by omega)).mono ?_
          rintro e w1 ⟨rfl, hw1⟩
          rw [hw1, hix2]
          clear hw1 w1
          go_wp2_with fail
          refine (stands_u (t.take e) (by have := Hlen.out; simp; omega)).mono ?_
          intro e W2 hN
          rw [hsd] at hN
          obtain ⟨rfl, b2⟩ := hN
          have hz2 := b2.size
          have h2 : Bw w.heap.size w.heap.size (acc ++ p) W2 := bw_below h1 b2
          go_wp2_with fail
          refine (wr_byte 38 (by omega) h2 (by have := Hlen.out; simp; omega) (by omega)).mono ?_
          rintro e W3 ⟨rfl, h3, b3, k3⟩
          have hz3 := b3.size
          go_wp2_with fail
          go_roundw
          case rel => exact ⟨t, _, rfl, h3, ((hbw.trans b1).trans (b2.mono (by omega))).trans b3, by omega, Hst2, by have := Hlen.out; omega, by have := Hlen.out; simp; omega⟩
          case measure => have := Hlen.out; simp; omega
        | some r =>
          have hr4 := stands_le hsd
          have hst2 : (acc ++ p ++ r) ++ resolveL (t.drop (e + 1)) = R := by
            rw [← Hacc.out, Hst.out, hf]
            simp only [hsd]
            simp
          obtain ⟨k2, hk2⟩ : ∃ k, k = e + 2 := ⟨_, rfl⟩
          have ex4 : (bs (38 :: t)).extract k2 (bs (38 :: t)).size = bs (t.drop (e + 1)) := by rw [bs_from, hk2]; rfl
          have hw2 : IntKind.i64.wrap ((k : Int) + 1) = (k2 : Int) := by rw [IntKind.wrap_i64]; have := Hlen.out; have := Hk.out; have := Het.out; omega
          have hle4 : (k2 : Int) ≤ ((bs (38 :: t)).size : Int) := by rw [bs_size, List.length_cons]; have := Het.out; omega
          clear hk2
          have Hst2 := Lib.hid hst2
          clear hst2 hf
          go_wp2_with fail
          refine (wr_string p hI (by have := Hlen.out; omega) (by omega)).mono ?_
          rintro e W1 ⟨rfl, h1, b1, k1⟩
          have hz1 := b1.size
          go_wp2_with fail
          refine (index_byte _ 59 (by omega)).mono ?_
          rintro e w1 ⟨rfl, hw1⟩
          rw [hw1, hix2]
          clear hw1 w1
          go_wp2_with fail
          refine (stands_u (t.take e) (by have := Hlen.out; simp; omega)).mono ?_
          intro e W2 hN
          rw [hsd] at hN
          obtain ⟨rfl, b2⟩ := hN
          have hz2 := b2.size
          have h2 : Bw w.heap.size w.heap.size (acc ++ p) W2 := bw_below h1 b2
          go_wp2_with fail
          refine (wr_string r h2 (by have := Hlen.out; simp; omega) (by omega)).mono ?_
          rintro e W3 ⟨rfl, h3, b3, k3⟩
          have hz3 := b3.size
          go_wp2_with fail
          go_roundw
          case rel => exact ⟨t.drop (e + 1), _, rfl, h3, ((hbw.trans b1).trans (b2.mono (by omega))).trans b3, by omega, Hst2, by have := Hlen.out; simp; omega, by have := Hlen.out; have := Het.out; simp; omega⟩
          case measure => have := Hlen.out; simp; omega
end Go.Proofs.YtlgaeeedkihfpaaGreatDoor.Uf

/-
  tok's small functions: blank, letter, the functions handed to pass, left.
-/
namespace Go.Proofs.YtlgaeeedkihfpaaGreatDoor.Uf
open Go.RowKit
open Tz (B blankB letterB nameC attrC valC)

/-- A function of a byte computes a test, and changes nothing. -/
def Tests (f : FuncId) (p : UInt8 → Bool) : Prop := ∀ (c : UInt8) (w : World), Calls Tryz.prog f #[.int .u8 (c.toNat : Nat)] w fun e w' => e = .returned (.bool (p c)) ∧ w' = w
/-- A function that the program itself holds. -/
def Ent (f : FuncId) : Prop := ∀ (args : Array Value) (w : World), (callFunc f args).run Tryz.prog w = .ok (.enter f args) w
theorem ent_of {f : FuncId} {fn : Func} (hf : Tryz.prog.funcs[f]? = some fn) (hname : (fn.name == "runtime.NumGoroutine") = false) (hb : fn.body.isNone = false) : Ent f := by
  intro args w
  have h1 : fn.name ≠ "runtime.NumGoroutine" := by simpa using hname
  cases hb2 : fn.body with
  | none => rw [hb2] at hb; simp at hb
  | some c => simp [callFunc, hf, h1, hb2]
theorem eqf {x n : Nat} (h : x ≠ n) : ((x : Int) == (n : Int)) = false := by simp; omega
theorem eqt {x n : Nat} (h : x = n) : ((x : Int) == (n : Int)) = true := by simp; omega
theorem byte_is {c : UInt8} {n : Nat} (h : c.toNat = n) : c = UInt8.ofNat n := byteEq h

set_option maxRecDepth 100000 in
set_option maxHeartbeats 4000000 in
theorem blank_u : Tests 84 blankB := by
  intro c w
  obtain ⟨x, hx⟩ : ∃ x, x = c.toNat := ⟨_, rfl⟩
  rw [← hx]
  obtain ⟨R, hR⟩ : ∃ R, R = blankB c := ⟨_, rfl⟩
  rw [← hR]
  by_cases h9 : x = 9
  · obtain rfl : R = true := by rw [hR, byte_is (c := c) (n := 9) (by omega)]; rfl
    subst h9
    clear hR hx
    go_enter Tryz.func84, Tryz.ntmps84
    go_wp2_with fail
    go_ret
    exact ⟨rfl, rfl⟩
  by_cases h10 : x = 10
  · obtain rfl : R = true := by rw [hR, byte_is (c := c) (n := 10) (by omega)]; rfl
    subst h10
    clear hR hx
    go_enter Tryz.func84, Tryz.ntmps84
    go_wp2_with fail
    go_ret
    exact ⟨rfl, rfl⟩
  by_cases h12 : x = 12
  · obtain rfl : R = true := by rw [hR, byte_is (c := c) (n := 12) (by omega)]; rfl
    subst h12
    clear hR hx
    go_enter Tryz.func84, Tryz.ntmps84
    go_wp2_with fail
    go_ret
    exact ⟨rfl, rfl⟩
  by_cases h13 : x = 13
  · obtain rfl : R = true := by rw [hR, byte_is (c := c) (n := 13) (by omega)]; rfl
    subst h13
    clear hR hx
    go_enter Tryz.func84, Tryz.ntmps84
    go_wp2_with fail
    go_ret
    exact ⟨rfl, rfl⟩
  by_cases h32 : x = 32
  · obtain rfl : R = true := by rw [hR, byte_is (c := c) (n := 32) (by omega)]; rfl
    subst h32
    clear hR hx
    go_enter Tryz.func84, Tryz.ntmps84
    go_wp2_with fail
    go_ret
    exact ⟨rfl, rfl⟩
  obtain rfl : R = false := by
    rw [hR]
    unfold blankB
    simp only [Bool.or_eq_false_iff, beq_eq_false_iff_ne]
    exact ⟨⟨⟨⟨byte_ne (n := 9) (by omega) (by omega), byte_ne (n := 10) (by omega) (by omega)⟩, byte_ne (n := 12) (by omega) (by omega)⟩, byte_ne (n := 13) (by omega) (by omega)⟩, byte_ne (n := 32) (by omega) (by omega)⟩
  have e9 : ((x : Int) == 9) = false := eqf h9
  have e10 : ((x : Int) == 10) = false := eqf h10
  have e12 : ((x : Int) == 12) = false := eqf h12
  have e13 : ((x : Int) == 13) = false := eqf h13
  have e32 : ((x : Int) == 32) = false := eqf h32
  clear hR hx
  go_enter Tryz.func84, Tryz.ntmps84
  go_wp2_with fail
  go_ret
  exact ⟨rfl, rfl⟩

set_option maxRecDepth 100000 in
set_option maxHeartbeats 4000000 in
theorem letter_u : Tests 65 letterB := by
  intro c w
  have hc : letterB c = ((decide (97 ≤ c.toNat) && decide (c.toNat ≤ 122)) || (decide (65 ≤ c.toNat) && decide (c.toNat ≤ 90))) := rfl
  rw [hc]
  clear hc
  generalize c.toNat = x
  by_cases h1 : 97 ≤ x
  · have t1 : decide ((97 : Int) ≤ (x : Int)) = true := by simp; omega
    by_cases h2 : x ≤ 122
    · have t2 : decide ((x : Int) ≤ 122) = true := by simp; omega
      have hv : ((decide (97 ≤ x) && decide (x ≤ 122)) || (decide (65 ≤ x) && decide (x ≤ 90))) = true := by simp; omega
      rw [hv]
      clear hv h1 h2
      go_enter Tryz.func65, Tryz.ntmps65
      go_wp2_with fail
      go_ret
      exact ⟨rfl, rfl⟩
    · have t2 : decide ((x : Int) ≤ 122) = false := by simp; omega
      have t3 : decide ((65 : Int) ≤ (x : Int)) = true := by simp; omega
      have t4 : decide ((x : Int) ≤ 90) = false := by simp; omega
      have hv : ((decide (97 ≤ x) && decide (x ≤ 122)) || (decide (65 ≤ x) && decide (x ≤ 90))) = false := by simp; omega
      rw [hv]
      clear hv h1 h2
      go_enter Tryz.func65, Tryz.ntmps65
      go_wp2_with fail
      go_ret
      exact ⟨rfl, rfl⟩
  · have t1 : decide ((97 : Int) ≤ (x : Int)) = false := by simp; omega
    by_cases h3 : 65 ≤ x
    · have t3 : decide ((65 : Int) ≤ (x : Int)) = true := by simp; omega
      by_cases h4 : x ≤ 90
      · have t4 : decide ((x : Int) ≤ 90) = true := by simp; omega
        have hv : ((decide (97 ≤ x) && decide (x ≤ 122)) || (decide (65 ≤ x) && decide (x ≤ 90))) = true := by simp; omega
        rw [hv]
        clear hv h1 h3 h4
        go_enter Tryz.func65, Tryz.ntmps65
        go_wp2_with fail
        go_ret
        exact ⟨rfl, rfl⟩
      · have t4 : decide ((x : Int) ≤ 90) = false := by simp; omega
        have hv : ((decide (97 ≤ x) && decide (x ≤ 122)) || (decide (65 ≤ x) && decide (x ≤ 90))) = false := by simp; omega
        rw [hv]
        clear hv h1 h3 h4
        go_enter Tryz.func65, Tryz.ntmps65
        go_wp2_with fail
        go_ret
        exact ⟨rfl, rfl⟩
    · have t3 : decide ((65 : Int) ≤ (x : Int)) = false := by simp; omega
      have hv : ((decide (97 ≤ x) && decide (x ≤ 122)) || (decide (65 ≤ x) && decide (x ≤ 90))) = false := by simp; omega
      rw [hv]
      clear hv h1 h3
      go_enter Tryz.func65, Tryz.ntmps65
      go_wp2_with fail
      go_ret
      exact ⟨rfl, rfl⟩

set_option maxRecDepth 100000 in
set_option maxHeartbeats 4000000 in
theorem fun85 : Tests 85 blankB := by
  intro c w
  go_enter Tryz.func85, Tryz.ntmps85
  go_wp2_with fail
  refine (blank_u c w).mono ?_
  rintro e w1 ⟨rfl, rfl⟩
  go_wp2_with fail
  go_ret
  exact ⟨rfl, rfl⟩

set_option maxRecDepth 100000 in
set_option maxHeartbeats 4000000 in
theorem fun87 : Tests 87 blankB := by
  intro c w
  go_enter Tryz.func87, Tryz.ntmps87
  go_wp2_with fail
  refine (blank_u c w).mono ?_
  rintro e w1 ⟨rfl, rfl⟩
  go_wp2_with fail
  go_ret
  exact ⟨rfl, rfl⟩

set_option maxRecDepth 100000 in
set_option maxHeartbeats 4000000 in
theorem fun88 : Tests 88 blankB := by
  intro c w
  go_enter Tryz.func88, Tryz.ntmps88
  go_wp2_with fail
  refine (blank_u c w).mono ?_
  rintro e w1 ⟨rfl, rfl⟩
  go_wp2_with fail
  go_ret
  exact ⟨rfl, rfl⟩

set_option maxRecDepth 100000 in
set_option maxHeartbeats 4000000 in
theorem fun83 : Tests 83 nameC := by
  intro c w
  obtain ⟨x, hx⟩ : ∃ x, x = c.toNat := ⟨_, rfl⟩
  obtain ⟨R, hR⟩ : ∃ R, R = nameC c := ⟨_, rfl⟩
  have hb := blank_u c
  rw [← hx] at hb
  rw [← hR, ← hx]
  cases hbl : blankB c with
  | true =>
    obtain rfl : R = false := by rw [hR]; unfold nameC; rw [hbl]; rfl
    clear hR hx
    go_enter Tryz.func83, Tryz.ntmps83
    go_wp2_with fail
    refine (hb w).mono ?_
    rintro e w1 ⟨rfl, rfl⟩
    rw [hbl]
    go_wp2_with fail
    go_ret
    exact ⟨rfl, rfl⟩
  | false =>
    by_cases h47 : x = 47
    · obtain rfl : R = false := by rw [hR, byte_is (c := c) (n := 47) (by omega)]; rfl
      subst h47
      clear hR hx
      go_enter Tryz.func83, Tryz.ntmps83
      go_wp2_with fail
      refine (hb w).mono ?_
      rintro e w1 ⟨rfl, rfl⟩
      rw [hbl]
      go_wp2_with fail
      go_ret
      exact ⟨rfl, rfl⟩
    by_cases h62 : x = 62
    · obtain rfl : R = false := by rw [hR, byte_is (c := c) (n := 62) (by omega)]; rfl
      subst h62
      clear hR hx
      go_enter Tryz.func83, Tryz.ntmps83
      go_wp2_with fail
      refine (hb w).mono ?_
      rintro e w1 ⟨rfl, rfl⟩
      rw [hbl]
      go_wp2_with fail
      go_ret
      exact ⟨rfl, rfl⟩
    obtain rfl : R = true := by
      rw [hR]
      unfold nameC
      rw [hbl]
      simp only [Bool.not_false, Bool.true_and, Bool.and_eq_true, bne_iff_ne, ne_eq]
      exact ⟨byte_ne (n := 47) (by omega) (by omega), byte_ne (n := 62) (by omega) (by omega)⟩
    have e47 : ((x : Int) != 47) = true := by simp; omega
    have e62 : ((x : Int) != 62) = true := by simp; omega
    clear hR hx
    go_enter Tryz.func83, Tryz.ntmps83
    go_wp2_with fail
    refine (hb w).mono ?_
    rintro e w1 ⟨rfl, rfl⟩
    rw [hbl]
    go_wp2_with fail
    go_ret
    exact ⟨rfl, rfl⟩

set_option maxRecDepth 100000 in
set_option maxHeartbeats 4000000 in
theorem fun86 : Tests 86 attrC := by
  intro c w
  obtain ⟨x, hx⟩ : ∃ x, x = c.toNat := ⟨_, rfl⟩
  obtain ⟨R, hR⟩ : ∃ R, R = attrC c := ⟨_, rfl⟩
  have hb := blank_u c
  rw [← hx] at hb
  rw [← hR, ← hx]
  cases hbl : blankB c with
  | true =>
    obtain rfl : R = false := by rw [hR]; unfold attrC; rw [hbl]; rfl
    clear hR hx
    go_enter Tryz.func86, Tryz.ntmps86
    go_wp2_with fail
    refine (hb w).mono ?_
    rintro e w1 ⟨rfl, rfl⟩
    rw [hbl]
    go_wp2_with fail
    go_ret
    exact ⟨rfl, rfl⟩
  | false =>
    by_cases h47 : x = 47
    · obtain rfl : R = false := by rw [hR, byte_is (c := c) (n := 47) (by omega)]; rfl
      subst h47
      clear hR hx
      go_enter Tryz.func86, Tryz.ntmps86
      go_wp2_with fail
      refine (hb w).mono ?_
      rintro e w1 ⟨rfl, rfl⟩
      rw [hbl]
      go_wp2_with fail
      go_ret
      exact ⟨rfl, rfl⟩
    by_cases h62 : x = 62
    · obtain rfl : R = false := by rw [hR, byte_is (c := c) (n := 62) (by omega)]; rfl
      subst h62
      clear hR hx
      go_enter Tryz.func86, Tryz.ntmps86
      go_wp2_with fail
      refine (hb w).mono ?_
      rintro e w1 ⟨rfl, rfl⟩
      rw [hbl]
      go_wp2_with fail
      go_ret
      exact ⟨rfl, rfl⟩
    by_cases h61 : x = 61
    · obtain rfl : R = false := by rw [hR, byte_is (c := c) (n := 61) (by omega)]; rfl
      subst h61
      clear hR hx
      go_enter Tryz.func86, Tryz.ntmps86
      go_wp2_with fail
      refine (hb w).mono ?_
      rintro e w1 ⟨rfl, rfl⟩
      rw [hbl]
      go_wp2_with fail
      go_ret
      exact ⟨rfl, rfl⟩
    obtain rfl : R = true := by
      rw [hR]
      unfold attrC
      rw [hbl]
      simp only [Bool.not_false, Bool.true_and, Bool.and_eq_true, bne_iff_ne, ne_eq]
      exact ⟨⟨byte_ne (n := 47) (by omega) (by omega), byte_ne (n := 62) (by omega) (by omega)⟩, byte_ne (n := 61) (by omega) (by omega)⟩
    have e47 : ((x : Int) != 47) = true := by simp; omega
    have e62 : ((x : Int) != 62) = true := by simp; omega
    have e61 : ((x : Int) != 61) = true := by simp; omega
    clear hR hx
    go_enter Tryz.func86, Tryz.ntmps86
    go_wp2_with fail
    refine (hb w).mono ?_
    rintro e w1 ⟨rfl, rfl⟩
    rw [hbl]
    go_wp2_with fail
    go_ret
    exact ⟨rfl, rfl⟩

set_option maxRecDepth 100000 in
set_option maxHeartbeats 4000000 in
theorem fun89 : Tests 89 valC := by
  intro c w
  obtain ⟨x, hx⟩ : ∃ x, x = c.toNat := ⟨_, rfl⟩
  obtain ⟨R, hR⟩ : ∃ R, R = valC c := ⟨_, rfl⟩
  have hb := blank_u c
  rw [← hx] at hb
  rw [← hR, ← hx]
  cases hbl : blankB c with
  | true =>
    obtain rfl : R = false := by rw [hR]; unfold valC; rw [hbl]; rfl
    clear hR hx
    go_enter Tryz.func89, Tryz.ntmps89
    go_wp2_with fail
    refine (hb w).mono ?_
    rintro e w1 ⟨rfl, rfl⟩
    rw [hbl]
    go_wp2_with fail
    go_ret
    exact ⟨rfl, rfl⟩
  | false =>
    by_cases h62 : x = 62
    · obtain rfl : R = false := by rw [hR, byte_is (c := c) (n := 62) (by omega)]; rfl
      subst h62
      clear hR hx
      go_enter Tryz.func89, Tryz.ntmps89
      go_wp2_with fail
      refine (hb w).mono ?_
      rintro e w1 ⟨rfl, rfl⟩
      rw [hbl]
      go_wp2_with fail
      go_ret
      exact ⟨rfl, rfl⟩
    obtain rfl : R = true := by
      rw [hR]
      unfold valC
      rw [hbl]
      simp only [Bool.not_false, Bool.true_and, bne_iff_ne, ne_eq]
      exact byte_ne (n := 62) (by omega) (by omega)
    have e62 : ((x : Int) != 62) = true := by simp; omega
    clear hR hx
    go_enter Tryz.func89, Tryz.ntmps89
    go_wp2_with fail
    refine (hb w).mono ?_
    rintro e w1 ⟨rfl, rfl⟩
    rw [hbl]
    go_wp2_with fail
    go_ret
    exact ⟨rfl, rfl⟩

theorem ent83 : Ent 83 := ent_of Tryz.func83 (by kernel_rfl) (by kernel_rfl)
theorem ent85 : Ent 85 := ent_of Tryz.func85 (by kernel_rfl) (by kernel_rfl)
theorem ent86 : Ent 86 := ent_of Tryz.func86 (by kernel_rfl) (by kernel_rfl)
theorem ent87 : Ent 87 := ent_of Tryz.func87 (by kernel_rfl) (by kernel_rfl)
theorem ent88 : Ent 88 := ent_of Tryz.func88 (by kernel_rfl) (by kernel_rfl)
theorem ent89 : Ent 89 := ent_of Tryz.func89 (by kernel_rfl) (by kernel_rfl)

/-- A reader in memory. -/
def Rdr (w : World) (r : Nat) (s : B) (at_ : Nat) (v : Value) : Prop := Blk w r 71 #[.string (bs s), .int .i64 (at_ : Nat), v]

set_option maxRecDepth 100000 in
set_option maxHeartbeats 4000000 in
theorem left_u {w : World} {r k : Nat} {s : B} {v : Value} (h : Rdr w r s k v) (hk : k ≤ s.length) :
    Calls Tryz.prog 60 #[.pointer (some ⟨r, 0, none⟩)] w fun e w' => e = .returned (.string (bs (s.drop k))) ∧ ∃ n, w' = w.drewN n := by
  have c0 := Blk.cell h 0
  have c1 := Blk.cell h 1
  simp only [List.getElem?_toArray, List.getElem?_cons_zero, List.getElem?_cons_succ] at c0 c1
  have hle : (k : Int) ≤ ((bs s).size : Int) := by rw [bs_size]; omega
  have ex : (bs s).extract k (bs s).size = bs (s.drop k) := bs_from _ _
  go_enter Tryz.func60, Tryz.ntmps60
  go_wp2_with fail
  go_quiet (fail)
  go_wp2_with fail
  go_ret
  exact ⟨rfl, _, rfl⟩
end Go.Proofs.YtlgaeeedkihfpaaGreatDoor.Uf

/-
  tok.reader's pass, over, plain.
-/
namespace Go.Proofs.YtlgaeeedkihfpaaGreatDoor.Uf
open Go.RowKit
open Tz (B blankB letterB plainL)

/-- Where a reader stands. -/
def atOf (w : World) (r : Nat) : Nat := match w.cell? ⟨r, 1, none⟩ with | some (.int _ n) => n.toNat | _ => 0
theorem Rdr.at_ {w : World} {r k : Nat} {s : B} {v : Value} (h : Rdr w r s k v) : atOf w r = k := by
  unfold atOf
  rw [Blk.cell h 1]
  simp
theorem Rdr.c0 {w : World} {r k : Nat} {s : B} {v : Value} (h : Rdr w r s k v) : w.cell? ⟨r, 0, none⟩ = some (.string (bs s)) := Blk.cell h 0
theorem Rdr.c1 {w : World} {r k : Nat} {s : B} {v : Value} (h : Rdr w r s k v) : w.cell? ⟨r, 1, none⟩ = some (.int .i64 (k : Nat)) := Blk.cell h 1
theorem Rdr.c2 {w : World} {r k : Nat} {s : B} {v : Value} (h : Rdr w r s k v) : w.cell? ⟨r, 2, none⟩ = some v := Blk.cell h 2
theorem Rdr.go {w : World} {r k : Nat} {s : B} {v : Value} (h : Rdr w r s k v) (k' : Nat) : Rdr (w.setCell ⟨r, 1, none⟩ (.int .i64 (k' : Nat))) r s k' v := Blk.set_ h 1 _
theorem Rdr.put {w : World} {r k : Nat} {s : B} {v : Value} (h : Rdr w r s k v) (v' : Value) : Rdr (w.setCell ⟨r, 2, none⟩ v') r s k v' := Blk.set_ h 2 _
theorem Rdr.drewN {w : World} {r k : Nat} {s : B} {v : Value} (h : Rdr w r s k v) (n : Nat) : Rdr (w.drewN n) r s k v := h
theorem Only.gone {S : Nat → Prop} {a w : World} (h : Only S a w) (n : Nat) : Only S a (w.drewN n) := h.drewN n

theorem only_set {w w1 : World} {r : Nat} (ho : Only (fun b => b = r) w w1) (i : Nat) (u : Value) : Only (fun b => b = r) w (w1.setCell ⟨r, i, none⟩ u) := Only.setCell (S := fun b => b = r) ho (p := ⟨r, i, none⟩) (fun _ => rfl) u

set_option maxRecDepth 100000 in
set_option maxHeartbeats 4000000 in
theorem pass_u {w : World} {r k f : Nat} {s : B} {v : Value} {p : UInt8 → Bool} (hE : Ent f) (hT : Tests f p) (h : Rdr w r s k v) (hk : k ≤ s.length) (hs : s.length ≤ 1600000000) :
    Calls Tryz.prog 82 #[.pointer (some ⟨r, 0, none⟩), .func (.func f) #[] #[]] w fun e w' => e = .returned (.string (bs ((s.drop k).takeWhile p))) ∧
      Rdr w' r s (k + ((s.drop k).takeWhile p).length) v ∧ Only (fun b => b = r) w w' := by
  have c1 := h.c1
  go_enter Tryz.func82, Tryz.ntmps82
  go_wp2_with fail
  go_loopw [10] (fun _ wr => ∃ j, Rdr wr r s j v ∧ Only (fun b => b = r) w wr ∧ k ≤ j ∧ j ≤ s.length ∧ Hid ((s.drop k).takeWhile p = (s.drop k).take (j - k) ++ (s.drop j).takeWhile p)) (fun _ wr => s.length - atOf wr r)
  case atStart => exact ⟨k, h, Only.refl _ _, Nat.le_refl _, hk, Lib.hid (by simp)⟩
  case round =>
    obtain ⟨j, hr, ho, hkj, hjs, Hp⟩ := hrel
    have d0 := hr.c0
    have d1 := hr.c1
    have hkz : (0 : Int) ≤ (k : Int) := by omega
    have hkj' : (k : Int) ≤ (j : Int) := by omega
    have hjs' : (j : Int) ≤ ((bs s).size : Int) := by rw [bs_size]; omega
    have hex : (bs s).extract k j = bs ((s.drop k).take (j - k)) := bs_extract _ _ _
    by_cases hlt : j < s.length
    · have t1 : decide ((j : Int) < ((bs s).size : Int)) = true := by rw [bs_size]; simp; omega
      have hix : (j : Int) < ((bs s).size : Int) := by rw [bs_size]; omega
      go_wp2_with fail
      obtain ⟨b, hb⟩ : ∃ b, s[j] = b := ⟨_, rfl⟩
      have hTb := fun w1 => hT b w1
      have hEf : ∀ (args : Array Value) (w : World), (callFunc f args).run Tryz.prog w = .ok (.enter f args) w := hE
      have hb0 : ((bs s)[j]'(by rw [bs_size]; omega)).toNat = b.toNat := by rw [← hb]; rfl
      have hdc : s.drop j = b :: s.drop (j + 1) := by rw [List.drop_eq_getElem_cons hlt, hb]
      have hdk : (s.drop k).take (j + 1 - k) = (s.drop k).take (j - k) ++ [b] := by
        have e1 : s.drop j = (s.drop k).drop (j - k) := by rw [List.drop_drop]; congr 1; omega
        have e2 : (s.drop k)[j - k]? = some b := by
          rw [List.getElem?_drop, show k + (j - k) = j by omega, List.getElem?_eq_getElem hlt, hb]
        rw [show j + 1 - k = (j - k) + 1 by omega, List.take_add_one, e2]
        rfl
      have Hdc := Lib.hid (And.intro hdc hdk)
      clear hdc hdk hb
      cases hpb : p b with
      | true =>
        have hwj : IntKind.i64.wrap ((j : Int) + 1) = ((j + 1 : Nat) : Int) := by rw [IntKind.wrap_i64]; omega
        have hst : (s.drop k).takeWhile p = (s.drop k).take (j + 1 - k) ++ (s.drop (j + 1)).takeWhile p := by
          rw [Hp.out, Hdc.out.1, Hdc.out.2, List.takeWhile_cons, if_pos hpb, List.append_assoc]
          rfl
        have Hst := Lib.hid hst
        clear hst
        rw [hpb] at hTb
        go_quiet (first | exact (hTb _).mono (fun e w'' h => ⟨h.1, _, h.2⟩))
        have e1 := (hr.drewN nq).c1
        have f1 := Blk.frozen (hr.drewN nq) 1
        go_wp2_with fail
        go_roundw
        case rel => exact ⟨j + 1, (hr.drewN nq).go (j + 1), only_set (ho.drewN nq) _ _, by omega, by omega, Hst⟩
        case measure =>
          have ha := ((hr.drewN nq).go (j + 1)).at_
          rw [hr.at_]
          refine lt_of_eq_of_lt (congrArg (s.length - ·) ha) ?_
          omega
      | false =>
        have hst : (s.drop k).takeWhile p = (s.drop k).take (j - k) := by
          rw [Hp.out, Hdc.out.1, List.takeWhile_cons, if_neg (by rw [hpb]; simp), List.append_nil]
        have hl : ((s.drop k).takeWhile p).length = j - k := by rw [hst]; simp; omega
        have Hst := Lib.hid (And.intro hst hl)
        clear hst hl
        rw [hpb] at hTb
        go_quiet (first | exact (hTb _).mono (fun e w'' h => ⟨h.1, _, h.2⟩))
        go_wp2_with fail
        go_quiet (fail)
        go_wp2_with fail
        go_ret
        refine ⟨by rw [Hst.out.1]; rfl, ?_, ((ho.drewN _).drewN _)⟩
        rw [Hst.out.2, show k + (j - k) = j by omega]
        exact hr
    · have t1 : decide ((j : Int) < ((bs s).size : Int)) = false := by rw [bs_size]; simp; omega
      have t2 : decide (j < (bs s).size) = false := by rw [bs_size]; simp; omega
      have hst : (s.drop k).takeWhile p = (s.drop k).take (j - k) := by
        rw [Hp.out, List.drop_of_length_le (show s.length ≤ j by omega)]
        simp
      have hl : ((s.drop k).takeWhile p).length = j - k := by rw [hst]; simp; omega
      have Hst := Lib.hid (And.intro hst hl)
      clear hst hl
      go_wp2_with fail
      go_quiet (fail)
      go_wp2_with fail
      go_quiet (fail)
      go_wp2_with fail
      go_ret
      refine ⟨by rw [Hst.out.1]; rfl, ?_, ((ho.drewN _).drewN _)⟩
      rw [Hst.out.2, show k + (j - k) = j by omega]
      exact hr

theorem index_u {w : World} (l t : B) {m : Int} (hl : l.length ≤ 1600000000) (hm : w.cell? ⟨0, 0, none⟩ = some (.int .i64 m)) :
    Calls Tryz.prog 80 #[.string (bs l), .string (bs t)] w fun e w' => e = .returned (.int .i64 (match Tz.indexL t l with | some i => (i : Int) | none => -1)) ∧ w' = w := by
  have h := Tryz.strings_Index (bs l) (bs t) m w (by rw [bs_size]; omega) hm
  simp only [bs_data] at h
  rw [ixO_eq] at h
  exact h
theorem indexL_le {t : B} : ∀ {l : B} {i : Nat}, Tz.indexL t l = some i → i + t.length ≤ l.length
  | [], i, h => by
    unfold Tz.indexL at h
    split at h
    · rename_i ht; injection h with h; subst h; simp [ht]
    · cases h
  | c :: l, i, h => by
    unfold Tz.indexL at h
    split at h
    · rename_i ht
      injection h with h
      subst h
      have := (List.isPrefixOf_iff_prefix.1 ht).length_le
      omega
    · obtain ⟨j, hj, rfl⟩ := Option.map_eq_some_iff.1 h
      have := indexL_le hj
      simp
      omega
/-- What 'over' leaves. -/
def overTo (s : B) (k : Nat) (t : B) : Nat := match Tz.indexL t (s.drop k) with | some i => k + i + t.length | none => s.length
def overOf (s : B) (k : Nat) (t : B) : B := match Tz.indexL t (s.drop k) with | some i => (s.drop k).take i | none => s.drop k

set_option maxRecDepth 100000 in
set_option maxHeartbeats 4000000 in
theorem over_u {w : World} {r k : Nat} {s : B} {v : Value} {m : Int} (t : B) (h : Rdr w r s k v) (hk : k ≤ s.length) (hs : s.length ≤ 1600000000) (ht : t.length ≤ 10) (hm : w.cell? ⟨0, 0, none⟩ = some (.int .i64 m)) :
    Calls Tryz.prog 64 #[.pointer (some ⟨r, 0, none⟩), .string (bs t)] w fun e w' => e = .returned (.string (bs (overOf s k t))) ∧ Rdr w' r s (overTo s k t) v ∧ Only (fun b => b = r) w w' := by
  cases hi : Tz.indexL t (s.drop k) with
  | none =>
    have e1 : overOf s k t = s.drop k := by unfold overOf; rw [hi]
    have e2 : overTo s k t = s.length := by unfold overTo; rw [hi]
    rw [e1, e2]
    clear e1 e2
    go_enter Tryz.func64, Tryz.ntmps64
    go_wp2_with fail
    refine (left_u h hk).mono ?_
    rintro e w1 ⟨rfl, n, rfl⟩
    go_wp2_with fail
    refine (index_u (w := w.drewN n) (s.drop k) t (by simp; omega) hm).mono ?_
    rintro e w1 ⟨rfl, rfl⟩
    rw [hi]
    have c0 := (h.drewN n).c0
    have f1 := Blk.frozen (h.drewN n) 1
    have c1 := (h.drewN n).c1
    go_wp2_with fail
    go_ret
    exact ⟨rfl, (h.drewN n).go s.length, only_set ((Only.refl _ w).drewN n) _ _⟩
  | some i =>
    have hle := indexL_le hi
    rw [List.length_drop] at hle
    obtain ⟨z, hz⟩ : ∃ z, z = overTo s k t := ⟨_, rfl⟩
    have e1 : overOf s k t = (s.drop k).take i := by unfold overOf; rw [hi]
    have e2 : z = k + i + t.length := by rw [hz]; unfold overTo; rw [hi]
    rw [e1, ← hz]
    clear e1 hz
    have hsz : ((bs t).size : Int) = (t.length : Int) := rfl
    have hw1 : IntKind.i64.wrap ((i : Int) + ((bs t).size : Int)) = (i : Int) + ((bs t).size : Int) := by rw [IntKind.wrap_i64]; omega
    have hw2 : IntKind.i64.wrap ((k : Int) + ((i : Int) + ((bs t).size : Int))) = (z : Int) := by rw [IntKind.wrap_i64]; omega
    have hneg : decide ((i : Int) < 0) = false := by simp
    have hle2 : (i : Int) ≤ ((bs (s.drop k)).size : Int) := by rw [bs_size, List.length_drop]; omega
    have hex : (bs (s.drop k)).extract 0 i = bs ((s.drop k).take i) := bs_upto _ _
    clear hsz e2
    go_enter Tryz.func64, Tryz.ntmps64
    go_wp2_with fail
    refine (left_u h hk).mono ?_
    rintro e w1 ⟨rfl, n, rfl⟩
    go_wp2_with fail
    refine (index_u (w := w.drewN n) (s.drop k) t (by simp; omega) hm).mono ?_
    rintro e w1 ⟨rfl, rfl⟩
    rw [hi]
    have c0 := (h.drewN n).c0
    have f1 := Blk.frozen (h.drewN n) 1
    have c1 := (h.drewN n).c1
    go_wp2_with fail
    go_ret
    exact ⟨rfl, (h.drewN n).go z, only_set ((Only.refl _ w).drewN n) _ _⟩
end Go.Proofs.YtlgaeeedkihfpaaGreatDoor.Uf
