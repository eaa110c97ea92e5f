/-
  Texts of the proof of Chain, one behind the other: Named, Str, Refs.
-/
import Derived.Laws.Rows
import Derived.Deep.WholeRow
import Derived.Test.YtlgaeeedkihfpaaGreatDoorC07
import Derived.BigQuiet
import Derived.Deep.QuietTactic
import Derived.WalkLawsBesides
import Derived.Deep.RegionHeld3
import Derived.Deep.RegionWith
import Derived.WalkMore
/-
  refs.Named: what it computes.
-/
namespace Go.Proofs.YtlgaeeedkihfpaaGreatDoor.Uf
open Go.RowKit
open Tz (namedL named runeL B)

def arrC : Array Value := #[.string ⟨#[97, 109, 112]⟩, .int .i32 38, .string ⟨#[108, 116]⟩, .int .i32 60, .string ⟨#[103, 116]⟩, .int .i32 62, .string ⟨#[113, 117, 111, 116]⟩, .int .i32 34, .string ⟨#[97, 112, 111, 115]⟩, .int .i32 39, .string ⟨#[110, 98, 115, 112]⟩, .int .i32 160, .string ⟨#[99, 111, 112, 121]⟩, .int .i32 169, .string ⟨#[114, 101, 103]⟩, .int .i32 174, .string ⟨#[100, 101, 103]⟩, .int .i32 176, .string ⟨#[109, 105, 100, 100, 111, 116]⟩, .int .i32 183, .string ⟨#[108, 97, 113, 117, 111]⟩, .int .i32 171, .string ⟨#[114, 97, 113, 117, 111]⟩, .int .i32 187, .string ⟨#[116, 105, 109, 101, 115]⟩, .int .i32 215, .string ⟨#[101, 97, 99, 117, 116, 101]⟩, .int .i32 233, .string ⟨#[110, 100, 97, 115, 104]⟩, .int .i32 8211, .string ⟨#[109, 100, 97, 115, 104]⟩, .int .i32 8212, .string ⟨#[108, 115, 113, 117, 111]⟩, .int .i32 8216, .string ⟨#[114, 115, 113, 117, 111]⟩, .int .i32 8217, .string ⟨#[108, 100, 113, 117, 111]⟩, .int .i32 8220, .string ⟨#[114, 100, 113, 117, 111]⟩, .int .i32 8221, .string ⟨#[104, 101, 108, 108, 105, 112]⟩, .int .i32 8230, .string ⟨#[101, 117, 114, 111]⟩, .int .i32 8364]
theorem arr_size : (Tryz.prog.info? 156).map (·.size) = some arrC.size := by kernel_rfl
def entN (k : Nat) : ByteArray := ⟨(named.getD k ([], 0)).1.toArray⟩
def entC (k : Nat) : Nat := (named.getD k ([], 0)).2
theorem arr_at : ∀ k, k < 22 → ∀ w, (Instr.index 156 (.agg arrC) (.int .i64 (k : Nat))).run Tryz.prog w = .ok (.agg #[.string (entN k), .int .i32 (entC k : Nat)]) w
  | 0, _ => fun _ => by kernel_rfl
  | 1, _ => fun _ => by kernel_rfl
  | 2, _ => fun _ => by kernel_rfl
  | 3, _ => fun _ => by kernel_rfl
  | 4, _ => fun _ => by kernel_rfl
  | 5, _ => fun _ => by kernel_rfl
  | 6, _ => fun _ => by kernel_rfl
  | 7, _ => fun _ => by kernel_rfl
  | 8, _ => fun _ => by kernel_rfl
  | 9, _ => fun _ => by kernel_rfl
  | 10, _ => fun _ => by kernel_rfl
  | 11, _ => fun _ => by kernel_rfl
  | 12, _ => fun _ => by kernel_rfl
  | 13, _ => fun _ => by kernel_rfl
  | 14, _ => fun _ => by kernel_rfl
  | 15, _ => fun _ => by kernel_rfl
  | 16, _ => fun _ => by kernel_rfl
  | 17, _ => fun _ => by kernel_rfl
  | 18, _ => fun _ => by kernel_rfl
  | 19, _ => fun _ => by kernel_rfl
  | 20, _ => fun _ => by kernel_rfl
  | 21, _ => fun _ => by kernel_rfl
  | k + 22, h => by omega
theorem built156 : Tryz.prog.built 156 [(0, .agg #[.string ⟨#[97, 109, 112]⟩, .int .i32 38]), (1, .agg #[.string ⟨#[108, 116]⟩, .int .i32 60]), (2, .agg #[.string ⟨#[103, 116]⟩, .int .i32 62]), (3, .agg #[.string ⟨#[113, 117, 111, 116]⟩, .int .i32 34]), (4, .agg #[.string ⟨#[97, 112, 111, 115]⟩, .int .i32 39]), (5, .agg #[.string ⟨#[110, 98, 115, 112]⟩, .int .i32 160]), (6, .agg #[.string ⟨#[99, 111, 112, 121]⟩, .int .i32 169]), (7, .agg #[.string ⟨#[114, 101, 103]⟩, .int .i32 174]), (8, .agg #[.string ⟨#[100, 101, 103]⟩, .int .i32 176]), (9, .agg #[.string ⟨#[109, 105, 100, 100, 111, 116]⟩, .int .i32 183]), (10, .agg #[.string ⟨#[108, 97, 113, 117, 111]⟩, .int .i32 171]), (11, .agg #[.string ⟨#[114, 97, 113, 117, 111]⟩, .int .i32 187]), (12, .agg #[.string ⟨#[116, 105, 109, 101, 115]⟩, .int .i32 215]), (13, .agg #[.string ⟨#[101, 97, 99, 117, 116, 101]⟩, .int .i32 233]), (14, .agg #[.string ⟨#[110, 100, 97, 115, 104]⟩, .int .i32 8211]), (15, .agg #[.string ⟨#[109, 100, 97, 115, 104]⟩, .int .i32 8212]), (16, .agg #[.string ⟨#[108, 115, 113, 117, 111]⟩, .int .i32 8216]), (17, .agg #[.string ⟨#[114, 115, 113, 117, 111]⟩, .int .i32 8217]), (18, .agg #[.string ⟨#[108, 100, 113, 117, 111]⟩, .int .i32 8220]), (19, .agg #[.string ⟨#[114, 100, 113, 117, 111]⟩, .int .i32 8221]), (20, .agg #[.string ⟨#[104, 101, 108, 108, 105, 112]⟩, .int .i32 8230]), (21, .agg #[.string ⟨#[101, 117, 114, 111]⟩, .int .i32 8364])] = some arrC := by kernel_rfl

theorem build_to {P : Program} {ops : Array Oper} {rest : List Oper} {o : Oper} {a : Act} {w : World} {Q : Exit → Act → World → Prop} (hg : o.guard = none) (t : TypeId) (parts : Array (Nat × Operand)) (ho : o.op = .build t parts) (cs : Array Value)
    (hf : P.built t (parts.map fun (i, x) => (i, a.eval x)).toList = some cs) (h : wpList P ops Q rest (a.put o.dst (.agg cs)) w) : wpList P ops Q (o :: rest) a w :=
  wpList_build hg t parts ho (by rw [hf]; rfl) (by rw [hf]; exact h)
theorem encode_eq (n : Nat) : Utf8.encode (n : Int) = ⟨(runeL n).toArray⟩ := by
  unfold Utf8.encode runeL Utf8.valid Utf8.runeError
  simp only [Bool.and_eq_true, Bool.or_eq_true, decide_eq_true_eq, Int.toNat_natCast]
  repeat' split
  all_goals first | rfl | (exfalso; omega) | skip
  all_goals (try (simp only [UInt8.ofNat]; rfl))
theorem named_hit {l : B} {k : Nat} (hk : k < 22) (h : ∀ j, j < k → (named.getD j ([], 0)).1 ≠ l) (he : (named.getD k ([], 0)).1 = l) : namedL l = some (runeL (entC k)) := by
  have hl : named.length = 22 := rfl
  unfold namedL
  have hf : named.find? (fun x => x.1 == l) = some (named[k]'(by omega)) := by
    rw [List.find?_eq_some_iff_getElem]
    have hg : ∀ (j : Nat) (hj : j < named.length), named.getD j ([], 0) = named[j] := fun j hj => by simp [List.getD, List.getElem?_eq_getElem hj]
    refine ⟨?_, k, by omega, rfl, fun j hj => ?_⟩
    · rw [← hg k (by omega), he]; simp
    · have := h j hj
      rw [hg j (by omega)] at this
      simpa using this
  rw [hf]
  simp [entC, List.getD, List.getElem?_eq_getElem (show k < named.length by omega)]
theorem named_none {l : B} (h : ∀ j, j < 22 → (named.getD j ([], 0)).1 ≠ l) : namedL l = none := by
  unfold namedL
  rw [Option.map_eq_none_iff, List.find?_eq_none]
  intro x hx
  obtain ⟨j, hj, rfl⟩ := List.getElem_of_mem hx
  have := h j hj
  simpa [List.getD, List.getElem?_eq_getElem hj] using this
/-- What Named, and stands, tell. -/
def NamR (w : World) (r : Option B) (e : Ending) (w' : World) : Prop :=
  (match r with | some r => e = .returned (.tuple #[.string ⟨r.toArray⟩, .bool true]) | none => e = .returned (.tuple #[.string ByteArray.empty, .bool false])) ∧ Below w.heap.size w w'
theorem store_new {P : Program} {ops : Array Oper} {rest : List Oper} {o : Oper} {a : Act} {w : World} {Q : Exit → Act → World → Prop} {old : Array Value} {t : TypeId} (hgd : o.guard = none) (ty : TypeId) (x y : Operand) (ho : o.op = .store ty x y)
    (cells : Array Value) (hx : a.eval x = .pointer (some ⟨w.heap.size, 0, none⟩)) (hy : a.eval y = .agg cells) (hi : (P.info? ty).map (·.size) = some cells.size)
    (hold : old.size = cells.size) (h1 : cells.all (·.oneCell') = true)
    (h : ∀ W1, W1.heap[w.heap.size]? = some (.cells cells t (0, 0)) → Below w.heap.size w W1 → wpList P ops Q rest (a.put o.dst undef) W1) : wpList P ops Q (o :: rest) a (w.alloc (.cells old t)) :=
  wpList_store_row hgd ty x y ho w.heap.size cells hx hy t old (heap_alloc_new w _) hi hold h1 (by
    rw [World.setRow_alloc_new]
    exact h _ (heap_alloc_new w _) ((Below.refl _ w).alloc (Nat.le_refl _) _))
set_option maxRecDepth 100000 in
set_option maxHeartbeats 4000000 in
theorem named_u {w : World} (s : ByteArray) : Calls Tryz.prog 117 #[.string s] w (NamR w (namedL s.data.toList)) := by
  obtain ⟨l, hl⟩ : ∃ l, l = s.data.toList := ⟨_, rfl⟩
  obtain ⟨R, hR⟩ : ∃ R, R = namedL l := ⟨_, rfl⟩
  rw [← hl, ← hR]
  have HL := Lib.hid (And.intro hl hR)
  clear hl hR
  go_enter Tryz.func117, Tryz.ntmps117
  go_wp2_with (first
    | (with_reducible refine build_to rfl 156 _ rfl arrC (by kernel_rfl) ?_)
    | (with_reducible refine store_new rfl 156 (.tmp 4) (.tmp 29) rfl arrC rfl rfl arr_size (by kernel_rfl) (by kernel_rfl) ?_
       intro W1 hG hB)
    | (with_reducible refine wpList_load_row rfl 156 (.tmp 4) rfl w.heap.size rfl 156 arrC (0, 0) _ hG Tryz.underlying156 rfl arr_size ?_))
  have HB := Lib.hid (And.intro hG hB)
  clear hG hB
  go_loopw [31] (fun a wr => ∃ k : Nat, a = .int .i64 k ∧ k ≤ 22 ∧ Below w.heap.size w wr ∧ Hid (∀ j, j < k → entN j ≠ s)) (fun a _ => 22 - (match a with | .int _ k => k.toNat | _ => 0))
  case atStart =>
    exact ⟨0, rfl, by omega, HB.out.2, Lib.hid fun j hj => by omega⟩
  case round =>
    obtain ⟨k, rfl, hk, hb, Hn⟩ := hrel
    by_cases hk2 : k < 22
    · have hat := arr_at k hk2
      have hlt : decide ((k : Int) < 22) = true := by simp; omega
      have hw1 : IntKind.i64.wrap ((k : Int) + 1) = ((k + 1 : Nat) : Int) := by rw [IntKind.wrap_i64]; omega
      have hB2 : Below w.heap.size w (wr.alloc (.cells #[.string (entN k), .int .i32 (entC k : Nat)] 155)) := hb.alloc hb.size _
      by_cases he : entN k = s
      · have hq : ((entN k).toList == s.toList) = true := by simp [he]
        have hRk : R = some (runeL (entC k)) := by
          rw [HL.out.2]
          refine named_hit hk2 (fun j hj e => Hn.out j hj ?_) ?_
          · unfold entN; rw [e, HL.out.1]
          · rw [HL.out.1, ← he]; rfl
        have Hfin := Lib.hid (show NamR w R (.returned (.tuple #[.string (Utf8.encode (entC k : Nat)), .bool true])) (wr.alloc (.cells #[.string s, .int .i32 (entC k : Nat)] 155)) by
          rw [he] at hB2
          rw [hRk, encode_eq]; exact ⟨rfl, hB2⟩)
        clear Hn hRk hB2
        go_wp2_with fail
        go_ret2
        exact Hfin.out
      · have hq : ((entN k).toList == s.toList) = false := by
          rw [ByteArray.toList_eq, ByteArray.toList_eq]
          simp only [beq_eq_false_iff_ne]
          intro e
          apply he
          cases hh : entN k; cases hs : s
          rw [hh, hs] at e
          simp at e
          rw [e]
        have Hn2 := Lib.hid (show ∀ j, j < k + 1 → entN j ≠ s from fun j hj => by
          rcases Nat.lt_succ_iff_lt_or_eq.1 hj with h | h
          · exact Hn.out j h
          · rw [h]; exact he)
        clear Hn
        go_wp2_with fail
        exact ⟨⟨k + 1, rfl, hk2, hB2, Hn2⟩, by simp; omega⟩
    · have hlt : decide ((k : Int) < 22) = false := by simp; omega
      have hRk : R = none := by
        rw [HL.out.2]
        refine named_none fun j hj e => Hn.out j (by omega) ?_
        unfold entN; rw [e, HL.out.1]
      have Hfin := Lib.hid (show NamR w R (.returned (.tuple #[.string ByteArray.empty, .bool false])) wr by
        rw [hRk]; exact ⟨rfl, hb⟩)
      clear Hn hRk
      go_wp2_with fail
      go_ret2
      exact Hfin.out
end Go.Proofs.YtlgaeeedkihfpaaGreatDoor.Uf

/-
  Strings as lists of bytes: the calls of package strings, said over lists.
-/
namespace Go.Proofs.YtlgaeeedkihfpaaGreatDoor.Uf
open Go.RowKit
open Tz (B)

/-- A list of bytes as a string. -/
def bs (l : B) : ByteArray := ⟨l.toArray⟩
@[simp] theorem bs_data (l : B) : (bs l).data.toList = l := rfl
@[simp] theorem bs_toList (l : B) : (bs l).toList = l := by rw [ByteArray.toList_eq]; rfl
theorem bs_size (l : B) : (bs l).size = l.length := rfl
theorem bs_of (s : ByteArray) : bs s.data.toList = s := rfl
theorem bs_extract (l : B) (i j : Nat) : (bs l).extract i j = bs ((l.drop i).take (j - i)) := Lib.extract_eq _ _ _
theorem bs_from (l : B) (i : Nat) : (bs l).extract i (bs l).size = bs (l.drop i) := by
  rw [bs_extract, bs_size, List.take_of_length_le (by simp)]
theorem bs_from' (l : B) (i n : Nat) (h : l.length ≤ n) : (bs l).extract i n = bs (l.drop i) := by
  rw [bs_extract, List.take_of_length_le (by simp; omega)]
theorem bs_upto (l : B) (j : Nat) : (bs l).extract 0 j = bs (l.take j) := by rw [bs_extract]; rfl
theorem bs_append (a b : B) : bs a ++ bs b = bs (a ++ b) := by
  apply ByteArray.ext
  simp [bs]
theorem bs_inj {a b : B} : bs a = bs b ↔ a = b := ⟨fun h => by rw [← bs_data a, h]; rfl, fun h => by rw [h]⟩
theorem bs_beq (a b : B) : ((bs a).toList == (bs b).toList) = (a == b) := by simp
theorem bs_at (l : B) (i : Nat) (h : i < (bs l).size) : ((bs l)[i]'h).toNat = (l.getD i 0).toNat := byteAt (bs l) i h

theorem cut_prefix {w : World} (l p : B) : Calls Tryz.prog 116 #[.string (bs l), .string (bs p)] w fun e w' => e = .returned (.tuple #[.string (bs (if p.isPrefixOf l then l.drop p.length else l)), .bool (p.isPrefixOf l)]) ∧ w' = w := by
  refine (Tryz.strings_CutPrefix (bs l) (bs p) w).mono ?_
  rintro e w' ⟨rfl, h⟩
  exact ⟨rfl, h⟩
theorem has_prefix {w : World} (l p : B) : Calls Tryz.prog 63 #[.string (bs l), .string (bs p)] w fun e w' => e = .returned (.bool (p.isPrefixOf l)) ∧ w' = w := Tryz.strings_HasPrefix (bs l) (bs p) w
/-- Where a byte first is. -/
def ixB (l : B) (c : UInt8) : Int := match l.findIdx? (· == c) with | some i => (i : Int) | none => -1
theorem ixB_eq (c : UInt8) : ∀ l : B, Lib.indexByte l c = ixB l c
  | [] => rfl
  | b :: l => by
    have ih := ixB_eq c l
    unfold Lib.indexByte ixB
    rw [List.findIdx?_cons]
    by_cases h : (b == c) = true
    · rw [if_pos h, if_pos h]; rfl
    · rw [if_neg h, if_neg h, ih]
      unfold ixB
      cases hf : l.findIdx? (· == c) with
      | none => rfl
      | some i =>
        simp only [Option.map_some]
        rw [if_neg (by simp)]
        rfl
theorem index_byte {w : World} (l : B) (c : Nat) (_hc : c < 256) : Calls Tryz.prog 32 #[.string (bs l), .int .u8 c] w fun e w' => e = .returned (.int .i64 (ixB l (UInt8.ofNat c))) ∧ w' = w := by
  refine (Tryz.strings_IndexByte (bs l) (c : Int) w).mono ?_
  rintro e w' ⟨rfl, h⟩
  rw [bs_data, ixB_eq]
  exact ⟨rfl, h⟩
theorem ixO_eq (t : B) : ∀ l : B, Lib.index l t = (match Tz.indexL t l with | some i => (i : Int) | none => -1)
  | [] => by
    unfold Lib.index Tz.indexL
    cases t <;> rfl
  | b :: l => by
    have ih := ixO_eq t l
    unfold Lib.index Tz.indexL
    by_cases h : t.isPrefixOf (b :: l) = true
    · rw [if_pos h, if_pos h]; rfl
    · rw [if_neg h, if_neg h, ih]
      cases hf : Tz.indexL t l with
      | none => rfl
      | some i =>
        simp only [Option.map_some]
        rw [if_neg (by simp)]
        rfl
theorem NamR.shape {w w' : World} {r : Option B} {e : Ending} (h : NamR w r e w') : ∃ x b, e = .returned (.tuple #[.string x, .bool b]) ∧ NamR w r e w' := by
  cases r with
  | none => exact ⟨_, _, h.1, h⟩
  | some r => exact ⟨_, _, h.1, h⟩
theorem NumR.shape {w w' : World} {r : Option Nat} {e : Ending} (h : NumR w r e w') : ∃ x b, e = .returned (.tuple #[.int .i64 x, .bool b]) ∧ NumR w r e w' := by
  cases r with
  | none => exact ⟨_, _, h.1, h⟩
  | some r => exact ⟨_, _, h.1, h⟩
theorem named_b {w : World} (l : B) : Calls Tryz.prog 117 #[.string (bs l)] w (NamR w (Tz.namedL l)) := named_u (bs l)
theorem num10 {w : World} (l : B) (h : l.length ≤ 1600000000) : Calls Tryz.prog 118 #[.string (bs l), .int .i64 10, .int .i64 7] w (NumR w (Tz.numberL l 10 7)) := number10 (bs l) h
theorem num16 {w : World} (l : B) (h : l.length ≤ 1600000000) : Calls Tryz.prog 118 #[.string (bs l), .int .i64 16, .int .i64 6] w (NumR w (Tz.numberL l 16 6)) := number16 (bs l) h
theorem encode_bs (n : Nat) : Utf8.encode (n : Int) = bs (Tz.runeL n) := encode_eq n
end Go.Proofs.YtlgaeeedkihfpaaGreatDoor.Uf

/-
  refs.stands and refs.Resolve: what they compute.
-/
namespace Go.Proofs.YtlgaeeedkihfpaaGreatDoor.Uf
open Go.RowKit
open Tz (B standsL numberL numG namedL runeL oddN)

theorem numG_lt {base : Nat} : ∀ (s : B) (n k m : Nat), numG base s n = some m → n < base ^ k → m < base ^ (k + s.length)
  | [], n, k, m, h, hn => by simp only [numG, Option.some.injEq] at h; subst h; exact hn
  | c :: s, n, k, m, h, hn => by
    unfold numG at h
    split at h
    · split at h
      · rename_i d _ hd
        have h2 : n * base + d < base ^ (k + 1) := by
          rw [Nat.pow_succ]
          calc n * base + d < n * base + base := by omega
            _ = (n + 1) * base := by rw [Nat.add_mul, Nat.one_mul]
            _ ≤ base ^ k * base := Nat.mul_le_mul_right _ hn
        have := numG_lt s _ (k + 1) m h h2
        rw [List.length_cons, show k + (s.length + 1) = k + 1 + s.length by omega]
        exact this
      · cases h
    · cases h
theorem number_lt {base most n : Nat} {s : B} (hb : 0 < base) (h : numberL s base most = some n) : n < base ^ most := by
  unfold numberL at h
  split at h
  · cases h
  · rename_i hc
    have h1 := numG_lt _ _ 0 _ h (by simp)
    have h2 : (Tz.lowL s).length = s.length := by simp [Tz.lowL]
    rw [h2, Nat.zero_add] at h1
    exact Nat.lt_of_lt_of_le h1 (Nat.pow_le_pow_right hb (by omega))

theorem below_dn {B : Nat} {w w1 : World} {n : Nat} (h : Below B (w.drewN n) w1) : Below B w w1 := (show Below B w (w.drewN n) from ⟨rfl, rfl, rfl, Nat.le_refl _, fun _ _ => rfl⟩).trans h

set_option maxRecDepth 100000 in
set_option maxHeartbeats 4000000 in
theorem stands_u {w : World} (l : B) (hs : l.length ≤ 1600000000) : Calls Tryz.prog 101 #[.string (bs l)] w (NamR w (standsL l)) := by
  obtain ⟨R, hR⟩ : ∃ R, R = standsL l := ⟨_, rfl⟩
  rw [← hR]
  by_cases hp : ([35] : B).isPrefixOf l = true
  · obtain ⟨d, rfl⟩ : ∃ d, l = 35 :: d := by
      cases l with
      | nil => simp at hp
      | cons c d => exact ⟨d, by simp at hp; rw [hp]⟩
    by_cases hx : ∃ d', d = 120 :: d'
    · obtain ⟨d', rfl⟩ := hx
      have hq35 : ([35] : B).isPrefixOf (35 :: 120 :: d') = true := rfl
      have hq120 : ([120] : B).isPrefixOf (120 :: d') = true := rfl
      have hq88 : ([88] : B).isPrefixOf (120 :: d') = false := rfl
      have hR1 : R = (numberL d' 16 6).map fun n => runeL (oddN n) := by rw [hR]; simp [standsL]
      have HR := Lib.hid hR1
      clear hR hR1
      have hsz : (1 : Int) ≤ ((bs (120 :: d')).size : Int) := by rw [bs_size, List.length_cons]; omega
      go_enter Tryz.func101, Tryz.ntmps101
      go_wp2_with fail
      refine (cut_prefix (35 :: 120 :: d') [35]).mono ?_
      rintro e w1 ⟨rfl, hw1⟩
      rw [hw1, hq35]
      clear hw1 w1
      simp only [if_true, List.length_cons, List.length_nil, List.drop_succ_cons, List.drop_zero, Nat.zero_add]
      go_wp2_with fail
      refine (has_prefix (120 :: d') [120]).mono ?_
      rintro e w1 ⟨rfl, hw1⟩
      rw [hw1, hq120]
      clear hw1 w1
      go_wp2_with fail
      go_quiet (fail)
      go_wp2_with fail
      rw [bs_extract]
      simp only [List.drop_succ_cons, List.drop_zero]
      rw [List.take_of_length_le (by rw [bs_size, List.length_cons]; omega)]
      refine (num16 d' (by simp only [List.length_cons] at hs ⊢; omega)).mono ?_
      intro e w1 hN
      obtain ⟨v, q, rfl, hN⟩ := hN.shape
      cases hn : numberL d' 16 6 with
      | none =>
        rw [hn] at hN
        obtain ⟨he, hb⟩ := hN
        injection he with he; injection he with he
        obtain ⟨rfl, rfl⟩ : v = 0 ∧ q = false := by simpa using he
        have Hfin := Lib.hid (show NamR w R (.returned (.tuple #[.string ByteArray.empty, .bool false])) w1 by rw [HR.out, hn]; exact ⟨rfl, below_dn hb⟩)
        clear hb hn
        go_wp2_with fail
        go_ret2
        exact Hfin.out
      | some n =>
        have hRn : R = some (runeL (oddN n)) := by rw [HR.out, hn]; rfl
        have hlt := number_lt (by omega) hn
        rw [hn] at hN
        obtain ⟨he, hb⟩ := hN
        injection he with he; injection he with he
        obtain ⟨rfl, rfl⟩ : v = n ∧ q = true := by simpa using he
        have Hb := Lib.hid (below_dn hb)
        have hlt2 : n < 16777216 := Nat.lt_of_lt_of_le hlt (by decide)
        have hw32 : IntKind.i32.wrap (n : Int) = (n : Int) := by rw [IntKind.wrap_i32]; omega
        clear hb hn hlt
        by_cases hc : n = 0
        · have ho : oddN n = 65533 := by unfold oddN; rw [if_pos (by omega)]
          have f0 : ((n : Int) == 0) = true := by simp; try omega
          have Hfin := Lib.hid (show NamR w R (.returned (.tuple #[.string (Utf8.encode ((65533 : Nat))), .bool true])) w1 by rw [hRn, ho, encode_bs]; exact ⟨rfl, Hb.out⟩)
          clear hc hRn ho
          go_wp2_with fail
          go_ret2
          exact Hfin.out
        have hc54 := hc
        clear hc
        by_cases hc : n = 13
        · have ho : oddN n = 65533 := by unfold oddN; rw [if_pos (by omega)]
          have f0 : ((n : Int) == 0) = false := by simp; try omega
          have f1 : ((n : Int) == 13) = true := by simp; try omega
          have Hfin := Lib.hid (show NamR w R (.returned (.tuple #[.string (Utf8.encode ((65533 : Nat))), .bool true])) w1 by rw [hRn, ho, encode_bs]; exact ⟨rfl, Hb.out⟩)
          clear hc hRn ho
          go_wp2_with fail
          go_ret2
          exact Hfin.out
        have hc65 := hc
        clear hc
        by_cases hc : 55296 ≤ n ∧ n ≤ 57343
        · have ho : oddN n = 65533 := by unfold oddN; rw [if_pos (by omega)]
          have f0 : ((n : Int) == 0) = false := by simp; try omega
          have f1 : ((n : Int) == 13) = false := by simp; try omega
          have f2 : decide ((55296 : Int) ≤ (n : Int)) = true := by simp; try omega
          have f3 : decide ((n : Int) ≤ 57343) = true := by simp; try omega
          have Hfin := Lib.hid (show NamR w R (.returned (.tuple #[.string (Utf8.encode ((65533 : Nat))), .bool true])) w1 by rw [hRn, ho, encode_bs]; exact ⟨rfl, Hb.out⟩)
          clear hc hRn ho
          go_wp2_with fail
          go_ret2
          exact Hfin.out
        have hc78 := hc
        clear hc
        by_cases hc : 1114111 < n
        · have ho : oddN n = 65533 := by unfold oddN; rw [if_pos (by omega)]
          have f0 : ((n : Int) == 0) = false := by simp; try omega
          have f1 : ((n : Int) == 13) = false := by simp; try omega
          have f2 : decide ((55296 : Int) ≤ (n : Int)) = true := by simp; try omega
          have f3 : decide ((n : Int) ≤ 57343) = false := by simp; try omega
          have f4 : decide ((1114111 : Int) < (n : Int)) = true := by simp; try omega
          have Hfin := Lib.hid (show NamR w R (.returned (.tuple #[.string (Utf8.encode ((65533 : Nat))), .bool true])) w1 by rw [hRn, ho, encode_bs]; exact ⟨rfl, Hb.out⟩)
          clear hc hRn ho
          go_wp2_with fail
          go_ret2
          exact Hfin.out
        have hc92 := hc
        clear hc
        by_cases hc : n < 55296
        · have ho : oddN n = n := by unfold oddN; rw [if_neg (by omega)]
          have f0 : ((n : Int) == 0) = false := by simp; try omega
          have f1 : ((n : Int) == 13) = false := by simp; try omega
          have f2 : decide ((55296 : Int) ≤ (n : Int)) = false := by simp; try omega
          have f3 : decide ((1114111 : Int) < (n : Int)) = false := by simp; try omega
          have Hfin := Lib.hid (show NamR w R (.returned (.tuple #[.string (Utf8.encode ((n : Nat))), .bool true])) w1 by rw [hRn, ho, encode_bs]; exact ⟨rfl, Hb.out⟩)
          clear hc hRn ho
          go_wp2_with fail
          go_ret2
          exact Hfin.out
        have hc105 := hc
        clear hc
        have ho : oddN n = n := by unfold oddN; rw [if_neg (by omega)]
        have f0 : ((n : Int) == 0) = false := by simp; try omega
        have f1 : ((n : Int) == 13) = false := by simp; try omega
        have f2 : decide ((55296 : Int) ≤ (n : Int)) = true := by simp; try omega
        have f3 : decide ((n : Int) ≤ 57343) = false := by simp; try omega
        have f4 : decide ((1114111 : Int) < (n : Int)) = false := by simp; try omega
        have Hfin := Lib.hid (show NamR w R (.returned (.tuple #[.string (Utf8.encode ((n : Nat))), .bool true])) w1 by rw [hRn, ho, encode_bs]; exact ⟨rfl, Hb.out⟩)
        clear hRn ho
        go_wp2_with fail
        go_ret2
        exact Hfin.out
    have hx120 := hx
    clear hx
    by_cases hx : ∃ d', d = 88 :: d'
    · obtain ⟨d', rfl⟩ := hx
      have hq35 : ([35] : B).isPrefixOf (35 :: 88 :: d') = true := rfl
      have hq120 : ([120] : B).isPrefixOf (88 :: d') = false := rfl
      have hq88 : ([88] : B).isPrefixOf (88 :: d') = true := rfl
      have hR1 : R = (numberL d' 16 6).map fun n => runeL (oddN n) := by rw [hR]; simp [standsL]
      have HR := Lib.hid hR1
      clear hR hR1
      have hsz : (1 : Int) ≤ ((bs (88 :: d')).size : Int) := by rw [bs_size, List.length_cons]; omega
      go_enter Tryz.func101, Tryz.ntmps101
      go_wp2_with fail
      refine (cut_prefix (35 :: 88 :: d') [35]).mono ?_
      rintro e w1 ⟨rfl, hw1⟩
      rw [hw1, hq35]
      clear hw1 w1
      simp only [if_true, List.length_cons, List.length_nil, List.drop_succ_cons, List.drop_zero, Nat.zero_add]
      go_wp2_with fail
      refine (has_prefix (88 :: d') [120]).mono ?_
      rintro e w1 ⟨rfl, hw1⟩
      rw [hw1, hq120]
      clear hw1 w1
      go_wp2_with fail
      refine (has_prefix (88 :: d') [88]).mono ?_
      rintro e w1 ⟨rfl, hw1⟩
      rw [hw1, hq88]
      clear hw1 w1
      go_wp2_with fail
      go_quiet (fail)
      go_wp2_with fail
      rw [bs_extract]
      simp only [List.drop_succ_cons, List.drop_zero]
      rw [List.take_of_length_le (by rw [bs_size, List.length_cons]; omega)]
      refine (num16 d' (by simp only [List.length_cons] at hs ⊢; omega)).mono ?_
      intro e w1 hN
      obtain ⟨v, q, rfl, hN⟩ := hN.shape
      cases hn : numberL d' 16 6 with
      | none =>
        rw [hn] at hN
        obtain ⟨he, hb⟩ := hN
        injection he with he; injection he with he
        obtain ⟨rfl, rfl⟩ : v = 0 ∧ q = false := by simpa using he
        have Hfin := Lib.hid (show NamR w R (.returned (.tuple #[.string ByteArray.empty, .bool false])) w1 by rw [HR.out, hn]; exact ⟨rfl, below_dn hb⟩)
        clear hb hn
        go_wp2_with fail
        go_ret2
        exact Hfin.out
      | some n =>
        have hRn : R = some (runeL (oddN n)) := by rw [HR.out, hn]; rfl
        have hlt := number_lt (by omega) hn
        rw [hn] at hN
        obtain ⟨he, hb⟩ := hN
        injection he with he; injection he with he
        obtain ⟨rfl, rfl⟩ : v = n ∧ q = true := by simpa using he
        have Hb := Lib.hid (below_dn hb)
        have hlt2 : n < 16777216 := Nat.lt_of_lt_of_le hlt (by decide)
        have hw32 : IntKind.i32.wrap (n : Int) = (n : Int) := by rw [IntKind.wrap_i32]; omega
        clear hb hn hlt
        by_cases hc : n = 0
        · have ho : oddN n = 65533 := by unfold oddN; rw [if_pos (by omega)]
          have f0 : ((n : Int) == 0) = true := by simp; try omega
          have Hfin := Lib.hid (show NamR w R (.returned (.tuple #[.string (Utf8.encode ((65533 : Nat))), .bool true])) w1 by rw [hRn, ho, encode_bs]; exact ⟨rfl, Hb.out⟩)
          clear hc hRn ho
          go_wp2_with fail
          go_ret2
          exact Hfin.out
        have hc59 := hc
        clear hc
        by_cases hc : n = 13
        · have ho : oddN n = 65533 := by unfold oddN; rw [if_pos (by omega)]
          have f0 : ((n : Int) == 0) = false := by simp; try omega
          have f1 : ((n : Int) == 13) = true := by simp; try omega
          have Hfin := Lib.hid (show NamR w R (.returned (.tuple #[.string (Utf8.encode ((65533 : Nat))), .bool true])) w1 by rw [hRn, ho, encode_bs]; exact ⟨rfl, Hb.out⟩)
          clear hc hRn ho
          go_wp2_with fail
          go_ret2
          exact Hfin.out
        have hc70 := hc
        clear hc
        by_cases hc : 55296 ≤ n ∧ n ≤ 57343
        · have ho : oddN n = 65533 := by unfold oddN; rw [if_pos (by omega)]
          have f0 : ((n : Int) == 0) = false := by simp; try omega
          have f1 : ((n : Int) == 13) = false := by simp; try omega
          have f2 : decide ((55296 : Int) ≤ (n : Int)) = true := by simp; try omega
          have f3 : decide ((n : Int) ≤ 57343) = true := by simp; try omega
          have Hfin := Lib.hid (show NamR w R (.returned (.tuple #[.string (Utf8.encode ((65533 : Nat))), .bool true])) w1 by rw [hRn, ho, encode_bs]; exact ⟨rfl, Hb.out⟩)
          clear hc hRn ho
          go_wp2_with fail
          go_ret2
          exact Hfin.out
        have hc83 := hc
        clear hc
        by_cases hc : 1114111 < n
        · have ho : oddN n = 65533 := by unfold oddN; rw [if_pos (by omega)]
          have f0 : ((n : Int) == 0) = false := by simp; try omega
          have f1 : ((n : Int) == 13) = false := by simp; try omega
          have f2 : decide ((55296 : Int) ≤ (n : Int)) = true := by simp; try omega
          have f3 : decide ((n : Int) ≤ 57343) = false := by simp; try omega
          have f4 : decide ((1114111 : Int) < (n : Int)) = true := by simp; try omega
          have Hfin := Lib.hid (show NamR w R (.returned (.tuple #[.string (Utf8.encode ((65533 : Nat))), .bool true])) w1 by rw [hRn, ho, encode_bs]; exact ⟨rfl, Hb.out⟩)
          clear hc hRn ho
          go_wp2_with fail
          go_ret2
          exact Hfin.out
        have hc97 := hc
        clear hc
        by_cases hc : n < 55296
        · have ho : oddN n = n := by unfold oddN; rw [if_neg (by omega)]
          have f0 : ((n : Int) == 0) = false := by simp; try omega
          have f1 : ((n : Int) == 13) = false := by simp; try omega
          have f2 : decide ((55296 : Int) ≤ (n : Int)) = false := by simp; try omega
          have f3 : decide ((1114111 : Int) < (n : Int)) = false := by simp; try omega
          have Hfin := Lib.hid (show NamR w R (.returned (.tuple #[.string (Utf8.encode ((n : Nat))), .bool true])) w1 by rw [hRn, ho, encode_bs]; exact ⟨rfl, Hb.out⟩)
          clear hc hRn ho
          go_wp2_with fail
          go_ret2
          exact Hfin.out
        have hc110 := hc
        clear hc
        have ho : oddN n = n := by unfold oddN; rw [if_neg (by omega)]
        have f0 : ((n : Int) == 0) = false := by simp; try omega
        have f1 : ((n : Int) == 13) = false := by simp; try omega
        have f2 : decide ((55296 : Int) ≤ (n : Int)) = true := by simp; try omega
        have f3 : decide ((n : Int) ≤ 57343) = false := by simp; try omega
        have f4 : decide ((1114111 : Int) < (n : Int)) = false := by simp; try omega
        have Hfin := Lib.hid (show NamR w R (.returned (.tuple #[.string (Utf8.encode ((n : Nat))), .bool true])) w1 by rw [hRn, ho, encode_bs]; exact ⟨rfl, Hb.out⟩)
        clear hRn ho
        go_wp2_with fail
        go_ret2
        exact Hfin.out
    have hx88 := hx
    clear hx
    have hq35 : ([35] : B).isPrefixOf (35 :: d) = true := rfl
    have hq120 : ([120] : B).isPrefixOf d = false := by
      cases d with
      | nil => rfl
      | cons c d => simp only [List.isPrefixOf_cons_cons, List.isPrefixOf_nil_left, Bool.and_true, beq_eq_false_iff_ne]; exact fun e => hx120 ⟨d, by rw [e]⟩
    have hq88 : ([88] : B).isPrefixOf d = false := by
      cases d with
      | nil => rfl
      | cons c d => simp only [List.isPrefixOf_cons_cons, List.isPrefixOf_nil_left, Bool.and_true, beq_eq_false_iff_ne]; exact fun e => hx88 ⟨d, by rw [e]⟩
    have hR1 : R = (numberL d 10 7).map fun n => runeL (oddN n) := by
      rw [hR]
      cases d with
      | nil => rfl
      | cons c d =>
        have hno : ¬ (c = 120 ∨ c = 88) := by
          rintro (e | e)
          · exact hx120 ⟨d, by rw [e]⟩
          · exact hx88 ⟨d, by rw [e]⟩
        simp only [standsL, if_neg hno]
    clear hx120 hx88
    have HR := Lib.hid hR1
    clear hR hR1
    go_enter Tryz.func101, Tryz.ntmps101
    go_wp2_with fail
    refine (cut_prefix (35 :: d) [35]).mono ?_
    rintro e w1 ⟨rfl, hw1⟩
    rw [hw1, hq35]
    clear hw1 w1
    simp only [if_true, List.length_cons, List.length_nil, List.drop_succ_cons, List.drop_zero, Nat.zero_add]
    go_wp2_with fail
    refine (has_prefix d [120]).mono ?_
    rintro e w1 ⟨rfl, hw1⟩
    rw [hw1, hq120]
    clear hw1 w1
    go_wp2_with fail
    refine (has_prefix d [88]).mono ?_
    rintro e w1 ⟨rfl, hw1⟩
    rw [hw1, hq88]
    clear hw1 w1
    go_wp2_with fail
    refine (num10 d (by simp only [List.length_cons] at hs ⊢; omega)).mono ?_
    intro e w1 hN
    obtain ⟨v, q, rfl, hN⟩ := hN.shape
    cases hn : numberL d 10 7 with
    | none =>
      rw [hn] at hN
      obtain ⟨he, hb⟩ := hN
      injection he with he; injection he with he
      obtain ⟨rfl, rfl⟩ : v = 0 ∧ q = false := by simpa using he
      have Hfin := Lib.hid (show NamR w R (.returned (.tuple #[.string ByteArray.empty, .bool false])) w1 by rw [HR.out, hn]; exact ⟨rfl, hb⟩)
      clear hb hn
      go_wp2_with fail
      go_ret2
      exact Hfin.out
    | some n =>
      have hRn : R = some (runeL (oddN n)) := by rw [HR.out, hn]; rfl
      have hlt := number_lt (by omega) hn
      rw [hn] at hN
      obtain ⟨he, hb⟩ := hN
      injection he with he; injection he with he
      obtain ⟨rfl, rfl⟩ : v = n ∧ q = true := by simpa using he
      have Hb := Lib.hid (hb)
      have hlt2 : n < 16777216 := Nat.lt_of_lt_of_le hlt (by decide)
      have hw32 : IntKind.i32.wrap (n : Int) = (n : Int) := by rw [IntKind.wrap_i32]; omega
      clear hb hn hlt
      by_cases hc : n = 0
      · have ho : oddN n = 65533 := by unfold oddN; rw [if_pos (by omega)]
        have f0 : ((n : Int) == 0) = true := by simp; try omega
        have Hfin := Lib.hid (show NamR w R (.returned (.tuple #[.string (Utf8.encode ((65533 : Nat))), .bool true])) w1 by rw [hRn, ho, encode_bs]; exact ⟨rfl, Hb.out⟩)
        clear hc hRn ho
        go_wp2_with fail
        go_ret2
        exact Hfin.out
      have hc53 := hc
      clear hc
      by_cases hc : n = 13
      · have ho : oddN n = 65533 := by unfold oddN; rw [if_pos (by omega)]
        have f0 : ((n : Int) == 0) = false := by simp; try omega
        have f1 : ((n : Int) == 13) = true := by simp; try omega
        have Hfin := Lib.hid (show NamR w R (.returned (.tuple #[.string (Utf8.encode ((65533 : Nat))), .bool true])) w1 by rw [hRn, ho, encode_bs]; exact ⟨rfl, Hb.out⟩)
        clear hc hRn ho
        go_wp2_with fail
        go_ret2
        exact Hfin.out
      have hc64 := hc
      clear hc
      by_cases hc : 55296 ≤ n ∧ n ≤ 57343
      · have ho : oddN n = 65533 := by unfold oddN; rw [if_pos (by omega)]
        have f0 : ((n : Int) == 0) = false := by simp; try omega
        have f1 : ((n : Int) == 13) = false := by simp; try omega
        have f2 : decide ((55296 : Int) ≤ (n : Int)) = true := by simp; try omega
        have f3 : decide ((n : Int) ≤ 57343) = true := by simp; try omega
        have Hfin := Lib.hid (show NamR w R (.returned (.tuple #[.string (Utf8.encode ((65533 : Nat))), .bool true])) w1 by rw [hRn, ho, encode_bs]; exact ⟨rfl, Hb.out⟩)
        clear hc hRn ho
        go_wp2_with fail
        go_ret2
        exact Hfin.out
      have hc77 := hc
      clear hc
      by_cases hc : 1114111 < n
      · have ho : oddN n = 65533 := by unfold oddN; rw [if_pos (by omega)]
        have f0 : ((n : Int) == 0) = false := by simp; try omega
        have f1 : ((n : Int) == 13) = false := by simp; try omega
        have f2 : decide ((55296 : Int) ≤ (n : Int)) = true := by simp; try omega
        have f3 : decide ((n : Int) ≤ 57343) = false := by simp; try omega
        have f4 : decide ((1114111 : Int) < (n : Int)) = true := by simp; try omega
        have Hfin := Lib.hid (show NamR w R (.returned (.tuple #[.string (Utf8.encode ((65533 : Nat))), .bool true])) w1 by rw [hRn, ho, encode_bs]; exact ⟨rfl, Hb.out⟩)
        clear hc hRn ho
        go_wp2_with fail
        go_ret2
        exact Hfin.out
      have hc91 := hc
      clear hc
      by_cases hc : n < 55296
      · have ho : oddN n = n := by unfold oddN; rw [if_neg (by omega)]
        have f0 : ((n : Int) == 0) = false := by simp; try omega
        have f1 : ((n : Int) == 13) = false := by simp; try omega
        have f2 : decide ((55296 : Int) ≤ (n : Int)) = false := by simp; try omega
        have f3 : decide ((1114111 : Int) < (n : Int)) = false := by simp; try omega
        have Hfin := Lib.hid (show NamR w R (.returned (.tuple #[.string (Utf8.encode ((n : Nat))), .bool true])) w1 by rw [hRn, ho, encode_bs]; exact ⟨rfl, Hb.out⟩)
        clear hc hRn ho
        go_wp2_with fail
        go_ret2
        exact Hfin.out
      have hc104 := hc
      clear hc
      have ho : oddN n = n := by unfold oddN; rw [if_neg (by omega)]
      have f0 : ((n : Int) == 0) = false := by simp; try omega
      have f1 : ((n : Int) == 13) = false := by simp; try omega
      have f2 : decide ((55296 : Int) ≤ (n : Int)) = true := by simp; try omega
      have f3 : decide ((n : Int) ≤ 57343) = false := by simp; try omega
      have f4 : decide ((1114111 : Int) < (n : Int)) = false := by simp; try omega
      have Hfin := Lib.hid (show NamR w R (.returned (.tuple #[.string (Utf8.encode ((n : Nat))), .bool true])) w1 by rw [hRn, ho, encode_bs]; exact ⟨rfl, Hb.out⟩)
      clear hRn ho
      go_wp2_with fail
      go_ret2
      exact Hfin.out
  · have hR2 : R = namedL l := by
      rw [hR]
      unfold standsL
      split
      · simp at hp
      · rfl
    rw [hR2]
    have hp2 : ([35] : B).isPrefixOf l = false := by rw [Bool.eq_false_iff]; exact hp
    clear hR2 hR hp
    go_enter Tryz.func101, Tryz.ntmps101
    go_wp2_with fail
    refine (cut_prefix l [35]).mono ?_
    rintro e w1 ⟨rfl, hw1⟩
    rw [hw1, hp2]
    clear hw1 w1
    simp only [Bool.false_eq_true, if_false]
    go_wp2_with fail
    refine (named_b l).mono ?_
    intro e w1 hN
    obtain ⟨x, b, rfl, hN⟩ := hN.shape
    go_wp2_with fail
    go_ret2
    exact hN
end Go.Proofs.YtlgaeeedkihfpaaGreatDoor.Uf
