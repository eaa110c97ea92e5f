/-
  The reference's Chars and Cut: what they compute.
-/
import Derived.Test.YteijpcjhecmamaaCutW
namespace Go.Proofs.Yteijpcjhecmamaa.Uf
open Go.RowKit

def strs (l : List ByteArray) : List Value := l.map Value.string
theorem Try.info9 : (Try.prog.info? 9).map (fun i => (i.zero, i.size, i.bytes)) = some (some (.string ByteArray.empty), 1, 16) := by kernel_rfl
theorem reads_newV (w : World) (cs : List Value) (e : TypeId) : Reads (w.alloc (.cells cs.toArray e)) (w.heap.size + 1) 1 (some ⟨w.heap.size, 0, none⟩) cs.length cs := by
  refine ⟨by simp, fun _ => ⟨_, rfl, by simp, fun j u hu => ?_⟩⟩
  have ha : (⟨w.heap.size, 0, none⟩ : Addr).add j = ⟨w.heap.size, j, none⟩ := by unfold Addr.add; split <;> simp_all
  rw [ha, cell_of_row _ w.heap.size j cs.toArray e (0, 0) (heap_alloc_new w _)]
  simpa using hu
theorem own_cellS {w : World} {base n c : Nat} {A : Option Addr} {T : List ByteArray} (h : w.ownsRow base 9 1 (.slice A n c) n (strs T)) {k : Nat} (hk : k < n) : ∃ g, A = some ⟨g, 0, none⟩ ∧ w.cell? ⟨g, k, none⟩ = some (.string (T.getD k ByteArray.empty)) := by
  have hl : T.length = n := by have := h.1; simp [strs] at this; exact this
  obtain ⟨g, cap, hv, _, _⟩ := h.form (by omega)
  injection hv with hA
  subst hA
  refine ⟨g, rfl, ?_⟩
  rw [h.cellAt k (by omega)]
  simp [strs, List.getD, List.getElem?_eq_getElem (show k < T.length by omega)]

/-- The characters of a text. -/
def charsG : Nat → List UInt8 → List ByteArray
  | 0, _ => []
  | f + 1, l => if l = [] then [] else ⟨(l.take (Lib.decodeL l).2).toArray⟩ :: charsG f (l.drop (Lib.decodeL l).2)
theorem charsG_step {f : Nat} {l : List UInt8} {d : Nat} (hl : l ≠ []) (hd : d = (Lib.decodeL l).2) : charsG (f + 1) l = ⟨(l.take d).toArray⟩ :: charsG f (l.drop d) := by
  subst hd
  simp [charsG, hl]
theorem charsG_nil (f : Nat) : charsG f [] = [] := by cases f <;> simp [charsG]
theorem charsG_le : ∀ (f : Nat) (l : List UInt8), (charsG f l).length ≤ f
  | 0, _ => by simp [charsG]
  | f + 1, l => by
    by_cases hl : l = []
    · subst hl; rw [charsG_nil]; simp
    · rw [charsG_step hl rfl, List.length_cons]
      have := charsG_le f (l.drop (Lib.decodeL l).2)
      omega
theorem part_extract (s : ByteArray) (a b : Nat) : s.extract a (a + b) = ⟨((s.data.toList.drop a).take b).toArray⟩ := by
  have h : (s.extract a (a + b)).data.toList = (s.data.toList.drop a).take b := by
    simp only [ByteArray.data_extract, Array.toList_extract, List.extract_eq_take_drop]
    rw [show a + b - a = b from by omega]
  rw [← h]

theorem chars_step {w W w3 : World} {vo v3 : Value} {T : List ByteArray} {t : ByteArray} (hW : Below w.heap.size w W) (hown : W.ownsRow w.heap.size 9 1 vo T.length (strs T))
    (hown4 : w3.ownsRow w.heap.size 9 1 v3 (T.length + 1) (strs T ++ [.string t])) (hg : (W.alloc (.cells #[.string t] 9)).grownBy w3 vo.ownBlock) :
    w3.ownsRow w.heap.size 9 1 v3 (T ++ [t]).length (strs (T ++ [t])) ∧ Below w.heap.size w w3 := by
  refine ⟨?_, (hW.alloc hW.size _).grown hg (by have := hW.size; simp; omega) (fun i hi => (hown.lt i hi).1)⟩
  rw [List.length_append]
  simpa [strs] using hown4

def CharsPost (w : World) (l : List UInt8) (e : Ending) (w' : World) : Prop :=
  ∃ (ao : Option Addr) (c : Nat), e = .returned (.slice ao (charsG l.length l).length c) ∧ w'.ownsRow w.heap.size 9 1 (.slice ao (charsG l.length l).length c) (charsG l.length l).length (strs (charsG l.length l)) ∧ Below w.heap.size w w'

set_option maxRecDepth 100000 in
set_option maxHeartbeats 1600000 in
theorem chars_ref {w : World} (s : ByteArray) (hs : s.size ≤ 100000) : Calls Try.prog 18 #[.string s] w (CharsPost w s.data.toList) := by
  have hs2 : s.size ≤ 1000000 := by omega
  obtain ⟨i9, hi9, hz9, hs9, hb9⟩ := info_parts Try.info9
  obtain ⟨l, hl⟩ : ∃ l, l = s.data.toList := ⟨_, rfl⟩
  have hll : l.length = s.size := by rw [hl]; simp
  obtain ⟨all, hall⟩ : ∃ all, all = charsG l.length l := ⟨_, rfl⟩
  have hal0 : all.length ≤ s.size := by rw [hall, ← hll]; exact charsG_le _ _
  rw [← hl]
  have HL := Lib.hid (And.intro hl (And.intro hll hall))
  clear hl hll hall
  go_enter Try.func18, Try.ntmps18
  go_wp2
  go_loopw [3, 4] (fun u a wr => ∃ (pos fuel : Nat) (T : List ByteArray), pos ≤ s.size ∧ a = .int .i64 pos ∧ wr.ownsRow w.heap.size 9 1 u T.length (strs T) ∧ Hid (T ++ charsG fuel (l.drop pos) = all) ∧ s.size ≤ pos + fuel ∧ Below w.heap.size w wr ∧ T.length ≤ pos) (fun _ a _ => s.size - (intOf a).toNat)
  case atStart => exact ⟨0, s.size, [], Nat.zero_le _, rfl, World.ownsRow_nil _ _ _ _, (show _ = _ by rw [HL.out.2.2, HL.out.2.1]; simp), by omega, Below.refl _ _, Nat.zero_le _⟩
  case round =>
    obtain ⟨pos, fuel, T, hk, rfl, hown, Hacc, hfu, hbw, hal⟩ := hrel
    by_cases hp : pos < s.size
    · have hp' : (pos : Int) < (s.size : Int) := by omega
      obtain ⟨f, rfl⟩ : ∃ f, fuel = f + 1 := ⟨fuel - 1, by omega⟩
      have hpl : pos < l.length := by rw [HL.out.2.1]; exact hp
      obtain ⟨d, hd⟩ : ∃ d, d = (Lib.decodeL (l.drop pos)).2 := ⟨_, rfl⟩
      have hst := Hacc.out
      rw [charsG_step (drop_ne hpl) hd, List.drop_drop] at hst
      obtain ⟨rn, hrn⟩ : ∃ rn, rn = rightL (l.drop pos) := ⟨_, rfl⟩
      have hdm : max rn 1 = d := by rw [hrn, hd]; exact max_right _
      have hdl : pos + d ≤ s.size := by
        have := Lib.decodeL_le (l.drop pos) (drop_ne hpl)
        rw [List.length_drop, HL.out.2.1] at this
        omega
      obtain ⟨t, ht⟩ : ∃ t, t = s.extract pos (pos + d) := ⟨_, rfl⟩
      have ht2 := ht
      rw [part_extract, ← HL.out.1] at ht2
      rw [← ht2] at hst
      have hmx : max (rn : Int) 1 = (d : Int) := by omega
      have hd1 : 1 ≤ d := by omega
      have hdl2 : (pos : Int) + (d : Int) ≤ (s.size : Int) := by omega
      have hsl : (Instr.slice 9 (.string s) (some (.int .i64 pos)) (some (.int .i64 ((pos : Int) + (d : Int)))) none).run Try.prog wr = .ok (.string t) wr := by
        rw [run_slice_string_if _ _ _ _ _ _ _ Try.underlying9, if_pos (by omega), if_pos (by omega), show ((pos : Int) + (d : Int)).toNat = pos + d from by omega, Int.toNat_natCast, ht]
      have hr3 := reads_newV wr [.string t] 9
      have hown3 := hown.alloc (.cells #[.string t] 9)
      have Hrn := Lib.hid (show rn = rightL (s.data.toList.drop pos) by rw [hrn, HL.out.1])
      have Hst := Lib.hid (show (T ++ [t]) ++ charsG f (l.drop (pos + d)) = all by rw [← hst]; simp)
      have Hown := Lib.hid hown
      have Hown3 := Lib.hid hown3
      have hbws := hbw.size
      clear hrn hd ht ht2 hst hdm hown hown3
      go_wp2_with fail
      refine (right_ref s pos _ hp hs2).mono ?_
      rintro e w2 ⟨rfl, hw2⟩
      rw [hw2]
      clear hw2 w2
      rw [← Hrn.out]
      go_wp2_with (at_builtin; refine wpList_append_any _ rfl (.tmp 14) (.tmp 21) 41 rfl w.heap.size 9 i9 _ 1 16 Try.underlying41 hi9 hz9 hs9 hb9 rfl (by omega) u3 T.length (strs T) rfl Hown3.out (wr.heap.size + 1) (some ⟨wr.heap.size, 0, none⟩) 1 1 [.string t] rfl hr3 (by simp; rfl) (by unfold maxLen; omega) (by omega) (by simp; omega) ?_; intro v3 w3 hown4 hg3 hat3; have Hown4 := Lib.hid hown4; have Hg3 := Lib.hid hg3; clear hown4 hg3 hat3)
      go_roundw
      case rel =>
        have hs := chars_step hbw Hown.out Hown4.out Hg3.out
        exact ⟨pos + d, f, T ++ [t], by omega, by go_num, hs.1, Hst, by omega, hs.2, by simp; omega⟩
      case measure => simp [intOf]; omega
    · have hp' : ¬ (pos : Int) < (s.size : Int) := by omega
      have hfin : T = all := by
        have h := Hacc.out
        rw [List.drop_of_length_le (by rw [HL.out.2.1]; omega), charsG_nil, List.append_nil] at h
        exact h
      subst hfin
      obtain ⟨a, c, rfl, _, _⟩ := own_shape hown
      have Hp := Lib.hid (show CharsPost w l (.returned (.slice a T.length c)) wr from ⟨a, c, by rw [← HL.out.2.2], by rw [← HL.out.2.2]; exact hown, hbw⟩)
      clear hown
      go_wp2
      go_ret
      exact Hp.out

theorem app_bytes (a b : List UInt8) : (⟨a.toArray⟩ : ByteArray) ++ ⟨b.toArray⟩ = ⟨(a ++ b).toArray⟩ := by
  have h : ((⟨a.toArray⟩ : ByteArray) ++ ⟨b.toArray⟩).data = (a ++ b).toArray := by
    rw [ByteArray.data_append]
    simp
  rw [← h]

/-- What the reference's loop knows. -/
structure CutZAt (l : List UInt8) (n : Int) (T : List ByteArray) (C f k p : Nat) : Prop where
  rest : T.drop k = charsG f (l.drop p)
  fuel : l.length ≤ p + f
  pos : 0 ≤ n → (p : Int) ≤ n ∧ p + cutN f (l.drop p) (n.toNat - p) = C
  neg : n < 0 → p = 0 ∧ C = 0
theorem CutZAt.step {l : List UInt8} {n : Int} {T : List ByteArray} {C f k p : Nat} (h : CutZAt l n T C f k p) (hk : k < T.length) :
    ∃ d, 1 ≤ d ∧ p + d ≤ l.length ∧ T.getD k ByteArray.empty = ⟨((l.drop p).take d).toArray⟩ ∧ ((p : Int) + d ≤ n → ∃ f', CutZAt l n T C f' (k + 1) (p + d)) ∧ (n < (p : Int) + d → C = p) := by
  have hr := h.rest
  rw [List.drop_eq_getElem_cons hk] at hr
  have hf : ∃ f', f = f' + 1 := by
    cases f with
    | zero =>
      simp [charsG] at hr
      omega
    | succ f' => exact ⟨f', rfl⟩
  obtain ⟨f', rfl⟩ := hf
  have hne : l.drop p ≠ [] := by
    intro e
    rw [e, charsG_nil] at hr
    simp at hr
    omega
  obtain ⟨d, hd⟩ : ∃ d, d = (Lib.decodeL (l.drop p)).2 := ⟨_, rfl⟩
  rw [charsG_step hne hd] at hr
  injection hr with h1 h2
  have hw := Lib.decodeL_width (l.drop p)
  have hle := Lib.decodeL_le (l.drop p) hne
  rw [← hd, List.length_drop] at hle
  rw [← hd] at hw
  have hpl : p < l.length := by
    rcases Nat.lt_or_ge p l.length with h | h
    · exact h
    · exact absurd (List.drop_of_length_le h) hne
  refine ⟨d, hw, by omega, ?_, fun hn => ⟨f', ?_, by have := h.fuel; omega, fun h0 => ⟨by omega, ?_⟩, fun h0 => by omega⟩, fun hn => ?_⟩
  · simp [List.getD, List.getElem?_eq_getElem hk, h1]
  · rw [h2, List.drop_drop]
  · have h3 := (h.pos h0).2
    rw [cutN_fits hne hd (by omega), List.drop_drop] at h3
    rw [show n.toNat - (p + d) = n.toNat - p - d from by omega]
    omega
  · by_cases h0 : n < 0
    · have := h.neg h0
      omega
    · have h3 := (h.pos (by omega)).2
      rw [cutN_not hd (by omega)] at h3
      omega
theorem CutZAt.done {l : List UInt8} {n : Int} {T : List ByteArray} {C f k p : Nat} (h : CutZAt l n T C f k p) (hk : T.length ≤ k) : C = p := by
  have hr := h.rest
  rw [List.drop_of_length_le hk] at hr
  have he : l.drop p = [] := by
    by_cases e : l.drop p = []
    · exact e
    · have hpl : p < l.length := by
        rcases Nat.lt_or_ge p l.length with h | h
        · exact h
        · exact absurd (List.drop_of_length_le h) e
      obtain ⟨f', rfl⟩ : ∃ f', f = f' + 1 := ⟨f - 1, by have := h.fuel; omega⟩
      rw [charsG_step e rfl] at hr
      simp at hr
  by_cases h0 : n < 0
  · have := h.neg h0
    omega
  · have h3 := (h.pos (by omega)).2
    rw [he, cutN_nil] at h3
    omega

set_option maxRecDepth 100000 in
set_option maxHeartbeats 1600000 in
theorem cut_ref {w : World} (s : ByteArray) (n : Int) (hs : s.size ≤ 100000) :
    Calls Try.prog 10 #[.string s, .int .i64 n] w fun e w' => e = .returned (.string ⟨(s.data.toList.take (cutZ s.data.toList n)).toArray⟩) ∧ Below w.heap.size w w' := by
  obtain ⟨l, hl⟩ : ∃ l, l = s.data.toList := ⟨_, rfl⟩
  have hll : l.length = s.size := by rw [hl]; simp
  have hch := chars_ref (w := w) s hs
  rw [← hl] at hch ⊢
  obtain ⟨T, hT⟩ : ∃ T, T = charsG l.length l := ⟨_, rfl⟩
  have hTl : T.length ≤ l.length := by rw [hT]; exact charsG_le _ _
  obtain ⟨C, hC⟩ : ∃ C, C = cutZ l n := ⟨_, rfl⟩
  have h0 : CutZAt l n T C l.length 0 0 := ⟨by rw [hT]; simp, by omega, fun hn => ⟨by omega, by rw [hC]; unfold cutZ; rw [if_neg (by omega)]; simp⟩, fun hn => ⟨rfl, by rw [hC]; exact if_pos hn⟩⟩
  obtain ⟨res, hres⟩ : ∃ res : ByteArray, res = ⟨(l.take C).toArray⟩ := ⟨_, rfl⟩
  rw [← hC, ← hres]
  unfold CharsPost at hch
  rw [← hT] at hch
  have HL := Lib.hid (And.intro h0 hres)
  clear hl hC hT h0 hres
  go_enter Try.func10, Try.ntmps10
  go_wp2_with fail
  refine hch.mono ?_
  rintro e w1 ⟨ao, c, rfl, hown, hbw⟩
  have Hown := Lib.hid hown
  clear hown
  go_wp2_with fail
  go_loopw [6, 7] (fun o i wr => ∃ (k p f : Nat) (ob : ByteArray), k ≤ T.length ∧ o = .string ob ∧ i = .int .i64 k ∧ wr = w1 ∧ ob.size = p ∧ p ≤ l.length ∧ Hid (ob = ⟨(l.take p).toArray⟩) ∧ Hid (CutZAt l n T C f k p)) (fun _ i _ => T.length - (intOf i).toNat)
  case atStart => exact ⟨0, 0, l.length, ⟨#[]⟩, Nat.zero_le _, rfl, rfl, rfl, rfl, Nat.zero_le _, (show _ = _ by simp), HL.out.1⟩
  case round =>
    obtain ⟨k, p, f, ob, hk, rfl, rfl, rfl, hos, hpl, Hob, HZ⟩ := hrel
    by_cases hlt : k < T.length
    · have hlt' : (k : Int) < (T.length : Int) := by omega
      obtain ⟨d, hd1, hpd, ht, hyes, hno⟩ := HZ.out.step hlt
      obtain ⟨g, rfl, hc⟩ := own_cellS Hown.out hlt
      obtain ⟨t, htt⟩ : ∃ t, t = T.getD k ByteArray.empty := ⟨_, rfl⟩
      rw [← htt] at hc ht
      have hts : t.size = d := by
        rw [ht]
        show ((l.drop p).take d).toArray.size = d
        simp
        omega
      have Ht := Lib.hid (And.intro ht (And.intro hyes hno))
      clear ht hyes hno htt
      by_cases hle : (p : Int) + (d : Int) ≤ n
      · have g1 : decide ((p : Int) + (d : Int) ≤ n) = true := by simpa using hle
        obtain ⟨f', hZ'⟩ := Ht.out.2.1 hle
        have hob2 : ob ++ t = ⟨(l.take (p + d)).toArray⟩ := by
          rw [Hob.out, Ht.out.1, app_bytes, List.take_add]
        have hsz2 : (ob ++ t).size = p + d := by rw [ByteArray.size_append, hos, hts]
        have HZ' := Lib.hid (And.intro hZ' (And.intro hob2 hsz2))
        clear hZ' hob2 hsz2
        go_wp2
        go_roundw
        case rel => exact ⟨k + 1, p + d, f', ob ++ t, by omega, rfl, by go_num, by first | rfl | trivial, HZ'.out.2.2, by omega, HZ'.out.2.1, HZ'.out.1⟩
        case measure => simp [intOf]; omega
      · have g1 : decide ((p : Int) + (d : Int) ≤ n) = false := by simpa using hle
        have hCp := Ht.out.2.2 (by omega)
        have hob2 : ob = res := by rw [Hob.out, HL.out.2, hCp]
        subst hob2
        clear hCp
        go_wp2
        go_ret
        exact ⟨rfl, hbw⟩
    · obtain rfl : k = T.length := by omega
      have hlt' : ¬ ((T.length : Int) < (T.length : Int)) := by omega
      have hCp := HZ.out.done (Nat.le_refl _)
      have hob2 : ob = res := by rw [Hob.out, HL.out.2, hCp]
      subst hob2
      clear hCp
      go_wp2
      go_ret
      exact ⟨rfl, hbw⟩

set_option maxRecDepth 100000 in
set_option maxHeartbeats 800000 in
theorem cuts_walk {w : World} (s : ByteArray) (n : Int) : Calls Try.prog 4 #[.string s, .int .i64 n] w fun e w' => e = .returned (.bool true) ∧ Below w.heap.size w w' := by
  by_cases h : 3000 < s.size
  · have t1 : (3000 : Int) < (s.size : Int) := by omega
    go_enter Try.func4, Try.ntmps4
    go_wp2_with fail
    refine (awake1 _).mono ?_
    rintro e w1 ⟨rfl, hb1⟩
    go_wp2_with fail
    go_ret
    exact ⟨rfl, hb1⟩
  have t1 : ¬ (3000 : Int) < (s.size : Int) := by omega
  obtain ⟨t, ht⟩ : ∃ t : ByteArray, t = ⟨(s.data.toList.take (cutZ s.data.toList n)).toArray⟩ := ⟨_, rfl⟩
  have hss : (t.toList == t.toList) = true := by simp
  have Ht := Lib.hid ht
  clear ht
  go_enter Try.func4, Try.ntmps4
  go_wp2_with fail
  refine (awake1 _).mono ?_
  rintro e w1 ⟨rfl, hb1⟩
  go_wp2_with fail
  refine (cut_u s n (by omega)).mono ?_
  rintro e w2 ⟨rfl, hb2⟩
  rw [← Ht.out]
  have hb2' := hb1.trans (hb2.mono hb1.size)
  go_wp2_with fail
  refine (cut_ref s n (by omega)).mono ?_
  rintro e w3 ⟨rfl, hb3⟩
  rw [← Ht.out]
  have Hb3 := Lib.hid (hb2'.trans (hb3.mono hb2'.size))
  clear hb3 hb2 hb2' hb1
  go_wp2_with fail
  go_ret
  exact ⟨rfl, Hb3.out⟩
end Go.Proofs.Yteijpcjhecmamaa.Uf
