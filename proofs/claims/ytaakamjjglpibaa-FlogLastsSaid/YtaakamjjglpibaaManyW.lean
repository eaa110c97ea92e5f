/-
  FlogMany's walk: so many texts, appended one by one, are told in their order; each takes three bytes more than it has.
-/
import Derived.Test.YtaakamjjglpibaaFlogE
namespace Go.Proofs.Ytaakamjjglpibaa.Dv
open Go.RowKit

/-- A slice of strings that came in, as its list. -/
structure CameS (w : World) (A : Option Addr) (cap : Nat) (l : List ByteArray) : Prop where
  reads : Reads w w.heap.size 1 A l.length (strs l)
  fits : l.length ≤ cap
  most : cap ≤ maxLen

def IsRowS (w : World) (a : Option Addr) (len cap : Nat) (zs : List ByteArray) : Prop :=
  (a = none ∧ len = 0 ∧ cap = 0 ∧ zs = []) ∨
  ∃ x, a = some x ∧ len ≤ cap ∧ cap ≤ maxLen ∧ zs.length = cap ∧ (∀ i, i < zs.length → w.cell? (x.add i) = some (.string (zs.getD i ByteArray.empty))) ∧ ∀ s ∈ zs, s.size ≤ maxLen

theorem IsRowS.came {w : World} {a : Option Addr} {len cap : Nat} {zs : List ByteArray} (h : IsRowS w a len cap zs) : ∃ l, len = l.length ∧ CameS w a cap l := by
  rcases h with ⟨rfl, rfl, rfl, rfl⟩ | ⟨x, rfl, hl, hm, hz, hc, _⟩
  · exact ⟨[], rfl, Reads.none_, Nat.le_refl _, by decide⟩
  · have hlen : (zs.take len).length = len := by rw [List.length_take]; omega
    refine ⟨zs.take len, hlen.symm, ⟨by simp [strs], fun hn => ?_⟩, by rw [hlen]; exact hl, hm⟩
    rw [hlen] at hn
    have h0 := World.block_lt_of_cell? w _ (hc 0 (by omega))
    rw [block_of_add] at h0
    refine ⟨x, rfl, h0, fun j u hu => ?_⟩
    have hj : j < len := by
      have := (List.getElem?_eq_some_iff.1 hu).1
      simp [strs] at this
      omega
    rw [hc j (by omega)]
    rw [← hu]
    simp [strs, hj, List.getD, List.getElem?_eq_getElem (show j < zs.length by omega)]

theorem CameS.at_ {w w' : World} {A : Option Addr} {cap : Nat} {l : List ByteArray} (h : CameS w A cap l) (hb : Below w.heap.size w w') : Reads w' w.heap.size 1 A l.length (strs l) := h.reads.below hb

theorem reads_cell {w : World} {B n k b off : Nat} {l : List ByteArray} (h : Reads w B 1 (some ⟨b, off, none⟩) n (strs l)) (hk : k < n) : w.cell? ⟨b, off + k, none⟩ = some (.string (l.getD k ByteArray.empty)) := by
  obtain ⟨b', off', hA, hc⟩ := reads_at h hk
  injection hA with hA
  injection hA with e1 e2
  subst e1 e2
  exact hc

/-- What the loop carries: so many texts are there. -/
structure ManyAt (w : World) (base d L : Nat) (l : List ByteArray) (k : Nat) (us : List Int) (W : World) : Prop where
  dev : ∃ v, DevAt W base d v ⟨us, us.length, -1, false⟩
  log : Blk W L 65 #[.pointer (some ⟨d, 0, none⟩)]
  below : Below w.heap.size w W
  all : us = encs (l.take k)
  small : ∀ s ∈ l.take k, s.size ≤ 1000
  len : us.length ≤ k * 1003

theorem ManyAt.next {w W W4 : World} {base d L k : Nat} {l : List ByteArray} {us us' : List Int} {v v4 : Value} {s : ByteArray} {n : Int} {last : Nat} (h : ManyAt w base d L l k us W) (hb : w.heap.size ≤ base) (hD : DevAt W base d v ⟨us, last, n, false⟩) (hD4 : DevAt W4 base d v4 ⟨us', us'.length, -1, false⟩)
    (hO : Only (fun i => i = d ∨ v.ownBlock = some i) W W4) (hk : k < l.length) (hs : s = l.getD k ByteArray.empty) (h1 : s.size ≤ 1000) (hu : us' = us ++ enc s) : ManyAt w base d L l (k + 1) us' W4 := by
  have ht : l.take (k + 1) = l.take k ++ [s] := by
    rw [List.take_succ_eq_append_getElem hk, hs]
    simp [List.getD, List.getElem?_eq_getElem hk]
  refine ⟨⟨v4, hD4⟩, hO.blk hD h.log (by decide) (by decide), h.below.trans ((hO.devBelow hD).mono hb), ?_, ?_, ?_⟩
  · rw [ht, encs_append, ← h.all, hu]
  · intro x hx
    rw [ht] at hx
    rcases List.mem_append.1 hx with hx | hx
    · exact h.small x hx
    · rw [List.mem_singleton.1 hx]
      exact h1
  · rw [hu, List.length_append, enc_len]
    have := h.len
    omega

set_option maxRecDepth 100000 in
set_option maxHeartbeats 1600000 in
theorem many_walk {w : World} {A : Option Addr} {cap : Nat} {l : List ByteArray} (hA : CameS w A cap l) : Calls Try.prog 12 #[.slice A l.length cap] w fun e w' => e = .returned (.bool true) ∧ Below w.heap.size w w' := by
  have hA1 := hA.fits
  have hA2 := hA.most
  unfold maxLen at hA2
  by_cases h40 : 40 < l.length
  · have h40' : (40 : Int) < (l.length : Int) := by omega
    go_enter Try.func12, Try.ntmps12
    go_wp2_with fail
    refine (awake13 _).mono ?_
    rintro e w1 ⟨rfl, hb1⟩
    go_wp2_with fail
    refine (new_dev _).mono ?_
    rintro e w2 ⟨rfl, hD2, hb2⟩
    go_wp2_with fail
    go_ret
    exact ⟨rfl, hb1.trans (hb2.mono hb1.size)⟩
  have h40' : decide ((40 : Int) < (l.length : Int)) = false := by simp; omega
  go_enter Try.func12, Try.ntmps12
  go_wp2_with fail
  refine (awake13 _).mono ?_
  rintro e w1 ⟨rfl, hb1⟩
  go_wp2_with fail
  refine (new_dev _).mono ?_
  rintro e w2 ⟨rfl, hD2, hb2⟩
  have hb2' := hb1.trans (hb2.mono hb1.size)
  go_wp2_with fail
  refine (openF (s := ⟨[], 0, -1, false⟩) (l := []) hD2 texts_nil.1 (by unfold openS; rw [texts_nil.2]; rfl)).mono ?_
  rintro e w3 ⟨L, ao, c, v3, rfl, hD3, hL3, hs3, hO3, hv3⟩
  have hb3' := hb2'.trans ((hO3.devBelow hD2).mono hb1.size)
  have hM0 : ManyAt w w1.heap.size w1.heap.size L l 0 [] w3 := ⟨⟨v3, hD3⟩, hL3, hb3', rfl, by simp, by simp⟩
  have HM0 := Lib.hid hM0
  clear hs3 hO3 hv3 hM0 hb3' hD3 hL3
  have hA0 := hA.reads
  go_wp2_with fail
  go_loopw [8, 9] (fun n i wr => ∃ (k : Nat) (us : List Int), k ≤ l.length ∧ n = .int .i64 us.length ∧ i = .int .i64 k ∧ Hid (ManyAt w w1.heap.size w1.heap.size L l k us wr)) (fun _ i _ => l.length - (intOf i).toNat)
  case atStart => exact ⟨0, [], Nat.zero_le _, rfl, rfl, HM0⟩
  case round =>
    obtain ⟨k, us, hk, rfl, rfl, HM⟩ := hrel
    by_cases hlt : k < l.length
    · have hlt' : (k : Int) < (l.length : Int) := by omega
      obtain ⟨s, hs⟩ : ∃ s, s = l.getD k ByteArray.empty := ⟨_, rfl⟩
      obtain ⟨b, off, hAe, hc⟩ := reads_at (hA.at_ HM.out.below) hlt
      subst hAe
      rw [← hs] at hc
      have Hs := Lib.hid hs
      have Hc := Lib.hid hc
      have hul := HM.out.len
      have hkk : us.length ≤ 40 * 1003 := by have := Nat.mul_le_mul_right 1003 (show k ≤ 40 by omega); omega
      clear hs
      by_cases h1000 : 1000 < s.size
      · have h1000' : (1000 : Int) < (s.size : Int) := by omega
        go_wp2_with fail
        go_ret
        exact ⟨rfl, HM.out.below⟩
      · have h1000' : (s.size : Int) ≤ 1000 := by omega
        obtain ⟨v, hD⟩ := HM.out.dev
        obtain ⟨us', hus⟩ : ∃ us', us' = us ++ enc s := ⟨_, rfl⟩
        have hul' : us'.length = us.length + 3 + s.size := by rw [hus, List.length_append, enc_len]; omega
        have Hus := Lib.hid hus
        have Hul := Lib.hid hul'
        clear hus hul'
        go_wp2_with fail
        refine (logF (s := ⟨us', us'.length, -1, false⟩) s hD HM.out.log (by omega) (by omega) (by rw [Hus.out])).mono ?_
        rintro e w4 ⟨rfl, v4, hD4, hO4, hv4⟩
        have hM4 := HM.out.next hb1.size hD hD4 hO4 hlt Hs.out (by omega) Hus.out
        have HM4 := Lib.hid hM4
        have hc4 := reads_cell (hA.at_ hM4.below) hlt
        rw [← Hs.out] at hc4
        have hL4 := hM4.log
        clear hM4 hO4 hv4 hD
        go_wp2_with fail
        refine (size_log hD4 hL4).mono ?_
        rintro e w5 ⟨rfl, hb5⟩
        simp only []
        rw [Hul.out, show ((us.length + 3 + s.size : Nat) : Int) = (us.length : Int) + 3 + (s.size : Int) from by omega]
        have HM5 := Lib.hid (show ManyAt w w1.heap.size w1.heap.size L l (k + 1) us' w5 from ⟨⟨v4, hD4.belowAll hb5⟩, hL4.below hb5 hL4.lt, HM4.out.below.trans (hb5.mono HM4.out.below.size), HM4.out.all, HM4.out.small, HM4.out.len⟩)
        clear hb5 hD4 hL4
        go_wp2_with fail
        go_roundw
        case rel => exact ⟨k + 1, us', by omega, by rw [Hul.out]; go_num, by go_num, HM5⟩
        case measure => simp [intOf]; omega
    · obtain rfl : k = l.length := by omega
      have hlt' : ¬ ((l.length : Int) < (l.length : Int)) := by omega
      obtain ⟨v, hD⟩ := HM.out.dev
      have htx : texts us = l ∧ ends us = us.length := by
        have h := texts_encs (l.take l.length) [] (fun s hs => by have := HM.out.small s hs; omega)
        rw [List.append_nil, ← HM.out.all, texts_nil.1, texts_nil.2, List.append_nil] at h
        rw [List.take_length] at h
        exact ⟨h.1, h.2⟩
      have Htx := Lib.hid htx
      clear htx
      go_wp2_with fail
      refine (openF (s := ⟨us, us.length, -1, false⟩) (l := l) hD Htx.out.1 (by unfold openS; rw [Htx.out.2]; simp)).mono ?_
      rintro e w4 ⟨L4, ao4, c4, v4, rfl, hD4, hL4, hs4, hO4, hv4⟩
      have hb4 := HM.out.below.trans ((hO4.devBelow hD).mono hb1.size)
      have hA4 := hA.at_ hb4
      clear hD4 hL4 hO4 hv4
      go_wp2_with fail
      refine (same_ref (Reads.of_own hs4) hA4 (by omega) (by omega)).mono ?_
      rintro e w5 ⟨rfl, q, rfl⟩
      rw [sameB_self l]
      have Hb4 := Lib.hid hb4
      clear hs4 hb4 hA4
      go_wp2_with fail
      go_ret
      exact ⟨rfl, (Below.trans Hb4.out ⟨rfl, rfl, rfl, Nat.le_refl _, fun _ _ => rfl⟩)⟩
end Go.Proofs.Ytaakamjjglpibaa.Dv
