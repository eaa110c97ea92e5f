/-
  The reference's comparison of two lists of strings (versoref13.Same).
-/
import Derived.Test.YtaakamjjglpibaaFlogC
namespace Go.Proofs.Ytaakamjjglpibaa.Dv
open Go.RowKit

def SameP (la lb : List ByteArray) : Prop := la.length = lb.length ∧ ∀ j, j < la.length → (la.getD j ByteArray.empty).toList = (lb.getD j ByteArray.empty).toList
noncomputable def sameB (la lb : List ByteArray) : Bool := @decide (SameP la lb) (Classical.propDecidable _)
theorem sameB_true {la lb : List ByteArray} (h : SameP la lb) : sameB la lb = true := by
  unfold sameB
  exact @decide_eq_true _ (Classical.propDecidable _) h
theorem sameB_false {la lb : List ByteArray} (h : ¬ SameP la lb) : sameB la lb = false := by
  unfold sameB
  exact @decide_eq_false _ (Classical.propDecidable _) h
theorem sameB_self (la : List ByteArray) : sameB la la = true := sameB_true ⟨rfl, fun _ _ => rfl⟩
theorem sameB_eq {la lb : List ByteArray} (h : la = lb) : sameB la lb = true := by rw [h]; exact sameB_self lb

theorem reads_at {w : World} {B n k : Nat} {A : Option Addr} {l : List ByteArray} (h : Reads w B 1 A n (strs l)) (hk : k < n) : ∃ b off, A = some ⟨b, off, none⟩ ∧ w.cell? ⟨b, off + k, none⟩ = some (.string (l.getD k ByteArray.empty)) := by
  obtain ⟨ad, hA, _, hc⟩ := h.2 (by omega)
  have hl : l.length = n := by have := h.1; simp [strs] at this; exact this
  have h0 := hc 0 (.string (l[0]'(by omega))) (by simp [strs, List.getElem?_eq_getElem (show 0 < l.length by omega)])
  have hsp := World.cell?_spot h0
  have ha : ad.add 0 = ad := by simp [Addr.add]
  rw [ha] at hsp
  obtain ⟨b, off, sp⟩ := ad
  simp only at hsp
  subst hsp
  refine ⟨b, off, hA, ?_⟩
  have h1 := hc k (.string (l[k]'(by omega))) (by simp [strs, List.getElem?_eq_getElem (show k < l.length by omega)])
  have ha : (⟨b, off, none⟩ : Addr).add k = ⟨b, off + k, none⟩ := by unfold Addr.add; split <;> simp_all
  rw [ha] at h1
  rw [h1]
  simp [List.getD, List.getElem?_eq_getElem (show k < l.length by omega)]

/-- What holds of a list of strings at each place, as the walk's loop asks it. -/
theorem cells_all {w : World} {B n : Nat} {A : Option Addr} {l : List ByteArray} (h : Reads w B 1 A n (strs l)) (h0 : 0 < n) : ∃ b off, A = some ⟨b, off, none⟩ ∧ ∀ k, k < n → w.cell? ⟨b, off + k, none⟩ = some (.string (l.getD k ByteArray.empty)) := by
  obtain ⟨b, off, hA, _⟩ := reads_at h h0
  refine ⟨b, off, hA, fun k hk => ?_⟩
  obtain ⟨b', off', hA', hc⟩ := reads_at h hk
  rw [hA] at hA'
  injection hA' with hA'
  injection hA' with e1 e2
  subst e1 e2
  exact hc

theorem same_next {la lb : List ByteArray} {k : Nat} {s t : ByteArray} (h : ∀ j, j < k → (la.getD j ByteArray.empty).toList = (lb.getD j ByteArray.empty).toList) (hs : s = la.getD k ByteArray.empty) (ht : t = lb.getD k ByteArray.empty) (he : s.toList = t.toList) :
    Hid (∀ j, j < k + 1 → (la.getD j ByteArray.empty).toList = (lb.getD j ByteArray.empty).toList) := by
  show ∀ j, j < k + 1 → _
  intro j hj
  by_cases hjk : j < k
  · exact h j hjk
  · obtain rfl : j = k := by omega
    rw [← hs, ← ht]
    exact he

set_option maxRecDepth 100000 in
set_option maxHeartbeats 800000 in
theorem same_ref {w : World} {BA BB n m ca cb : Nat} {A B : Option Addr} {la lb : List ByteArray} (hA : Reads w BA 1 A n (strs la)) (hB : Reads w BB 1 B m (strs lb)) (hn : n ≤ 1000000) (hm : m ≤ 1000000) :
    Calls Try.prog 33 #[.slice A n ca, .slice B m cb] w fun e w' => e = .returned (.bool (sameB la lb)) ∧ ∃ q, w' = w.drewN q := by
  have hla : la.length = n := by have := hA.1; simp [strs] at this; exact this
  have hlb : lb.length = m := by have := hB.1; simp [strs] at this; exact this
  by_cases hnm : n = m
  · subst hnm
    by_cases h0 : n = 0
    · subst h0
      have hs : sameB la lb = true := sameB_true ⟨by omega, fun j hj => by omega⟩
      rw [hs]
      have Hla := Lib.hid hla
      have Hlb := Lib.hid hlb
      clear hla hlb hs
      go_enter Try.func33, Try.ntmps33
      go_wp2
      refine wp_loop_rounds 1 ?_
      rw [rounds_succ]
      go_wp2
      go_ret
      exact ⟨rfl, 0, rfl⟩
    · obtain ⟨b, off, rfl, hca⟩ := cells_all hA (by omega)
      obtain ⟨b', off', rfl, hcb⟩ := cells_all hB (by omega)
      have Hla := Lib.hid hla
      have Hlb := Lib.hid hlb
      have Hca := Lib.hid hca
      have Hcb := Lib.hid hcb
      clear hla hlb hca hcb
      have q0 : ((n : Int) != (n : Int)) = false := by simp
      go_enter Try.func33, Try.ntmps33
      go_wp2
      go_loopw [5] (fun i wr => ∃ k q : Nat, k ≤ n ∧ i = .int .i64 k ∧ wr = w.drewN q ∧ Hid (∀ j, j < k → (la.getD j ByteArray.empty).toList = (lb.getD j ByteArray.empty).toList)) (fun i _ => n - (intOf i).toNat)
      case atStart => exact ⟨0, 0, Nat.zero_le _, rfl, rfl, (show ∀ j, j < 0 → _ from fun j hj => by omega)⟩
      case round =>
        obtain ⟨k, q, hk, rfl, rfl, HE⟩ := hrel
        by_cases hlt : k < n
        · have hlt' : (k : Int) < (n : Int) := by omega
          obtain ⟨s, hs⟩ : ∃ s, s = la.getD k ByteArray.empty := ⟨_, rfl⟩
          obtain ⟨t, ht⟩ : ∃ t, t = lb.getD k ByteArray.empty := ⟨_, rfl⟩
          have c1 : w.cell? ⟨b, off + k, none⟩ = some (.string s) := by rw [hs]; exact Hca.out k hlt
          have c2 : w.cell? ⟨b', off' + k, none⟩ = some (.string t) := by rw [ht]; exact Hcb.out k hlt
          have Hs := Lib.hid (And.intro hs ht)
          clear hs ht
          by_cases he : s.toList = t.toList
          · have he' : (!(s.toList == t.toList)) = false := by simp [he]
            have He := Lib.hid he
            clear he
            go_wp2
            go_region
            go_wp2
            go_roundw
            case rel => exact ⟨k + 1, q + 1, by omega, by go_num, rfl, same_next HE.out Hs.out.1 Hs.out.2 He.out⟩
            case measure => simp [intOf]; omega
          · have he' : (!(s.toList == t.toList)) = true := by simp [he]
            have He := Lib.hid he
            clear he
            go_wp2
            go_region
            go_wp2
            go_ret
            refine ⟨?_, q + 1, rfl⟩
            rw [sameB_false (fun h => He.out (by rw [Hs.out.1, Hs.out.2]; exact h.2 k (by rw [Hla.out]; exact hlt)))]
            rfl
        · obtain rfl : k = n := by omega
          have hlt' : ¬ (k : Int) < (k : Int) := by omega
          go_wp2
          go_ret
          refine ⟨?_, q, rfl⟩
          rw [sameB_true ⟨by rw [Hla.out, Hlb.out], fun j hj => HE.out j (by rw [Hla.out] at hj; exact hj)⟩]
          rfl
  · have hs : sameB la lb = false := sameB_false fun h => hnm (by rw [← hla, ← hlb]; exact h.1)
    rw [hs]
    have q0 : ((n : Int) != (m : Int)) = true := by simp; omega
    have Hla := Lib.hid hla
    have Hlb := Lib.hid hlb
    clear hla hlb hs
    go_enter Try.func33, Try.ntmps33
    go_wp2
    go_ret
    exact ⟨rfl, 0, rfl⟩
end Go.Proofs.Ytaakamjjglpibaa.Dv
