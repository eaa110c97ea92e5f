/-
  What the laws on the device share: slices of bytes that came in, states of a device that is not armed.
-/
import Derived.Test.YtaakamjjglpibaaDevD
namespace Go.Proofs.Ytaakamjjglpibaa.Dv
open Go.RowKit

def IsRow (k : IntKind) (w : World) (a : Option Addr) (len cap : Nat) (zs : List Int) : Prop :=
  (a = none ∧ len = 0 ∧ cap = 0 ∧ zs = []) ∨
  ∃ x, a = some x ∧ len ≤ cap ∧ cap ≤ maxLen ∧ zs.length = cap ∧ (∀ i, i < zs.length → w.cell? (x.add i) = some (.int k (zs.getD i 0))) ∧ ∀ n ∈ zs, (Lit.int k n).wf = true

/-- A slice of bytes that came in, as its list. -/
structure Came (w : World) (A : Option Addr) (cap : Nat) (xs : List Int) : Prop where
  reads : Reads w w.heap.size 1 A xs.length (cellsOf xs)
  byt : Bts xs
  fits : xs.length ≤ cap
  most : cap ≤ maxLen

theorem IsRow.came {w : World} {a : Option Addr} {len cap : Nat} {zs : List Int} (h : IsRow .u8 w a len cap zs) : ∃ xs, len = xs.length ∧ Came w a cap xs := by
  rcases h with ⟨rfl, rfl, rfl, rfl⟩ | ⟨x, rfl, hl, hm, hz, hc, hw⟩
  · exact ⟨[], rfl, Reads.none_, by simp [Bts], Nat.le_refl _, by decide⟩
  · have hlen : (zs.take len).length = len := by rw [List.length_take]; omega
    refine ⟨zs.take len, hlen.symm, ⟨by simp [cellsOf], fun hn => ?_⟩, fun y hy => ?_, by rw [hlen]; exact hl, hm⟩
    · rw [hlen] at hn
      have h0 := World.block_lt_of_cell? w _ (hc 0 (by omega))
      rw [block_of_add] at h0
      refine ⟨x, rfl, h0, fun j u hu => ?_⟩
      have hj : j < len := by
        have := (List.getElem?_eq_some_iff.1 hu).1
        simp [cellsOf] at this
        omega
      rw [hc j (by omega)]
      rw [← hu]
      simp [cellsOf, hj, List.getD, List.getElem?_eq_getElem (show j < zs.length by omega)]
    · have := bounds_u8 (hw y (List.mem_of_mem_take hy))
      omega

theorem Came.at_ {w w' : World} {A : Option Addr} {cap : Nat} {xs : List Int} (h : Came w A cap xs) (hb : Below w.heap.size w w') : Reads w' w.heap.size 1 A xs.length (cellsOf xs) := h.reads.below hb

/-- A device that is not armed. -/
theorem free_append (bs xs : List Int) (last : Nat) (h : bs.length + xs.length ≤ 60000) : DS.append ⟨bs, last, -1, false⟩ xs = ⟨bs ++ xs, last, -1, false⟩ ∧ DS.appendE ⟨bs, last, -1, false⟩ xs = 0 := by
  refine ⟨?_, ?_⟩
  · simp only [DS.append]
    rw [if_neg (by simp), if_neg (by omega), if_neg (by simp)]
    rfl
  · simp only [DS.appendE]
    rw [if_neg (by simp), if_neg (by omega), if_neg (by simp)]
theorem free_sync (bs : List Int) (last : Nat) : DS.sync ⟨bs, last, -1, false⟩ = ⟨bs, bs.length, -1, false⟩ ∧ DS.syncE ⟨bs, last, -1, false⟩ = 0 := by
  refine ⟨?_, ?_⟩
  · simp only [DS.sync]
    rw [if_neg (by simp), if_neg (by simp)]
    rfl
  · simp only [DS.syncE]
    rw [if_neg (by simp), if_neg (by simp)]
theorem free_trim (bs : List Int) (last n : Nat) (h : n ≤ bs.length) : DS.trim ⟨bs, last, -1, false⟩ n = ⟨bs.take n, n, -1, false⟩ ∧ DS.trimE ⟨bs, last, -1, false⟩ n = 0 := by
  refine ⟨?_, ?_⟩
  · simp only [DS.trim]
    rw [if_neg (by simp), if_neg (by omega), if_neg (by simp), Int.toNat_natCast]
    rfl
  · simp only [DS.trimE]
    rw [if_neg (by simp), if_neg (by omega), if_neg (by simp)]

theorem appendF {w : World} {base d B c last : Nat} {v : Value} {bs xs : List Int} {A : Option Addr} (hD : DevAt w base d v ⟨bs, last, -1, false⟩) (hr : Reads w B 1 A xs.length (cellsOf xs)) (hx : Bts xs) (h : bs.length + xs.length ≤ 60000) :
    Calls Try.prog 16 #[.pointer (some ⟨d, 0, none⟩), .slice A xs.length c] w (Solo w base d (.int .i64 0) ⟨bs ++ xs, last, -1, false⟩) := by
  have h1 := append_solo (c := c) hD hr hx (by omega)
  rw [(free_append bs xs last h).1, (free_append bs xs last h).2] at h1
  exact h1
/-- No room: nothing is changed. -/
theorem appendFull {w : World} {base d B c last : Nat} {v : Value} {bs xs : List Int} {A : Option Addr} (hD : DevAt w base d v ⟨bs, last, -1, false⟩) (hr : Reads w B 1 A xs.length (cellsOf xs)) (hx : Bts xs) (hm : xs.length ≤ 140737488351232) (h : 60000 < bs.length + xs.length) :
    Calls Try.prog 16 #[.pointer (some ⟨d, 0, none⟩), .slice A xs.length c] w (Solo w base d (.int .i64 10) ⟨bs, last, -1, false⟩) := by
  have h1 := append_solo (c := c) hD hr hx hm
  have e1 : DS.append ⟨bs, last, -1, false⟩ xs = ⟨bs, last, -1, false⟩ := by
    simp only [DS.append]
    rw [if_neg (by simp), if_pos h]
  have e2 : DS.appendE ⟨bs, last, -1, false⟩ xs = 10 := by
    simp only [DS.appendE]
    rw [if_neg (by simp), if_pos h]
  rw [e1, e2] at h1
  exact h1
theorem syncF {w : World} {base d last : Nat} {v : Value} {bs : List Int} (hD : DevAt w base d v ⟨bs, last, -1, false⟩) :
    Calls Try.prog 18 #[.pointer (some ⟨d, 0, none⟩)] w (Solo w base d (.int .i64 0) ⟨bs, bs.length, -1, false⟩) := by
  have h1 := sync_solo hD
  rw [(free_sync bs last).1, (free_sync bs last).2] at h1
  exact h1
theorem trimF {w : World} {base d last : Nat} {v : Value} {bs : List Int} (n : Nat) (hD : DevAt w base d v ⟨bs, last, -1, false⟩) (h : n ≤ bs.length) :
    Calls Try.prog 22 #[.pointer (some ⟨d, 0, none⟩), .int .i64 n] w (Solo w base d (.int .i64 0) ⟨bs.take n, n, -1, false⟩) := by
  have h1 := trim_solo n hD
  rw [(free_trim bs last n h).1, (free_trim bs last n h).2] at h1
  exact h1
theorem restartF {w : World} {base d last m : Nat} {v : Value} {bs : List Int} {left : Int} {off : Bool} (keep : Int) (hk : (Lit.int .i64 keep).wf = true) (hD : DevAt w base d v ⟨bs, last, left, off⟩) (h : m = last + min (max keep 0).toNat (bs.length - last)) :
    Calls Try.prog 19 #[.pointer (some ⟨d, 0, none⟩), .int .i64 keep] w (Solo w base d (.tuple #[]) ⟨bs.take m, m, -1, false⟩) := by
  have h1 := restart_solo keep hk hD
  have e : DS.restart ⟨bs, last, left, off⟩ keep = ⟨bs.take m, m, -1, false⟩ := by subst h; rfl
  rw [e] at h1
  exact h1

theorem beq_self_str (a b : List Int) (h : a = b) : ((strOfNums a).toList == (strOfNums b).toList) = true := by rw [h]; simp

theorem cell_below {w w' : World} (h : Below w.heap.size w w') : (∀ b o, b < w.heap.size → w'.cell? ⟨b, o, none⟩ = w.cell? ⟨b, o, none⟩) := fun b o hb => h.cell (p := ⟨b, o, none⟩) hb
end Go.Proofs.Ytaakamjjglpibaa.Dv
