/-
  The device and the reference's, side by side: in plain Lean, and in memory.
-/
import Derived.Test.YtaakamjjglpibaaRefC
namespace Go.Proofs.Ytaakamjjglpibaa.Dv
open Go.RowKit

/-- The two tell the same. -/
structure Same (s : DS) (t : RS) : Prop where
  bs : s.bs = t.l ++ t.t
  last : s.last = t.l.length
  off : s.off = t.off
  left : s.off = false → s.left = t.n
  lo : -1 ≤ t.n

theorem Same.new : Same DS.new RS.new := ⟨rfl, rfl, rfl, fun _ => rfl, by simp [RS.new]⟩
theorem Same.len {s : DS} {t : RS} (h : Same s t) : s.bs.length = t.l.length + t.t.length := by rw [h.bs, List.length_append]
theorem Same.goNot {s : DS} {t : RS} (h : Same s t) (ho : s.off = false) (hz : ¬ t.n = 0) : s.go.left = t.go.n ∧ -1 ≤ t.go.n := by
  have hl := h.left ho
  have hlo := h.lo
  simp only [DS.go, RS.go]
  rw [hl]
  split <;> omega
theorem Same.goDead {s : DS} {t : RS} (h : Same s t) (ho : s.off = false) (hz : t.n = 0) : Same s.go t.go := by
  have hl := h.left ho
  refine ⟨h.bs, h.last, ?_, fun hc => ?_, ?_⟩
  · simp only [DS.go, RS.go]
    rw [hl, hz]
    rfl
  · simp only [DS.go] at hc
    rw [hl, hz] at hc
    simp at hc
  · simp only [RS.go]
    rw [hz]
    simp
theorem Same.append {s : DS} {t : RS} (h : Same s t) (xs : List Int) : s.appendE xs = t.appendE xs ∧ Same (s.append xs) (t.append xs) := by
  have hlen := h.len
  have hoff := h.off
  by_cases ho : s.off = true
  · have ho' : t.off = true := by rw [← hoff]; exact ho
    simp only [DS.appendE, RS.appendE, DS.append, RS.append, ho, ho', if_true]
    exact ⟨trivial, h⟩
  · have ho1 : s.off = false := by simpa using ho
    have ho' : ¬ t.off = true := by rw [← hoff]; exact ho
    have hl := h.left ho1
    simp only [DS.appendE, RS.appendE, DS.append, RS.append, if_neg ho, if_neg ho', hlen]
    by_cases hf : 60000 < t.l.length + t.t.length + xs.length
    · simp only [if_pos hf]
      exact ⟨trivial, h⟩
    · simp only [if_neg hf, hl]
      by_cases hz : t.n = 0
      · simp only [if_pos hz]
        exact ⟨trivial, h.goDead ho1 hz⟩
      · simp only [if_neg hz]
        have hg := h.goNot ho1 hz
        exact ⟨trivial, ⟨by rw [h.bs, List.append_assoc], h.last, rfl, fun _ => hg.1, hg.2⟩⟩
theorem Same.sync {s : DS} {t : RS} (h : Same s t) : s.syncE = t.syncE ∧ Same s.sync t.sync := by
  have hlen := h.len
  have hoff := h.off
  by_cases ho : s.off = true
  · have ho' : t.off = true := by rw [← hoff]; exact ho
    simp only [DS.syncE, RS.syncE, DS.sync, RS.sync, ho, ho', if_true]
    exact ⟨trivial, h⟩
  · have ho1 : s.off = false := by simpa using ho
    have ho' : ¬ t.off = true := by rw [← hoff]; exact ho
    have hl := h.left ho1
    simp only [DS.syncE, RS.syncE, DS.sync, RS.sync, if_neg ho, if_neg ho', hl]
    by_cases hz : t.n = 0
    · simp only [if_pos hz]
      exact ⟨trivial, h.goDead ho1 hz⟩
    · simp only [if_neg hz]
      have hg := h.goNot ho1 hz
      exact ⟨trivial, ⟨by rw [h.bs, List.append_nil], by rw [hlen, List.length_append], rfl, fun _ => hg.1, hg.2⟩⟩
theorem Same.trim {s : DS} {t : RS} (h : Same s t) (n : Int) : s.trimE n = t.trimE n ∧ Same (s.trim n) (t.trim n) := by
  have hlen := h.len
  have hoff := h.off
  by_cases ho : s.off = true
  · have ho' : t.off = true := by rw [← hoff]; exact ho
    simp only [DS.trimE, RS.trimE, DS.trim, RS.trim, ho, ho', if_true]
    exact ⟨trivial, h⟩
  · have ho1 : s.off = false := by simpa using ho
    have ho' : ¬ t.off = true := by rw [← hoff]; exact ho
    have hl := h.left ho1
    simp only [DS.trimE, RS.trimE, DS.trim, RS.trim, if_neg ho, if_neg ho', hl, hlen]
    by_cases hf : n < 0 ∨ ((t.l.length + t.t.length : Nat) : Int) < n
    · simp only [if_pos hf]
      exact ⟨trivial, h⟩
    · simp only [if_neg hf]
      by_cases hz : t.n = 0
      · simp only [if_pos hz]
        exact ⟨trivial, h.goDead ho1 hz⟩
      · simp only [if_neg hz]
        have hg := h.goNot ho1 hz
        refine ⟨trivial, ⟨by rw [h.bs, List.append_nil], ?_, rfl, fun _ => hg.1, hg.2⟩⟩
        show n.toNat = ((t.l ++ t.t).take n.toNat).length
        rw [List.length_take, List.length_append]
        omega
theorem Same.arm {s : DS} {t : RS} (h : Same s t) (n : Int) : Same (s.arm n) (t.arm n) := by
  have hoff := h.off
  by_cases ho : s.off = true
  · have ho' : t.off = true := by rw [← hoff]; exact ho
    simp only [DS.arm, RS.arm, ho, ho', if_true]
    exact h
  · have ho' : ¬ t.off = true := by rw [← hoff]; exact ho
    simp only [DS.arm, RS.arm, if_neg ho, if_neg ho']
    exact ⟨h.bs, h.last, h.off, fun _ => rfl, by show -1 ≤ max n (-1); omega⟩
theorem Same.restart {s : DS} {t : RS} (h : Same s t) (keep : Int) : Same (s.restart keep) (t.restart keep) := by
  have hlen := h.len
  have hlast := h.last
  unfold DS.restart RS.restart DS.kept
  refine ⟨?_, ?_, rfl, fun _ => rfl, by simp⟩
  · show s.bs.take _ = _
    rw [h.bs, List.append_nil, List.take_append, List.take_of_length_le (by omega)]
    congr 2
    rw [h.bs] at hlen
    rw [List.length_append]
    omega
  · show s.last + _ = _
    rw [List.length_append, List.length_take]
    omega

/-! ### In memory -/
theorem DevAt.mono {w : World} {base base' d : Nat} {v : Value} {s : DS} (h : DevAt w base d v s) (hb : base' ≤ base) : DevAt w base' d v s := ⟨h.blk, own_mono h.own hb, Nat.le_trans hb h.bd, h.last, h.len, h.left, h.most, h.byt⟩
theorem RefAt.mono {w : World} {base base' r : Nat} {vl vt : Value} {s : RS} (h : RefAt w base r vl vt s) (hb : base' ≤ base) : RefAt w base' r vl vt s := ⟨h.blk, own_mono h.ownL hb, own_mono h.ownT hb, h.apart, Nat.le_trans hb h.bd, h.len, h.lo, h.hi, h.byt⟩

/-- A block of another kind stands. -/
def Stays (w w' : World) : Prop := ∀ (o : Nat) (cs : Array Value), Blk w o 40 cs → Blk w' o 40 cs
/-- Both devices in memory, apart. -/
def Pair (w0 w : World) (d r : Nat) (s : DS) (t : RS) : Prop :=
  ∃ v vl vt, DevAt w w0.heap.size d v s ∧ RefAt w w0.heap.size r vl vt t ∧ (∀ k, v.ownBlock = some k → vl.ownBlock ≠ some k ∧ vt.ownBlock ≠ some k) ∧ Below w0.heap.size w0 w ∧ Same s t
theorem Pair.same {w0 w : World} {d r : Nat} {s : DS} {t : RS} (h : Pair w0 w d r s t) : Same s t := by
  obtain ⟨_, _, _, _, _, _, _, h⟩ := h
  exact h
theorem Pair.below {w0 w : World} {d r : Nat} {s : DS} {t : RS} (h : Pair w0 w d r s t) : Below w0.heap.size w0 w := by
  obtain ⟨_, _, _, _, _, _, h, _⟩ := h
  exact h
theorem Pair.alloc {w0 w : World} {d r : Nat} {s : DS} {t : RS} (h : Pair w0 w d r s t) (o : Obj) : Pair w0 (w.alloc o) d r s t := by
  obtain ⟨v, vl, vt, h1, h2, h3, h4, h5⟩ := h
  exact ⟨v, vl, vt, h1.alloc o, h2.alloc o, h3, h4.alloc h4.size o, h5⟩
theorem Pair.drew {w0 w : World} {d r : Nat} {s : DS} {t : RS} (h : Pair w0 w d r s t) : Pair w0 w.drew d r s t := by
  obtain ⟨v, vl, vt, h1, h2, h3, h4, h5⟩ := h
  exact ⟨v, vl, vt, h1.drew, h2.drew, h3, h4.drew, h5⟩
/-- A store into another block. -/
theorem Pair.far {w0 w : World} {d r o i : Nat} {s : DS} {t : RS} {cs : Array Value} (h : Pair w0 w d r s t) (ho : Blk w o 40 cs) (hb : w0.heap.size ≤ o) (u : Value) : Pair w0 (w.setCell ⟨o, i, none⟩ u) d r s t := by
  obtain ⟨v, vl, vt, h1, h2, h3, h4, h5⟩ := h
  have hO : Only (fun k => k = o) w (w.setCell ⟨o, i, none⟩ u) := (Only.refl (fun k => k = o) w).setCell (p := ⟨o, i, none⟩) (fun _ => rfl) _
  refine ⟨v, vl, vt, h1.only hO (fun e => ?_) (fun k hk e => ?_), h2.only hO (fun e => ?_) (fun k hk e => ?_) (fun k hk e => ?_), h3, h4.setCell (p := ⟨o, i, none⟩) hb _, h5⟩
  · exact h1.blk.ne_ ho (by decide) e
  · subst e; exact own_blk_ne h1.own ho (by decide) hk
  · exact h2.blk.ne_ ho (by decide) e
  · subst e; exact own_blk_ne h2.ownL ho (by decide) hk
  · subst e; exact own_blk_ne h2.ownT ho (by decide) hk
/-- What a call that makes memory alone leaves. -/
theorem Pair.belowAll {w0 w w' : World} {d r : Nat} {s : DS} {t : RS} (h : Pair w0 w d r s t) (hb : Below w.heap.size w w') : Pair w0 w' d r s t ∧ Stays w w' := by
  obtain ⟨v, vl, vt, h1, h2, h3, h4, h5⟩ := h
  have hO : Only (fun k => w.heap.size ≤ k) w w' := Only.ofBelow hb
  refine ⟨⟨v, vl, vt, h1.belowAll hb, h2.only hO (by have := h2.blk.lt; omega) (fun k hk => by have := (h2.ownL.lt k hk).2; omega) (fun k hk => by have := (h2.ownT.lt k hk).2; omega), h3, h4.trans (hb.mono h4.size), h5⟩, fun o cs ho => ho.below hb ho.lt⟩

/-- Between the device's call and the reference's: they need not tell the same. -/
def Mid (w0 w : World) (d r : Nat) (s : DS) (t : RS) : Prop :=
  ∃ v vl vt, DevAt w w0.heap.size d v s ∧ RefAt w w0.heap.size r vl vt t ∧ (∀ k, v.ownBlock = some k → vl.ownBlock ≠ some k ∧ vt.ownBlock ≠ some k) ∧ Below w0.heap.size w0 w

theorem mid_of_dev {w0 w w' : World} {d r : Nat} {v vl vt x : Value} {s s' : DS} {t : RS} {e : Ending} (h1 : DevAt w w0.heap.size d v s) (h2 : RefAt w w0.heap.size r vl vt t) (h3 : ∀ k, v.ownBlock = some k → vl.ownBlock ≠ some k ∧ vt.ownBlock ≠ some k) (h4 : Below w0.heap.size w0 w)
    (h : DevPost w w0.heap.size d v x s' e w') : e = .returned x ∧ Mid w0 w' d r s' t ∧ Stays w w' := by
  obtain ⟨he, v', hD, hO, hv⟩ := h
  have hnL := own_blk_ne h2.ownL h1.blk (by decide)
  have hnT := own_blk_ne h2.ownT h1.blk (by decide)
  have hnr := own_blk_ne h1.own h2.blk (by decide)
  have hdr : r ≠ d := h2.blk.ne_ h1.blk (by decide)
  refine ⟨he, ⟨v', vl, vt, hD, h2.only hO ?_ ?_ ?_, ?_, ?_⟩, fun o cs ho => ho.only hO ?_⟩
  · rintro (e | e)
    · exact hdr e
    · exact hnr e
  · rintro k hk (e | e)
    · exact hnL (by rw [hk, e])
    · exact (h3 k e).1 hk
  · rintro k hk (e | e)
    · exact hnT (by rw [hk, e])
    · exact (h3 k e).2 hk
  · intro k hk
    rcases hv with e | e
    · exact h3 k (by rw [← e]; exact hk)
    · have := e k hk
      exact ⟨fun hc => by have := (h2.ownL.lt k hc).2; omega, fun hc => by have := (h2.ownT.lt k hc).2; omega⟩
  · refine h4.trans (hO.belowOf h4.size ?_)
    rintro k (e | e)
    · rw [e]; exact h1.bd
    · exact (h1.own.lt k e).1
  · rintro (e | e)
    · exact ho.ne_ h1.blk (by decide) e
    · exact own_blk_ne h1.own ho (by decide) e

theorem pair_of_ref {w0 w w' : World} {d r : Nat} {v vl vt x : Value} {s : DS} {t t' : RS} {e : Ending} (h1 : DevAt w w0.heap.size d v s) (h2 : RefAt w w0.heap.size r vl vt t) (h3 : ∀ k, v.ownBlock = some k → vl.ownBlock ≠ some k ∧ vt.ownBlock ≠ some k) (h4 : Below w0.heap.size w0 w)
    (hs : Same s t') (h : RefPost w w0.heap.size r vl vt x t' e w') : e = .returned x ∧ Pair w0 w' d r s t' ∧ Stays w w' := by
  obtain ⟨he, vl', vt', hD, hO, hl, ht⟩ := h
  have hnd := own_blk_ne h2.ownT h1.blk (by decide)
  have hnv := own_blk_ne h1.own h2.blk (by decide)
  have hdr : d ≠ r := h1.blk.ne_ h2.blk (by decide)
  refine ⟨he, ⟨v, vl', vt', h1.only hO ?_ ?_, hD, ?_, ?_, hs⟩, fun o cs ho => ho.only hO ?_⟩
  · rintro (e | e)
    · exact hdr e
    · exact hnd e
  · rintro k hk (e | e)
    · exact hnv (by rw [hk, e])
    · exact (h3 k hk).2 e
  · intro k hk
    have hlt := (h1.own.lt k hk).2
    refine ⟨fun hc => ?_, fun hc => ?_⟩
    · rcases hl with e | e
      · exact (h3 k hk).1 (by rw [← e]; exact hc)
      · have := e k hc; omega
    · rcases ht with e | e
      · exact (h3 k hk).2 (by rw [← e]; exact hc)
      · have := e k hc; omega
  · refine h4.trans (hO.belowOf h4.size ?_)
    rintro k (e | e)
    · rw [e]; exact h2.bd
    · exact (h2.ownT.lt k e).1
  · rintro (e | e)
    · exact ho.ne_ h2.blk (by decide) e
    · exact own_blk_ne h2.ownT ho (by decide) e
end Go.Proofs.Ytaakamjjglpibaa.Dv
