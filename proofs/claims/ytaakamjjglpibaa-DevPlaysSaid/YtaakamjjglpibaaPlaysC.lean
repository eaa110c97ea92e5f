/-
  The calls on the two devices, side by side.
-/
import Derived.Test.YtaakamjjglpibaaPlaysP
namespace Go.Proofs.Ytaakamjjglpibaa.Dv
open Go.RowKit

theorem Pair.mid {w0 w : World} {d r : Nat} {s : DS} {t : RS} (h : Pair w0 w d r s t) : Mid w0 w d r s t := by
  obtain ⟨v, vl, vt, h1, h2, h3, h4, _⟩ := h
  exact ⟨v, vl, vt, h1, h2, h3, h4⟩
theorem Mid.below {w0 w : World} {d r : Nat} {s : DS} {t : RS} (h : Mid w0 w d r s t) : Below w0.heap.size w0 w := by
  obtain ⟨_, _, _, _, _, _, h⟩ := h
  exact h
/-- What the device's call leaves. -/
def MidR (w0 w : World) (d r : Nat) (x : Value) (s : DS) (t : RS) (e : Ending) (w' : World) : Prop := e = .returned x ∧ Mid w0 w' d r s t ∧ Stays w w'
/-- What the reference's call leaves. -/
def PairR (w0 w : World) (d r : Nat) (x : Value) (s : DS) (t : RS) (e : Ending) (w' : World) : Prop := e = .returned x ∧ Pair w0 w' d r s t ∧ Stays w w'

theorem pd_append {w0 w : World} {d r c : Nat} {s : DS} {t : RS} {A : Option Addr} {xs : List Int} (hP : Pair w0 w d r s t) (hx : Came w0 A c xs) (hl : xs.length ≤ 40000) :
    Calls Try.prog 16 #[.pointer (some ⟨d, 0, none⟩), .slice A xs.length c] w (MidR w0 w d r (.int .i64 (t.appendE xs)) (s.append xs) t) := by
  have hb := hP.below
  have hs := hP.same
  obtain ⟨v, vl, vt, h1, h2, h3, h4, _⟩ := hP
  rw [← (hs.append xs).1]
  exact (append_dev h1 (hx.at_ hb) hx.byt hb.size (by omega)).mono fun _ _ h => mid_of_dev h1 h2 h3 h4 h
theorem pr_append {w0 w : World} {d r c : Nat} {s : DS} {t : RS} {A : Option Addr} {xs : List Int} (hM : Mid w0 w d r (s.append xs) t) (hs : Same s t) (hx : Came w0 A c xs) (hl : xs.length ≤ 40000) :
    Calls Try.prog 24 #[.pointer (some ⟨r, 0, none⟩), .slice A xs.length c] w (PairR w0 w d r (.int .i64 (t.appendE xs)) (s.append xs) (t.append xs)) := by
  have hb := hM.below
  obtain ⟨v, vl, vt, h1, h2, h3, h4⟩ := hM
  exact (append_refdev h2 (hx.at_ hb) (Nat.le_refl _) hx.byt hb.size (by omega)).mono fun _ _ h => pair_of_ref h1 h2 h3 h4 (hs.append xs).2 h
theorem pd_sync {w0 w : World} {d r : Nat} {s : DS} {t : RS} (hP : Pair w0 w d r s t) :
    Calls Try.prog 18 #[.pointer (some ⟨d, 0, none⟩)] w (MidR w0 w d r (.int .i64 t.syncE) s.sync t) := by
  have hs := hP.same
  obtain ⟨v, vl, vt, h1, h2, h3, h4, _⟩ := hP
  rw [← hs.sync.1]
  exact (sync_dev h1).mono fun _ _ h => mid_of_dev h1 h2 h3 h4 h
theorem pr_sync {w0 w : World} {d r : Nat} {s : DS} {t : RS} (hM : Mid w0 w d r s.sync t) (hs : Same s t) :
    Calls Try.prog 25 #[.pointer (some ⟨r, 0, none⟩)] w (PairR w0 w d r (.int .i64 t.syncE) s.sync t.sync) := by
  obtain ⟨v, vl, vt, h1, h2, h3, h4⟩ := hM
  exact (sync_refdev h2 h4.size).mono fun _ _ h => pair_of_ref h1 h2 h3 h4 hs.sync.2 h
theorem pd_trim {w0 w : World} {d r : Nat} {s : DS} {t : RS} (n : Int) (hP : Pair w0 w d r s t) :
    Calls Try.prog 22 #[.pointer (some ⟨d, 0, none⟩), .int .i64 n] w (MidR w0 w d r (.int .i64 (t.trimE n)) (s.trim n) t) := by
  have hs := hP.same
  obtain ⟨v, vl, vt, h1, h2, h3, h4, _⟩ := hP
  rw [← (hs.trim n).1]
  exact (trim_dev n h1).mono fun _ _ h => mid_of_dev h1 h2 h3 h4 h
theorem pr_trim {w0 w : World} {d r : Nat} {s : DS} {t : RS} (n : Int) (hn : (Lit.int .i64 n).wf = true) (hM : Mid w0 w d r (s.trim n) t) (hs : Same s t) :
    Calls Try.prog 26 #[.pointer (some ⟨r, 0, none⟩), .int .i64 n] w (PairR w0 w d r (.int .i64 (t.trimE n)) (s.trim n) (t.trim n)) := by
  have hb := bounds_i64 hn
  obtain ⟨v, vl, vt, h1, h2, h3, h4⟩ := hM
  exact (trim_refdev n (by omega) (by omega) h2 h4.size).mono fun _ _ h => pair_of_ref h1 h2 h3 h4 (hs.trim n).2 h
theorem pd_arm {w0 w : World} {d r : Nat} {s : DS} {t : RS} (n : Int) (hn : (Lit.int .i64 n).wf = true) (hP : Pair w0 w d r s t) :
    Calls Try.prog 21 #[.pointer (some ⟨d, 0, none⟩), .int .i64 n] w (MidR w0 w d r (.tuple #[]) (s.arm n) t) := by
  obtain ⟨v, vl, vt, h1, h2, h3, h4, _⟩ := hP
  refine (arm_dev n hn h1).mono fun e w' h => ?_
  obtain ⟨rfl, hD, hO⟩ := h
  exact mid_of_dev h1 h2 h3 h4 ⟨rfl, v, hD, hO.mono fun _ _ h => .inl h, .inl rfl⟩
theorem pr_arm {w0 w : World} {d r : Nat} {s : DS} {t : RS} (n : Int) (hn : (Lit.int .i64 n).wf = true) (hM : Mid w0 w d r (s.arm n) t) (hs : Same s t) :
    Calls Try.prog 27 #[.pointer (some ⟨r, 0, none⟩), .int .i64 n] w (PairR w0 w d r (.tuple #[]) (s.arm n) (t.arm n)) := by
  obtain ⟨v, vl, vt, h1, h2, h3, h4⟩ := hM
  exact (arm_ref n hn h2).mono fun _ _ h => pair_of_ref h1 h2 h3 h4 (hs.arm n) h
theorem pd_restart {w0 w : World} {d r : Nat} {s : DS} {t : RS} (n : Int) (hn : (Lit.int .i64 n).wf = true) (hP : Pair w0 w d r s t) :
    Calls Try.prog 19 #[.pointer (some ⟨d, 0, none⟩), .int .i64 n] w (MidR w0 w d r (.tuple #[]) (s.restart n) t) := by
  obtain ⟨v, vl, vt, h1, h2, h3, h4, _⟩ := hP
  exact (restart_dev n hn h1).mono fun _ _ h => mid_of_dev h1 h2 h3 h4 h
theorem pr_restart {w0 w : World} {d r : Nat} {s : DS} {t : RS} (n : Int) (hn : (Lit.int .i64 n).wf = true) (hM : Mid w0 w d r (s.restart n) t) (hs : Same s t) :
    Calls Try.prog 28 #[.pointer (some ⟨r, 0, none⟩), .int .i64 n] w (PairR w0 w d r (.tuple #[]) (s.restart n) (t.restart n)) := by
  obtain ⟨v, vl, vt, h1, h2, h3, h4⟩ := hM
  exact (restart_refdev n hn h2).mono fun _ _ h => pair_of_ref h1 h2 h3 h4 (hs.restart n) h

/-- What a call of Bytes leaves: a row that reads as all bytes, here and wherever it stands. -/
def AllR (w0 w : World) (d r : Nat) (s : DS) (t : RS) (X : ByteArray) (e : Ending) (w' : World) : Prop :=
  ∃ (A : Option Addr) (n c : Nat), e = .returned (.slice A n c) ∧ Reads w' w'.heap.size 1 A n (cellsOf (t.l ++ t.t)) ∧ X = strOfNums (t.l ++ t.t) ∧ Pair w0 w' d r s t ∧ Stays w w' ∧ Below w.heap.size w w'
theorem pd_bytes {w0 w : World} {d r : Nat} {s : DS} {t : RS} (hP : Pair w0 w d r s t) :
    Calls Try.prog 17 #[.pointer (some ⟨d, 0, none⟩)] w (AllR w0 w d r s t (strOfNums (t.l ++ t.t))) := by
  have hP' := hP
  have hs := hP.same
  obtain ⟨v, vl, vt, h1, h2, h3, h4, _⟩ := hP'
  refine (bytes_dev h1).mono fun e w' h => ?_
  obtain ⟨rfl, hown, hb⟩ := h
  have hr := Reads.of_own hown
  have hk := hP.belowAll hb
  rw [hs.bs] at hr
  rw [hs.bs]
  exact ⟨_, _, _, rfl, hr, rfl, hk.1, hk.2, hb⟩
theorem pr_bytes {w0 w : World} {d r : Nat} {s : DS} {t : RS} (hP : Pair w0 w d r s t) :
    Calls Try.prog 29 #[.pointer (some ⟨r, 0, none⟩)] w (AllR w0 w d r s t (strOfNums (t.l ++ t.t))) := by
  have hP' := hP
  obtain ⟨v, vl, vt, h1, h2, h3, h4, _⟩ := hP'
  refine (bytes_ref h2).mono fun e w' h => ?_
  obtain ⟨A, c, rfl, hown, hb⟩ := h
  have hk := hP.belowAll hb
  exact ⟨_, _, _, rfl, Reads.of_own hown, rfl, hk.1, hk.2, hb⟩
theorem pd_off {w0 w : World} {d r : Nat} {s : DS} {t : RS} (hP : Pair w0 w d r s t) :
    Calls Try.prog 20 #[.pointer (some ⟨d, 0, none⟩)] w fun e w' => e = .returned (.bool t.off) ∧ w = w' := by
  have hs := hP.same
  obtain ⟨v, vl, vt, h1, h2, h3, h4, _⟩ := hP
  rw [← hs.off]
  exact off_dev h1
theorem Pair.offCell {w0 w : World} {d r : Nat} {s : DS} {t : RS} (hP : Pair w0 w d r s t) : w.cell? ⟨r, 3, none⟩ = some (.bool t.off) := by
  obtain ⟨v, vl, vt, h1, h2, h3, h4, _⟩ := hP
  have h := h2.blk.cell 3
  simpa using h
theorem pair_new {w w1 w2 w3 : World} {d r : Nat} (hb1 : Below w.heap.size w w1) (hD : DevAt w2 w1.heap.size d (.slice none 0 0) DS.new) (hb2 : Below w1.heap.size w1 w2) (hR : RefAt w3 w2.heap.size r (.slice none 0 0) (.slice none 0 0) RS.new) (hb3 : Below w2.heap.size w2 w3) : Pair w w3 d r DS.new RS.new := by
  have h1 := hb1.size
  have h2 := hb2.size
  exact ⟨_, _, _, (hD.belowAll hb3).mono h1, hR.mono (by omega), fun k hk => by simp [Value.ownBlock] at hk, (hb1.trans (hb2.mono h1)).trans (hb3.mono (by omega)), Same.new⟩
end Go.Proofs.Ytaakamjjglpibaa.Dv
