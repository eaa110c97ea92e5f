/-
  The device (verso/dev): its state as plain data, where it lies in memory, and what goes, New, Off, Arm do to it.
-/
import Derived.Test.YtaakamjjglpibaaBase
import Derived.BigQuiet
import Derived.Deep.QuietTactic
import Derived.WalkLawsBesides
namespace Go.Proofs.Ytaakamjjglpibaa.Dv
open Go.RowKit

structure DS where
  bs : List Int
  last : Nat
  left : Int
  off : Bool

def cellsOf (bs : List Int) : List Value := bs.map (Value.int .u8)
def Bts (bs : List Int) : Prop := ∀ x ∈ bs, 0 ≤ x ∧ x < 256
def DS.new : DS := ⟨[], 0, -1, false⟩
def DS.go (s : DS) : DS := ⟨s.bs, s.last, max (s.left - 1) (-1), s.left == 0⟩
def DS.arm (s : DS) (n : Int) : DS := if s.off then s else ⟨s.bs, s.last, max n (-1), s.off⟩

structure DevAt (w : World) (base d : Nat) (v : Value) (s : DS) : Prop where
  blk : Blk w d 60 #[v, .int .i64 s.last, .int .i64 s.left, .bool s.off]
  own : w.ownsRow base 5 1 v s.bs.length (cellsOf s.bs)
  bd : base ≤ d
  last : s.last ≤ s.bs.length
  len : s.bs.length ≤ 60000
  left : -1 ≤ s.left
  most : s.left ≤ 9223372036854775807
  byt : Bts s.bs

theorem DevAt.shape {w : World} {base d : Nat} {v : Value} {s : DS} (h : DevAt w base d v s) : ∃ (a : Option Addr) (c : Nat), v = .slice a s.bs.length c ∧ s.bs.length ≤ c ∧ c ≤ maxLen := by
  rcases h.own.2 with ⟨rfl, h0⟩ | ⟨g, cap, cur, rfl, _, _, h1, h2, _⟩
  · exact ⟨none, 0, by rw [h0], by omega, by decide⟩
  · exact ⟨_, cap, rfl, h1, h2⟩
theorem DevAt.only {w w' : World} {base d : Nat} {v : Value} {s : DS} {S : Nat → Prop} (h : DevAt w base d v s) (hb : Only S w w') (hd : ¬ S d) (hv : ∀ k, v.ownBlock = some k → ¬ S k) : DevAt w' base d v s :=
  ⟨h.blk.only hb hd, own_only h.own hb hv, h.bd, h.last, h.len, h.left, h.most, h.byt⟩
theorem DevAt.ne {w : World} {base d : Nat} {v : Value} {s : DS} (h : DevAt w base d v s) : v.ownBlock ≠ some d := own_blk_ne h.own h.blk (by decide)

theorem new_dev (w : World) : Calls Try.prog 15 #[] w fun e w' => e = .returned (.pointer (some ⟨w.heap.size, 0, none⟩)) ∧ DevAt w' w.heap.size w.heap.size (.slice none 0 0) DS.new ∧ Below w.heap.size w w' := by
  go_enter Try.func15, Try.ntmps15
  go_wp2
  go_ret
  refine ⟨rfl, ⟨Blk.new _ _ _, World.ownsRow_nil _ _ _ _, Nat.le_refl _, Nat.le_refl _, by simp [DS.new], by simp [DS.new], by simp [DS.new], by simp [DS.new, Bts]⟩, (Below.refl _ _).alloc (Nat.le_refl _) _⟩

theorem int_eq {k : IntKind} {a b : Int} (h : a = b) : Value.int k a = Value.int k b := by rw [h]

/-- The device's own block alone has turned, its row stands. -/
theorem DevAt.turned {w w' : World} {base d : Nat} {v : Value} {s s' : DS} (h : DevAt w base d v s) (hb : Only (· = d) w w') (hk : Blk w' d 60 #[v, .int .i64 s'.last, .int .i64 s'.left, .bool s'.off])
    (e : s'.bs = s.bs) (hl : s'.last ≤ s'.bs.length) (h1 : -1 ≤ s'.left) (h2 : s'.left ≤ 9223372036854775807) : DevAt w' base d v s' :=
  ⟨hk, by rw [e]; exact own_only h.own hb (fun k hk e => h.ne (by rw [hk, e])), h.bd, hl, by rw [e]; exact h.len, h1, h2, by rw [e]; exact h.byt⟩

theorem goes_fin {w : World} {base d : Nat} {v : Value} {s : DS} (hD : DevAt w base d v s) (x : Int) (hx : x = max (s.left - 1) (-1)) :
    DevAt ((w.setCell ⟨d, 3, none⟩ (.bool (s.left == 0))).setCell ⟨d, 2, none⟩ (.int .i64 x)).drew base d v s.go ∧ Only (· = d) w ((w.setCell ⟨d, 3, none⟩ (.bool (s.left == 0))).setCell ⟨d, 2, none⟩ (.int .i64 x)).drew := by
  have hb : Only (fun k => k = d) w ((w.setCell ⟨d, 3, none⟩ (.bool (s.left == 0))).setCell ⟨d, 2, none⟩ (.int .i64 x)).drew :=
    (((Only.refl (fun k => k = d) w).setCell (p := ⟨d, 3, none⟩) (fun _ => rfl) _).setCell (p := ⟨d, 2, none⟩) (fun _ => rfl) _).drew
  have hl := hD.left
  have hm := hD.most
  subst hx
  exact ⟨hD.turned hb ((hD.blk.set_ 3 (.bool (s.left == 0))).set_ 2 (.int .i64 (max (s.left - 1) (-1)))).drew rfl hD.last (by simp only [DS.go]; omega) (by simp only [DS.go]; omega), hb⟩

theorem goes_dev {w : World} {base d : Nat} {v : Value} {s : DS} (hD : DevAt w base d v s) : Calls Try.prog 36 #[.pointer (some ⟨d, 0, none⟩)] w fun e w' => e = .returned (.bool (s.left == 0)) ∧ DevAt w' base d v s.go ∧ Only (· = d) w w' := by
  obtain ⟨a, c, rfl, _, _⟩ := hD.shape
  have c0 := hD.blk.cell 0
  have c1 := hD.blk.cell 1
  have c2 := hD.blk.cell 2
  have c3 := hD.blk.cell 3
  have f2 := hD.blk.frozen 2
  have f3 := hD.blk.frozen 3
  simp at c0 c1 c2 c3
  have hl := hD.left
  have hm := hD.most
  go_enter Try.func36, Try.ntmps36
  go_wp2
  go_region
  go_wp2
  all_goals
    go_ret
    exact ⟨rfl, goes_fin hD _ (by omega)⟩

theorem off_dev {w : World} {base d : Nat} {v : Value} {s : DS} (hD : DevAt w base d v s) : Calls Try.prog 20 #[.pointer (some ⟨d, 0, none⟩)] w fun e w' => e = .returned (.bool s.off) ∧ w = w' := by
  have c3 := hD.blk.cell 3
  simp at c3
  go_enter Try.func20, Try.ntmps20
  go_wp2
  go_ret
  exact ⟨rfl, rfl⟩

theorem arm_dev {w : World} {base d : Nat} {v : Value} {s : DS} (n : Int) (hn : (Lit.int .i64 n).wf = true) (hD : DevAt w base d v s) : Calls Try.prog 21 #[.pointer (some ⟨d, 0, none⟩), .int .i64 n] w fun e w' => e = .returned (.tuple #[]) ∧ DevAt w' base d v (s.arm n) ∧ Only (· = d) w w' := by
  have c2 := hD.blk.cell 2
  have c3 := hD.blk.cell 3
  have f2 := hD.blk.frozen 2
  simp at c2 c3
  have hb : n ≤ 9223372036854775807 := (bounds_i64 hn).2
  by_cases ho : s.off = true
  · go_enter Try.func21, Try.ntmps21
    go_wp2
    go_end0
    refine ⟨rfl, ?_, Only.refl _ _⟩
    unfold DS.arm
    rw [if_pos ho]
    exact hD
  · have ho' : s.off = false := by simpa using ho
    go_enter Try.func21, Try.ntmps21
    go_wp2
    all_goals
      go_end0
      have hb : ∀ x : Int, Only (fun k => k = d) w (w.setCell ⟨d, 2, none⟩ (.int .i64 x)) := fun x => (Only.refl (fun k => k = d) w).setCell (p := ⟨d, 2, none⟩) (fun _ => rfl) _
      refine ⟨rfl, ?_, hb _⟩
      unfold DS.arm
      rw [if_neg ho]
      refine hD.turned (hb _) ?_ rfl hD.last (by show -1 ≤ max n (-1); omega) (by show max n (-1) ≤ _; omega)
      have hk := hD.blk.set_ 2 (.int .i64 (max n (-1)))
      show Blk _ d 60 #[_, _, .int .i64 (max n (-1)), _]
      first
        | (rw [show max n (-1) = n from by omega] at hk ⊢; exact hk)
        | (rw [show max n (-1) = -1 from by omega] at hk ⊢; exact hk)
end Go.Proofs.Ytaakamjjglpibaa.Dv
