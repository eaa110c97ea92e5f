/-
  The reference's Right: how many bytes the right sequence has that begins at a place: by the model's own decoder.
-/
import Derived.Test.YteijpcjhecmamaaDoorBld
import Derived.Lib.MapLaws
namespace Go.Proofs.YteijpcjhecmamaaDoor.Uf
open Go.RowKit
set_option linter.unusedVariables false

def goesN (b : Nat) : Bool := decide (128 ≤ b) && decide (b ≤ 191)
theorem goes_ref (b : Nat) (w : World) : Calls Tryd.prog 25 #[.int .u8 b] w fun e w' => e = .returned (.bool (goesN b)) ∧ w' = w := by
  by_cases h : 128 ≤ b
  · by_cases h2 : b ≤ 191
    · have t1 : decide ((128 : Int) ≤ (b : Int)) = true := by simp; omega
      have t2 : decide ((b : Int) ≤ 191) = true := by simp; omega
      have t3 : goesN b = true := by simp [goesN, h, h2]
      rw [t3]
      go_enter Tryd.func25, Tryd.ntmps25
      go_wp2
      go_ret
      exact ⟨rfl, rfl⟩
    · have t1 : decide ((128 : Int) ≤ (b : Int)) = true := by simp; omega
      have t2 : decide ((b : Int) ≤ 191) = false := by simp; omega
      have t3 : goesN b = false := by simp [goesN, h2]
      rw [t3]
      go_enter Tryd.func25, Tryd.ntmps25
      go_wp2
      go_ret
      exact ⟨rfl, rfl⟩
  · have t1 : decide ((128 : Int) ≤ (b : Int)) = false := by simp; omega
    have t3 : goesN b = false := by simp [goesN, h]
    rw [t3]
    go_enter Tryd.func25, Tryd.ntmps25
    go_wp2
    go_ret
    exact ⟨rfl, rfl⟩



/-- What Right tells of a lead byte that asks for so many bytes, the second in a range. -/
def rightS (n b1 b2 b3 m lo hi : Nat) : Nat :=
  if n < m then 0 else if b1 < lo then 0 else if hi < b1 then 0 else if m ≤ 2 then 2 else if goesN b2 = false then 0 else if m ≤ 3 then 3 else if goesN b3 = false then 0 else 4

set_option maxRecDepth 100000 in
set_option maxHeartbeats 4000000 in
theorem right_C2 {s : ByteArray} {k n b0 b1 b2 b3 : Nat} (w : World) (hk : k < s.size) (hs : s.size ≤ 1000000) (hn : s.size = k + n) (e0 : (s[k]'hk).toNat = b0) (e1 : ∀ h : k + 1 < s.size, (s[k + 1]'h).toNat = b1)
    (e2 : ∀ h : k + 2 < s.size, (s[k + 2]'h).toNat = b2) (e3 : ∀ h : k + 3 < s.size, (s[k + 3]'h).toNat = b3) (hb : 194 ≤ b0 ∧ b0 < 224) :
    Calls Tryd.prog 18 #[.string s, .int .i64 k] w fun e w' => e = .returned (.int .i64 (rightS n b1 b2 b3 2 128 191 : Nat)) ∧ w' = w := by
  have f0 : ¬ ((b0 : Int) < 128) := by omega
  have f1 : decide ((194 : Int) ≤ (b0 : Int)) = true := by simp; omega
  have f2 : decide ((224 : Int) ≤ (b0 : Int)) = false := by simp; omega
  have f3 : decide ((240 : Int) ≤ (b0 : Int)) = false := by simp; omega
  have f4 : decide ((b0 : Int) ≤ 223) = true := by simp; omega
  have f5 : decide ((b0 : Int) ≤ 239) = true := by simp; omega
  have f6 : decide ((b0 : Int) ≤ 244) = true := by simp; omega
  have f7 : ((b0 : Int) == 224) = false := by simp; omega
  have f8 : ((b0 : Int) == 237) = false := by simp; omega
  have f9 : ((b0 : Int) == 240) = false := by simp; omega
  have f10 : ((b0 : Int) == 244) = false := by simp; omega
  by_cases c1 : n < 2
  · have g1 : decide ((s.size : Int) < (k : Int) + 2) = true := by simp; omega
    rw [show rightS n b1 b2 b3 2 128 191 = 0 from by simp [rightS, c1]]
    go_enter Tryd.func18, Tryd.ntmps18
    go_wp2_with fail
    go_ret
    exact ⟨rfl, rfl⟩
  have g1 : decide ((s.size : Int) < (k : Int) + 2) = false := by simp; omega
  have e1 := e1 (by omega)
  by_cases c2 : b1 < 128
  · have g2 : decide ((b1 : Int) < 128) = true := by simp; omega
    rw [show rightS n b1 b2 b3 2 128 191 = 0 from by simp [rightS, c1, c2]]
    go_enter Tryd.func18, Tryd.ntmps18
    go_wp2_with fail
    go_ret
    exact ⟨rfl, rfl⟩
  have g2 : decide ((b1 : Int) < 128) = false := by simp; omega
  by_cases c3 : 191 < b1
  · have g3 : decide ((191 : Int) < (b1 : Int)) = true := by simp; omega
    rw [show rightS n b1 b2 b3 2 128 191 = 0 from by simp [rightS, c1, c2, c3]]
    go_enter Tryd.func18, Tryd.ntmps18
    go_wp2_with fail
    go_ret
    exact ⟨rfl, rfl⟩
  have g3 : decide ((191 : Int) < (b1 : Int)) = false := by simp; omega
  rw [show rightS n b1 b2 b3 2 128 191 = 2 from by simp [rightS, c1, c2, c3]]
  go_enter Tryd.func18, Tryd.ntmps18
  go_wp2_with fail
  refine wp_loop_rounds 1 ?_
  rw [rounds_succ]
  go_wp2_with fail
  go_ret
  exact ⟨rfl, rfl⟩

set_option maxRecDepth 100000 in
set_option maxHeartbeats 4000000 in
theorem right_E0 {s : ByteArray} {k n b0 b1 b2 b3 : Nat} (w : World) (hk : k < s.size) (hs : s.size ≤ 1000000) (hn : s.size = k + n) (e0 : (s[k]'hk).toNat = b0) (e1 : ∀ h : k + 1 < s.size, (s[k + 1]'h).toNat = b1)
    (e2 : ∀ h : k + 2 < s.size, (s[k + 2]'h).toNat = b2) (e3 : ∀ h : k + 3 < s.size, (s[k + 3]'h).toNat = b3) (hb : b0 = 224) :
    Calls Tryd.prog 18 #[.string s, .int .i64 k] w fun e w' => e = .returned (.int .i64 (rightS n b1 b2 b3 3 160 191 : Nat)) ∧ w' = w := by
  have f0 : ¬ ((b0 : Int) < 128) := by omega
  have f1 : decide ((194 : Int) ≤ (b0 : Int)) = true := by simp; omega
  have f2 : decide ((224 : Int) ≤ (b0 : Int)) = true := by simp; omega
  have f3 : decide ((240 : Int) ≤ (b0 : Int)) = false := by simp; omega
  have f4 : decide ((b0 : Int) ≤ 223) = false := by simp; omega
  have f5 : decide ((b0 : Int) ≤ 239) = true := by simp; omega
  have f6 : decide ((b0 : Int) ≤ 244) = true := by simp; omega
  have f7 : ((b0 : Int) == 224) = true := by simp; omega
  have f8 : ((b0 : Int) == 237) = false := by simp; omega
  have f9 : ((b0 : Int) == 240) = false := by simp; omega
  have f10 : ((b0 : Int) == 244) = false := by simp; omega
  by_cases c1 : n < 3
  · have g1 : decide ((s.size : Int) < (k : Int) + 3) = true := by simp; omega
    rw [show rightS n b1 b2 b3 3 160 191 = 0 from by simp [rightS, c1]]
    go_enter Tryd.func18, Tryd.ntmps18
    go_wp2_with fail
    go_ret
    exact ⟨rfl, rfl⟩
  have g1 : decide ((s.size : Int) < (k : Int) + 3) = false := by simp; omega
  have e1 := e1 (by omega)
  have e2 := e2 (by omega)
  by_cases c2 : b1 < 160
  · have g2 : decide ((b1 : Int) < 160) = true := by simp; omega
    rw [show rightS n b1 b2 b3 3 160 191 = 0 from by simp [rightS, c1, c2]]
    go_enter Tryd.func18, Tryd.ntmps18
    go_wp2_with fail
    go_ret
    exact ⟨rfl, rfl⟩
  have g2 : decide ((b1 : Int) < 160) = false := by simp; omega
  by_cases c3 : 191 < b1
  · have g3 : decide ((191 : Int) < (b1 : Int)) = true := by simp; omega
    rw [show rightS n b1 b2 b3 3 160 191 = 0 from by simp [rightS, c1, c2, c3]]
    go_enter Tryd.func18, Tryd.ntmps18
    go_wp2_with fail
    go_ret
    exact ⟨rfl, rfl⟩
  have g3 : decide ((191 : Int) < (b1 : Int)) = false := by simp; omega
  cases c4 : goesN b2 with
  | false =>
    rw [show rightS n b1 b2 b3 3 160 191 = 0 from by simp [rightS, c1, c2, c3, c4]]
    go_enter Tryd.func18, Tryd.ntmps18
    go_wp2_with fail
    refine wp_loop_rounds 2 ?_
    rw [rounds_succ]
    go_wp2_with fail
    refine (goes_ref b2 _).mono ?_
    rintro e w1 ⟨rfl, rfl⟩
    rw [c4]
    go_wp2_with fail
    go_ret
    exact ⟨rfl, rfl⟩
  | true =>
    rw [show rightS n b1 b2 b3 3 160 191 = 3 from by simp [rightS, c1, c2, c3, c4]]
    go_enter Tryd.func18, Tryd.ntmps18
    go_wp2_with fail
    refine wp_loop_rounds 2 ?_
    rw [rounds_succ]
    go_wp2_with fail
    refine (goes_ref b2 _).mono ?_
    rintro e w1 ⟨rfl, rfl⟩
    rw [c4]
    go_wp2_with fail
    rw [rounds_succ]
    go_wp2_with fail
    go_ret
    exact ⟨rfl, rfl⟩

set_option maxRecDepth 100000 in
set_option maxHeartbeats 4000000 in
theorem right_E1 {s : ByteArray} {k n b0 b1 b2 b3 : Nat} (w : World) (hk : k < s.size) (hs : s.size ≤ 1000000) (hn : s.size = k + n) (e0 : (s[k]'hk).toNat = b0) (e1 : ∀ h : k + 1 < s.size, (s[k + 1]'h).toNat = b1)
    (e2 : ∀ h : k + 2 < s.size, (s[k + 2]'h).toNat = b2) (e3 : ∀ h : k + 3 < s.size, (s[k + 3]'h).toNat = b3) (hb : (225 ≤ b0 ∧ b0 < 237) ∨ (238 ≤ b0 ∧ b0 < 240)) :
    Calls Tryd.prog 18 #[.string s, .int .i64 k] w fun e w' => e = .returned (.int .i64 (rightS n b1 b2 b3 3 128 191 : Nat)) ∧ w' = w := by
  have f0 : ¬ ((b0 : Int) < 128) := by omega
  have f1 : decide ((194 : Int) ≤ (b0 : Int)) = true := by simp; omega
  have f2 : decide ((224 : Int) ≤ (b0 : Int)) = true := by simp; omega
  have f3 : decide ((240 : Int) ≤ (b0 : Int)) = false := by simp; omega
  have f4 : decide ((b0 : Int) ≤ 223) = false := by simp; omega
  have f5 : decide ((b0 : Int) ≤ 239) = true := by simp; omega
  have f6 : decide ((b0 : Int) ≤ 244) = true := by simp; omega
  have f7 : ((b0 : Int) == 224) = false := by simp; omega
  have f8 : ((b0 : Int) == 237) = false := by simp; omega
  have f9 : ((b0 : Int) == 240) = false := by simp; omega
  have f10 : ((b0 : Int) == 244) = false := by simp; omega
  by_cases c1 : n < 3
  · have g1 : decide ((s.size : Int) < (k : Int) + 3) = true := by simp; omega
    rw [show rightS n b1 b2 b3 3 128 191 = 0 from by simp [rightS, c1]]
    go_enter Tryd.func18, Tryd.ntmps18
    go_wp2_with fail
    go_ret
    exact ⟨rfl, rfl⟩
  have g1 : decide ((s.size : Int) < (k : Int) + 3) = false := by simp; omega
  have e1 := e1 (by omega)
  have e2 := e2 (by omega)
  by_cases c2 : b1 < 128
  · have g2 : decide ((b1 : Int) < 128) = true := by simp; omega
    rw [show rightS n b1 b2 b3 3 128 191 = 0 from by simp [rightS, c1, c2]]
    go_enter Tryd.func18, Tryd.ntmps18
    go_wp2_with fail
    go_ret
    exact ⟨rfl, rfl⟩
  have g2 : decide ((b1 : Int) < 128) = false := by simp; omega
  by_cases c3 : 191 < b1
  · have g3 : decide ((191 : Int) < (b1 : Int)) = true := by simp; omega
    rw [show rightS n b1 b2 b3 3 128 191 = 0 from by simp [rightS, c1, c2, c3]]
    go_enter Tryd.func18, Tryd.ntmps18
    go_wp2_with fail
    go_ret
    exact ⟨rfl, rfl⟩
  have g3 : decide ((191 : Int) < (b1 : Int)) = false := by simp; omega
  cases c4 : goesN b2 with
  | false =>
    rw [show rightS n b1 b2 b3 3 128 191 = 0 from by simp [rightS, c1, c2, c3, c4]]
    go_enter Tryd.func18, Tryd.ntmps18
    go_wp2_with fail
    refine wp_loop_rounds 2 ?_
    rw [rounds_succ]
    go_wp2_with fail
    refine (goes_ref b2 _).mono ?_
    rintro e w1 ⟨rfl, rfl⟩
    rw [c4]
    go_wp2_with fail
    go_ret
    exact ⟨rfl, rfl⟩
  | true =>
    rw [show rightS n b1 b2 b3 3 128 191 = 3 from by simp [rightS, c1, c2, c3, c4]]
    go_enter Tryd.func18, Tryd.ntmps18
    go_wp2_with fail
    refine wp_loop_rounds 2 ?_
    rw [rounds_succ]
    go_wp2_with fail
    refine (goes_ref b2 _).mono ?_
    rintro e w1 ⟨rfl, rfl⟩
    rw [c4]
    go_wp2_with fail
    rw [rounds_succ]
    go_wp2_with fail
    go_ret
    exact ⟨rfl, rfl⟩

set_option maxRecDepth 100000 in
set_option maxHeartbeats 4000000 in
theorem right_ED {s : ByteArray} {k n b0 b1 b2 b3 : Nat} (w : World) (hk : k < s.size) (hs : s.size ≤ 1000000) (hn : s.size = k + n) (e0 : (s[k]'hk).toNat = b0) (e1 : ∀ h : k + 1 < s.size, (s[k + 1]'h).toNat = b1)
    (e2 : ∀ h : k + 2 < s.size, (s[k + 2]'h).toNat = b2) (e3 : ∀ h : k + 3 < s.size, (s[k + 3]'h).toNat = b3) (hb : b0 = 237) :
    Calls Tryd.prog 18 #[.string s, .int .i64 k] w fun e w' => e = .returned (.int .i64 (rightS n b1 b2 b3 3 128 159 : Nat)) ∧ w' = w := by
  have f0 : ¬ ((b0 : Int) < 128) := by omega
  have f1 : decide ((194 : Int) ≤ (b0 : Int)) = true := by simp; omega
  have f2 : decide ((224 : Int) ≤ (b0 : Int)) = true := by simp; omega
  have f3 : decide ((240 : Int) ≤ (b0 : Int)) = false := by simp; omega
  have f4 : decide ((b0 : Int) ≤ 223) = false := by simp; omega
  have f5 : decide ((b0 : Int) ≤ 239) = true := by simp; omega
  have f6 : decide ((b0 : Int) ≤ 244) = true := by simp; omega
  have f7 : ((b0 : Int) == 224) = false := by simp; omega
  have f8 : ((b0 : Int) == 237) = true := by simp; omega
  have f9 : ((b0 : Int) == 240) = false := by simp; omega
  have f10 : ((b0 : Int) == 244) = false := by simp; omega
  by_cases c1 : n < 3
  · have g1 : decide ((s.size : Int) < (k : Int) + 3) = true := by simp; omega
    rw [show rightS n b1 b2 b3 3 128 159 = 0 from by simp [rightS, c1]]
    go_enter Tryd.func18, Tryd.ntmps18
    go_wp2_with fail
    go_ret
    exact ⟨rfl, rfl⟩
  have g1 : decide ((s.size : Int) < (k : Int) + 3) = false := by simp; omega
  have e1 := e1 (by omega)
  have e2 := e2 (by omega)
  by_cases c2 : b1 < 128
  · have g2 : decide ((b1 : Int) < 128) = true := by simp; omega
    rw [show rightS n b1 b2 b3 3 128 159 = 0 from by simp [rightS, c1, c2]]
    go_enter Tryd.func18, Tryd.ntmps18
    go_wp2_with fail
    go_ret
    exact ⟨rfl, rfl⟩
  have g2 : decide ((b1 : Int) < 128) = false := by simp; omega
  by_cases c3 : 159 < b1
  · have g3 : decide ((159 : Int) < (b1 : Int)) = true := by simp; omega
    rw [show rightS n b1 b2 b3 3 128 159 = 0 from by simp [rightS, c1, c2, c3]]
    go_enter Tryd.func18, Tryd.ntmps18
    go_wp2_with fail
    go_ret
    exact ⟨rfl, rfl⟩
  have g3 : decide ((159 : Int) < (b1 : Int)) = false := by simp; omega
  cases c4 : goesN b2 with
  | false =>
    rw [show rightS n b1 b2 b3 3 128 159 = 0 from by simp [rightS, c1, c2, c3, c4]]
    go_enter Tryd.func18, Tryd.ntmps18
    go_wp2_with fail
    refine wp_loop_rounds 2 ?_
    rw [rounds_succ]
    go_wp2_with fail
    refine (goes_ref b2 _).mono ?_
    rintro e w1 ⟨rfl, rfl⟩
    rw [c4]
    go_wp2_with fail
    go_ret
    exact ⟨rfl, rfl⟩
  | true =>
    rw [show rightS n b1 b2 b3 3 128 159 = 3 from by simp [rightS, c1, c2, c3, c4]]
    go_enter Tryd.func18, Tryd.ntmps18
    go_wp2_with fail
    refine wp_loop_rounds 2 ?_
    rw [rounds_succ]
    go_wp2_with fail
    refine (goes_ref b2 _).mono ?_
    rintro e w1 ⟨rfl, rfl⟩
    rw [c4]
    go_wp2_with fail
    rw [rounds_succ]
    go_wp2_with fail
    go_ret
    exact ⟨rfl, rfl⟩

set_option maxRecDepth 100000 in
set_option maxHeartbeats 4000000 in
theorem right_F0 {s : ByteArray} {k n b0 b1 b2 b3 : Nat} (w : World) (hk : k < s.size) (hs : s.size ≤ 1000000) (hn : s.size = k + n) (e0 : (s[k]'hk).toNat = b0) (e1 : ∀ h : k + 1 < s.size, (s[k + 1]'h).toNat = b1)
    (e2 : ∀ h : k + 2 < s.size, (s[k + 2]'h).toNat = b2) (e3 : ∀ h : k + 3 < s.size, (s[k + 3]'h).toNat = b3) (hb : b0 = 240) :
    Calls Tryd.prog 18 #[.string s, .int .i64 k] w fun e w' => e = .returned (.int .i64 (rightS n b1 b2 b3 4 144 191 : Nat)) ∧ w' = w := by
  have f0 : ¬ ((b0 : Int) < 128) := by omega
  have f1 : decide ((194 : Int) ≤ (b0 : Int)) = true := by simp; omega
  have f2 : decide ((224 : Int) ≤ (b0 : Int)) = true := by simp; omega
  have f3 : decide ((240 : Int) ≤ (b0 : Int)) = true := by simp; omega
  have f4 : decide ((b0 : Int) ≤ 223) = false := by simp; omega
  have f5 : decide ((b0 : Int) ≤ 239) = false := by simp; omega
  have f6 : decide ((b0 : Int) ≤ 244) = true := by simp; omega
  have f7 : ((b0 : Int) == 224) = false := by simp; omega
  have f8 : ((b0 : Int) == 237) = false := by simp; omega
  have f9 : ((b0 : Int) == 240) = true := by simp; omega
  have f10 : ((b0 : Int) == 244) = false := by simp; omega
  by_cases c1 : n < 4
  · have g1 : decide ((s.size : Int) < (k : Int) + 4) = true := by simp; omega
    rw [show rightS n b1 b2 b3 4 144 191 = 0 from by simp [rightS, c1]]
    go_enter Tryd.func18, Tryd.ntmps18
    go_wp2_with fail
    go_ret
    exact ⟨rfl, rfl⟩
  have g1 : decide ((s.size : Int) < (k : Int) + 4) = false := by simp; omega
  have e1 := e1 (by omega)
  have e2 := e2 (by omega)
  have e3 := e3 (by omega)
  by_cases c2 : b1 < 144
  · have g2 : decide ((b1 : Int) < 144) = true := by simp; omega
    rw [show rightS n b1 b2 b3 4 144 191 = 0 from by simp [rightS, c1, c2]]
    go_enter Tryd.func18, Tryd.ntmps18
    go_wp2_with fail
    go_ret
    exact ⟨rfl, rfl⟩
  have g2 : decide ((b1 : Int) < 144) = false := by simp; omega
  by_cases c3 : 191 < b1
  · have g3 : decide ((191 : Int) < (b1 : Int)) = true := by simp; omega
    rw [show rightS n b1 b2 b3 4 144 191 = 0 from by simp [rightS, c1, c2, c3]]
    go_enter Tryd.func18, Tryd.ntmps18
    go_wp2_with fail
    go_ret
    exact ⟨rfl, rfl⟩
  have g3 : decide ((191 : Int) < (b1 : Int)) = false := by simp; omega
  cases c4 : goesN b2 with
  | false =>
    rw [show rightS n b1 b2 b3 4 144 191 = 0 from by simp [rightS, c1, c2, c3, c4]]
    go_enter Tryd.func18, Tryd.ntmps18
    go_wp2_with fail
    refine wp_loop_rounds 2 ?_
    rw [rounds_succ]
    go_wp2_with fail
    refine (goes_ref b2 _).mono ?_
    rintro e w1 ⟨rfl, rfl⟩
    rw [c4]
    go_wp2_with fail
    go_ret
    exact ⟨rfl, rfl⟩
  | true =>
    cases c5 : goesN b3 with
    | false =>
      rw [show rightS n b1 b2 b3 4 144 191 = 0 from by simp [rightS, c1, c2, c3, c4, c5]]
      go_enter Tryd.func18, Tryd.ntmps18
      go_wp2_with fail
      refine wp_loop_rounds 3 ?_
      rw [rounds_succ]
      go_wp2_with fail
      refine (goes_ref b2 _).mono ?_
      rintro e w1 ⟨rfl, rfl⟩
      rw [c4]
      go_wp2_with fail
      rw [rounds_succ]
      go_wp2_with fail
      refine (goes_ref b3 _).mono ?_
      rintro e w1 ⟨rfl, rfl⟩
      rw [c5]
      go_wp2_with fail
      go_ret
      exact ⟨rfl, rfl⟩
    | true =>
      rw [show rightS n b1 b2 b3 4 144 191 = 4 from by simp [rightS, c1, c2, c3, c4, c5]]
      go_enter Tryd.func18, Tryd.ntmps18
      go_wp2_with fail
      refine wp_loop_rounds 3 ?_
      rw [rounds_succ]
      go_wp2_with fail
      refine (goes_ref b2 _).mono ?_
      rintro e w1 ⟨rfl, rfl⟩
      rw [c4]
      go_wp2_with fail
      rw [rounds_succ]
      go_wp2_with fail
      refine (goes_ref b3 _).mono ?_
      rintro e w1 ⟨rfl, rfl⟩
      rw [c5]
      go_wp2_with fail
      rw [rounds_succ]
      go_wp2_with fail
      go_ret
      exact ⟨rfl, rfl⟩

set_option maxRecDepth 100000 in
set_option maxHeartbeats 4000000 in
theorem right_F1 {s : ByteArray} {k n b0 b1 b2 b3 : Nat} (w : World) (hk : k < s.size) (hs : s.size ≤ 1000000) (hn : s.size = k + n) (e0 : (s[k]'hk).toNat = b0) (e1 : ∀ h : k + 1 < s.size, (s[k + 1]'h).toNat = b1)
    (e2 : ∀ h : k + 2 < s.size, (s[k + 2]'h).toNat = b2) (e3 : ∀ h : k + 3 < s.size, (s[k + 3]'h).toNat = b3) (hb : 241 ≤ b0 ∧ b0 < 244) :
    Calls Tryd.prog 18 #[.string s, .int .i64 k] w fun e w' => e = .returned (.int .i64 (rightS n b1 b2 b3 4 128 191 : Nat)) ∧ w' = w := by
  have f0 : ¬ ((b0 : Int) < 128) := by omega
  have f1 : decide ((194 : Int) ≤ (b0 : Int)) = true := by simp; omega
  have f2 : decide ((224 : Int) ≤ (b0 : Int)) = true := by simp; omega
  have f3 : decide ((240 : Int) ≤ (b0 : Int)) = true := by simp; omega
  have f4 : decide ((b0 : Int) ≤ 223) = false := by simp; omega
  have f5 : decide ((b0 : Int) ≤ 239) = false := by simp; omega
  have f6 : decide ((b0 : Int) ≤ 244) = true := by simp; omega
  have f7 : ((b0 : Int) == 224) = false := by simp; omega
  have f8 : ((b0 : Int) == 237) = false := by simp; omega
  have f9 : ((b0 : Int) == 240) = false := by simp; omega
  have f10 : ((b0 : Int) == 244) = false := by simp; omega
  by_cases c1 : n < 4
  · have g1 : decide ((s.size : Int) < (k : Int) + 4) = true := by simp; omega
    rw [show rightS n b1 b2 b3 4 128 191 = 0 from by simp [rightS, c1]]
    go_enter Tryd.func18, Tryd.ntmps18
    go_wp2_with fail
    go_ret
    exact ⟨rfl, rfl⟩
  have g1 : decide ((s.size : Int) < (k : Int) + 4) = false := by simp; omega
  have e1 := e1 (by omega)
  have e2 := e2 (by omega)
  have e3 := e3 (by omega)
  by_cases c2 : b1 < 128
  · have g2 : decide ((b1 : Int) < 128) = true := by simp; omega
    rw [show rightS n b1 b2 b3 4 128 191 = 0 from by simp [rightS, c1, c2]]
    go_enter Tryd.func18, Tryd.ntmps18
    go_wp2_with fail
    go_ret
    exact ⟨rfl, rfl⟩
  have g2 : decide ((b1 : Int) < 128) = false := by simp; omega
  by_cases c3 : 191 < b1
  · have g3 : decide ((191 : Int) < (b1 : Int)) = true := by simp; omega
    rw [show rightS n b1 b2 b3 4 128 191 = 0 from by simp [rightS, c1, c2, c3]]
    go_enter Tryd.func18, Tryd.ntmps18
    go_wp2_with fail
    go_ret
    exact ⟨rfl, rfl⟩
  have g3 : decide ((191 : Int) < (b1 : Int)) = false := by simp; omega
  cases c4 : goesN b2 with
  | false =>
    rw [show rightS n b1 b2 b3 4 128 191 = 0 from by simp [rightS, c1, c2, c3, c4]]
    go_enter Tryd.func18, Tryd.ntmps18
    go_wp2_with fail
    refine wp_loop_rounds 2 ?_
    rw [rounds_succ]
    go_wp2_with fail
    refine (goes_ref b2 _).mono ?_
    rintro e w1 ⟨rfl, rfl⟩
    rw [c4]
    go_wp2_with fail
    go_ret
    exact ⟨rfl, rfl⟩
  | true =>
    cases c5 : goesN b3 with
    | false =>
      rw [show rightS n b1 b2 b3 4 128 191 = 0 from by simp [rightS, c1, c2, c3, c4, c5]]
      go_enter Tryd.func18, Tryd.ntmps18
      go_wp2_with fail
      refine wp_loop_rounds 3 ?_
      rw [rounds_succ]
      go_wp2_with fail
      refine (goes_ref b2 _).mono ?_
      rintro e w1 ⟨rfl, rfl⟩
      rw [c4]
      go_wp2_with fail
      rw [rounds_succ]
      go_wp2_with fail
      refine (goes_ref b3 _).mono ?_
      rintro e w1 ⟨rfl, rfl⟩
      rw [c5]
      go_wp2_with fail
      go_ret
      exact ⟨rfl, rfl⟩
    | true =>
      rw [show rightS n b1 b2 b3 4 128 191 = 4 from by simp [rightS, c1, c2, c3, c4, c5]]
      go_enter Tryd.func18, Tryd.ntmps18
      go_wp2_with fail
      refine wp_loop_rounds 3 ?_
      rw [rounds_succ]
      go_wp2_with fail
      refine (goes_ref b2 _).mono ?_
      rintro e w1 ⟨rfl, rfl⟩
      rw [c4]
      go_wp2_with fail
      rw [rounds_succ]
      go_wp2_with fail
      refine (goes_ref b3 _).mono ?_
      rintro e w1 ⟨rfl, rfl⟩
      rw [c5]
      go_wp2_with fail
      rw [rounds_succ]
      go_wp2_with fail
      go_ret
      exact ⟨rfl, rfl⟩

set_option maxRecDepth 100000 in
set_option maxHeartbeats 4000000 in
theorem right_F4 {s : ByteArray} {k n b0 b1 b2 b3 : Nat} (w : World) (hk : k < s.size) (hs : s.size ≤ 1000000) (hn : s.size = k + n) (e0 : (s[k]'hk).toNat = b0) (e1 : ∀ h : k + 1 < s.size, (s[k + 1]'h).toNat = b1)
    (e2 : ∀ h : k + 2 < s.size, (s[k + 2]'h).toNat = b2) (e3 : ∀ h : k + 3 < s.size, (s[k + 3]'h).toNat = b3) (hb : b0 = 244) :
    Calls Tryd.prog 18 #[.string s, .int .i64 k] w fun e w' => e = .returned (.int .i64 (rightS n b1 b2 b3 4 128 143 : Nat)) ∧ w' = w := by
  have f0 : ¬ ((b0 : Int) < 128) := by omega
  have f1 : decide ((194 : Int) ≤ (b0 : Int)) = true := by simp; omega
  have f2 : decide ((224 : Int) ≤ (b0 : Int)) = true := by simp; omega
  have f3 : decide ((240 : Int) ≤ (b0 : Int)) = true := by simp; omega
  have f4 : decide ((b0 : Int) ≤ 223) = false := by simp; omega
  have f5 : decide ((b0 : Int) ≤ 239) = false := by simp; omega
  have f6 : decide ((b0 : Int) ≤ 244) = true := by simp; omega
  have f7 : ((b0 : Int) == 224) = false := by simp; omega
  have f8 : ((b0 : Int) == 237) = false := by simp; omega
  have f9 : ((b0 : Int) == 240) = false := by simp; omega
  have f10 : ((b0 : Int) == 244) = true := by simp; omega
  by_cases c1 : n < 4
  · have g1 : decide ((s.size : Int) < (k : Int) + 4) = true := by simp; omega
    rw [show rightS n b1 b2 b3 4 128 143 = 0 from by simp [rightS, c1]]
    go_enter Tryd.func18, Tryd.ntmps18
    go_wp2_with fail
    go_ret
    exact ⟨rfl, rfl⟩
  have g1 : decide ((s.size : Int) < (k : Int) + 4) = false := by simp; omega
  have e1 := e1 (by omega)
  have e2 := e2 (by omega)
  have e3 := e3 (by omega)
  by_cases c2 : b1 < 128
  · have g2 : decide ((b1 : Int) < 128) = true := by simp; omega
    rw [show rightS n b1 b2 b3 4 128 143 = 0 from by simp [rightS, c1, c2]]
    go_enter Tryd.func18, Tryd.ntmps18
    go_wp2_with fail
    go_ret
    exact ⟨rfl, rfl⟩
  have g2 : decide ((b1 : Int) < 128) = false := by simp; omega
  by_cases c3 : 143 < b1
  · have g3 : decide ((143 : Int) < (b1 : Int)) = true := by simp; omega
    rw [show rightS n b1 b2 b3 4 128 143 = 0 from by simp [rightS, c1, c2, c3]]
    go_enter Tryd.func18, Tryd.ntmps18
    go_wp2_with fail
    go_ret
    exact ⟨rfl, rfl⟩
  have g3 : decide ((143 : Int) < (b1 : Int)) = false := by simp; omega
  cases c4 : goesN b2 with
  | false =>
    rw [show rightS n b1 b2 b3 4 128 143 = 0 from by simp [rightS, c1, c2, c3, c4]]
    go_enter Tryd.func18, Tryd.ntmps18
    go_wp2_with fail
    refine wp_loop_rounds 2 ?_
    rw [rounds_succ]
    go_wp2_with fail
    refine (goes_ref b2 _).mono ?_
    rintro e w1 ⟨rfl, rfl⟩
    rw [c4]
    go_wp2_with fail
    go_ret
    exact ⟨rfl, rfl⟩
  | true =>
    cases c5 : goesN b3 with
    | false =>
      rw [show rightS n b1 b2 b3 4 128 143 = 0 from by simp [rightS, c1, c2, c3, c4, c5]]
      go_enter Tryd.func18, Tryd.ntmps18
      go_wp2_with fail
      refine wp_loop_rounds 3 ?_
      rw [rounds_succ]
      go_wp2_with fail
      refine (goes_ref b2 _).mono ?_
      rintro e w1 ⟨rfl, rfl⟩
      rw [c4]
      go_wp2_with fail
      rw [rounds_succ]
      go_wp2_with fail
      refine (goes_ref b3 _).mono ?_
      rintro e w1 ⟨rfl, rfl⟩
      rw [c5]
      go_wp2_with fail
      go_ret
      exact ⟨rfl, rfl⟩
    | true =>
      rw [show rightS n b1 b2 b3 4 128 143 = 4 from by simp [rightS, c1, c2, c3, c4, c5]]
      go_enter Tryd.func18, Tryd.ntmps18
      go_wp2_with fail
      refine wp_loop_rounds 3 ?_
      rw [rounds_succ]
      go_wp2_with fail
      refine (goes_ref b2 _).mono ?_
      rintro e w1 ⟨rfl, rfl⟩
      rw [c4]
      go_wp2_with fail
      rw [rounds_succ]
      go_wp2_with fail
      refine (goes_ref b3 _).mono ?_
      rintro e w1 ⟨rfl, rfl⟩
      rw [c5]
      go_wp2_with fail
      rw [rounds_succ]
      go_wp2_with fail
      go_ret
      exact ⟨rfl, rfl⟩

set_option maxRecDepth 100000 in
set_option maxHeartbeats 4000000 in
theorem right_A {s : ByteArray} {k b0 : Nat} (w : World) (hk : k < s.size) (hs : s.size ≤ 1000000) (e0 : (s[k]'hk).toNat = b0) (hb : b0 < 128) :
    Calls Tryd.prog 18 #[.string s, .int .i64 k] w fun e w' => e = .returned (.int .i64 1) ∧ w' = w := by
  have f0 : ((b0 : Int) < 128) := by omega
  go_enter Tryd.func18, Tryd.ntmps18
  go_wp2_with fail
  go_ret
  exact ⟨rfl, rfl⟩
set_option maxRecDepth 100000 in
set_option maxHeartbeats 4000000 in
theorem right_no {s : ByteArray} {k b0 : Nat} (w : World) (hk : k < s.size) (hs : s.size ≤ 1000000) (e0 : (s[k]'hk).toNat = b0) (hb : (128 ≤ b0 ∧ b0 < 194) ∨ 245 ≤ b0) :
    Calls Tryd.prog 18 #[.string s, .int .i64 k] w fun e w' => e = .returned (.int .i64 0) ∧ w' = w := by
  have f0 : ¬ ((b0 : Int) < 128) := by omega
  rcases hb with hb | hb
  · have f1 : decide ((194 : Int) ≤ (b0 : Int)) = false := by simp; omega
    have f2 : decide ((224 : Int) ≤ (b0 : Int)) = false := by simp; omega
    have f3 : decide ((240 : Int) ≤ (b0 : Int)) = false := by simp; omega
    have f4 : decide ((b0 : Int) ≤ 223) = true := by simp; omega
    have f5 : decide ((b0 : Int) ≤ 239) = true := by simp; omega
    have f6 : decide ((b0 : Int) ≤ 244) = true := by simp; omega
    have f7 : ((b0 : Int) == 224) = false := by simp; omega
    have f8 : ((b0 : Int) == 237) = false := by simp; omega
    have f9 : ((b0 : Int) == 240) = false := by simp; omega
    have f10 : ((b0 : Int) == 244) = false := by simp; omega
    go_enter Tryd.func18, Tryd.ntmps18
    go_wp2_with fail
    go_ret
    exact ⟨rfl, rfl⟩
  · have f1 : decide ((194 : Int) ≤ (b0 : Int)) = true := by simp; omega
    have f2 : decide ((224 : Int) ≤ (b0 : Int)) = true := by simp; omega
    have f3 : decide ((240 : Int) ≤ (b0 : Int)) = true := by simp; omega
    have f4 : decide ((b0 : Int) ≤ 223) = false := by simp; omega
    have f5 : decide ((b0 : Int) ≤ 239) = false := by simp; omega
    have f6 : decide ((b0 : Int) ≤ 244) = false := by simp; omega
    have f7 : ((b0 : Int) == 224) = false := by simp; omega
    have f8 : ((b0 : Int) == 237) = false := by simp; omega
    have f9 : ((b0 : Int) == 240) = false := by simp; omega
    have f10 : ((b0 : Int) == 244) = false := by simp; omega
    go_enter Tryd.func18, Tryd.ntmps18
    go_wp2_with fail
    go_ret
    exact ⟨rfl, rfl⟩

open Lib in
/-- How many bytes the right sequence has that begins a list: the decoder's width, or none. -/
def rightL (l : List UInt8) : Nat := if (decodeL l).1 = 65533 ∧ (decodeL l).2 = 1 then 0 else (decodeL l).2
def rightD (d : Nat × Nat) : Nat := if d.1 = 65533 ∧ d.2 = 1 then 0 else d.2
theorem rightD_slow (n b0 b1 b2 b3 m lo hi : Nat) (h2 : 2 ≤ m) : rightD (Lib.slowN n b0 b1 b2 b3 m lo hi) = rightS n b1 b2 b3 m lo hi := by
  have g2 : goesN b2 = false ↔ (b2 < 128 ∨ 191 < b2) := by simp [goesN]; omega
  have g3 : goesN b3 = false ↔ (b3 < 128 ∨ 191 < b3) := by simp [goesN]; omega
  unfold Lib.slowN rightS rightD
  simp only [g2, g3]
  by_cases a : n < m
  · simp [a]
  by_cases b : b1 < lo
  · simp [a, b]
  by_cases c : hi < b1
  · simp [a, b, c]
  by_cases d : m ≤ 2
  · simp [a, b, c, d]
  by_cases e : b2 < 128 ∨ 191 < b2
  · simp [a, b, c, d, e]
  by_cases f : m ≤ 3
  · simp [a, b, c, d, e, f]
  by_cases g : b3 < 128 ∨ 191 < b3
  · simp [a, b, c, d, e, f, g]
  · simp [a, b, c, d, e, f, g]

theorem byte_at (s : ByteArray) (i : Nat) (h : i < s.size) : (s[i]'h).toNat = (s.data.toList.getD i 0).toNat := by
  have h' : i < s.data.toList.length := by simpa using h
  rw [List.getD, List.getElem?_eq_getElem h']
  rfl

theorem right_ref (s : ByteArray) (k : Nat) (w : World) (hk : k < s.size) (hs : s.size ≤ 1000000) :
    Calls Tryd.prog 18 #[.string s, .int .i64 k] w fun e w' => e = .returned (.int .i64 (rightL (s.data.toList.drop k) : Nat)) ∧ w' = w := by
  have hl : s.data.toList.length = s.size := by simp
  obtain ⟨b0, h0⟩ : ∃ b, b = (s.data.toList.getD k 0).toNat := ⟨_, rfl⟩
  obtain ⟨b1, h1⟩ : ∃ b, b = (s.data.toList.getD (k + 1) 0).toNat := ⟨_, rfl⟩
  obtain ⟨b2, h2⟩ : ∃ b, b = (s.data.toList.getD (k + 2) 0).toNat := ⟨_, rfl⟩
  obtain ⟨b3, h3⟩ : ∃ b, b = (s.data.toList.getD (k + 3) 0).toNat := ⟨_, rfl⟩
  obtain ⟨n, hn⟩ : ∃ n, s.size = k + n := ⟨s.size - k, by omega⟩
  have hr : rightL (s.data.toList.drop k) = rightD (Lib.decodeN n b0 b1 b2 b3) := by
    have hd : Lib.decodeL (s.data.toList.drop k) = Lib.decodeN n b0 b1 b2 b3 := by
      rw [Lib.decodeL_drop, Lib.decode_N, hl, h0, h1, h2, h3, hn, show k + n - k = n from by omega]
    unfold rightL rightD
    rw [hd]
  have e0 : (s[k]'hk).toNat = b0 := by rw [h0]; exact byte_at s k hk
  have e1 : ∀ h : k + 1 < s.size, (s[k + 1]'h).toNat = b1 := fun h => by rw [h1]; exact byte_at s _ h
  have e2 : ∀ h : k + 2 < s.size, (s[k + 2]'h).toNat = b2 := fun h => by rw [h2]; exact byte_at s _ h
  have e3 : ∀ h : k + 3 < s.size, (s[k + 3]'h).toNat = b3 := fun h => by rw [h3]; exact byte_at s _ h
  have k0 : b0 < 256 := by rw [h0]; exact UInt8.toNat_lt _
  have k1 : b1 < 256 := by rw [h1]; exact UInt8.toNat_lt _
  have k2 : b2 < 256 := by rw [h2]; exact UInt8.toNat_lt _
  have k3 : b3 < 256 := by rw [h3]; exact UInt8.toNat_lt _
  clear h0 h1 h2 h3
  rw [hr]
  clear hr
  by_cases a : b0 < 128
  · rw [show rightD (Lib.decodeN n b0 b1 b2 b3) = 1 from by
      unfold Lib.decodeN rightD
      rw [if_pos a]
      simp
      omega]
    exact right_A w hk hs e0 a
  by_cases no : (128 ≤ b0 ∧ b0 < 194) ∨ 245 ≤ b0
  · rw [show rightD (Lib.decodeN n b0 b1 b2 b3) = 0 from by
      unfold Lib.decodeN rightD
      repeat' split
      all_goals first | rfl | (exfalso; simp_all; omega) | omega]
    exact right_no w hk hs e0 no
  by_cases c : 194 ≤ b0 ∧ b0 < 224
  · rw [← Lib.slow_C2 n b0 b1 b2 b3 (by omega) k1 k2 k3 c, rightD_slow _ _ _ _ _ _ _ _ (by omega)]
    exact right_C2 w hk hs hn e0 e1 e2 e3 c
  by_cases c : b0 = 224
  · rw [← Lib.slow_E0 n b0 b1 b2 b3 (by omega) k1 k2 k3 c, rightD_slow _ _ _ _ _ _ _ _ (by omega)]
    exact right_E0 w hk hs hn e0 e1 e2 e3 c
  by_cases c : (225 ≤ b0 ∧ b0 < 237) ∨ (238 ≤ b0 ∧ b0 < 240)
  · rw [← Lib.slow_E1 n b0 b1 b2 b3 (by omega) k1 k2 k3 c, rightD_slow _ _ _ _ _ _ _ _ (by omega)]
    exact right_E1 w hk hs hn e0 e1 e2 e3 c
  by_cases c : b0 = 237
  · rw [← Lib.slow_ED n b0 b1 b2 b3 (by omega) k1 k2 k3 c, rightD_slow _ _ _ _ _ _ _ _ (by omega)]
    exact right_ED w hk hs hn e0 e1 e2 e3 c
  by_cases c : b0 = 240
  · rw [← Lib.slow_F0 n b0 b1 b2 b3 (by omega) k1 k2 k3 c, rightD_slow _ _ _ _ _ _ _ _ (by omega)]
    exact right_F0 w hk hs hn e0 e1 e2 e3 c
  by_cases c : 241 ≤ b0 ∧ b0 < 244
  · rw [← Lib.slow_F1 n b0 b1 b2 b3 (by omega) k1 k2 k3 c, rightD_slow _ _ _ _ _ _ _ _ (by omega)]
    exact right_F1 w hk hs hn e0 e1 e2 e3 c
  by_cases c : b0 = 244
  · rw [← Lib.slow_F4 n b0 b1 b2 b3 (by omega) k1 k2 k3 c, rightD_slow _ _ _ _ _ _ _ _ (by omega)]
    exact right_F4 w hk hs hn e0 e1 e2 e3 c
  exact absurd k0 (by omega)
end Go.Proofs.YteijpcjhecmamaaDoor.Uf
