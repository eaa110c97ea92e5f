/-
  The log on a device that is not armed; versolaw13's awake.
-/
import Derived.Test.YtaakamjjglpibaaFlogD
namespace Go.Proofs.Ytaakamjjglpibaa.Dv
open Go.RowKit

theorem free_log (bs : List Int) (last : Nat) (t : ByteArray) (ht : t.size ≤ 20000) (h : bs.length + (t.size + 3) ≤ 60000) : DS.log ⟨bs, last, -1, false⟩ t = ⟨bs ++ enc t, (bs ++ enc t).length, -1, false⟩ ∧ DS.logE ⟨bs, last, -1, false⟩ t = 0 := by
  have h1 := free_append bs (enc t) last (by rw [enc_len]; exact h)
  have h2 := free_sync (bs ++ enc t) last
  refine ⟨?_, ?_⟩
  · unfold DS.log
    rw [if_neg (by omega), if_neg (by rw [h1.2]; simp), h1.1, h2.1]
  · unfold DS.logE
    rw [if_neg (by omega), if_neg (by rw [h1.2]; simp), h1.1, h2.2]

/-- What a call leaves of other blocks. -/
theorem Only.blk {w w' : World} {base d L : Nat} {v : Value} {s : DS} {t : TypeId} {cs : Array Value} (hO : Only (fun k => k = d ∨ v.ownBlock = some k) w w') (hD : DevAt w base d v s) (hL : Blk w L t cs) (h1 : t ≠ 60) (h2 : t ≠ 5) : Blk w' L t cs :=
  hL.only hO fun h => by
    rcases h with h | h
    · exact hL.ne_ hD.blk h1 h
    · exact own_blk_ne hD.own hL (Ne.symm h2) h
theorem Only.row {w w' : World} {base b2 d n : Nat} {v vo : Value} {s : DS} {xs : List Value} (hO : Only (fun k => k = d ∨ v.ownBlock = some k) w w') (hD : DevAt w base d v s) (hR : w.ownsRow b2 9 1 vo n xs) : w'.ownsRow b2 9 1 vo n xs :=
  own_only hR hO fun k hk h => by
    rcases h with rfl | h
    · exact own_blk_ne hR hD.blk (by decide) hk
    · exact own_ne_own hR hD.own (by decide) hk h
theorem Only.devBelow {w w' : World} {base d : Nat} {v : Value} {s : DS} (hO : Only (fun k => k = d ∨ v.ownBlock = some k) w w') (hD : DevAt w base d v s) : Below base w w' :=
  hO.belowOf (by have := hD.blk.lt; have := hD.bd; omega) fun k hk => by
    rcases hk with rfl | hk
    · exact hD.bd
    · exact (hD.own.lt k hk).1

/-- Open of whole frames: nothing is trimmed. -/
def Opened (w : World) (base d : Nat) (v : Value) (s : DS) (l : List ByteArray) (e : Ending) (w' : World) : Prop :=
  ∃ (L : Nat) (ao : Option Addr) (c : Nat) (v' : Value), e = .returned (.tuple #[.pointer (some ⟨L, 0, none⟩), .slice ao l.length c, .int .i64 0]) ∧ DevAt w' base d v' s ∧ Blk w' L 65 #[.pointer (some ⟨d, 0, none⟩)] ∧
    w'.ownsRow w.heap.size 9 1 (.slice ao l.length c) l.length (strs l) ∧ Only (fun k => k = d ∨ v.ownBlock = some k) w w' ∧ (v'.ownBlock = v.ownBlock ∨ ∀ k, v'.ownBlock = some k → w.heap.size ≤ k)
theorem openF {w : World} {base d last : Nat} {v : Value} {bs : List Int} {s : DS} {l : List ByteArray} (hD : DevAt w base d v ⟨bs, last, -1, false⟩) (hl : texts bs = l) (hs : openS bs last = s) :
    Calls Try.prog 31 #[.pointer (some ⟨d, 0, none⟩)] w (Opened w base d v s l) :=
  (open_log hD).mono fun e w' ⟨L, vo, v', he, h1, h2, h3, h4, h5⟩ => by
    rw [hl] at h3
    obtain ⟨ao, c, rfl, _, _⟩ := own_shape h3
    exact ⟨L, ao, c, v', he, hs ▸ h1, h2, h3, h4, h5⟩
theorem logF {w : World} {base d L last : Nat} {v : Value} {bs : List Int} {s : DS} (t : ByteArray) (hD : DevAt w base d v ⟨bs, last, -1, false⟩) (hL : Blk w L 65 #[.pointer (some ⟨d, 0, none⟩)]) (ht : t.size ≤ 20000) (h : bs.length + (t.size + 3) ≤ 60000)
    (hs : s = ⟨bs ++ enc t, (bs ++ enc t).length, -1, false⟩) : Calls Try.prog 35 #[.pointer (some ⟨L, 0, none⟩), .string t] w (DevPost w base d v (.int .i64 0) s) := by
  have h1 := append_log t hD hL (by have := hD.blk.lt; have := hD.bd; omega)
  rw [(free_log bs last t ht h).1, (free_log bs last t ht h).2, ← hs] at h1
  exact h1

set_option maxRecDepth 100000 in
set_option maxHeartbeats 800000 in
theorem awake13 (w : World) : Calls Try.prog 30 #[] w fun e w' => e = .returned (.bool true) ∧ Below w.heap.size w w' := by
  obtain ⟨ab, hab⟩ : ∃ ab : ByteArray, ab = ⟨#[97, 98]⟩ := ⟨_, rfl⟩
  have hsz : ab.size = 2 := by rw [hab]; rfl
  have htx : texts ([] ++ enc ab) = [ab] := by
    rw [List.nil_append, show enc ab = enc ab ++ [] from by simp, (texts_enc ab [] (by omega)).1, texts_nil.1]
  have hen : ends ([] ++ enc ab) = ([] ++ enc ab).length := by
    rw [List.nil_append, show ends (enc ab) = ends (enc ab ++ []) from by simp, (texts_enc ab [] (by omega)).2, texts_nil.2, enc_len]
  obtain ⟨us, hus⟩ : ∃ us, us = [] ++ enc ab := ⟨_, rfl⟩
  rw [← hus] at htx hen
  have hul : us.length = 5 := by rw [hus, List.nil_append, enc_len, hsz]
  have Hus := Lib.hid hus
  have Hab := Lib.hid hab
  have Hall := Lib.hid (And.intro hsz (And.intro htx (And.intro hen hul)))
  clear hus hab hsz htx hen hul
  go_enter Try.func30, Try.ntmps30
  go_wp2_with fail
  refine (new_dev w).mono ?_
  rintro e w1 ⟨rfl, hD1, hb1⟩
  go_wp2_with fail
  refine (openF (s := ⟨[], 0, -1, false⟩) (l := []) hD1 texts_nil.1 (by unfold openS; rw [texts_nil.2]; rfl)).mono ?_
  rintro e w2 ⟨L, ao, c, v2, rfl, hD2, hL2, hs2, hO2, hv2⟩
  have Hb2 := Lib.hid (hb1.trans (hO2.devBelow hD1))
  clear hs2 hO2 hv2
  go_wp2_with fail
  rw [← Hab.out]
  refine (logF (s := ⟨us, us.length, -1, false⟩) ab hD2 hL2 (by rw [Hall.out.1]; omega) (by rw [Hall.out.1]; simp) (by rw [Hus.out])).mono ?_
  rintro e w3 ⟨rfl, v3, hD3, hO3, hv3⟩
  have Hb3 := Lib.hid (Hb2.out.trans ((hO3.devBelow hD2)))
  have hL3 := hO3.blk hD2 hL2 (by decide) (by decide)
  clear hO3 hv3
  go_wp2_with fail
  refine (openF (s := ⟨us, us.length, -1, false⟩) (l := [ab]) hD3 Hall.out.2.1 (by unfold openS; rw [Hall.out.2.2.1]; simp)).mono ?_
  rintro e w4 ⟨L4, ao4, c4, v4, rfl, hD4, hL4, hs4, hO4, hv4⟩
  have Hb4 := Lib.hid (Hb3.out.trans ((hO4.devBelow hD3)))
  obtain ⟨b4, o4, rfl, hc4⟩ := reads_at (Reads.of_own hs4) (show 0 < [ab].length by simp)
  have hc4' : w4.cell? ⟨b4, o4, none⟩ = some (.string ab) := hc4
  have hab2 : (ab.toList == [97, 98]) = true := by rw [Hab.out]; decide +kernel
  have HD4 := Lib.hid hD4
  clear hs4 hO4 hv4 hc4 hD4
  go_wp2_with fail
  refine (size_log HD4.out hL4).mono ?_
  rintro e w5 ⟨rfl, hb5⟩
  have Hb5 := Lib.hid (Hb4.out.trans (hb5.mono Hb4.out.size))
  rw [Hall.out.2.2.2]
  clear hb5
  go_wp2_with fail
  go_ret
  exact ⟨rfl, Hb5.out⟩
end Go.Proofs.Ytaakamjjglpibaa.Dv
