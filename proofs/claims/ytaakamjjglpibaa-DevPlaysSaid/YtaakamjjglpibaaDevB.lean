/-
  The device's calls that write: Append, Sync, Trim, Restart; and Bytes.
-/
import Derived.Test.YtaakamjjglpibaaDevA
namespace Go.Proofs.Ytaakamjjglpibaa.Dv
open Go.RowKit

def DS.appendE (s : DS) (xs : List Int) : Int := if s.off then 11 else if 60000 < s.bs.length + xs.length then 10 else if s.left = 0 then 11 else 0
def DS.append (s : DS) (xs : List Int) : DS := if s.off then s else if 60000 < s.bs.length + xs.length then s else if s.left = 0 then s.go else ⟨s.bs ++ xs, s.last, s.go.left, false⟩
def DS.syncE (s : DS) : Int := if s.off then 11 else if s.left = 0 then 11 else 0
def DS.sync (s : DS) : DS := if s.off then s else if s.left = 0 then s.go else ⟨s.bs, s.bs.length, s.go.left, false⟩
def DS.trimE (s : DS) (n : Int) : Int := if s.off then 11 else if n < 0 ∨ (s.bs.length : Int) < n then 1 else if s.left = 0 then 11 else 0
def DS.trim (s : DS) (n : Int) : DS := if s.off then s else if n < 0 ∨ (s.bs.length : Int) < n then s else if s.left = 0 then s.go else ⟨s.bs.take n.toNat, n.toNat, s.go.left, false⟩
def DS.kept (s : DS) (keep : Int) : Nat := s.last + min (max keep 0).toNat (s.bs.length - s.last)
def DS.restart (s : DS) (keep : Int) : DS := ⟨s.bs.take (s.kept keep), s.kept keep, -1, false⟩

theorem Reads.onlyAt {w w' : World} {B n : Nat} {A : Option Addr} {xs : List Value} {S : Nat → Prop} (h : Reads w B 1 A n xs) (hb : Only S w w') (hS : 0 < n → ∀ ad, A = some ad → ¬ S ad.block) : Reads w' B 1 A n xs :=
  ⟨h.1, fun hn => by
    obtain ⟨ad, e, hB, hc⟩ := h.2 hn
    refine ⟨ad, e, hB, fun j u hu => ?_⟩
    have h1 := hc j u hu
    have hlt := World.block_lt_of_cell? w _ h1
    rw [World.cell?_of_block (w := w) (hb.block _ hlt (by rw [block_of_add]; exact hS hn ad e))]
    exact h1⟩

/-- Bytes never lie in a device's own block. -/
theorem Reads.notDev {w : World} {B base d : Nat} {v : Value} {s : DS} {A : Option Addr} {xs : List Int} (h : Reads w B 1 A xs.length (cellsOf xs)) (hD : DevAt w base d v s) : 0 < xs.length → ∀ ad, A = some ad → ¬ ad.block = d := by
  intro hn ad he hb
  obtain ⟨ad', e, _, hc⟩ := h.2 hn
  rw [he] at e
  injection e with e
  subst e
  have h0 := hc 0 (.int .u8 (xs[0]'hn)) (by simp [cellsOf, List.getElem?_eq_getElem hn])
  have hsp := World.cell?_spot h0
  have ha : ad.add 0 = ad := by simp [Addr.add]
  rw [ha] at h0 hsp
  obtain ⟨b, o, sp⟩ := ad
  simp only at hsp hb
  subst hsp
  subst hb
  rw [hD.blk.cell o] at h0
  obtain ⟨a, c, rfl, _⟩ := hD.shape
  match o, h0 with
  | 0, h0 => simp at h0
  | 1, h0 => simp at h0
  | 2, h0 => simp at h0
  | 3, h0 => simp at h0
  | (k + 4), h0 => simp at h0

theorem Try.info5 : (Try.prog.info? 5).map (fun i => (i.zero, i.size, i.bytes)) = some (some (.int .u8 0), 1, 1) := by kernel_rfl

theorem own_shape {w : World} {base : Nat} {e : TypeId} {n : Nat} {v : Value} {xs : List Value} (h : w.ownsRow base e 1 v n xs) : ∃ (a : Option Addr) (c : Nat), v = .slice a n c ∧ n ≤ c ∧ c ≤ maxLen := by
  rcases h.2 with ⟨rfl, h0⟩ | ⟨g, cap, cur, rfl, _, _, h1, h2, _⟩
  · exact ⟨none, 0, by rw [h0], by omega, by decide⟩
  · exact ⟨_, cap, rfl, h1, h2⟩

/-- What a call on a device leaves: what it returns, the device's new state, and that nothing but the device's block and its row has turned. -/
def DevPost (w : World) (base d : Nat) (v : Value) (r : Value) (s : DS) (e : Ending) (w' : World) : Prop :=
  e = .returned r ∧ ∃ v', DevAt w' base d v' s ∧ Only (fun k => k = d ∨ v.ownBlock = some k) w w' ∧ (v'.ownBlock = v.ownBlock ∨ ∀ k, v'.ownBlock = some k → w.heap.size ≤ k)

theorem append_fin {w w1 w2 : World} {base d : Nat} {v v2 : Value} {bs xs : List Int} {last : Nat} {left : Int} (hD1 : DevAt w1 base d v (DS.go ⟨bs, last, left, false⟩)) (hO1 : Only (· = d) w w1)
    (hown2 : w2.ownsRow base 5 1 v2 (bs.length + xs.length) (cellsOf bs ++ cellsOf xs)) (hg2 : w1.grownBy w2 v.ownBlock) (hat2 : v2.ownBlock = v.ownBlock ∨ v2.ownBlock = some w1.heap.size) (hx : Bts xs) (hz : ¬ left = 0) (hf : ¬ 60000 < bs.length + xs.length) :
    ∃ v', DevAt (w2.setCell ⟨d, 0, none⟩ v2) base d v' (DS.append ⟨bs, last, left, false⟩ xs) ∧ Only (fun k => k = d ∨ v.ownBlock = some k) w (w2.setCell ⟨d, 0, none⟩ v2) ∧ (v'.ownBlock = v.ownBlock ∨ ∀ k, v'.ownBlock = some k → w.heap.size ≤ k) := by
  have hs : DS.append ⟨bs, last, left, false⟩ xs = ⟨bs ++ xs, last, (DS.go ⟨bs, last, left, false⟩).left, false⟩ := by
    simp only [DS.append]
    rw [if_neg (by simp), if_neg hf, if_neg hz]
  have B1 : Blk w1 d 60 #[v, .int .i64 last, .int .i64 (DS.go ⟨bs, last, left, false⟩).left, .bool (left == 0)] := hD1.blk
  have hne := hD1.ne
  have B2 := B1.grown hg2 hne.symm
  have h2ne : v2.ownBlock ≠ some d := own_blk_ne hown2 B2 (by decide)
  have hO2 : Only (fun k => k = d ∨ v.ownBlock = some k) w w2 := (hO1.mono fun _ _ h => .inl h).grown hg2 fun k hk _ => .inr hk
  have hz' : (left == 0) = false := by simp [hz]
  rw [hs]
  refine ⟨v2, ⟨?_, ?_, hD1.bd, ?_, ?_, hD1.left, hD1.most, ?_⟩, hO2.setCell (p := ⟨d, 0, none⟩) (fun _ => .inl rfl) _, ?_⟩
  · have h3 := B2.set_ 0 v2
    rw [hz'] at h3
    exact h3
  · have h4 := ownsRow_setCell_other hown2 (a := ⟨d, 0, none⟩) h2ne v2
    show World.ownsRow _ base 5 1 v2 (bs ++ xs).length (cellsOf (bs ++ xs))
    rw [List.length_append]
    unfold cellsOf at h4 ⊢
    rw [List.map_append]
    exact h4
  · have := hD1.last
    show last ≤ (bs ++ xs).length
    rw [List.length_append]
    exact Nat.le_trans this (Nat.le_add_right _ _)
  · show (bs ++ xs).length ≤ 60000
    rw [List.length_append]
    omega
  · intro x hxm
    rcases List.mem_append.1 hxm with h | h
    · exact hD1.byt x h
    · exact hx x h
  · rcases hat2 with h | h
    · exact .inl h
    · refine .inr fun k hk => ?_
      rw [h] at hk
      injection hk with hk
      subst hk
      exact hO1.size

theorem append_dev {w : World} {base d B c : Nat} {v : Value} {s : DS} {A : Option Addr} {xs : List Int} (hD : DevAt w base d v s) (hr : Reads w B 1 A xs.length (cellsOf xs)) (hx : Bts xs) (hbase : base ≤ w.heap.size) (hxs : xs.length ≤ 140737488351232) :
    Calls Try.prog 16 #[.pointer (some ⟨d, 0, none⟩), .slice A xs.length c] w (DevPost w base d v (.int .i64 (s.appendE xs)) (s.append xs)) := by
  obtain ⟨a, cap, rfl, hca, hcm⟩ := hD.shape
  have hND := hr.notDev hD
  have c0 := hD.blk.cell 0
  have c3 := hD.blk.cell 3
  simp at c0 c3
  have hlen := hD.len
  obtain ⟨bs, last, left, off⟩ := s
  simp only at c0 c3 hlen hca
  cases off with
  | true =>
    go_enter Try.func16, Try.ntmps16
    go_wp2_with fail
    go_ret
    exact ⟨rfl, _, hD, Only.refl _ _, .inl rfl⟩
  | false =>
    by_cases hf : 60000 < bs.length + xs.length
    · have hf' : (60000 : Int) < (bs.length : Int) + (xs.length : Int) := by omega
      go_enter Try.func16, Try.ntmps16
      go_wp2_with fail
      go_ret
      refine ⟨?_, .slice a bs.length cap, ?_, Only.refl _ _, .inl rfl⟩
      · simp only [DS.appendE]
        rw [if_neg (by simp), if_pos hf]
        rfl
      · simp only [DS.append]
        rw [if_neg (by simp), if_pos hf]
        exact hD
    · have hf' : (bs.length : Int) + (xs.length : Int) ≤ 60000 := by omega
      by_cases hz : left = 0
      · have hz' : (left == 0) = true := by simp [hz]
        have Hz := Lib.hid hz
        clear hz
        go_enter Try.func16, Try.ntmps16
        go_wp2_with fail
        refine (goes_dev hD).mono ?_
        rintro e w1 ⟨rfl, hD1, hO1⟩
        go_wp2_with fail
        go_ret
        refine ⟨?_, .slice a bs.length cap, ?_, hO1.mono fun _ _ h => .inl h, .inl rfl⟩
        · simp only [DS.appendE]
          rw [if_neg (by simp), if_neg hf, if_pos Hz.out]
          rfl
        · simp only [DS.append]
          rw [if_neg (by simp), if_neg hf, if_pos Hz.out]
          exact hD1
      · have hz' : (left == 0) = false := by simp [hz]
        have Hz := Lib.hid hz
        clear hz
        obtain ⟨i5, hi5, hz5, hs5, hb5⟩ := info_parts Try.info5
        go_enter Try.func16, Try.ntmps16
        go_wp2_with fail
        refine (goes_dev hD).mono ?_
        rintro e w1 ⟨rfl, hD1, hO1⟩
        have d0 := hD1.blk.cell 0
        simp at d0
        have hr1 := hr.onlyAt hO1 hND
        have Hf := Lib.hid hf
        clear hf
        have B1 := hD1.blk
        have hne := hD1.ne
        go_wp2_with (at_builtin; refine wpList_append_any _ rfl (.tmp 27) (.tmp 28) _ rfl base 5 i5 _ 1 1 Try.underlying22 hi5 hz5 hs5 hb5 rfl (by omega) (.slice a bs.length cap) bs.length (cellsOf bs) rfl hD1.own B A xs.length c (cellsOf xs) rfl hr1 (ints_oneCell _ _) (by simp only [maxLen]; omega) (by omega) (Nat.le_trans hbase hO1.size) ?_; intro v2 w2 hown2 hg2 hat2; have Hown2 := Lib.hid hown2; have Hg2 := Lib.hid hg2; have Hat2 := Lib.hid hat2; clear hown2 hg2 hat2; obtain ⟨a2, cap2, rfl, _, _⟩ := own_shape Hown2.out; have B2 := B1.grown Hg2.out hne.symm; have e0 := B2.cell 0; have f0 := B2.frozen 0; simp at e0)
        go_ret
        refine ⟨?_, append_fin hD1 hO1 Hown2.out Hg2.out Hat2.out hx Hz.out Hf.out⟩
        simp only [DS.appendE]
        rw [if_neg (by simp), if_neg Hf.out, if_neg Hz.out]
        rfl
end Go.Proofs.Ytaakamjjglpibaa.Dv
