/-
  Texts of the proof of Chain, one behind the other: DomV, TagA, TagQ.
-/
import Derived.Test.YtlgaeeedkihfpaaGreatDoorC18
import Derived.Laws.CopyRow
import Derived.Test.YtlgaeeedkihfpaaGreatDoorC17
import Derived.Test.YtlgaeeedkihfpaaGreatDoorC11
/-
  dom's builder: end.
-/
namespace Go.Proofs.YtlgaeeedkihfpaaGreatDoor.Uf
open Go.RowKit
open Tz (B Atr Tok Nod El Bd innerO shutO shutN putO closeO)

theorem start_eq (bd : Bd) (name : B) (l : List Atr) : bd.start name l = Bd.count ⟨if Tz.voidL name then putO (.mk name l [] []) (st2 name (st1 name bd.open_)) else ⟨name, l, []⟩ :: st2 name (st1 name bd.open_), bd.many, bd.over⟩ := by
  rw [← st2_eq]
  rfl
theorem end_eq (bd : Bd) (name : B) : bd.end_ name = if (closeO name bd.open_).2 = true then { bd with open_ := (closeO name bd.open_).1 } else if name = Tz.pN then { bd.start name [] with open_ := (closeO name (bd.start name []).open_).1 } else if name = Tz.brN then bd.start name [] else bd := rfl
theorem Wt_st1 (name : B) (o : List El) : Wt (st1 name o) ≤ Wt o := by
  unfold st1
  split
  · exact Wt_close _ _
  · exact Nat.le_refl _
theorem Wt_st2 (name : B) (o : List El) : Wt (st2 name o) ≤ Wt o := by
  unfold st2
  split
  · exact Wt_close _ _
  · exact Nat.le_refl _
theorem st1_len (name : B) (o : List El) (h : 1 ≤ o.length) : 1 ≤ (st1 name o).length := by
  unfold st1
  split
  · exact closeO_len _ _ h
  · exact h
theorem st2_len (name : B) (o : List El) (h : 1 ≤ o.length) : 1 ≤ (st2 name o).length := by
  unfold st2
  split
  · exact closeO_len _ _ h
  · exact h
theorem start_len (bd : Bd) (name : B) (l : List Atr) (h : 1 ≤ bd.open_.length) : 1 ≤ (bd.start name l).open_.length := by
  rw [start_eq]
  have := st2_len name _ (st1_len name _ h)
  simp only [Bd.count]
  split
  · rw [putO_len]; exact this
  · simp
theorem Wt_start (bd : Bd) (name : B) (l : List Atr) : Wt (bd.start name l).open_ ≤ Wt bd.open_ + 1 := by
  rw [start_eq]
  have h1 := Wt_st1 name bd.open_
  have h2 := Wt_st2 name (st1 name bd.open_)
  simp only [Bd.count]
  split
  · have := Wt_put (.mk name l [] []) (st2 name (st1 name bd.open_))
    omega
  · have : Wt ((⟨name, l, []⟩ : El) :: st2 name (st1 name bd.open_)) = Wt (st2 name (st1 name bd.open_)) + 1 := by
      simp [Wt]
      omega
    omega
theorem closeO_false {name : B} {o : List El} (h : (closeO name o).2 = false) : (closeO name o).1 = o := by
  unfold closeO at h ⊢
  split at h
  · cases h
  · rfl
set_option maxRecDepth 100000 in
set_option maxHeartbeats 8000000 in
theorem end_u {w : World} {base b : Nat} {bd : Bd} {name : B} (h : BdM w base b bd) (ho : 1 ≤ bd.open_.length) (hw : Wt bd.open_ ≤ 4800000) (hm : bd.many ≤ 5400000) :
    Calls Tryz.prog 26 #[.pointer (some ⟨b, 0, none⟩), .string (bs name)] w fun e' w' => e' = .returned (.tuple #[]) ∧ Below base w w' ∧ BdM w' base b (bd.end_ name) := by
  obtain ⟨BE, hBE⟩ : ∃ BE : Bd, BE = bd.end_ name := ⟨_, rfl⟩
  rw [← hBE]
  have HBE := Lib.hid hBE
  clear hBE
  go_enter Tryz.func26, Tryz.ntmps26
  go_wp2_with fail
  refine (close_u (name := name) h (by omega) ho).mono ?_
  rintro e1 w1 ⟨rfl, hb1, hE1⟩
  cases hc : (closeO name bd.open_).2 with
  | true =>
    have HB : BE = { bd with open_ := (closeO name bd.open_).1 } := by rw [HBE.out]; rw [end_eq]; rw [hc]; rfl
    go_wp2_with fail
    refine bodyPost_ret (results_none rfl _ _ _) rfl ?_
    rw [HB]
    exact ⟨rfl, hb1, hE1⟩
  | false =>
    rw [closeO_false hc] at hE1
    have hM : BdM w1 base b bd := hE1
    have HC := Lib.hid hc
    clear hc hE1
    by_cases hp : name = [112]
    · subst hp
      have HB : BE = { bd.start [112] [] with open_ := (closeO Tz.pN (bd.start [112] []).open_).1 } := by rw [HBE.out]; rw [end_eq]; rw [HC.out]; rfl
      have HB := Lib.hid HB
      go_wp2_with fail
      refine (start_u (A := none) (c := 0) (l := []) hM ho (by omega) (by omega) Reads.none_ (by simp)).mono ?_
      rintro e2 w2 ⟨rfl, hb2, hM2⟩
      go_wp2_with fail
      refine (close_u (name := [112]) hM2 (by have := Wt_start bd [112] []; omega) (start_len _ _ _ ho)).mono ?_
      rintro e3 w3 ⟨rfl, hb3, hE3⟩
      go_wp2_with fail
      go_end0
      rw [HB.out]
      exact ⟨rfl, hb1.trans (hb2.trans hb3), hE3⟩
    · have hp1 : (name == [112]) = false := by simpa using hp
      by_cases hr : name = [98, 114]
      · subst hr
        have HB : BE = bd.start [98, 114] [] := by rw [HBE.out]; rw [end_eq]; rw [HC.out]; rfl
        have HB := Lib.hid HB
        go_wp2_with fail
        refine (start_u (A := none) (c := 0) (l := []) hM ho (by omega) (by omega) Reads.none_ (by simp)).mono ?_
        rintro e2 w2 ⟨rfl, hb2, hM2⟩
        go_wp2_with fail
        go_end0
        rw [HB.out]
        exact ⟨rfl, hb1.trans hb2, hM2⟩
      · have hr1 : (name == [98, 114]) = false := by simpa using hr
        have HB : BE = bd := by
          rw [HBE.out]
          rw [end_eq]
          rw [HC.out]
          show (if name = [112] then _ else if name = [98, 114] then _ else _) = _
          rw [if_neg hp, if_neg hr]
        have HB := Lib.hid HB
        go_wp2_with fail
        go_end0
        rw [HB.out]
        exact ⟨rfl, hb1, hM⟩
end Go.Proofs.YtlgaeeedkihfpaaGreatDoor.Uf

/-
  tok.reader's tag: what stands behind an attribute's name.
-/
namespace Go.Proofs.YtlgaeeedkihfpaaGreatDoor.Uf
open Go.RowKit
open Tz (B Atr Tok tagG tagL blankB attrC valC nameC addA resolveL)

def dropSeq : Nat → Code → Option Code
  | 0, c => some c
  | n + 1, .seq _ b => dropSeq n b
  | _, _ => none
noncomputable def tagA : Option Code := match tagB with | some c => dropSeq 6 c | none => none

theorem hm_pass {W W' : World} {r k : Nat} {s : B} {v : Value} {m : Int} (hm : W.cell? ⟨0, 0, none⟩ = some (.int .i64 m)) (hr : Rdr W r s k v) (ho : Only (fun b => b = r) W W') : W'.cell? ⟨0, 0, none⟩ = some (.int .i64 m) := by
  have h0 : 0 < W.heap.size := Nat.lt_of_le_of_lt (Nat.zero_le _) (heap_lt hr)
  have hne : (0 : Nat) ≠ r := by
    rintro rfl
    have := hr.c0
    rw [hm] at this
    injection this with this
    cases this
  have hb := ho.block 0 h0 hne
  unfold World.cell? at hm ⊢
  simp only [hb] at hm ⊢
  exact hm
theorem valR_none {x : B} (h : x.dropWhile blankB = []) : valR x = some ([], []) := by unfold valR; rw [h]
theorem valR_not {x u : B} {e : UInt8} (h : x.dropWhile blankB = e :: u) (he : e ≠ 61) : valR x = some ([], e :: u) := by unfold valR; rw [h]; simp only []; rw [if_pos he]
theorem valR_nil {x u : B} (h : x.dropWhile blankB = 61 :: u) (h2 : u.dropWhile blankB = []) : valR x = some (resolveL [], []) := by unfold valR; rw [h]; simp only []; rw [if_neg (by simp), h2]
theorem valR_quote {x u v : B} {q : UInt8} (h : x.dropWhile blankB = 61 :: u) (h2 : u.dropWhile blankB = q :: v) (hq : q = 34 ∨ q = 39) : valR x = if v.contains q then some (resolveL (v.takeWhile (· != q)), (v.dropWhile (· != q)).drop 1) else none := by
  unfold valR; rw [h]; simp only []; rw [if_neg (by simp), h2]; simp only []; rw [if_pos hq]
theorem valR_bare {x u v : B} {q : UInt8} (h : x.dropWhile blankB = 61 :: u) (h2 : u.dropWhile blankB = q :: v) (hq : ¬ (q = 34 ∨ q = 39)) : valR x = some (resolveL ((q :: v).takeWhile valC), (q :: v).dropWhile valC) := by
  unfold valR; rw [h]; simp only []; rw [if_neg (by simp), h2]; simp only []; rw [if_neg hq]
/-- What is left behind a name: none where the tag never ends. -/
def aftR (x : B) (cl : Bool) (l : List Atr) (n : B) : Option (Bool × List Atr × B) := match valR x with | some (v, y) => tagR y cl (addA l n v) | none => none

theorem indexL_one (q : UInt8) : ∀ l : B, l.contains q = true → Tz.indexL [q] l = some (l.takeWhile (· != q)).length
  | [], h => by simp at h
  | c :: l, h => by
    unfold Tz.indexL
    by_cases hc : q = c
    · subst hc
      simp [List.isPrefixOf, List.takeWhile]
    · have h1 : ([q] : B).isPrefixOf (c :: l) = false := by simp [List.isPrefixOf]; exact hc
      rw [if_neg (by rw [h1]; simp), indexL_one q l (by simpa [hc] using h), List.takeWhile_cons_of_pos (by simpa using fun e => hc e.symm)]
      simp
theorem dropW_none {q : UInt8} : ∀ {l : B}, l.contains q = false → l.dropWhile (· != q) = []
  | [], _ => rfl
  | c :: l, h => by
    simp only [List.contains_cons, Bool.or_eq_false_iff] at h
    rw [List.dropWhile_cons_of_pos (by have := h.1; rw [Bool.beq_comm] at this; simpa using this)]
    exact dropW_none h.2
theorem dropW_some {q : UInt8} : ∀ {l : B}, l.contains q = true → ∃ t, l.dropWhile (· != q) = q :: t
  | [], h => by simp at h
  | c :: l, h => by
    by_cases hc : q = c
    · subst hc
      exact ⟨l, by simp⟩
    · rw [List.dropWhile_cons_of_pos (by simpa using fun e => hc e.symm)]
      exact dropW_some (by simpa [hc] using h)
theorem ix_not {q : UInt8} {l : B} (h : l.contains q = false) : decide (ixB l (UInt8.ofNat q.toNat) < 0) = true := by
  rw [show UInt8.ofNat q.toNat = q by simp, ixB_none (dropW_none h)]
  rfl
theorem ix_is {q : UInt8} {l : B} (h : l.contains q = true) : decide (ixB l (UInt8.ofNat q.toNat) < 0) = false := by
  obtain ⟨t, ht⟩ := dropW_some h
  rw [show UInt8.ofNat q.toNat = q by simp, (ixB_some ht).1]
  simp
theorem take_takeW {p : UInt8 → Bool} (l : B) : l.take (l.takeWhile p).length = l.takeWhile p := by
  induction l with
  | nil => rfl
  | cons c l ih =>
    rw [List.takeWhile_cons]
    split
    · simp [ih]
    · rfl

set_option maxRecDepth 100000 in
set_option maxHeartbeats 8000000 in
theorem attr_w : ∃ N, tagA = some N ∧ ∀ {w W : World} {r k R2 T4 M5 A6 : Nat} {s nm n : B} {v va : Value} {cl : Bool} {l : List Atr} {RR : Option (Bool × List Atr × B)} {J' : Nat → Act → World → Prop} {t : Array Value} {m : Int}
    (_ : ∀ lb a w1, TagJ w r s v nm RR lb a w1 → k ≤ atOf w1 r → J' lb a w1) (_ : TagF r R2 T4 M5 A6 t) (_ : TagS w r s k v R2 T4 M5 A6 nm cl l va n [] W) (_ : k ≤ s.length) (_ : s.length ≤ 160000000)
    (_ : aftR (s.drop k) cl l n = RR) (_ : l.length + 1 ≤ k) (_ : n.length ≤ 1600000000) (_ : W.cell? ⟨0, 0, none⟩ = some (.int .i64 m)), N.wp Tryz.prog (exJumps J' (bodyPost Tryz.prog Tryz.f66 (TagPost w r s v nm RR))) ⟨t, []⟩ W := by
  refine ⟨_, rfl, ?_⟩
  intro w W r k R2 T4 M5 A6 s nm n v va cl l RR J' t m hJ hF hS hk hs hT hlk hn hm
  obtain ⟨hz, f0, f1, f2, f3, f4, f5, f6⟩ := hF
  obtain ⟨f, hf, ht⟩ := litf hz
  have g0 := (hf 0).trans f0
  have g1 := (hf 1).trans f1
  have g2 := (hf 2).trans f2
  have g3 := (hf 3).trans f3
  have g4 := (hf 4).trans f4
  have g5 := (hf 5).trans f5
  have g6 := (hf 6).trans f6
  rw [g0, g1, g2, g3, g4, g5, g6] at ht
  subst ht
  clear hf f0 f1 f2 f3 f4 f5 f6 g0 g1 g2 g3 g4 g5 g6
  clear hz
  have HT := Lib.hid hT
  have HJ := Lib.hid hJ
  clear hT hJ
  go_wp2_with fail
  refine (pass_u ent87 fun87 hS.rd hk (by omega)).mono ?_
  rintro e w1 ⟨rfl, hr1, ho1⟩
  have hk1 := pass_le (p := blankB) hk
  have hd1 := drop_pass (p := blankB) (s := s) k
  have hS1 := hS.pass ho1 hr1 (Nat.le_add_right _ _)
  have hm1 := hm_pass hm hS.rd ho1
  obtain ⟨k1, hk1e⟩ : ∃ k1, k1 = k + ((s.drop k).takeWhile blankB).length := ⟨_, rfl⟩
  rw [← hk1e] at hk1 hd1 hS1 hr1
  have hkk : k ≤ k1 := by omega
  have Hd1 := Lib.hid hd1
  clear hk1e hm ho1 hS hd1
  go_wp2_with fail
  refine (left_u hr1 hk1).mono ?_
  rintro e w2 ⟨rfl, n2, rfl⟩
  have hS2 := hS1.drewN n2
  have hm2 : (w1.drewN n2).cell? ⟨0, 0, none⟩ = some (.int .i64 m) := hm1
  clear hS1 hr1 hm1
  generalize w1.drewN n2 = W2 at hS2 hm2 ⊢
  go_wp2_with fail
  refine (has_prefix (s.drop k1) [61]).mono ?_
  rintro e w3 ⟨rfl, hw3⟩
  rw [hw3]
  clear hw3 w3
  have nogo : ∀ (a : Act), aftR (s.drop k) cl l n = tagR (s.drop k1) cl (addA l n []) → a.defers = [] → TagF r R2 T4 M5 A6 a.tmps → J' 1 a W2 := fun a h1 h2 h3 =>
    HJ.out 1 a _ ⟨R2, T4, M5, A6, cl, l, va, n, [], k1, h2, h3, hS2, hk1, .inr ⟨rfl, h1.symm.trans HT.out, by omega, hn⟩⟩ (by rw [hS2.rd.at_]; exact hkk)
  have Nogo := Lib.hid nogo
  clear nogo
  cases hd : s.drop k1 with
  | nil =>
    have hv : aftR (s.drop k) cl l n = tagR (s.drop k1) cl (addA l n []) := by unfold aftR; rw [valR_none (Hd1.out.symm.trans hd), hd]
    have Hv := Lib.hid hv
    have hp : ([61] : B).isPrefixOf [] = false := rfl
    rw [hp]
    clear hd hv hp
    go_wp2_with fail
    go_step3
    show J' 1 _ _
    exact Nogo.out _ Hv.out rfl ⟨rfl, rfl, rfl, rfl, rfl, rfl, rfl, rfl⟩
  | cons e u =>
    by_cases he : e = 61
    · subst he
      have hp : ([61] : B).isPrefixOf (61 :: u) = true := by simp [List.isPrefixOf]
      rw [hp]
      clear hp
      have hlt : k1 < s.length := by
        have := congrArg List.length hd
        simp at this
        omega
      have hu : s.drop (k1 + 1) = u := by
        rw [List.drop_eq_getElem_cons hlt] at hd
        injection hd
      have HV1 := Lib.hid (Hd1.out.symm.trans hd)
      have c1 := hS2.rd.c1
      have f1 := Blk.frozen hS2.rd.blk 1
      obtain ⟨K2, hK2⟩ : ∃ K2, K2 = k1 + 1 := ⟨_, rfl⟩
      have hw2 : IntKind.i64.wrap ((k1 : Int) + 1) = (K2 : Int) := by rw [IntKind.wrap_i64]; omega
      rw [← hK2] at hu
      have Hu := Lib.hid hu
      have hK2l : K2 ≤ s.length := by omega
      have hkK : k ≤ K2 := by omega
      have hS3 := hS2.go K2 (by omega)
      have hm3 : (W2.setCell ⟨r, 1, none⟩ (.int .i64 (K2 : Nat))).cell? ⟨0, 0, none⟩ = some (.int .i64 m) := hm_pass hm2 hS2.rd (only_set (Only.refl _ W2) 1 _)
      clear hu hd Hd1 Nogo hK2 hlt
      go_wp2_with fail
      clear c1 f1 hw2 hS2 hm2 hk1 hkk
      generalize W2.setCell ⟨r, 1, none⟩ (.int .i64 (K2 : Nat)) = W3 at hS3 hm3 ⊢
      refine (pass_u ent88 fun88 hS3.rd hK2l (by omega)).mono ?_
      rintro e w4 ⟨rfl, hr4, ho4⟩
      have hk3 := pass_le (p := blankB) hK2l
      have hd3 := drop_pass (p := blankB) (s := s) K2
      have hS4 := hS3.pass ho4 hr4 (Nat.le_add_right _ _)
      have hm4 := hm_pass hm3 hS3.rd ho4
      obtain ⟨k3, hk3e⟩ : ∃ k3, k3 = K2 + ((s.drop K2).takeWhile blankB).length := ⟨_, rfl⟩
      rw [← hk3e] at hk3 hd3 hS4 hr4
      have hkk3 : K2 ≤ k3 := by omega
      rw [Hu.out] at hd3
      have HV2 := Lib.hid hd3
      clear hk3e hm3 ho4 hS3 hd3
      go_wp2_with fail
      refine (left_u hr4 hk3).mono ?_
      rintro e w5 ⟨rfl, n5, rfl⟩
      have hS5 := hS4.drewN n5
      have hm5 : (w4.drewN n5).cell? ⟨0, 0, none⟩ = some (.int .i64 m) := hm4
      clear hS4 hr4 hm4
      generalize w4.drewN n5 = W5 at hS5 hm5 ⊢
      have bare : ∀ (a : Act), a.defers = [] → TagF r R2 T4 M5 A6 a.tmps → True := fun _ _ _ => trivial
      cases hz : s.drop k3 with
      | nil =>
        have e0 : (bs ([] : B)).size = 0 := rfl
        have HZ := Lib.hid hz
        clear hz
        go_wp2_with fail
        refine (pass_u ent89 fun89 hS5.rd hk3 (by omega)).mono ?_
        rintro e w6 ⟨rfl, hr6, ho6⟩
        have hk6 := pass_le (p := valC) hk3
        have hd6 := drop_pass (p := valC) (s := s) k3
        have hS6 := hS5.pass ho6 hr6 (Nat.le_add_right _ _)
        have HV := Lib.hid (show valR (s.drop k) = some (resolveL ((s.drop k3).takeWhile valC), (s.drop k3).dropWhile valC) by rw [valR_nil HV1.out (HV2.out.symm.trans HZ.out), HZ.out]; rfl)
        rw [← hd6] at HV
        obtain ⟨X, hX⟩ : ∃ X, X = (s.drop k3).takeWhile valC := ⟨_, rfl⟩
        rw [← hX] at hk6 hS6 HV
        have hXl : X.length ≤ 160000000 := by
          rw [hX]
          refine Nat.le_trans (takeW_le _) ?_
          simp
          omega
        have eX : (s.drop k3).takeWhile valC = X := hX.symm
        obtain ⟨k4, hk4e⟩ : ∃ k4, k4 = k3 + X.length := ⟨_, rfl⟩
        rw [← hk4e] at hk6 hS6 HV
        have hkk4 : k3 ≤ k4 := by omega
        clear hk4e hm5 ho6 hS5 hd6 hX hr6
        go_wp2_with fail
        refine (resolve_u X (by omega)).mono ?_
        rintro e w7 ⟨rfl, hb7⟩
        have hS7 := hS6.below hb7
        have c7 := Blk.cell hS7.cur 1
        have f7 := Blk.frozen hS7.cur 1
        clear hS6 hb7
        go_wp2_with fail
        go_step3
        rename_i hK
        refine hK _ _ ?_
        clear hK
        obtain ⟨N, hN, hnw⟩ := named_w
        refine wp_cast hN rfl (hnw (w := w) (RR := RR) (fun a w1 h1 h2 => HJ.out 0 a w1 h1 (by omega)) (show TagF r R2 T4 M5 A6 _ from ⟨rfl, rfl, rfl, rfl, rfl, rfl, rfl, rfl⟩) (hS7.cur_ 1 (.string (bs (resolveL X))) rfl) hk6 hs ?_ (by omega) hn)
        rw [← HT.out]
        unfold aftR
        rw [HV.out]
      | cons q x =>
        have e0 : ((q :: x : B) == []) = false := rfl
        have g0 : ((bs (q :: x))[0]'(by rw [bs_size]; simp)).toNat = q.toNat := rfl
        have i0 : (0 : Int) < ((bs (q :: x)).size : Int) := by rw [bs_size, List.length_cons]; omega
        have i0' : 0 < (bs (q :: x)).size := by rw [bs_size]; simp
        by_cases h34 : q.toNat = 34
        · have n34 : ((q.toNat : Int) == 34) = true := eqt h34
          have HZ := Lib.hid hz
          have hlt3 : k3 < s.length := by
            have := congrArg List.length hz
            simp at this
            omega
          have hx3 : s.drop (k3 + 1) = x := by
            rw [List.drop_eq_getElem_cons hlt3] at hz
            injection hz
          have Hq := Lib.hid (show q = 34 ∨ q = 39 from .inl (byte_is h34))
          have c1 := hS5.rd.c1
          have f1 := Blk.frozen hS5.rd.blk 1
          obtain ⟨K4, hK4⟩ : ∃ K4, K4 = k3 + 1 := ⟨_, rfl⟩
          have hw4 : IntKind.i64.wrap ((k3 : Int) + 1) = (K4 : Int) := by rw [IntKind.wrap_i64]; omega
          rw [← hK4] at hx3
          have Hx3 := Lib.hid hx3
          have hK4l : K4 ≤ s.length := by omega
          have hkK4 : k3 ≤ K4 := by omega
          have hlK : l.length + 1 ≤ K4 := by omega
          have hS6 := hS5.go K4 (by omega)
          have hm6 : (W5.setCell ⟨r, 1, none⟩ (.int .i64 (K4 : Nat))).cell? ⟨0, 0, none⟩ = some (.int .i64 m) := hm_pass hm5 hS5.rd (only_set (Only.refl _ W5) 1 _)
          clear hz hx3 hK4 hlt3 h34
          go_wp2_with fail
          clear c1 f1 hw4 hS5 hm5
          generalize W5.setCell ⟨r, 1, none⟩ (.int .i64 (K4 : Nat)) = W6 at hS6 hm6 ⊢
          have hLq : ∀ nn, Calls Tryz.prog 60 #[.pointer (some ⟨r, 0, none⟩)] (W6.drewN nn) fun e w'' => e = .returned (.string (bs (s.drop K4))) ∧ ∃ mm, w'' = W6.drewN mm := fun nn => Calls.quiet_of (left_u (hS6.rd.drewN nn) hK4l)
          have hIq : ∀ nn, Calls Tryz.prog 32 #[.string (bs (s.drop K4)), .int .u8 (q.toNat : Nat)] (W6.drewN nn) fun e w'' => e = .returned (.int .i64 (ixB (s.drop K4) (UInt8.ofNat q.toNat))) ∧ ∃ mm, w'' = W6.drewN mm := fun nn => Calls.quiet_of_same (index_byte (s.drop K4) q.toNat q.toNat_lt)
          obtain ⟨IX, hIX⟩ : ∃ IX, IX = ixB (s.drop K4) (UInt8.ofNat q.toNat) := ⟨_, rfl⟩
          rw [← hIX] at hIq
          cases hcon : (s.drop K4).contains q with
          | false =>
            have hix : decide (IX < 0) = true := by rw [hIX]; exact ix_not hcon
            have HRn := Lib.hid (show RR = none by
              rw [← HT.out]
              unfold aftR
              rw [valR_quote HV1.out (HV2.out.symm.trans HZ.out) Hq.out, ← Hx3.out, if_neg (by rw [hcon]; simp)])
            clear hcon hIX
            go_quiet (first | exact hLq _ | exact hIq _)
            have hS7 := hS6.drewN nq
            have hR2 : (W6.drewN nq).heap[R2]? = some (.cells zero55 55 (0, 0)) := hS7.res
            go_wp2_with (first
              | (with_reducible refine wpList_store_row rfl 55 (.tmp 2) (.tmp 134) rfl R2 zero55 rfl rfl 55 _ hR2 (by kernel_rfl) (by kernel_rfl) (by kernel_rfl) ?_
                 rw [setRow_self _ R2 zero55 55 (0, 0) hR2]))
            rw [exJumps_ret]
            refine bodyPost_ret (tag_ret (g := R2) (cs := zero55) rfl hR2 (by kernel_rfl)) rfl ?_
            rw [HRn.out]
            exact ⟨rfl, K4, hK4l, hS7.rd, hS7.on⟩
          | true =>
            have hix : decide (IX < 0) = false := by rw [hIX]; exact ix_is hcon
            have HC := Lib.hid hcon
            have hex : (bs (q :: x)).extract 0 1 = bs [q] := by rw [bs_upto]; rfl
            have hle0 : (0 : Int) ≤ 1 := by decide
            have hle1 : (1 : Int) ≤ ((bs (q :: x)).size : Int) := by rw [bs_size, List.length_cons]; omega
            have hle1' : 1 ≤ (bs (q :: x)).size := by rw [bs_size, List.length_cons]; omega
            clear hcon hIX
            go_quiet (first | exact hLq _ | exact hIq _)
            have hS7 := hS6.drewN nq
            have hm7 : (W6.drewN nq).cell? ⟨0, 0, none⟩ = some (.int .i64 m) := hm6
            clear hS6 hm6 hLq hIq hix
            generalize W6.drewN nq = W7 at hS7 hm7 ⊢
            go_wp2_with fail
            refine (over_u [q] hS7.rd hK4l (by omega) (by simp) hm7).mono ?_
            rintro e w8 ⟨rfl, hr8, ho8⟩
            have hoo : overOf s K4 [q] = (s.drop K4).takeWhile (· != q) := by
              unfold overOf
              rw [indexL_one q _ HC.out]
              exact take_takeW _
            have hot : overTo s K4 [q] = K4 + ((s.drop K4).takeWhile (· != q)).length + 1 := by
              unfold overTo
              rw [indexL_one q _ HC.out]
              rfl
            have hkl : K4 + ((s.drop K4).takeWhile (· != q)).length + 1 ≤ s.length := by
              have h1 := indexL_le (indexL_one q _ HC.out)
              rw [List.length_drop] at h1
              simp only [List.length_singleton] at h1
              omega
            have hdr : s.drop (K4 + ((s.drop K4).takeWhile (· != q)).length + 1) = ((s.drop K4).dropWhile (· != q)).drop 1 := by
              rw [← drop_pass (p := (· != q)), List.drop_drop]
            have hS8 := hS7.pass ho8 hr8 (by rw [hot]; omega)
            rw [hoo]
            rw [hot] at hS8
            have hXl : ((s.drop K4).takeWhile (· != q)).length ≤ 160000000 := by
              refine Nat.le_trans (takeW_le _) ?_
              simp
              omega
            have HV := Lib.hid (show valR (s.drop k) = some (resolveL ((s.drop K4).takeWhile (· != q)), s.drop (K4 + ((s.drop K4).takeWhile (· != q)).length + 1)) by
              rw [valR_quote HV1.out (HV2.out.symm.trans HZ.out) Hq.out, hdr, Hx3.out, if_pos (by rw [← Hx3.out]; exact HC.out)])
            generalize (s.drop K4).takeWhile (· != q) = X at hS8 HV hXl hkl ⊢
            obtain ⟨k9, hk9⟩ : ∃ k9, k9 = K4 + X.length + 1 := ⟨_, rfl⟩
            rw [← hk9] at hS8 HV hkl
            have hkk9 : k ≤ k9 := by omega
            have hlk9 : l.length + 1 ≤ k9 := by omega
            clear hk9 hm7 ho8 hS7 hr8 hoo hot hdr
            go_wp2_with fail
            refine (resolve_u X (by omega)).mono ?_
            rintro e w9 ⟨rfl, hb9⟩
            have hS9 := hS8.below hb9
            have c9 := Blk.cell hS9.cur 1
            have f9 := Blk.frozen hS9.cur 1
            clear hS8 hb9
            go_wp2_with fail
            go_step3
            show J' 1 _ _
            have hS10 := hS9.cur_ 1 (.string (bs (resolveL X))) (an' := n) (av' := resolveL X) rfl
            exact HJ.out 1 _ _ ⟨R2, T4, M5, A6, cl, l, va, n, resolveL X, k9, rfl, ⟨rfl, rfl, rfl, rfl, rfl, rfl, rfl, rfl⟩, hS10, hkl, .inr ⟨rfl, by rw [← HT.out]; unfold aftR; rw [HV.out], hlk9, hn⟩⟩ (by rw [hS10.rd.at_]; exact hkk9)
        · have n34 : ((q.toNat : Int) == 34) = false := eqf h34
          by_cases h39 : q.toNat = 39
          · have n39 : ((q.toNat : Int) == 39) = true := eqt h39
            have HZ := Lib.hid hz
            have hlt3 : k3 < s.length := by
              have := congrArg List.length hz
              simp at this
              omega
            have hx3 : s.drop (k3 + 1) = x := by
              rw [List.drop_eq_getElem_cons hlt3] at hz
              injection hz
            have Hq := Lib.hid (show q = 34 ∨ q = 39 from .inr (byte_is h39))
            have c1 := hS5.rd.c1
            have f1 := Blk.frozen hS5.rd.blk 1
            obtain ⟨K4, hK4⟩ : ∃ K4, K4 = k3 + 1 := ⟨_, rfl⟩
            have hw4 : IntKind.i64.wrap ((k3 : Int) + 1) = (K4 : Int) := by rw [IntKind.wrap_i64]; omega
            rw [← hK4] at hx3
            have Hx3 := Lib.hid hx3
            have hK4l : K4 ≤ s.length := by omega
            have hkK4 : k3 ≤ K4 := by omega
            have hlK : l.length + 1 ≤ K4 := by omega
            have hS6 := hS5.go K4 (by omega)
            have hm6 : (W5.setCell ⟨r, 1, none⟩ (.int .i64 (K4 : Nat))).cell? ⟨0, 0, none⟩ = some (.int .i64 m) := hm_pass hm5 hS5.rd (only_set (Only.refl _ W5) 1 _)
            clear hz hx3 hK4 hlt3 h39
            go_wp2_with fail
            clear c1 f1 hw4 hS5 hm5
            generalize W5.setCell ⟨r, 1, none⟩ (.int .i64 (K4 : Nat)) = W6 at hS6 hm6 ⊢
            have hLq : ∀ nn, Calls Tryz.prog 60 #[.pointer (some ⟨r, 0, none⟩)] (W6.drewN nn) fun e w'' => e = .returned (.string (bs (s.drop K4))) ∧ ∃ mm, w'' = W6.drewN mm := fun nn => Calls.quiet_of (left_u (hS6.rd.drewN nn) hK4l)
            have hIq : ∀ nn, Calls Tryz.prog 32 #[.string (bs (s.drop K4)), .int .u8 (q.toNat : Nat)] (W6.drewN nn) fun e w'' => e = .returned (.int .i64 (ixB (s.drop K4) (UInt8.ofNat q.toNat))) ∧ ∃ mm, w'' = W6.drewN mm := fun nn => Calls.quiet_of_same (index_byte (s.drop K4) q.toNat q.toNat_lt)
            obtain ⟨IX, hIX⟩ : ∃ IX, IX = ixB (s.drop K4) (UInt8.ofNat q.toNat) := ⟨_, rfl⟩
            rw [← hIX] at hIq
            cases hcon : (s.drop K4).contains q with
            | false =>
              have hix : decide (IX < 0) = true := by rw [hIX]; exact ix_not hcon
              have HRn := Lib.hid (show RR = none by
                rw [← HT.out]
                unfold aftR
                rw [valR_quote HV1.out (HV2.out.symm.trans HZ.out) Hq.out, ← Hx3.out, if_neg (by rw [hcon]; simp)])
              clear hcon hIX
              go_quiet (first | exact hLq _ | exact hIq _)
              have hS7 := hS6.drewN nq
              have hR2 : (W6.drewN nq).heap[R2]? = some (.cells zero55 55 (0, 0)) := hS7.res
              go_wp2_with (first
                | (with_reducible refine wpList_store_row rfl 55 (.tmp 2) (.tmp 134) rfl R2 zero55 rfl rfl 55 _ hR2 (by kernel_rfl) (by kernel_rfl) (by kernel_rfl) ?_
                   rw [setRow_self _ R2 zero55 55 (0, 0) hR2]))
              rw [exJumps_ret]
              refine bodyPost_ret (tag_ret (g := R2) (cs := zero55) rfl hR2 (by kernel_rfl)) rfl ?_
              rw [HRn.out]
              exact ⟨rfl, K4, hK4l, hS7.rd, hS7.on⟩
            | true =>
              have hix : decide (IX < 0) = false := by rw [hIX]; exact ix_is hcon
              have HC := Lib.hid hcon
              have hex : (bs (q :: x)).extract 0 1 = bs [q] := by rw [bs_upto]; rfl
              have hle0 : (0 : Int) ≤ 1 := by decide
              have hle1 : (1 : Int) ≤ ((bs (q :: x)).size : Int) := by rw [bs_size, List.length_cons]; omega
              have hle1' : 1 ≤ (bs (q :: x)).size := by rw [bs_size, List.length_cons]; omega
              clear hcon hIX
              go_quiet (first | exact hLq _ | exact hIq _)
              have hS7 := hS6.drewN nq
              have hm7 : (W6.drewN nq).cell? ⟨0, 0, none⟩ = some (.int .i64 m) := hm6
              clear hS6 hm6 hLq hIq hix
              generalize W6.drewN nq = W7 at hS7 hm7 ⊢
              go_wp2_with fail
              refine (over_u [q] hS7.rd hK4l (by omega) (by simp) hm7).mono ?_
              rintro e w8 ⟨rfl, hr8, ho8⟩
              have hoo : overOf s K4 [q] = (s.drop K4).takeWhile (· != q) := by
                unfold overOf
                rw [indexL_one q _ HC.out]
                exact take_takeW _
              have hot : overTo s K4 [q] = K4 + ((s.drop K4).takeWhile (· != q)).length + 1 := by
                unfold overTo
                rw [indexL_one q _ HC.out]
                rfl
              have hkl : K4 + ((s.drop K4).takeWhile (· != q)).length + 1 ≤ s.length := by
                have h1 := indexL_le (indexL_one q _ HC.out)
                rw [List.length_drop] at h1
                simp only [List.length_singleton] at h1
                omega
              have hdr : s.drop (K4 + ((s.drop K4).takeWhile (· != q)).length + 1) = ((s.drop K4).dropWhile (· != q)).drop 1 := by
                rw [← drop_pass (p := (· != q)), List.drop_drop]
              have hS8 := hS7.pass ho8 hr8 (by rw [hot]; omega)
              rw [hoo]
              rw [hot] at hS8
              have hXl : ((s.drop K4).takeWhile (· != q)).length ≤ 160000000 := by
                refine Nat.le_trans (takeW_le _) ?_
                simp
                omega
              have HV := Lib.hid (show valR (s.drop k) = some (resolveL ((s.drop K4).takeWhile (· != q)), s.drop (K4 + ((s.drop K4).takeWhile (· != q)).length + 1)) by
                rw [valR_quote HV1.out (HV2.out.symm.trans HZ.out) Hq.out, hdr, Hx3.out, if_pos (by rw [← Hx3.out]; exact HC.out)])
              generalize (s.drop K4).takeWhile (· != q) = X at hS8 HV hXl hkl ⊢
              obtain ⟨k9, hk9⟩ : ∃ k9, k9 = K4 + X.length + 1 := ⟨_, rfl⟩
              rw [← hk9] at hS8 HV hkl
              have hkk9 : k ≤ k9 := by omega
              have hlk9 : l.length + 1 ≤ k9 := by omega
              clear hk9 hm7 ho8 hS7 hr8 hoo hot hdr
              go_wp2_with fail
              refine (resolve_u X (by omega)).mono ?_
              rintro e w9 ⟨rfl, hb9⟩
              have hS9 := hS8.below hb9
              have c9 := Blk.cell hS9.cur 1
              have f9 := Blk.frozen hS9.cur 1
              clear hS8 hb9
              go_wp2_with fail
              go_step3
              show J' 1 _ _
              have hS10 := hS9.cur_ 1 (.string (bs (resolveL X))) (an' := n) (av' := resolveL X) rfl
              exact HJ.out 1 _ _ ⟨R2, T4, M5, A6, cl, l, va, n, resolveL X, k9, rfl, ⟨rfl, rfl, rfl, rfl, rfl, rfl, rfl, rfl⟩, hS10, hkl, .inr ⟨rfl, by rw [← HT.out]; unfold aftR; rw [HV.out], hlk9, hn⟩⟩ (by rw [hS10.rd.at_]; exact hkk9)
          · have n39 : ((q.toNat : Int) == 39) = false := eqf h39
            have HZ := Lib.hid hz
            have hnq : ¬ (q = 34 ∨ q = 39) := by
              rintro (h | h)
              · exact h34 (by rw [h]; rfl)
              · exact h39 (by rw [h]; rfl)
            have Hnq := Lib.hid hnq
            clear hz h34 h39 hnq
            go_wp2_with fail
            refine (pass_u ent89 fun89 hS5.rd hk3 (by omega)).mono ?_
            rintro e w6 ⟨rfl, hr6, ho6⟩
            have hk6 := pass_le (p := valC) hk3
            have hd6 := drop_pass (p := valC) (s := s) k3
            have hS6 := hS5.pass ho6 hr6 (Nat.le_add_right _ _)
            have HV := Lib.hid (show valR (s.drop k) = some (resolveL ((s.drop k3).takeWhile valC), (s.drop k3).dropWhile valC) by rw [valR_bare HV1.out (HV2.out.symm.trans HZ.out) Hnq.out, HZ.out])
            rw [← hd6] at HV
            obtain ⟨X, hX⟩ : ∃ X, X = (s.drop k3).takeWhile valC := ⟨_, rfl⟩
            rw [← hX] at hk6 hS6 HV
            have hXl : X.length ≤ 160000000 := by
              rw [hX]
              refine Nat.le_trans (takeW_le _) ?_
              simp
              omega
            have eX : (s.drop k3).takeWhile valC = X := hX.symm
            obtain ⟨k4, hk4e⟩ : ∃ k4, k4 = k3 + X.length := ⟨_, rfl⟩
            rw [← hk4e] at hk6 hS6 HV
            have hkk4 : k3 ≤ k4 := by omega
            clear hk4e hm5 ho6 hS5 hd6 hX hr6
            go_wp2_with fail
            refine (resolve_u X (by omega)).mono ?_
            rintro e w7 ⟨rfl, hb7⟩
            have hS7 := hS6.below hb7
            have c7 := Blk.cell hS7.cur 1
            have f7 := Blk.frozen hS7.cur 1
            clear hS6 hb7
            go_wp2_with fail
            go_step3
            rename_i hK
            refine hK _ _ ?_
            clear hK
            obtain ⟨N, hN, hnw⟩ := named_w
            refine wp_cast hN rfl (hnw (w := w) (RR := RR) (fun a w1 h1 h2 => HJ.out 0 a w1 h1 (by omega)) (show TagF r R2 T4 M5 A6 _ from ⟨rfl, rfl, rfl, rfl, rfl, rfl, rfl, rfl⟩) (hS7.cur_ 1 (.string (bs (resolveL X))) rfl) hk6 hs ?_ (by omega) hn)
            rw [← HT.out]
            unfold aftR
            rw [HV.out]
    · have hv : aftR (s.drop k) cl l n = tagR (s.drop k1) cl (addA l n []) := by unfold aftR; rw [valR_not (Hd1.out.symm.trans hd) he, hd]
      have Hv := Lib.hid hv
      have hp : ([61] : B).isPrefixOf (e :: u) = false := by simp [List.isPrefixOf]; exact fun h => he h.symm
      rw [hp]
      clear hd hv hp
      go_wp2_with fail
      go_step3
      show J' 1 _ _
      exact Nogo.out _ Hv.out rfl ⟨rfl, rfl, rfl, rfl, rfl, rfl, rfl, rfl⟩
end Go.Proofs.YtlgaeeedkihfpaaGreatDoor.Uf

/-
  tok.reader's tag: an attribute's name is read.
-/
namespace Go.Proofs.YtlgaeeedkihfpaaGreatDoor.Uf
open Go.RowKit
open Tz (B Atr Tok tagG tagL blankB attrC valC nameC addA resolveL)

noncomputable def tagQ : Option Code := match tagB with | some c => dropSeq 5 c | none => none
theorem low_len (l : B) : (Tz.lowL l).length = l.length := by unfold Tz.lowL; simp
theorem hm_set {w W : World} {r k R2 T4 M5 A6 : Nat} {s nm an av : B} {v va : Value} {cl : Bool} {l : List Atr} {m : Int} {i : Nat} {u : Value} (hm : W.cell? ⟨0, 0, none⟩ = some (.int .i64 m)) (hS : TagS w r s k v R2 T4 M5 A6 nm cl l va an av W) : (W.setCell ⟨A6, i, none⟩ u).cell? ⟨0, 0, none⟩ = some (.int .i64 m) := by
  refine (World.cell?_setCell_other W ⟨A6, i, none⟩ ⟨0, 0, none⟩ u ?_).trans hm
  intro e
  injection e with e1 e2
  subst e1
  have := Blk.cell hS.cur 0
  rw [hm] at this
  simp at this

theorem wp_cast2 {P : Program} {x : Option Code} {b n c m : Code} {Q : Exit → Act → World → Prop} {K1 : Act → World → Prop} {a : Act} {w : World} (h1 : x = some (.seq b n)) (h2 : x = some (.seq c m)) (hk : ∀ a w, m.wp P Q a w → K1 a w)
    (h : ∀ K1, (∀ a w, n.wp P Q a w → K1 a w) → b.wp P (Exit.then K1 Q) a w) : c.wp P (Exit.then K1 Q) a w := by
  rw [h1] at h2
  injection h2 with h2
  injection h2 with h3 h4
  subst h3 h4
  exact h _ hk

set_option maxRecDepth 100000 in
set_option maxHeartbeats 8000000 in
theorem name_w : ∃ R N, tagQ = some (.seq R N) ∧ ∀ {w W : World} {r k R2 T4 M5 A6 : Nat} {s nm : B} {c : UInt8} {v va : Value} {cl : Bool} {l : List Atr} {RR : Option (Bool × List Atr × B)} {J' : Nat → Act → World → Prop} {t : Array Value} {m : Int}
    (_ : ∀ lb a w1, TagJ w r s v nm RR lb a w1 → k ≤ atOf w1 r → J' lb a w1) (_ : TagF r R2 T4 M5 A6 t) (_ : TagS w r s k v R2 T4 M5 A6 nm cl l va [c] [] W) (_ : k ≤ s.length) (_ : s.length ≤ 160000000)
    (_ : aftR ((s.drop k).dropWhile attrC) cl l (Tz.lowL (c :: (s.drop k).takeWhile attrC)) = RR) (_ : l.length + 1 ≤ k) (_ : W.cell? ⟨0, 0, none⟩ = some (.int .i64 m)), ∀ K1, (∀ a w1, N.wp Tryz.prog (exJumps J' (bodyPost Tryz.prog Tryz.f66 (TagPost w r s v nm RR))) a w1 → K1 a w1) → R.wp Tryz.prog (Exit.then K1 (exJumps J' (bodyPost Tryz.prog Tryz.f66 (TagPost w r s v nm RR)))) ⟨t, []⟩ W := by
  refine ⟨_, _, rfl, ?_⟩
  intro w W r k R2 T4 M5 A6 s nm c v va cl l RR J' t m hJ hF hS hk hs hT hlk hm K1 hK1
  obtain ⟨hz, f0, f1, f2, f3, f4, f5, f6⟩ := hF
  obtain ⟨f, hf, ht⟩ := litf hz
  have g0 := (hf 0).trans f0
  have g1 := (hf 1).trans f1
  have g2 := (hf 2).trans f2
  have g3 := (hf 3).trans f3
  have g4 := (hf 4).trans f4
  have g5 := (hf 5).trans f5
  have g6 := (hf 6).trans f6
  rw [g0, g1, g2, g3, g4, g5, g6] at ht
  subst ht
  clear hf f0 f1 f2 f3 f4 f5 f6 g0 g1 g2 g3 g4 g5 g6
  clear hz
  have hrl : ((s.drop k).takeWhile attrC).length ≤ 160000000 := by
    refine Nat.le_trans (takeW_le _) ?_
    simp
    omega
  refine wp_region_late (z := 7) (S := fun W => W.cell? ⟨A6, 0, none⟩ = some (.string (bs [c]))) (by kernel_rfl) (show W.drew.cell? ⟨A6, 0, none⟩ = some (.string (bs [c])) from Blk.cell hS.cur 0) (fun hHeld => ?_)
  refine wpAnyJ_take (i := 0) (oi := { dst := some 85, op := Go.Op.fieldAddr 57 (Go.Operand.tmp 6) 0, type := 0, pos := "tok.go:102", after := #[], guard := none }) (v := ?_) rfl (by kernel_rfl) (by kernel_rfl) (by kernel_rfl) (by kernel_rfl) (fun _ _ _ h => h) (Or.inl ⟨by rfl, ?_⟩) (by assumption) ?_
  rotate_left
  · intro w hSw
    go_simp
    try with_reducible rfl
  try simp only [Act.put, List.setIfInBounds_toArray, List.set_cons_zero, List.set_cons_succ]
  refine wpAnyJ_take (i := 1) (oi := { dst := some 86, op := Go.Op.load 9 (Go.Operand.tmp 85), type := 9, pos := "tok.go:102", after := #[{ on := 0, ground := Go.Ground.data }], guard := none }) (v := ?_) rfl (by kernel_rfl) (by kernel_rfl) (by kernel_rfl) (by kernel_rfl) (fun _ _ _ h => h) (Or.inl ⟨by rfl, ?_⟩) (by assumption) ?_
  rotate_left
  · intro w hSw
    go_simp
    try with_reducible rfl
  try simp only [Act.put, List.setIfInBounds_toArray, List.set_cons_zero, List.set_cons_succ]
  refine wpAnyJ_take (i := 2) (oi := { dst := some 87, op := Go.Op.move (Go.Operand.tmp 0), type := 69, pos := "tok.go:102", after := #[], guard := none }) (v := ?_) rfl (by kernel_rfl) (by kernel_rfl) (by kernel_rfl) (by kernel_rfl) (fun _ _ _ h => h) (Or.inl ⟨by rfl, ?_⟩) (by assumption) ?_
  rotate_left
  · intro w hSw
    go_simp
    try with_reducible rfl
  try simp only [Act.put, List.setIfInBounds_toArray, List.set_cons_zero, List.set_cons_succ]
  refine wpAnyJ_one (i := 3) (o := { dst := some 88, op := Go.Op.call { callee := Go.Callee.value (Go.Operand.func 82), args := #[Go.Operand.tmp 87, Go.Operand.func 86], argTypes := #[69, 109] }, type := 9, pos := "tok.go:102", after := #[{ on := 2, ground := Go.Ground.data }], guard := none }) (by kernel_rfl) (by decide) rfl (fun K hK => ?_)
  go_simp
  refine (pass_u ent86 fun86 (hS.drewN 1).rd hk (by omega)).mono ?_
  rintro e w6 ⟨rfl, hr6, ho6⟩
  have hS6 := (hS.drewN 1).pass ho6 hr6 (Nat.le_add_right _ _)
  have hm6 := hm_pass (show (W.drewN 1).cell? ⟨0, 0, none⟩ = some (.int .i64 m) from hm) (hS.drewN 1).rd ho6
  refine hK.out _ _ (show w6.cell? ⟨A6, 0, none⟩ = some (.string (bs [c])) from Blk.cell hS6.cur 0) (fun hHeld => ?_)
  clear hK K
  try simp only [Act.put, List.setIfInBounds_toArray, List.set_cons_zero, List.set_cons_succ]
  have hap : bs [c] ++ bs ((s.drop k).takeWhile attrC) = bs (c :: (s.drop k).takeWhile attrC) := bs_append _ _
  have hsz : ¬ (9223372036854775807 < (bs [c]).size + (bs ((s.drop k).takeWhile attrC)).size) := by rw [bs_size, bs_size, List.length_singleton]; omega
  refine wpAnyJ_one (i := 4) (o := { dst := some 89, op := Go.Op.binOp Go.BinOp.add 9 (Go.Operand.tmp 86) (Go.Operand.tmp 88) 9, type := 9, pos := "tok.go:102", after := #[{ on := 1, ground := Go.Ground.data }, { on := 3, ground := Go.Ground.data }], guard := none }) (by kernel_rfl) (by decide) rfl (fun K hK => ?_)
  go_simp
  refine hK.out _ _ (show w6.cell? ⟨A6, 0, none⟩ = some (.string (bs [c])) from Blk.cell hS6.cur 0) (fun hHeld => ?_)
  clear hK K
  try simp only [Act.put, List.setIfInBounds_toArray, List.set_cons_zero, List.set_cons_succ]
  refine wpAnyJ_one (i := 5) (o := { dst := some 90, op := Go.Op.call { callee := Go.Callee.value (Go.Operand.func 81), args := #[Go.Operand.tmp 89], argTypes := #[9] }, type := 9, pos := "tok.go:102", after := #[{ on := 4, ground := Go.Ground.data }, { on := 3, ground := Go.Ground.chain }], guard := none }) (by kernel_rfl) (by decide) rfl (fun K hK => ?_)
  go_simp
  refine (lower_b (c :: (s.drop k).takeWhile attrC) (by rw [List.length_cons]; omega)).mono ?_
  rintro e w7 ⟨rfl, hb7⟩
  have hS7 := hS6.below hb7
  have hm7 : w7.cell? ⟨0, 0, none⟩ = some (.int .i64 m) := (hb7.cell (show (0 : Nat) < _ from Nat.lt_of_le_of_lt (Nat.zero_le _) (heap_lt hS6.rd))).trans hm6
  refine hK.out _ _ (show w7.cell? ⟨A6, 0, none⟩ = some (.string (bs [c])) from Blk.cell hS7.cur 0) (fun hHeld => ?_)
  clear hK K
  try simp only [Act.put, List.setIfInBounds_toArray, List.set_cons_zero, List.set_cons_succ]
  refine wpAnyJ_take (i := 6) (oi := { dst := some 91, op := Go.Op.fieldAddr 57 (Go.Operand.tmp 6) 0, type := 0, pos := "tok.go:102", after := #[{ on := 0, ground := Go.Ground.phase }, { on := 1, ground := Go.Ground.phase }, { on := 2, ground := Go.Ground.phase }, { on := 3, ground := Go.Ground.phase }, { on := 4, ground := Go.Ground.phase }, { on := 5, ground := Go.Ground.phase }], guard := none }) (v := ?_) rfl (by kernel_rfl) (by kernel_rfl) (by kernel_rfl) (by kernel_rfl) (fun _ _ _ h => h) (Or.inl ⟨by rfl, ?_⟩) (by assumption) ?_
  rotate_left
  · intro w hSw
    go_simp
    try with_reducible rfl
  try simp only [Act.put, List.setIfInBounds_toArray, List.set_cons_zero, List.set_cons_succ]
  have c7 := Blk.cell hS7.cur 0
  have f7 := Blk.frozen hS7.cur 0
  refine wpAnyJ_last (o := { dst := none, op := Go.Op.store 9 (Go.Operand.tmp 91) (Go.Operand.tmp 90), type := 0, pos := "tok.go:102", after := #[{ on := 6, ground := Go.Ground.data }, { on := 5, ground := Go.Ground.data }, { on := 5, ground := Go.Ground.chain }, { on := 0, ground := Go.Ground.phase }, { on := 1, ground := Go.Ground.phase }, { on := 2, ground := Go.Ground.phase }, { on := 3, ground := Go.Ground.phase }, { on := 4, ground := Go.Ground.phase }, { on := 5, ground := Go.Ground.phase }], guard := none }) (by kernel_rfl) rfl (fun K hK => ?_)
  go_simp
  refine hK.out _ _ ?_
  clear hK K
  refine wpAnyJ_done (by kernel_rfl) ?_ _
  refine hK1 _ _ ?_
  obtain ⟨N, hN, hnw⟩ := attr_w
  have hS8 := hS7.cur_ 0 (.string (bs (Tz.lowL (c :: (s.drop k).takeWhile attrC)))) (an' := Tz.lowL (c :: (s.drop k).takeWhile attrC)) (av' := []) rfl
  refine wp_cast hN rfl (hnw (w := w) (RR := RR) (m := m) (fun lb a w1 h1 h2 => hJ lb a w1 h1 (by omega)) (show TagF r R2 T4 M5 A6 _ from ⟨rfl, rfl, rfl, rfl, rfl, rfl, rfl, rfl⟩) hS8 (pass_le hk) hs ?_ (by omega) ?_ (hm_set hm7 hS7))
  · rw [drop_pass]
    exact hT
  · rw [low_len, List.length_cons]
    omega
end Go.Proofs.YtlgaeeedkihfpaaGreatDoor.Uf
