/-
  Texts of the proof of Chain, one behind the other: PolB, PolC, PolD.
-/
import Derived.Test.YtlgaeeedkihfpaaGreatDoorC23
import Derived.Test.YtlgaeeedkihfpaaGreatDoorC13
/-
  policy.list.
-/
namespace Go.Proofs.YtlgaeeedkihfpaaGreatDoor.Uf
open Go.RowKit
open Tz (B ltL risesL listOk)

/-- A function value that tests a text and leaves the world as it is, but for drawn orders. -/
def FTests (w : World) (f : FuncId) (cap : Array Value) (p : B → Bool) : Prop := Ent f ∧ ∀ s : B, s.length ≤ 600000000 → ∀ n0, Calls Tryz.prog f (#[.string (bs s)] ++ cap) (w.drewN n0) fun e w' => e = .returned (.bool (p s)) ∧ ∃ n, w' = w.drewN n

theorem less_eq : ∀ a b : B, Op.bytesLess a b = ltL a b
  | [], [] => rfl
  | _ :: _, [] => rfl
  | [], _ :: _ => rfl
  | a :: s, b :: t => by
    have ih := less_eq s t
    unfold ltL
    rw [← ih]
    conv => lhs; unfold Op.bytesLess
    by_cases h1 : a.toNat < b.toNat
    · simp [h1, UInt8.lt_iff_toNat_lt]
    · by_cases h2 : b.toNat < a.toNat
      · simp [h1, h2, UInt8.lt_iff_toNat_lt]
        intro h; subst h; omega
      · have : a = b := UInt8.toNat_inj.1 (by omega)
        subst this
        simp
theorem rises_iff : ∀ l : List B, risesL l = true ↔ ∀ j, j + 1 < l.length → ltL (l.getD j []) (l.getD (j + 1) []) = true
  | [] => by simp [risesL]
  | [_] => by simp [risesL]
  | a :: b :: r => by
    have ih := rises_iff (b :: r)
    simp only [risesL, Bool.and_eq_true]
    rw [ih]
    constructor
    · rintro ⟨h1, h2⟩ j hj
      cases j with
      | zero => exact h1
      | succ j => exact h2 j (by simpa using hj)
    · intro h
      exact ⟨h 0 (by simp), fun j hj => h (j + 1) (by simpa using hj)⟩
theorem all_iff (l : List B) (p : B → Bool) : l.all p = true ↔ ∀ j, j < l.length → p (l.getD j []) = true := by
  rw [List.all_eq_true]
  constructor
  · intro h j hj
    rw [List.getD_eq_getElem?_getD, List.getElem?_eq_getElem hj]
    exact h _ (List.getElem_mem hj)
  · intro h x hx
    obtain ⟨j, hj, rfl⟩ := List.getElem_of_mem hx
    have := h j hj
    rw [List.getD_eq_getElem?_getD, List.getElem?_eq_getElem hj] at this
    exact this
theorem listOk_iff (l : List B) (p : B → Bool) : listOk l p = true ↔ (∀ j, j + 1 < l.length → ltL (l.getD j []) (l.getD (j + 1) []) = true) ∧ (∀ j, j < l.length → p (l.getD j []) = true) ∧ l.length ≤ 64 := by
  unfold listOk
  rw [Bool.and_eq_true, Bool.and_eq_true, rises_iff, all_iff, decide_eq_true_eq, and_assoc]
theorem getB_at {l : List B} {j : Nat} (h : j < l.length) : l.getD j [] = l[j] := by rw [List.getD_eq_getElem?_getD, List.getElem?_eq_getElem h]; rfl

set_option maxRecDepth 100000 in
set_option maxHeartbeats 4000000 in
theorem list_u {w : World} {S : Nat → Prop} {A : Option Addr} {n c : Nat} {l : List B} {f : FuncId} {cap : Array Value} {p : B → Bool} (h : StrsAt w S A n l) (hF : FTests w f cap p) (hl : l.length ≤ 60000000) (hb : ∀ s ∈ l, s.length ≤ 600000000) :
    Calls Tryz.prog 36 #[.slice A n c, .func (.func f) #[] cap] w fun e w' => e = .returned (.bool (listOk l p)) ∧ ∃ n, w' = w.drewN n := by
  obtain ⟨rfl, h2⟩ := h
  go_enter Tryz.func36, Tryz.ntmps36
  go_wp2_with fail
  go_loopw [9] (fun vi wr => ∃ k : Nat, vi = .int .i64 k ∧ k ≤ l.length ∧ (∃ n, wr = w.drewN n) ∧ Hid ((∀ j, j < k → p (l.getD j []) = true) ∧ (∀ j, j + 1 < k → ltL (l.getD j []) (l.getD (j + 1) []) = true))) (fun vi _ => l.length - kOf vi)
  case atStart => exact ⟨0, rfl, Nat.zero_le _, ⟨0, rfl⟩, Lib.hid ⟨fun j hj => by omega, fun j hj => by omega⟩⟩
  case round =>
    obtain ⟨k, rfl, hk, ⟨n1, hn1⟩, Hk⟩ := hrel
    by_cases hlt : k < l.length
    · have t0 : (k : Int) < (l.length : Int) := by omega
      obtain ⟨g, o, rfl, hS, hc⟩ := h2 (by omega)
      clear h2
      have hc : ∀ j (h : j < l.length), wr.cell? ⟨g, o + j, none⟩ = some (.string (bs l[j])) := fun j hj => by rw [hn1]; exact hc j hj
      have hck := hc k hlt
      have hEf : ∀ (args : Array Value) (w : World), (callFunc f args).run Tryz.prog w = .ok (.enter f args) w := hF.1
      have hFx : ∀ s : B, s.length ≤ 600000000 → Calls Tryz.prog f (#[.string (bs s)] ++ cap) wr fun e w' => e = .returned (.bool (p s)) ∧ ∃ n, w' = w.drewN n := fun s hs => by rw [hn1]; exact hF.2 s hs n1
      have Hn1 := Lib.hid hn1
      clear hn1
      by_cases kz : 0 < k
      · obtain ⟨k', rfl⟩ : ∃ k', k = k' + 1 := ⟨k - 1, by omega⟩
        have t0 : (k' : Int) + 1 < (l.length : Int) := by omega
        have kz1 : (0 : Int) < (k' : Int) + 1 := by omega
        have hw1 : IntKind.i64.wrap (((k' + 1 : Nat) : Int) - 1) = ((k' : Nat) : Int) := by rw [IntKind.wrap_i64]; omega
        have hi1 : IntKind.i64.wrap (((k' + 1 : Nat) : Int) + 1) = ((k' + 1 + 1 : Nat) : Int) := by rw [IntKind.wrap_i64]; omega
        have hck' := hc k' (by omega)
        have u1 : (k' : Int) < (l.length : Int) := by omega
        have u2 : k' < l.length := by omega
        obtain ⟨x, hx⟩ : ∃ x, x = l[k' + 1] := ⟨_, rfl⟩
        obtain ⟨y, hy⟩ : ∃ y, y = l[k'] := ⟨_, rfl⟩
        rw [← hx] at hck
        rw [← hy] at hck'
        have hbx : x.length ≤ 600000000 := hb x (by rw [hx]; exact List.getElem_mem _)
        have HG := Lib.hid (show x = l.getD (k' + 1) [] ∧ y = l.getD k' [] from ⟨by rw [getB_at hlt, hx], by rw [getB_at u2, hy]⟩)
        clear hx hy hc
        cases hxy : Op.bytesLess y x with
        | true =>
          go_wp2_with fail
          refine (hFx _ (by exact hbx)).mono ?_
          rintro e1 w1 ⟨rfl, n2, hn2⟩
          cases hpx : p x with
          | true =>
            have Hst := Lib.hid (show (∀ j, j < (k' + 1 + 1) → p (l.getD j []) = true) ∧ (∀ j, j + 1 < (k' + 1 + 1) → ltL (l.getD j []) (l.getD (j + 1) []) = true) from ⟨fun j hj => by
              by_cases hj2 : j = (k' + 1)
              · rw [hj2, ← HG.out.1]; exact hpx
              · exact Hk.out.1 j (by omega), fun j hj => by
              by_cases hj2 : j + 1 = (k' + 1)
              · obtain rfl : j = k' := by omega
                rw [← HG.out.1, ← HG.out.2, ← less_eq]; exact hxy
              · exact Hk.out.2 j (by omega)⟩)
            go_wp2_with fail
            go_roundw
            case rel => exact ⟨(k' + 1 + 1), rfl, by omega, ⟨n2, rfl⟩, Hst⟩
            case measure =>
              show l.length - kOf (.int .i64 (((k' + 1 + 1) : Nat) : Int)) < l.length - kOf (.int .i64 (((k' + 1) : Nat) : Int))
              simp only [kOf, Int.toNat_natCast]
              omega
          | false =>
            have Hst := Lib.hid (show listOk l p = false by
              rw [← Bool.not_eq_true, listOk_iff]
              rintro ⟨_, h1, _⟩
              have := h1 (k' + 1) hlt
              rw [← HG.out.1, hpx] at this
              cases this)
            go_wp2_with fail
            go_ret
            rw [Hst.out]
            exact ⟨rfl, n2, rfl⟩
        | false =>
          have Hst := Lib.hid (show listOk l p = false by
            rw [← Bool.not_eq_true, listOk_iff]
            rintro ⟨h1, _, _⟩
            have := h1 k' hlt
            rw [← HG.out.1, ← HG.out.2, ← less_eq, hxy] at this
            cases this)
          go_wp2_with fail
          go_ret
          rw [Hst.out]
          exact ⟨rfl, n1, Hn1.out⟩
      · obtain rfl : k = 0 := by omega
        obtain ⟨x, hx⟩ : ∃ x, x = l[0] := ⟨_, rfl⟩
        rw [← hx] at hck
        rw [Nat.add_zero] at hck
        have t0 : (0 : Int) < (l.length : Int) := by omega
        have hbx : x.length ≤ 600000000 := hb x (by rw [hx]; exact List.getElem_mem _)
        have HG := Lib.hid (show x = l.getD 0 [] ∧ True from ⟨by rw [getB_at hlt, hx], trivial⟩)
        have hi1 : IntKind.i64.wrap (((0 : Nat) : Int) + 1) = ((0 + 1 : Nat) : Int) := by rw [IntKind.wrap_i64]; omega
        clear hx hc
        go_wp2_with fail
        refine (hFx _ (by exact hbx)).mono ?_
        rintro e1 w1 ⟨rfl, n2, hn2⟩
        cases hpx : p x with
        | true =>
          have Hst := Lib.hid (show (∀ j, j < (0 + 1) → p (l.getD j []) = true) ∧ (∀ j, j + 1 < (0 + 1) → ltL (l.getD j []) (l.getD (j + 1) []) = true) from ⟨fun j hj => by
            by_cases hj2 : j = 0
            · rw [hj2, ← HG.out.1]; exact hpx
            · exact Hk.out.1 j (by omega), fun j hj => by
            by_cases hj2 : j + 1 = 0
            · omega
            · exact Hk.out.2 j (by omega)⟩)
          go_wp2_with fail
          go_roundw
          case rel => exact ⟨(0 + 1), rfl, by omega, ⟨n2, rfl⟩, Hst⟩
          case measure =>
            show l.length - kOf (.int .i64 (((0 + 1) : Nat) : Int)) < l.length - kOf (.int .i64 ((0 : Nat) : Int))
            simp only [kOf, Int.toNat_natCast]
            omega
        | false =>
          have Hst := Lib.hid (show listOk l p = false by
            rw [← Bool.not_eq_true, listOk_iff]
            rintro ⟨_, h1, _⟩
            have := h1 0 hlt
            rw [← HG.out.1, hpx] at this
            cases this)
          go_wp2_with fail
          go_ret
          rw [Hst.out]
          exact ⟨rfl, n2, rfl⟩
    · have t0 : ¬ ((k : Int) < (l.length : Int)) := by omega
      obtain rfl : k = l.length := by omega
      by_cases h64 : l.length ≤ 64
      · have t1 : (l.length : Int) ≤ 64 := by omega
        have Hst := Lib.hid (show listOk l p = true by rw [listOk_iff]; exact ⟨Hk.out.2, Hk.out.1, h64⟩)
        go_wp2_with fail
        go_ret
        rw [Hst.out]
        exact ⟨rfl, n1, rfl⟩
      · have t1 : ¬ ((l.length : Int) ≤ 64) := by omega
        have Hst := Lib.hid (show listOk l p = false by
          rw [← Bool.not_eq_true, listOk_iff]
          rintro ⟨_, _, h⟩
          exact h64 h)
        go_wp2_with fail
        go_ret
        rw [Hst.out]
        exact ⟨rfl, n1, rfl⟩
end Go.Proofs.YtlgaeeedkihfpaaGreatDoor.Uf

/-
  policy's closures: names of elements, attributes' entries, schemes.
-/
namespace Go.Proofs.YtlgaeeedkihfpaaGreatDoor.Uf
open Go.RowKit
open Tz (B wordL neverL attrOk attrEntry schemeOk cutL)

theorem ent35 : Ent 35 := ent_of Tryz.func35 (by kernel_rfl) (by kernel_rfl)
theorem ent37 : Ent 37 := ent_of Tryz.func37 (by kernel_rfl) (by kernel_rfl)
theorem ent38 : Ent 38 := ent_of Tryz.func38 (by kernel_rfl) (by kernel_rfl)
theorem ent40 : Ent 40 := ent_of Tryz.func40 (by kernel_rfl) (by kernel_rfl)
theorem ent43 : Ent 43 := ent_of Tryz.func43 (by kernel_rfl) (by kernel_rfl)
theorem tests38 (w : World) : FTests w 38 #[] wordL := ⟨ent38, fun s hs n0 => (word_u s hs).mono fun _ _ ⟨h1, h2⟩ => ⟨h1, n0, h2⟩⟩

set_option maxRecDepth 100000 in
set_option maxHeartbeats 4000000 in
theorem tests37 (w : World) : FTests w 37 #[] (fun s => wordL s && !neverL s) := ⟨ent37, fun s hs n0 => by
  generalize hW : w.drewN n0 = W
  go_enter Tryz.func37, Tryz.ntmps37
  go_wp2_with fail
  refine (word_u s hs).mono ?_
  rintro e w1 ⟨rfl, rfl⟩
  cases hw : wordL s with
  | false =>
    go_wp2_with fail
    go_ret
    exact ⟨by rw [hw]; rfl, n0, hW.symm⟩
  | true =>
    go_wp2_with fail
    refine (never_u s).mono ?_
    rintro e w2 ⟨rfl, rfl⟩
    go_wp2_with fail
    go_ret
    exact ⟨by rw [hw]; rfl, n0, hW.symm⟩⟩

set_option maxRecDepth 100000 in
set_option maxHeartbeats 4000000 in
theorem tests43 (w : World) : FTests w 43 #[] schemeOk := ⟨ent43, fun s hs n0 => by
  generalize hW : w.drewN n0 = W
  go_enter Tryz.func43, Tryz.ntmps43
  go_wp2_with fail
  refine (word_u s hs).mono ?_
  rintro e w1 ⟨rfl, rfl⟩
  cases hw : wordL s with
  | false =>
    go_wp2_with fail
    go_ret
    exact ⟨by unfold schemeOk; rw [hw]; rfl, n0, hW.symm⟩
  | true =>
    go_wp2_with fail
    all_goals (go_ret; refine ⟨?_, n0, hW.symm⟩; unfold schemeOk; first | (simp_all; done) | (simp_all; rfl))⟩

set_option maxRecDepth 100000 in
set_option maxHeartbeats 4000000 in
theorem attrok_u {w : World} (s : B) (hs : s.length ≤ 600000000) : Calls Tryz.prog 42 #[.string (bs s)] w fun e w' => e = .returned (.bool (attrOk s)) ∧ w' = w := by
  go_enter Tryz.func42, Tryz.ntmps42
  go_wp2_with fail
  refine (word_u s hs).mono ?_
  rintro e w1 ⟨rfl, rfl⟩
  cases hw : wordL s with
  | false =>
    go_wp2_with fail
    go_ret
    exact ⟨by unfold attrOk; rw [hw]; rfl, rfl⟩
  | true =>
    go_wp2_with fail
    refine (has_prefix s [111, 110]).mono ?_
    rintro e w1 ⟨rfl, rfl⟩
    cases hp : ([111, 110] : B).isPrefixOf s with
    | true =>
      have hp2 : Tz.onN.isPrefixOf s = true := hp
      go_wp2_with fail
      go_ret
      exact ⟨by unfold attrOk; rw [hw, hp2]; rfl, rfl⟩
    | false =>
      have hp2 : Tz.onN.isPrefixOf s = false := hp
      have Hp := Lib.hid (And.intro hw hp2)
      clear hw hp hp2
      go_wp2_with fail
      all_goals (go_ret; refine ⟨?_, rfl⟩; unfold attrOk; rw [Hp.out.1, Hp.out.2]; first | (simp_all [Tz.srcdocN, Tz.formactionN, Tz.styleN]; done) | (simp_all [Tz.srcdocN, Tz.formactionN, Tz.styleN]; rfl))

set_option maxRecDepth 100000 in
set_option maxHeartbeats 4000000 in
theorem tests35 {w : World} {S : Nat → Prop} {pb : Nat} {A : Option Addr} {n c : Nat} {elems : List B} (h1 : w.cell? ⟨pb, 1, none⟩ = some (.slice A n c)) (h2 : StrsAt w S A n elems) (hl : elems.length ≤ 60000000) :
    FTests w 35 #[.pointer (some ⟨pb, 0, none⟩)] (fun s => elems.contains s) := ⟨ent35, fun s hs n0 => by
  have h1' : (w.drewN n0).cell? ⟨pb, 1, none⟩ = some (.slice A n c) := h1
  have h2' : StrsAt (w.drewN n0) S A n elems := h2
  generalize hW : w.drewN n0 = W at h1' h2'
  show Calls Tryz.prog 35 #[.string (bs s), .pointer (some ⟨pb, 0, none⟩)] W _
  go_enter Tryz.func35, Tryz.ntmps35
  go_wp2_with fail
  refine (contains_u s h2' hl).mono ?_
  rintro e w1 ⟨rfl, rfl⟩
  go_wp2_with fail
  go_ret
  exact ⟨by simp, n0, hW.symm⟩⟩

set_option maxRecDepth 100000 in
set_option maxHeartbeats 4000000 in
theorem tests40 {w : World} {S : Nat → Prop} {pb fb : Nat} {A : Option Addr} {n c : Nat} {elems : List B} {m : Int} (h0 : w.cell? ⟨fb, 0, none⟩ = some (.func (.func 35) #[] #[.pointer (some ⟨pb, 0, none⟩)])) (h1 : w.cell? ⟨pb, 1, none⟩ = some (.slice A n c)) (h2 : StrsAt w S A n elems) (hl : elems.length ≤ 60000000)
    (hm : w.cell? ⟨0, 0, none⟩ = some (.int .i64 m)) :
    FTests w 40 #[.pointer (some ⟨fb, 0, none⟩)] (attrEntry elems) := ⟨ent40, fun s hs n0 => by
  have h35 := tests35 h1 h2 hl
  have hm' : (w.drewN n0).cell? ⟨0, 0, none⟩ = some (.int .i64 m) := hm
  generalize hW : w.drewN n0 = W at hm'
  show Calls Tryz.prog 40 #[.string (bs s), .pointer (some ⟨fb, 0, none⟩)] W _
  go_enter Tryz.func40, Tryz.ntmps40
  go_wp2_with fail
  refine (cut_u s 46 hs hm').mono ?_
  rintro e w1 ⟨he, n1, hw1a⟩
  have hw1 : w1 = w.drewN (n0 + n1) := by rw [hw1a, ← hW, World.drewN_drewN]
  clear hw1a
  cases hc : cutL 46 s with
  | none =>
    rw [hc] at he
    have HR := Lib.hid (show attrEntry elems s = false by unfold attrEntry; rw [hc])
    clear hc
    subst he
    go_wp2_with fail
    go_ret
    exact ⟨by rw [HR.out]; rfl, _, rfl⟩
  | some ab =>
    obtain ⟨a, b⟩ := ab
    rw [hc] at he
    have HR := Lib.hid (show attrEntry elems s = ((a == [42] || elems.contains a) && attrOk b) by unfold attrEntry; rw [hc]; rfl)
    have hla : a.length ≤ 600000000 := by
      unfold cutL at hc
      split at hc
      · injection hc with hc
        injection hc with h3 h4
        rw [← h3]
        exact Nat.le_trans (takeW_le s) hs
      · cases hc
    have hlb : b.length ≤ 600000000 := by
      unfold cutL at hc
      split at hc
      · injection hc with hc
        injection hc with h3 h4
        have := dropW_le (· != 46) s
        rw [← h4, List.length_drop]
        omega
      · cases hc
    clear hc
    subst he
    have h0' : w1.cell? ⟨fb, 0, none⟩ = some (.func (.func 35) #[] #[.pointer (some ⟨pb, 0, none⟩)]) := by rw [hw1]; exact h0
    have h35' : Calls Tryz.prog 35 (#[.string (bs a)] ++ #[.pointer (some ⟨pb, 0, none⟩)]) w1 fun e w' => e = .returned (.bool (elems.contains a)) ∧ ∃ n, w' = w.drewN n := by rw [hw1]; exact h35.2 a hla _
    have hEf : ∀ (args : Array Value) (w : World), (callFunc 35 args).run Tryz.prog w = .ok (.enter 35 args) w := ent35
    have Hw1 := Lib.hid hw1
    clear hw1 h35
    generalize hz : elems.contains a = z at h35' HR
    clear hz
    by_cases ha : a = [42]
    · subst ha
      go_wp2_with fail
      refine (attrok_u b hlb).mono ?_
      rintro e w2 ⟨rfl, rfl⟩
      go_wp2_with fail
      go_ret
      exact ⟨by rw [HR.out]; rfl, _, Hw1.out⟩
    · have ha1 : (a == [42]) = false := by simpa using ha
      go_wp2_with fail
      refine h35'.mono ?_
      rintro e w2 ⟨rfl, n2, hw2⟩
      have Hw2 := Lib.hid hw2
      clear hw2
      cases z with
      | true =>
        go_wp2_with fail
        refine (attrok_u b hlb).mono ?_
        rintro e w3 ⟨rfl, rfl⟩
        go_wp2_with fail
        go_ret
        exact ⟨by rw [HR.out, ha1]; rfl, _, Hw2.out⟩
      | false =>
        go_wp2_with fail
        go_ret
        exact ⟨by rw [HR.out, ha1]; rfl, _, Hw2.out⟩⟩
end Go.Proofs.YtlgaeeedkihfpaaGreatDoor.Uf

/-
  policy.Right.
-/
namespace Go.Proofs.YtlgaeeedkihfpaaGreatDoor.Uf
open Go.RowKit
open Tz (B Pol rightP wordL neverL attrEntry schemeOk listOk)

/-- A policy's cells. -/
def PolV (w : World) (S : Nat → Prop) (cs : Array Value) (p : Pol) : Prop := ∃ A1 c1 A2 c2 A3 c3 A4 c4 A5 c5,
  cs = #[.int .i64 p.epoch, .slice A1 p.elems.length c1, .slice A2 p.attrs.length c2, .slice A3 p.schemes.length c3, .slice A4 p.classes.length c4, .slice A5 p.props.length c5, .int .i64 p.depth, .int .i64 p.nodes, .int .i64 p.bytes] ∧
  StrsAt w S A1 p.elems.length p.elems ∧ StrsAt w S A2 p.attrs.length p.attrs ∧ StrsAt w S A3 p.schemes.length p.schemes ∧ StrsAt w S A4 p.classes.length p.classes ∧ StrsAt w S A5 p.props.length p.props ∧ ∀ g, S g → g < w.heap.size
theorem PolV.keep {w w' : World} {S : Nat → Prop} {cs : Array Value} {p : Pol} (h : PolV w S cs p) (hb : Below w.heap.size w w') : PolV w' S cs p := by
  obtain ⟨A1, c1, A2, c2, A3, c3, A4, c4, A5, c5, rfl, h1, h2, h3, h4, h5, h6⟩ := h
  have hk := KeepS.below hb h6
  exact ⟨A1, c1, A2, c2, A3, c3, A4, c4, A5, c5, rfl, h1.keep hk, h2.keep hk, h3.keep hk, h4.keep hk, h5.keep hk, fun g hg => Nat.lt_of_lt_of_le (h6 g hg) hb.size⟩
/-- Its lists are small. -/
def Small (l : List B) : Prop := l.length ≤ 1000 ∧ ∀ s ∈ l, s.length ≤ 10000
def PolSmall (p : Pol) : Prop := Small p.elems ∧ Small p.attrs ∧ Small p.schemes ∧ Small p.classes ∧ Small p.props

theorem box_new {P : Program} {ops : Array Oper} {rest : List Oper} {o : Oper} {a : Act} {w : World} {Q : Exit → Act → World → Prop} (hgd : o.guard = none) (ty : TypeId) (x : Operand) (ho : o.op = .box ty x)
    (cells : Array Value) (hx : (a.eval x).cells = cells)
    (h : ∀ W1, W1.heap[w.heap.size]? = some (.cells cells ty (0, 0)) → Below w.heap.size w W1 → wpList P ops Q rest (a.put o.dst (.pointer (some ⟨w.heap.size, 0, none⟩))) W1) : wpList P ops Q (o :: rest) a w := by
  subst hx
  refine wpList_plain hgd fun K hK => ?_
  unfold Oper.wp execOp
  simp only [ho, Sem.run_bind, Instr.box, newVar, newRow, run_newObj_alloc, Sem.run_pure, Result.andThen_ok]
  exact hK _ _ (h _ (heap_alloc_new w _) ((Below.refl _ w).alloc (Nat.le_refl _) _))
theorem cells9 (e : Int) (A1 A2 A3 A4 A5 : Option Addr) (n1 n2 n3 n4 n5 c1 c2 c3 c4 c5 : Nat) (d n b : Int) :
    (Value.agg #[.int .i64 e, .slice A1 n1 c1, .slice A2 n2 c2, .slice A3 n3 c3, .slice A4 n4 c4, .slice A5 n5 c5, .int .i64 d, .int .i64 n, .int .i64 b]).cells = #[.int .i64 e, .slice A1 n1 c1, .slice A2 n2 c2, .slice A3 n3 c3, .slice A4 n4 c4, .slice A5 n5 c5, .int .i64 d, .int .i64 n, .int .i64 b] := by
  unfold Value.cells
  simp
theorem pol_cells {w : World} {S : Nat → Prop} {cs : Array Value} {p : Pol} (h : PolV w S cs p) : (Value.agg cs).cells = cs := by
  obtain ⟨A1, c1, A2, c2, A3, c3, A4, c4, A5, c5, rfl, _⟩ := h
  exact cells9 _ _ _ _ _ _ _ _ _ _ _ _ _ _ _ _ _ _ _

theorem setCell_alloc0 (w : World) (u v : Value) (t : TypeId) : (w.alloc (.cells #[u] t)).setCell ⟨w.heap.size, 0, none⟩ v = w.alloc (.cells #[v] t) := by
  simp only [World.setCell, World.alloc]
  congr 1
  apply Array.ext_getElem?
  intro i
  rw [Array.getElem?_modify, Array.getElem?_push, Array.getElem?_push]
  by_cases hi : w.heap.size = i
  · subst hi
    simp
  · rw [if_neg hi]
    split <;> simp_all
/-- The policy in memory, as Right's closures find it. -/
structure RiS (W : World) (S : Nat → Prop) (pb fb : Nat) (p : Pol) (A1 A2 A3 A4 A5 : Option Addr) (c1 c2 c3 c4 c5 : Nat) (m : Int) : Prop where
  a1 : W.cell? ⟨pb, 1, none⟩ = some (.slice A1 p.elems.length c1)
  a2 : W.cell? ⟨pb, 2, none⟩ = some (.slice A2 p.attrs.length c2)
  a3 : W.cell? ⟨pb, 3, none⟩ = some (.slice A3 p.schemes.length c3)
  a4 : W.cell? ⟨pb, 4, none⟩ = some (.slice A4 p.classes.length c4)
  a5 : W.cell? ⟨pb, 5, none⟩ = some (.slice A5 p.props.length c5)
  f0 : W.cell? ⟨fb, 0, none⟩ = some (.func (.func 35) #[] #[.pointer (some ⟨pb, 0, none⟩)])
  s1 : StrsAt W S A1 p.elems.length p.elems
  s2 : StrsAt W S A2 p.attrs.length p.attrs
  s3 : StrsAt W S A3 p.schemes.length p.schemes
  s4 : StrsAt W S A4 p.classes.length p.classes
  s5 : StrsAt W S A5 p.props.length p.props
  hm : W.cell? ⟨0, 0, none⟩ = some (.int .i64 m)
theorem RiS.drewN {W : World} {S : Nat → Prop} {pb fb : Nat} {p : Pol} {A1 A2 A3 A4 A5 : Option Addr} {c1 c2 c3 c4 c5 : Nat} {m : Int} (h : RiS W S pb fb p A1 A2 A3 A4 A5 c1 c2 c3 c4 c5 m) (n : Nat) : RiS (W.drewN n) S pb fb p A1 A2 A3 A4 A5 c1 c2 c3 c4 c5 m := ⟨h.a1, h.a2, h.a3, h.a4, h.a5, h.f0, h.s1, h.s2, h.s3, h.s4, h.s5, h.hm⟩
theorem right_bytes {p : Pol} (h : ¬ (1 ≤ p.bytes ∧ p.bytes ≤ 16384)) : rightP p = false := by
  unfold rightP
  by_cases h1 : 1 ≤ p.bytes
  · have h2 : ¬ (p.bytes ≤ 16384) := fun h2 => h ⟨h1, h2⟩
    simp [h2]
  · simp [h1]
theorem right_nodes {p : Pol} (h : ¬ (1 ≤ p.nodes ∧ p.nodes ≤ 2000)) : rightP p = false := by
  unfold rightP
  by_cases h1 : 1 ≤ p.nodes
  · have h2 : ¬ (p.nodes ≤ 2000) := fun h2 => h ⟨h1, h2⟩
    simp [h2]
  · simp [h1]
theorem right_depth {p : Pol} (h : ¬ (1 ≤ p.depth ∧ p.depth ≤ 64)) : rightP p = false := by
  unfold rightP
  by_cases h1 : 1 ≤ p.depth
  · have h2 : ¬ (p.depth ≤ 64) := fun h2 => h ⟨h1, h2⟩
    simp [h2]
  · simp [h1]

set_option maxRecDepth 100000 in
set_option maxHeartbeats 8000000 in
theorem right_u {w : World} {S : Nat → Prop} {cs : Array Value} {p : Pol} {m : Int} (h : PolV w S cs p) (hp : PolSmall p) (hm : w.cell? ⟨0, 0, none⟩ = some (.int .i64 m)) :
    Calls Tryz.prog 16 #[.agg cs] w fun e w' => e = .returned (.bool (rightP p)) ∧ Below w.heap.size w w' := by
  have hcs := pol_cells h
  obtain ⟨A1, c1, A2, c2, A3, c3, A4, c4, A5, c5, hce, h1, h2, h3, h4, h5, h6⟩ := h
  have k0 : cs[0]? = some (.int .i64 p.epoch) := by rw [hce]; rfl
  have k1 : cs[1]? = some (.slice A1 p.elems.length c1) := by rw [hce]; rfl
  have k2 : cs[2]? = some (.slice A2 p.attrs.length c2) := by rw [hce]; rfl
  have k3 : cs[3]? = some (.slice A3 p.schemes.length c3) := by rw [hce]; rfl
  have k4 : cs[4]? = some (.slice A4 p.classes.length c4) := by rw [hce]; rfl
  have k5 : cs[5]? = some (.slice A5 p.props.length c5) := by rw [hce]; rfl
  have k6 : cs[6]? = some (.int .i64 p.depth) := by rw [hce]; rfl
  have k7 : cs[7]? = some (.int .i64 p.nodes) := by rw [hce]; rfl
  have k8 : cs[8]? = some (.int .i64 p.bytes) := by rw [hce]; rfl
  clear hce
  go_enter Tryz.func16, Tryz.ntmps16
  apply wp_seq_k
  intro K hK
  have HK := Lib.hid hK
  clear hK
  go_wp2_with fail
  refine HK.out _ _ ?_
  clear HK K
  apply wp_seq_k
  intro K hK
  have HK := Lib.hid hK
  clear hK
  go_wp2_with fail
  refine HK.out _ _ ?_
  clear HK K
  apply wp_seq_k
  intro K hK
  have HK := Lib.hid hK
  clear hK
  go_wp2_with fail
  refine HK.out _ _ ?_
  clear HK K
  have B0 : Blk (((w.alloc (.cells cs 24)).alloc (.cells #[.int .i64 p.depth, .int .i64 p.nodes, .int .i64 p.bytes] 77)).alloc (.cells #[.int .i64 (min (max p.depth 1) 64), .int .i64 (min (max p.nodes 1) 2000), .int .i64 (min (max p.bytes 1) 16384)] 77)) w.heap.size 24 cs := Blk.alloc (Blk.alloc (Blk.new w 24 cs) _) _
  have B1 : Blk (((w.alloc (.cells cs 24)).alloc (.cells #[.int .i64 p.depth, .int .i64 p.nodes, .int .i64 p.bytes] 77)).alloc (.cells #[.int .i64 (min (max p.depth 1) 64), .int .i64 (min (max p.nodes 1) 2000), .int .i64 (min (max p.bytes 1) 16384)] 77)) (w.heap.size + 1) 77 #[.int .i64 p.depth, .int .i64 p.nodes, .int .i64 p.bytes] := by
    have := Blk.new (w.alloc (.cells cs 24)) 77 #[.int .i64 p.depth, .int .i64 p.nodes, .int .i64 p.bytes]
    rw [alloc_size] at this
    exact Blk.alloc this _
  have B2 : Blk (((w.alloc (.cells cs 24)).alloc (.cells #[.int .i64 p.depth, .int .i64 p.nodes, .int .i64 p.bytes] 77)).alloc (.cells #[.int .i64 (min (max p.depth 1) 64), .int .i64 (min (max p.nodes 1) 2000), .int .i64 (min (max p.bytes 1) 16384)] 77)) (w.heap.size + 1 + 1) 77 #[.int .i64 (min (max p.depth 1) 64), .int .i64 (min (max p.nodes 1) 2000), .int .i64 (min (max p.bytes 1) 16384)] := by
    have := Blk.new ((w.alloc (.cells cs 24)).alloc (.cells #[.int .i64 p.depth, .int .i64 p.nodes, .int .i64 p.bytes] 77)) 77 #[.int .i64 (min (max p.depth 1) 64), .int .i64 (min (max p.nodes 1) 2000), .int .i64 (min (max p.bytes 1) 16384)]
    rw [alloc_size, alloc_size] at this
    exact this
  have hb : Below w.heap.size w (((w.alloc (.cells cs 24)).alloc (.cells #[.int .i64 p.depth, .int .i64 p.nodes, .int .i64 p.bytes] 77)).alloc (.cells #[.int .i64 (min (max p.depth 1) 64), .int .i64 (min (max p.nodes 1) 2000), .int .i64 (min (max p.bytes 1) 16384)] 77)) := (((Below.refl _ w).alloc (Nat.le_refl _) _).alloc (by rw [alloc_size]; omega) _).alloc (by rw [alloc_size, alloc_size]; omega) _
  generalize (((w.alloc (.cells cs 24)).alloc (.cells #[.int .i64 p.depth, .int .i64 p.nodes, .int .i64 p.bytes] 77)).alloc (.cells #[.int .i64 (min (max p.depth 1) 64), .int .i64 (min (max p.nodes 1) 2000), .int .i64 (min (max p.bytes 1) 16384)] 77)) = W at B0 B1 B2 hb ⊢
  have hd : (min (max p.depth 1) 64 = p.depth) ↔ (1 ≤ p.depth ∧ p.depth ≤ 64) := by omega
  have hn : (min (max p.nodes 1) 2000 = p.nodes) ↔ (1 ≤ p.nodes ∧ p.nodes ≤ 2000) := by omega
  have hy : (min (max p.bytes 1) 16384 = p.bytes) ↔ (1 ≤ p.bytes ∧ p.bytes ≤ 16384) := by omega
  obtain ⟨D, hD⟩ : ∃ D, D = min (max p.depth 1) 64 := ⟨_, rfl⟩
  obtain ⟨N, hN⟩ : ∃ N, N = min (max p.nodes 1) 2000 := ⟨_, rfl⟩
  obtain ⟨Y, hY⟩ : ∃ Y, Y = min (max p.bytes 1) 16384 := ⟨_, rfl⟩
  rw [← hD] at hd B2 ⊢
  rw [← hN] at hn B2 ⊢
  rw [← hY] at hy B2 ⊢
  clear hD hN hY
  have a0 : W.cell? ⟨w.heap.size, 0, none⟩ = some (.int .i64 p.epoch) := (Blk.cell B0 0).trans k0
  have a1 : W.cell? ⟨w.heap.size, 1, none⟩ = some (.slice A1 p.elems.length c1) := (Blk.cell B0 1).trans k1
  have a2 : W.cell? ⟨w.heap.size, 2, none⟩ = some (.slice A2 p.attrs.length c2) := (Blk.cell B0 2).trans k2
  have a3 : W.cell? ⟨w.heap.size, 3, none⟩ = some (.slice A3 p.schemes.length c3) := (Blk.cell B0 3).trans k3
  have a4 : W.cell? ⟨w.heap.size, 4, none⟩ = some (.slice A4 p.classes.length c4) := (Blk.cell B0 4).trans k4
  have a5 : W.cell? ⟨w.heap.size, 5, none⟩ = some (.slice A5 p.props.length c5) := (Blk.cell B0 5).trans k5
  have b10 : W.cell? ⟨w.heap.size + 1, 0, none⟩ = some (.int .i64 p.depth) := Blk.cell B1 0
  have b11 : W.cell? ⟨w.heap.size + 1, 1, none⟩ = some (.int .i64 p.nodes) := Blk.cell B1 1
  have b12 : W.cell? ⟨w.heap.size + 1, 2, none⟩ = some (.int .i64 p.bytes) := Blk.cell B1 2
  have b20 : W.cell? ⟨w.heap.size + 1 + 1, 0, none⟩ = some (.int .i64 D) := Blk.cell B2 0
  have b21 : W.cell? ⟨w.heap.size + 1 + 1, 1, none⟩ = some (.int .i64 N) := Blk.cell B2 1
  have b22 : W.cell? ⟨w.heap.size + 1 + 1, 2, none⟩ = some (.int .i64 Y) := Blk.cell B2 2
  clear k0 k1 k2 k3 k4 k5 k6 k7 k8
  have Hdny := Lib.hid (And.intro hd (And.intro hn hy))
  clear hd hn hy
  by_cases e1 : p.epoch < 1
  · have Hr := Lib.hid (show rightP p = false by unfold rightP; simp [show ¬ (1 ≤ p.epoch) by omega])
    go_wp2_with fail
    go_ret
    exact ⟨by rw [Hr.out]; rfl, hb⟩
  · by_cases e2 : (1000000 : Int) < p.epoch
    · have Hr := Lib.hid (show rightP p = false by unfold rightP; simp [show ¬ (p.epoch ≤ 1000000) by omega])
      go_wp2_with fail
      go_ret
      exact ⟨by rw [Hr.out]; rfl, hb⟩
    · by_cases e3 : p.depth = D
      · by_cases e4 : p.nodes = N
        · by_cases e5 : p.bytes = Y
          · have Hlim := Lib.hid (show 1 ≤ p.epoch ∧ p.epoch ≤ 1000000 ∧ (1 ≤ p.depth ∧ p.depth ≤ 64) ∧ (1 ≤ p.nodes ∧ p.nodes ≤ 2000) ∧ (1 ≤ p.bytes ∧ p.bytes ≤ 16384) from ⟨by omega, by omega, Hdny.out.1.1 e3.symm, Hdny.out.2.1.1 e4.symm, Hdny.out.2.2.1 e5.symm⟩)
            apply wp_seq_k
            intro K hK
            have HK := Lib.hid hK
            clear hK
            go_wp2_with fail
            refine HK.out _ _ ?_
            have hst : (store ⟨W.heap.size, 0, none⟩ (.func (.func 35) #[] #[.pointer (some ⟨w.heap.size, 0, none⟩)])).run Tryz.prog (W.alloc (.cells #[.nilFunc] 31)) = .ok () (W.alloc (.cells #[.func (.func 35) #[] #[.pointer (some ⟨w.heap.size, 0, none⟩)]] 31)) := by
              rw [run_store _ _ _ _ _ rfl]
              simp
              exact setCell_alloc0 W _ _ 31
            clear HK K B1 B2 b10 b11 b12 b20 b21 b22 a0 e1 e2 e3 e4 e5 Hdny
            apply wp_seq_k
            intro K hK
            have HK := Lib.hid hK
            clear hK
            go_wp2_with fail
            refine HK.out _ _ ?_
            clear HK K
            have hb2 : Below w.heap.size w (W.alloc (.cells #[.func (.func 35) #[] #[.pointer (some ⟨w.heap.size, 0, none⟩)]] 31)) := hb.alloc hb.size _
            have hk2 := KeepS.below hb2 h6
            have up : ∀ (i : Nat) (u : Value), W.cell? ⟨w.heap.size, i, none⟩ = some u → (W.alloc (.cells #[.func (.func 35) #[] #[.pointer (some ⟨w.heap.size, 0, none⟩)]] 31)).cell? ⟨w.heap.size, i, none⟩ = some u := fun i u hu => (World.cell?_alloc_lt W _ ⟨w.heap.size, i, none⟩ (World.block_lt_of_cell? W ⟨w.heap.size, i, none⟩ hu)).trans hu
            have R : RiS (W.alloc (.cells #[.func (.func 35) #[] #[.pointer (some ⟨w.heap.size, 0, none⟩)]] 31)) S w.heap.size W.heap.size p A1 A2 A3 A4 A5 c1 c2 c3 c4 c5 m :=
              ⟨up _ _ a1, up _ _ a2, up _ _ a3, up _ _ a4, up _ _ a5, Blk.cell (Blk.new W 31 #[.func (.func 35) #[] #[.pointer (some ⟨w.heap.size, 0, none⟩)]]) 0, h1.keep hk2, h2.keep hk2, h3.keep hk2, h4.keep hk2, h5.keep hk2, (hb2.cell (p := ⟨0, 0, none⟩) (World.block_lt_of_cell? w ⟨0, 0, none⟩ hm)).trans hm⟩
            clear up hst h1 h2 h3 h4 h5 hk2 a1 a2 a3 a4 a5 B0
            generalize W.alloc (.cells #[.func (.func 35) #[] #[.pointer (some ⟨w.heap.size, 0, none⟩)]] 31) = V at R hb2 ⊢
            generalize W.heap.size = fb at R ⊢
            clear hb
            obtain ⟨b1, hb1⟩ : ∃ b, b = listOk p.elems (fun s => wordL s && !neverL s) := ⟨_, rfl⟩
            obtain ⟨b2, hb2'⟩ : ∃ b, b = listOk p.attrs (attrEntry p.elems) := ⟨_, rfl⟩
            obtain ⟨b3, hb3⟩ : ∃ b, b = listOk p.schemes schemeOk := ⟨_, rfl⟩
            obtain ⟨b4, hb4⟩ : ∃ b, b = listOk p.classes wordL := ⟨_, rfl⟩
            obtain ⟨b5, hb5⟩ : ∃ b, b = listOk p.props wordL := ⟨_, rfl⟩
            have HRP := Lib.hid (show rightP p = (b1 && b2 && b3 && b4 && b5 && (!p.elems.contains Tz.liN || (p.elems.contains Tz.ulN && p.elems.contains Tz.olN))) by
              obtain ⟨l1, l2, ⟨l3, l4⟩, ⟨l5, l6⟩, l7, l8⟩ := Hlim.out
              unfold rightP
              rw [hb1, hb2', hb3, hb4, hb5]
              simp [l1, l2, l3, l4, l5, l6, l7, l8])
            have HB1 := Lib.hid hb1
            have HB2 := Lib.hid hb2'
            have HB3 := Lib.hid hb3
            have HB4 := Lib.hid hb4
            have HB5 := Lib.hid hb5
            clear hb1 hb2' hb3 hb4 hb5 Hlim
            obtain ⟨⟨p11, p12⟩, ⟨p21, p22⟩, ⟨p31, p32⟩, ⟨p41, p42⟩, p51, p52⟩ := hp
            have R1 := Lib.hid (R)
            have r1 := R.a1
            clear R
            apply wp_seq_k
            intro K hK
            have HK := Lib.hid hK
            clear hK
            go_wp2_with fail
            refine (list_u R1.out.s1 (tests37 V) (by omega) (fun s hs => by have := p12 s hs; omega)).mono ?_
            rw [← HB1.out]
            rintro e1 V1 ⟨rfl, n1, hV1⟩
            have R2 : Hid (RiS V1 S w.heap.size fb p A1 A2 A3 A4 A5 c1 c2 c3 c4 c5 m) := Lib.hid (by rw [hV1]; exact R1.out.drewN n1)
            have hb3 : Below w.heap.size w V1 := by rw [hV1]; exact below_drewN hb2 n1
            clear hV1 hb2 R1
            clear r1
            go_wp2_with fail
            refine HK.out _ _ ?_
            clear HK K
            have r2 := R2.out.a2
            have r3 := R2.out.f0
            go_wp2_with fail
            refine (list_u R2.out.s2 (tests40 R2.out.f0 R2.out.a1 R2.out.s1 (by omega) R2.out.hm) (by omega) (fun s hs => by have := p22 s hs; omega)).mono ?_
            rw [← HB2.out]
            rintro e2 V2 ⟨rfl, n2, hV2⟩
            have R3 : Hid (RiS V2 S w.heap.size fb p A1 A2 A3 A4 A5 c1 c2 c3 c4 c5 m) := Lib.hid (by rw [hV2]; exact R2.out.drewN n2)
            have hb4 : Below w.heap.size w V2 := by rw [hV2]; exact below_drewN hb3 n2
            clear hV2 hb3 R2
            clear r2 r3
            have r4 := R3.out.a3
            go_wp2_with fail
            refine (list_u R3.out.s3 (tests43 V2) (by omega) (fun s hs => by have := p32 s hs; omega)).mono ?_
            rw [← HB3.out]
            rintro e3 V3 ⟨rfl, n3, hV3⟩
            have R4 : Hid (RiS V3 S w.heap.size fb p A1 A2 A3 A4 A5 c1 c2 c3 c4 c5 m) := Lib.hid (by rw [hV3]; exact R3.out.drewN n3)
            have hb5 : Below w.heap.size w V3 := by rw [hV3]; exact below_drewN hb4 n3
            clear hV3 hb4 R3
            clear r4
            cases b1 with
            | false =>
              go_wp2_with fail
              go_ret
              exact ⟨by rw [HRP.out]; first | rfl | (simp; done), hb5⟩
            | true =>
              cases b2 with
              | false =>
                go_wp2_with fail
                go_ret
                exact ⟨by rw [HRP.out]; first | rfl | (simp; done), hb5⟩
              | true =>
                cases b3 with
                | false =>
                  go_wp2_with fail
                  go_ret
                  exact ⟨by rw [HRP.out]; first | rfl | (simp; done), hb5⟩
                | true =>
                  have r5 := R4.out.a4
                  go_wp2_with fail
                  refine (list_u R4.out.s4 (tests38 V3) (by omega) (fun s hs => by have := p42 s hs; omega)).mono ?_
                  rw [← HB4.out]
                  rintro e4 V4 ⟨rfl, n4, hV4⟩
                  have R5 : Hid (RiS V4 S w.heap.size fb p A1 A2 A3 A4 A5 c1 c2 c3 c4 c5 m) := Lib.hid (by rw [hV4]; exact R4.out.drewN n4)
                  have hb6 : Below w.heap.size w V4 := by rw [hV4]; exact below_drewN hb5 n4
                  clear hV4 hb5 R4
                  clear r5
                  cases b4 with
                  | false =>
                    go_wp2_with fail
                    go_ret
                    exact ⟨by rw [HRP.out]; first | rfl | (simp; done), hb6⟩
                  | true =>
                    have r6 := R5.out.a5
                    go_wp2_with fail
                    refine (list_u R5.out.s5 (tests38 V4) (by omega) (fun s hs => by have := p52 s hs; omega)).mono ?_
                    rw [← HB5.out]
                    rintro e5 V5 ⟨rfl, n5, hV5⟩
                    have R6 : Hid (RiS V5 S w.heap.size fb p A1 A2 A3 A4 A5 c1 c2 c3 c4 c5 m) := Lib.hid (by rw [hV5]; exact R5.out.drewN n5)
                    have hb7 : Below w.heap.size w V5 := by rw [hV5]; exact below_drewN hb6 n5
                    clear hV5 hb6 R5
                    clear r6
                    cases b5 with
                    | false =>
                      go_wp2_with fail
                      go_ret
                      exact ⟨by rw [HRP.out]; first | rfl | (simp; done), hb7⟩
                    | true =>
                      have hEf : ∀ (args : Array Value) (w : World), (callFunc 35 args).run Tryz.prog w = .ok (.enter 35 args) w := ent35
                      have r7 := R6.out.f0
                      go_wp2_with fail
                      obtain ⟨zl, hzl⟩ : ∃ z, z = p.elems.contains Tz.liN := ⟨_, rfl⟩
                      have Hzl := Lib.hid hzl
                      clear hzl
                      obtain ⟨zu, hzu⟩ : ∃ z, z = p.elems.contains Tz.ulN := ⟨_, rfl⟩
                      have Hzu := Lib.hid hzu
                      clear hzu
                      obtain ⟨zo, hzo⟩ : ∃ z, z = p.elems.contains Tz.olN := ⟨_, rfl⟩
                      have Hzo := Lib.hid hzo
                      clear hzo
                      refine ((tests35 R6.out.a1 R6.out.s1 (by omega)).2 [108, 105] (by simp) 0).mono ?_
                      rintro e6 V6 ⟨he6, n6, hV6⟩
                      have he6 : e6 = .returned (.bool zl) := he6.trans (by rw [Hzl.out]; rfl)
                      subst he6
                      have R7 : Hid (RiS V6 S w.heap.size fb p A1 A2 A3 A4 A5 c1 c2 c3 c4 c5 m) := Lib.hid (by rw [hV6]; exact R6.out.drewN n6)
                      have hb8 : Below w.heap.size w V6 := by rw [hV6]; exact below_drewN hb7 n6
                      clear hV6
                      clear r7
                      have r8 := R7.out.f0
                      cases zl with
                      | false =>
                        go_wp2_with fail
                        go_ret
                        exact ⟨by rw [HRP.out, ← Hzl.out, ← Hzu.out, ← Hzo.out]; first | rfl | (simp; done), hb8⟩
                      | true =>
                        go_wp2_with fail
                        refine ((tests35 R7.out.a1 R7.out.s1 (by omega)).2 [117, 108] (by simp) 0).mono ?_
                        rintro e7 V7 ⟨he7, n7, hV7⟩
                        have he7 : e7 = .returned (.bool zu) := he7.trans (by rw [Hzu.out]; rfl)
                        subst he7
                        have R8 : Hid (RiS V7 S w.heap.size fb p A1 A2 A3 A4 A5 c1 c2 c3 c4 c5 m) := Lib.hid (by rw [hV7]; exact R7.out.drewN n7)
                        have hb9 : Below w.heap.size w V7 := by rw [hV7]; exact below_drewN hb8 n7
                        clear hV7
                        clear r8
                        have r9 := R8.out.f0
                        cases zu with
                        | false =>
                          go_wp2_with fail
                          go_ret
                          exact ⟨by rw [HRP.out, ← Hzl.out, ← Hzu.out, ← Hzo.out]; first | rfl | (simp; done), hb9⟩
                        | true =>
                          go_wp2_with fail
                          refine ((tests35 R8.out.a1 R8.out.s1 (by omega)).2 [111, 108] (by simp) 0).mono ?_
                          rintro e8 V8 ⟨he8, n8, hV8⟩
                          have he8 : e8 = .returned (.bool zo) := he8.trans (by rw [Hzo.out]; rfl)
                          subst he8
                          have R9 : Hid (RiS V8 S w.heap.size fb p A1 A2 A3 A4 A5 c1 c2 c3 c4 c5 m) := Lib.hid (by rw [hV8]; exact R8.out.drewN n8)
                          have hb10 : Below w.heap.size w V8 := by rw [hV8]; exact below_drewN hb9 n8
                          clear hV8
                          clear r9
                          cases zo with
                          | false =>
                            go_wp2_with fail
                            go_ret
                            exact ⟨by rw [HRP.out, ← Hzl.out, ← Hzu.out, ← Hzo.out]; first | rfl | (simp; done), hb10⟩
                          | true =>
                            go_wp2_with fail
                            go_ret
                            exact ⟨by rw [HRP.out, ← Hzl.out, ← Hzu.out, ← Hzo.out]; first | rfl | (simp; done), hb10⟩
          · skip
            have Hr := Lib.hid (right_bytes fun h => e5 (Hdny.out.2.2.2 h).symm)
            go_wp2_with fail
            go_ret
            exact ⟨by rw [Hr.out]; rfl, hb⟩
        · skip
          have Hr := Lib.hid (right_nodes fun h => e4 (Hdny.out.2.1.2 h).symm)
          go_wp2_with fail
          go_ret
          exact ⟨by rw [Hr.out]; rfl, hb⟩
      · skip
        have Hr := Lib.hid (right_depth fun h => e3 (Hdny.out.1.2 h).symm)
        go_wp2_with fail
        go_ret
        exact ⟨by rw [Hr.out]; rfl, hb⟩
end Go.Proofs.YtlgaeeedkihfpaaGreatDoor.Uf
