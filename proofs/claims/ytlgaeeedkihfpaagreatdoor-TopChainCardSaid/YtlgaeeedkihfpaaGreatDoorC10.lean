/-
  Texts of the proof of Chain, one behind the other: TokC, Late, TokM, TreeM.
-/
import Derived.Test.YtlgaeeedkihfpaaGreatDoorC09
import Derived.Deep.RegionHeld3
import Derived.Test.YtlgaeeedkihfpaaGreatDoorC01
/-
  tok.reader's plain.
-/
namespace Go.Proofs.YtlgaeeedkihfpaaGreatDoor.Uf
open Go.RowKit
open Tz (B blankB letterB plainL)

set_option maxRecDepth 100000 in
set_option maxHeartbeats 4000000 in
theorem plain_u {w : World} {r k : Nat} {s : B} {v : Value} (h : Rdr w r s k v) (hk : k < s.length) :
    Calls Tryz.prog 61 #[.pointer (some ⟨r, 0, none⟩)] w fun e w' => e = .returned (.bool (plainL (s.drop k))) ∧ ∃ n, w' = w.drewN n := by
  obtain ⟨R, hR⟩ : ∃ R, R = plainL (s.drop k) := ⟨_, rfl⟩
  rw [← hR]
  cases hd : s.drop k with
  | nil => exact absurd (congrArg List.length hd) (by simp; omega)
  | cons c t =>
    rw [hd] at hR
    have hL := left_u h (Nat.le_of_lt hk)
    rw [hd] at hL
    clear hd hk
    have g0 : ((bs (c :: t))[0]'(by rw [bs_size]; simp)).toNat = c.toNat := rfl
    have i0 : (0 : Int) < ((bs (c :: t)).size : Int) := by rw [bs_size]; simp
    have i0' : 0 < (bs (c :: t)).size := by rw [bs_size]; simp
    by_cases hc : c.toNat = 60
    · have e0 : (((c.toNat : Nat) : Int) != 60) = false := by rw [hc]; rfl
      obtain rfl : c = 60 := byte_is hc
      clear hc
      cases t with
      | nil =>
        have e1 : (((bs [60]).size : Int) == 1) = true := rfl
        obtain rfl : R = true := by rw [hR]; rfl
        clear hR
        go_enter Tryz.func61, Tryz.ntmps61
        go_wp2_with fail
        refine hL.mono ?_
        rintro e w1 ⟨rfl, n, rfl⟩
        go_wp2_with fail
        go_ret
        exact ⟨rfl, n, rfl⟩
      | cons d u =>
        have e1 : (((bs (60 :: d :: u)).size : Int) == 1) = false := by rw [bs_size]; simp; omega
        have e1' : ((bs (60 :: d :: u)).size == 1) = false := by rw [bs_size]; simp
        have g1 : ((bs (60 :: d :: u))[1]'(by rw [bs_size]; simp)).toNat = d.toNat := rfl
        have i1 : (1 : Int) < ((bs (60 :: d :: u)).size : Int) := by rw [bs_size]; simp; omega
        have i1' : 1 < (bs (60 :: d :: u)).size := by rw [bs_size]; simp
        by_cases h47 : d.toNat = 47
        · have e2 : (((d.toNat : Nat) : Int) == 47) = true := by rw [h47]; rfl
          obtain rfl : d = 47 := byte_is h47
          cases u with
          | nil =>
            have e3 : (((bs [60, 47]).size : Int) == 2) = true := rfl
            obtain rfl : R = true := by rw [hR]; rfl
            clear hR
            go_enter Tryz.func61, Tryz.ntmps61
            go_wp2_with fail
            refine hL.mono ?_
            rintro e w1 ⟨rfl, n, rfl⟩
            go_wp2_with fail
            go_ret
            exact ⟨rfl, n, rfl⟩
          | cons x u =>
            have e3 : (((bs (60 :: 47 :: x :: u)).size : Int) == 2) = false := by rw [bs_size]; simp; omega
            have e3' : ((bs (60 :: 47 :: x :: u)).size == 2) = false := by rw [bs_size]; simp
            obtain rfl : R = false := by rw [hR]; rfl
            clear hR
            go_enter Tryz.func61, Tryz.ntmps61
            go_wp2_with fail
            refine hL.mono ?_
            rintro e w1 ⟨rfl, n, rfl⟩
            go_wp2_with fail
            go_ret
            exact ⟨rfl, n, rfl⟩
        · have e2 : (((d.toNat : Nat) : Int) == 47) = false := by simp; omega
          have hR2 : R = (d != 33 && d != 63 && !letterB d) := by
            rw [hR]
            simp only [plainL]
            rw [if_neg (by decide), if_neg (fun e => h47 (by rw [e]; rfl))]
          clear hR
          by_cases h33 : d.toNat = 33
          · have e4 : (((d.toNat : Nat) : Int) != 33) = false := by rw [h33]; rfl
            obtain rfl : R = false := by rw [hR2, byte_is h33]; rfl
            clear hR2 h47 h33
            go_enter Tryz.func61, Tryz.ntmps61
            go_wp2_with fail
            refine hL.mono ?_
            rintro e w1 ⟨rfl, n, rfl⟩
            go_wp2_with fail
            go_ret
            exact ⟨rfl, n, rfl⟩
          · have e4 : (((d.toNat : Nat) : Int) != 33) = true := by simp; omega
            by_cases h63 : d.toNat = 63
            · have e5 : (((d.toNat : Nat) : Int) != 63) = false := by rw [h63]; rfl
              obtain rfl : R = false := by rw [hR2, byte_is h63]; rfl
              clear hR2 h47 h33 h63
              go_enter Tryz.func61, Tryz.ntmps61
              go_wp2_with fail
              refine hL.mono ?_
              rintro e w1 ⟨rfl, n, rfl⟩
              go_wp2_with fail
              go_ret
              exact ⟨rfl, n, rfl⟩
            · have e5 : (((d.toNat : Nat) : Int) != 63) = true := by simp; omega
              have hR3 : R = !letterB d := by
                have n33 : d ≠ 33 := fun e => h33 (by rw [e]; rfl)
                have n63 : d ≠ 63 := fun e => h63 (by rw [e]; rfl)
                rw [hR2, show (d != 33) = true by simpa using n33, show (d != 63) = true by simpa using n63]
                rfl
              have HR := Lib.hid hR3
              clear hR2 hR3 h47 h33 h63
              go_enter Tryz.func61, Tryz.ntmps61
              go_wp2_with fail
              refine hL.mono ?_
              rintro e w1 ⟨rfl, n, rfl⟩
              go_wp2_with fail
              refine (letter_u d _).mono ?_
              rintro e w1 ⟨rfl, rfl⟩
              go_wp2_with fail
              go_ret
              exact ⟨by rw [HR.out]; rfl, n, rfl⟩
    · have e0 : (((c.toNat : Nat) : Int) != 60) = true := by simp; omega
      obtain rfl : R = true := by
        rw [hR]
        simp only [plainL]
        rw [if_pos (fun e => hc (by rw [e]; rfl))]
      clear hR hc
      go_enter Tryz.func61, Tryz.ntmps61
      go_wp2_with fail
      refine hL.mono ?_
      rintro e w1 ⟨rfl, n, rfl⟩
      go_wp2_with fail
      go_ret
      exact ⟨rfl, n, rfl⟩
end Go.Proofs.YtlgaeeedkihfpaaGreatDoor.Uf

/-
  A region that draws its order, whose last operation stores into a cell that the region loads: the condition on the world is asked behind each operation but that one.
-/
namespace Go.Proofs.YtlgaeeedkihfpaaGreatDoor.Uf

section
variable {P : Program} {ops : Array Oper} {Q : Exit → Act → World → Prop} {md : Region.Mode} {S : World → Prop} {z : Nat}

/-- Whatever order is picked from here on, and S holds behind every operation but number z. -/
def wpAnyJ (P : Program) (md : Region.Mode) (ops : Array Oper) (Q : Exit → Act → World → Prop) (S : World → Prop) (z : Nat) : Nat → Array Bool → Act → World → Prop
  | 0, listed, a, w => Region.ready md ops listed = [] ∧ Q .normal a w
  | fuel + 1, listed, a, w =>
    (Region.ready md ops listed = [] → Q .normal a w) ∧
    ∀ i ∈ Region.ready md ops listed, wpOp P ops Q i (fun a' w' => (i ≠ z → S w') ∧ wpAnyJ P md ops Q S z fuel (listed.setIfInBounds i true) a' w') a w

theorem wpAny_of_late : ∀ (fuel : Nat) (listed : Array Bool) (a : Act) (w : World), wpAnyJ P md ops Q S z fuel listed a w → wpAny P md ops Q fuel listed a w
  | 0, _, _, _, h => h
  | fuel + 1, _, _, _, h => ⟨h.1, fun i hi => wpOp_mono (fun a' w' h' => wpAny_of_late fuel _ a' w' h'.2) (h.2 i hi)⟩

/-- Number z waits for number i. -/
def waits (md : Region.Mode) (ops : Array Oper) (z i : Nat) : Bool := match ops[z]? with | some o => o.after.any fun e => Region.binds md e && e.on == i | none => false

theorem wpAnyJ_first {i : Nat} {oi : Oper} {v : Value} (hi : ops[i]? = some oi) (hsel : ∀ (j : Nat) (o : Oper) cs b, ops[j]? = some o → o.op ≠ .select cs b)
    (hQ : ∀ c a w, Q (.panic c) (a.put oi.dst v) w → Q (.panic c) a w) (hz : waits md ops z i = true) :
    ∀ (fuel : Nat) (listed : Array Bool) (a : Act) (w : World),
      (∀ j oj, ops[j]? = some oj → j ≠ i → listed.getD j true = false → (∀ e ∈ oj.after, Region.binds md e = true → e.on ≠ i) → oi.apart ops oj = true) →
      i ∈ Region.ready md ops listed → YieldsIf P ops S oi v a → S w →
      wpAnyJ P md ops Q S z fuel (listed.setIfInBounds i true) (a.put oi.dst v) w → wpAnyJ P md ops Q S z (fuel + 1) listed a w := by
  intro fuel
  induction fuel with
  | zero =>
    intro listed a w _ hr hy hS H
    refine ⟨fun h => (by rw [h] at hr; cases hr), fun j hj => ?_⟩
    by_cases hji : j = i
    · subst hji; exact hy.wpOp hi hS ⟨fun _ => hS, H⟩
    · have := ready_mono hj hji
      rw [H.1] at this
      cases this
  | succ fuel ih =>
    intro listed a w hfree hr hy hS H
    refine ⟨fun h => (by rw [h] at hr; cases hr), fun j hj => ?_⟩
    by_cases hji : j = i
    · subst hji; exact hy.wpOp hi hS ⟨fun _ => hS, H⟩
    · have h1 := H.2 j (ready_mono hj hji)
      obtain ⟨hjun, oj, hoj, hall⟩ := mem_ready.1 hj
      have hnot : ∀ e ∈ oj.after, Region.binds md e = true → e.on ≠ i := fun e he hb heq => by
        have h1 := hall e he hb
        have h0 := (mem_ready.1 hr).1
        rw [heq] at h1
        rcases Nat.lt_or_ge i listed.size with h' | h'
        · simp [h'] at h0 h1; rw [h0] at h1; cases h1
        · simp [Array.getElem?_eq_none h'] at h1
      have hjz : j ≠ z := fun e => by
        subst e
        unfold waits at hz
        rw [hoj] at hz
        obtain ⟨k, hk, hk2⟩ := Array.any_eq_true.1 hz
        rw [Bool.and_eq_true] at hk2
        exact hnot _ (Array.getElem_mem hk) hk2.1 (by simpa using hk2.2)
      have h2 := wpOp_putIf hoj (hfree j oj hoj hji hjun hnot) (fun cs b => hsel i oi cs b hi) (fun cs b => hsel j oj cs b hoj) hQ hy h1
      have hfree' : ∀ k ok, ops[k]? = some ok → k ≠ i → (listed.setIfInBounds j true).getD k true = false →
          (∀ e ∈ ok.after, Region.binds md e = true → e.on ≠ i) → oi.apart ops ok = true := fun k ok hk hki hun hno => by
        refine hfree k ok hk hki ?_ hno
        by_cases hjk : j = k
        · subst hjk; exact hjun
        · rw [getD_set_ne true hjk] at hun; exact hun
      refine wpOp_mono (fun a' w' h3 => ⟨h3.2.1, ih (listed.setIfInBounds j true) a' w' hfree' (ready_mono hr (Ne.symm hji)) h3.1 (h3.2.1 hjz) ?_⟩) h2
      rw [Array.setIfInBounds_comm _ _ hji]
      exact h3.2.2

theorem wpAnyJ_take {i : Nat} {oi : Oper} {v : Value} {fuel : Nat} {listed : Array Bool} {a : Act} {w : World} (hi : ops[i]? = some oi)
    (hs : Region.noSelect ops = true) (hf : Region.free md ops listed i = true) (hr : (Region.ready md ops listed).contains i = true) (hz : waits md ops z i = true)
    (hQ : ∀ c a w, Q (.panic c) (a.put oi.dst v) w → Q (.panic c) a w) (hy : YieldsIf P ops S oi v a) (hS : S w)
    (h : wpAnyJ P md ops Q S z fuel (listed.setIfInBounds i true) (a.put oi.dst v) w) : wpAnyJ P md ops Q S z (fuel + 1) listed a w :=
  wpAnyJ_first hi (Region.noSelect_spec hs) hQ hz fuel listed a w (Region.free_spec hi hf) (by simpa using hr) hy hS h

/-- One operation alone may come up, and it is not number z. -/
theorem wpAnyJ_one {i : Nat} {o : Oper} {fuel : Nat} {listed : Array Bool} {a : Act} {w : World} (hr : Region.ready md ops listed = [i]) (hiz : i ≠ z) (ho : ops[i]? = some o)
    (h : ∀ K' : Act → World → Prop, Shut (∀ a w, S w → (S w → wpAnyJ P md ops Q S z fuel (listed.setIfInBounds i true) a w) → K' a w) → if Region.wanted o (yielded ops a.tmps) = true then Oper.wp P o a w K' Q else K' (a.put o.dst undef) w) :
    wpAnyJ P md ops Q S z (fuel + 1) listed a w :=
  ⟨fun h0 => (by rw [hr] at h0; cases h0), fun j hj => by
    rw [hr] at hj
    rcases List.mem_cons.1 hj with rfl | hj
    · exact wpOp_step ho (fun K' hK => h K' (fun a w hS hW => hK a w ⟨fun _ => hS, hW hS⟩))
    · cases hj⟩
/-- Number z comes up, alone. -/
theorem wpAnyJ_last {o : Oper} {fuel : Nat} {listed : Array Bool} {a : Act} {w : World} (hr : Region.ready md ops listed = [z]) (ho : ops[z]? = some o)
    (h : ∀ K' : Act → World → Prop, Shut (∀ a w, wpAnyJ P md ops Q S z fuel (listed.setIfInBounds z true) a w → K' a w) → if Region.wanted o (yielded ops a.tmps) = true then Oper.wp P o a w K' Q else K' (a.put o.dst undef) w) :
    wpAnyJ P md ops Q S z (fuel + 1) listed a w :=
  ⟨fun h0 => (by rw [hr] at h0; cases h0), fun j hj => by
    rw [hr] at hj
    rcases List.mem_cons.1 hj with rfl | hj
    · exact wpOp_step ho (fun K' hK => h K' (fun a w hW => hK a w ⟨fun h => absurd rfl h, hW⟩))
    · cases hj⟩
theorem wpAnyJ_done {listed : Array Bool} {a : Act} {w : World} (hr : Region.ready md ops listed = []) (h : Q .normal a w) : ∀ fuel, wpAnyJ P md ops Q S z fuel listed a w
  | 0 => ⟨hr, h⟩
  | _ + 1 => ⟨fun _ => h, by rw [hr]; simp⟩
theorem wp_region_late {id : Nat} {a : Act} {w : World} (hm : P.follows .mixedOrders = true) (hS : S w.drew)
    (h : S w.drew → wpAnyJ P .any ops Q S z ops.size (Array.replicate ops.size false) a w.drew) : (Code.region id ops true).wp P Q a w :=
  wp_region_any hm (wpAny_of_late _ _ _ _ (h hS))
end
end Go.Proofs.YtlgaeeedkihfpaaGreatDoor.Uf

/-
  Tokens in memory, and the reader with what it has read.
-/
namespace Go.Proofs.YtlgaeeedkihfpaaGreatDoor.Uf
open Go.RowKit
open Tz (B Atr Tok)

/-- All rows of a type are kept. -/
def KeepT (t : TypeId) (w w' : World) : Prop := ∀ (g : Nat) (cur : Array Value), w.heap[g]? = some (.cells cur t (0, 0)) → w'.heap[g]? = some (.cells cur t (0, 0))
theorem KeepT.refl (t : TypeId) (w : World) : KeepT t w w := fun _ _ h => h
theorem KeepT.trans {t : TypeId} {a b c : World} (h : KeepT t a b) (k : KeepT t b c) : KeepT t a c := fun g cur x => k g cur (h g cur x)
theorem KeepT.below {t : TypeId} {w w' : World} (h : Below w.heap.size w w') : KeepT t w w' := fun g _ x => (h.block g (heap_lt x)).trans x
theorem KeepT.only {t : TypeId} {S : Nat → Prop} {w w' : World} (h : Only S w w') (hS : ∀ g cur, w.heap[g]? = some (.cells cur t (0, 0)) → ¬ S g) : KeepT t w w' := fun g _ x => (h.block g (heap_lt x) (hS g _ x)).trans x
theorem KeepT.ofOnly {t t' : TypeId} {r : Nat} {cs : Array Value} {w w' : World} (hr : Blk w r t' cs) (hne : t ≠ t') (h : Only (fun b => b = r) w w') : KeepT t w w' :=
  .only h (fun g cur x e => by
    subst e
    have h2 : w.heap[g]? = some (.cells cs t' (0, 0)) := hr
    rw [x] at h2
    injection h2 with h2
    injection h2 with _ h2 _
    exact hne h2)
theorem own_row {w : World} {base n size : Nat} {e : TypeId} {v : Value} {xs : List Value} {k : Nat} (h : w.ownsRow base e size v n xs) (hk : v.ownBlock = some k) : ∃ cur, w.heap[k]? = some (.cells cur e (0, 0)) := by
  rcases h.2 with ⟨rfl, _⟩ | ⟨g, cap, cur, rfl, _, hg, _⟩
  · simp [Value.ownBlock] at hk
  · simp [Value.ownBlock] at hk
    subst hk
    exact ⟨cur, hg⟩
theorem own_keepT {w w' : World} {base n size : Nat} {e : TypeId} {v : Value} {xs : List Value} (h : w.ownsRow base e size v n xs) (hk : KeepT e w w') : w'.ownsRow base e size v n xs := by
  refine ⟨h.1, ?_⟩
  rcases h.2 with h2 | ⟨g, cap, cur, hv, hb, hg, h3⟩
  · exact .inl h2
  · exact .inr ⟨g, cap, cur, hv, hb, hk g cur hg, h3⟩

/-- Attributes as cells. -/
def atrCells (l : List Atr) : List Value := (l.map fun a => [Value.string (bs a.name), Value.string (bs a.val)]).flatten
@[simp] theorem atrCells_nil : atrCells [] = [] := rfl
theorem atrCells_cons (a : Atr) (l : List Atr) : atrCells (a :: l) = [Value.string (bs a.name), Value.string (bs a.val)] ++ atrCells l := by simp [atrCells]
theorem atrCells_append (l l' : List Atr) : atrCells (l ++ l') = atrCells l ++ atrCells l' := by simp [atrCells]
theorem atrCells_len (l : List Atr) : (atrCells l).length = l.length * 2 := by
  induction l with
  | nil => rfl
  | cons a l ih => rw [atrCells_cons, List.length_append, ih]; simp; omega
theorem atrCells_one (l : List Atr) : ∀ u ∈ atrCells l, u.oneCell' = true := by
  induction l with
  | nil => simp
  | cons a l ih =>
    rw [atrCells_cons]
    intro u hu
    rcases List.mem_append.1 hu with h | h
    · simp at h
      rcases h with rfl | rfl <;> rfl
    · exact ih u h
/-- Tokens' cells. -/
def tokCells (t : Tok) (A : Option Addr) (c : Nat) : List Value := [.int .i64 (t.kind : Nat), .string (bs t.name), .slice A t.attrs.length c, .bool t.closed, .string (bs t.text)]
inductive TokC (w : World) : List Tok → List Value → Prop where
  | nil : TokC w [] []
  | snoc {ts : List Tok} {xs : List Value} (t : Tok) (A : Option Addr) (c : Nat) : TokC w ts xs → w.ownsRow 0 57 2 (.slice A t.attrs.length c) t.attrs.length (atrCells t.attrs) → TokC w (ts ++ [t]) (xs ++ tokCells t A c)
theorem TokC.keep {w w' : World} (hk : KeepT 57 w w') : ∀ {ts : List Tok} {xs : List Value}, TokC w ts xs → TokC w' ts xs
  | _, _, .nil => .nil
  | _, _, .snoc t A c h1 h2 => .snoc t A c (h1.keep hk) (own_keepT h2 hk)
/-- Tokens in memory. -/
def Toks (w : World) (base : Nat) (v : Value) (ts : List Tok) : Prop := ∃ xs, w.ownsRow base 55 5 v ts.length xs ∧ TokC w ts xs
/-- What a step of the reader leaves. -/
def RdP (w : World) (r base : Nat) (v : Value) (s : B) (k' : Nat) (ts' : List Tok) (w' : World) : Prop :=
  ∃ v', Rdr w' r s k' v' ∧ Toks w' base v' ts' ∧ Only (fun b => b = r ∨ v.ownBlock = some b) w w' ∧ (v'.ownBlock = v.ownBlock ∨ ∀ b, v'.ownBlock = some b → w.heap.size ≤ b)
theorem Rdr.ne {w : World} {r k n base : Nat} {s : B} {v v2 : Value} {xs : List Value} (h : Rdr w r s k v) (h2 : w.ownsRow base 55 5 v2 n xs) : v2.ownBlock ≠ some r := own_blk_ne h2 h (by decide)
end Go.Proofs.YtlgaeeedkihfpaaGreatDoor.Uf

/-
  Trees in memory: every cell that is read lies in a block of a set.
-/
namespace Go.Proofs.YtlgaeeedkihfpaaGreatDoor.Uf
open Go.RowKit
open Tz (B Atr Tok Nod)

/-- A slice that reads as a list of cells, in blocks of S; nil let in. -/
def RdS (w : World) (S : Nat → Prop) (size : Nat) (A : Option Addr) (n : Nat) (xs : List Value) : Prop :=
  xs.length = n * size ∧ (0 < n → ∃ ad, A = some ad ∧ S ad.block ∧ ∀ j u, xs[j]? = some u → w.cell? (ad.add j) = some u)
mutual
def NodC (w : World) (S : Nat → Prop) : Nod → List Value → Prop
  | .mk n a t k, xs => ∃ A ca K ck ys, xs = [.string (bs n), .slice A a.length ca, .string (bs t), .slice K k.length ck] ∧ RdS w S 2 A a.length (atrCells a) ∧ RdS w S 4 K k.length ys ∧ NodsC w S k ys
def NodsC (w : World) (S : Nat → Prop) : List Nod → List Value → Prop
  | [], xs => xs = []
  | n :: r, xs => ∃ y ys, xs = y ++ ys ∧ NodC w S n y ∧ NodsC w S r ys
end
/-- All blocks of S are as they were. -/
def KeepS (S : Nat → Prop) (w w' : World) : Prop := ∀ b, S b → w'.heap[b]? = w.heap[b]?

section
variable {w w' : World} {S S' : Nat → Prop} {size n : Nat} {A : Option Addr} {xs : List Value}
theorem cell_heap {w w' : World} {p : Addr} (h : w'.heap[p.block]? = w.heap[p.block]?) : w'.cell? p = w.cell? p := by
  unfold World.cell?
  rw [h]
theorem RdS.nil_ : RdS w S size none 0 [] := ⟨by simp, fun h => absurd h (by omega)⟩
theorem RdS.zero {A : Option Addr} : RdS w S size A 0 [] := ⟨by simp, fun h => absurd h (by omega)⟩
theorem RdS.keep (h : RdS w S size A n xs) (hk : KeepS S w w') : RdS w' S size A n xs :=
  ⟨h.1, fun hn => by
    obtain ⟨ad, e, hb, hc⟩ := h.2 hn
    exact ⟨ad, e, hb, fun j u hu => (cell_heap (by rw [block_of_add]; exact hk _ hb)).trans (hc j u hu)⟩⟩
theorem RdS.mono (h : RdS w S size A n xs) (hS : ∀ b, S b → S' b) : RdS w S' size A n xs :=
  ⟨h.1, fun hn => by
    obtain ⟨ad, e, hb, hc⟩ := h.2 hn
    exact ⟨ad, e, hS _ hb, hc⟩⟩
theorem RdS.reads {N : Nat} (h : RdS w S size A n xs) (hS : ∀ b, S b → b < N) : Reads w N size A n xs :=
  ⟨h.1, fun hn => by
    obtain ⟨ad, e, hb, hc⟩ := h.2 hn
    exact ⟨ad, e, hS _ hb, hc⟩⟩
theorem RdS.of_own {base : Nat} {e : TypeId} {c : Nat} (h : w.ownsRow base e size (.slice A n c) n xs) : RdS w (fun b => (Value.slice A n c).ownBlock = some b) size A n xs := by
  refine ⟨h.1, fun hn => ?_⟩
  obtain ⟨g, cap, hv, _, hlt⟩ := h.form hn
  have hA : A = some ⟨g, 0, none⟩ := by injection hv
  subst hA
  exact ⟨_, rfl, rfl, h.cells (g := g) rfl⟩
theorem KeepS.refl (S : Nat → Prop) (w : World) : KeepS S w w := fun _ _ => rfl
theorem KeepS.trans {a b c : World} (h : KeepS S a b) (k : KeepS S b c) : KeepS S a c := fun i hi => (k i hi).trans (h i hi)
theorem KeepS.below (h : Below w.heap.size w w') (hS : ∀ b, S b → b < w.heap.size) : KeepS S w w' := fun b hb => h.block b (hS b hb)
theorem KeepS.only {T : Nat → Prop} (h : Only T w w') (hS : ∀ b, S b → b < w.heap.size) (hT : ∀ b, S b → ¬ T b) : KeepS S w w' := fun b hb => h.block b (hS b hb) (hT b hb)
theorem KeepS.sub (h : KeepS S w w') (hS : ∀ b, S' b → S b) : KeepS S' w w' := fun b hb => h b (hS b hb)
theorem KeepS.drewN (h : KeepS S w w') (n : Nat) : KeepS S w (w'.drewN n) := h
end
mutual
theorem NodC.keep {w w' : World} {S : Nat → Prop} (hk : KeepS S w w') : ∀ (n : Nod) (xs : List Value), NodC w S n xs → NodC w' S n xs
  | .mk n a t k, xs, h => by
    unfold NodC at h ⊢
    obtain ⟨A, ca, K, ck, ys, h1, h2, h3, h4⟩ := h
    exact ⟨A, ca, K, ck, ys, h1, h2.keep hk, h3.keep hk, NodsC.keep hk k ys h4⟩
theorem NodsC.keep {w w' : World} {S : Nat → Prop} (hk : KeepS S w w') : ∀ (l : List Nod) (xs : List Value), NodsC w S l xs → NodsC w' S l xs
  | [], xs, h => by unfold NodsC at h ⊢; exact h
  | n :: r, xs, h => by
    unfold NodsC at h ⊢
    obtain ⟨y, ys, h1, h2, h3⟩ := h
    exact ⟨y, ys, h1, NodC.keep hk n y h2, NodsC.keep hk r ys h3⟩
end
mutual
theorem NodC.mono {w : World} {S S' : Nat → Prop} (hS : ∀ b, S b → S' b) : ∀ (n : Nod) (xs : List Value), NodC w S n xs → NodC w S' n xs
  | .mk n a t k, xs, h => by
    unfold NodC at h ⊢
    obtain ⟨A, ca, K, ck, ys, h1, h2, h3, h4⟩ := h
    exact ⟨A, ca, K, ck, ys, h1, h2.mono hS, h3.mono hS, NodsC.mono hS k ys h4⟩
theorem NodsC.mono {w : World} {S S' : Nat → Prop} (hS : ∀ b, S b → S' b) : ∀ (l : List Nod) (xs : List Value), NodsC w S l xs → NodsC w S' l xs
  | [], xs, h => by unfold NodsC at h ⊢; exact h
  | n :: r, xs, h => by
    unfold NodsC at h ⊢
    obtain ⟨y, ys, h1, h2, h3⟩ := h
    exact ⟨y, ys, h1, NodC.mono hS n y h2, NodsC.mono hS r ys h3⟩
end
section
variable {w w' : World} {S S' : Nat → Prop}
theorem NodC.len {n : Nod} {xs : List Value} (h : NodC w S n xs) : xs.length = 4 := by
  obtain ⟨n, a, t, k⟩ := n
  unfold NodC at h
  obtain ⟨A, ca, K, ck, ys, rfl, _⟩ := h
  rfl
theorem NodsC.len : ∀ {l : List Nod} {xs : List Value}, NodsC w S l xs → xs.length = l.length * 4
  | [], xs, h => by unfold NodsC at h; rw [h]; rfl
  | n :: r, xs, h => by
    unfold NodsC at h
    obtain ⟨y, ys, rfl, h2, h3⟩ := h
    rw [List.length_append, h2.len, h3.len, List.length_cons]
    omega
theorem NodsC.nil : NodsC w S [] [] := by unfold NodsC; rfl
theorem NodsC.app : ∀ {l r : List Nod} {xs ys : List Value}, NodsC w S l xs → NodsC w S r ys → NodsC w S (l ++ r) (xs ++ ys)
  | [], r, xs, ys, h, h' => by unfold NodsC at h; rw [h]; exact h'
  | n :: l, r, xs, ys, h, h' => by
    unfold NodsC at h
    obtain ⟨y, zs, rfl, h2, h3⟩ := h
    show NodsC w S (n :: (l ++ r)) _
    unfold NodsC
    exact ⟨y, zs ++ ys, by simp, h2, h3.app h'⟩
theorem NodsC.one {n : Nod} {y : List Value} (h : NodC w S n y) : NodsC w S [n] y := by
  unfold NodsC
  exact ⟨y, [], by simp, h, NodsC.nil⟩
theorem NodsC.parts : ∀ {l r : List Nod} {xs : List Value}, NodsC w S (l ++ r) xs → ∃ ys zs, xs = ys ++ zs ∧ NodsC w S l ys ∧ NodsC w S r zs
  | [], r, xs, h => ⟨[], xs, rfl, NodsC.nil, h⟩
  | n :: l, r, xs, h => by
    have h : NodsC w S (n :: (l ++ r)) xs := h
    unfold NodsC at h
    obtain ⟨y, zs, rfl, h2, h3⟩ := h
    obtain ⟨ys, vs, rfl, h4, h5⟩ := h3.parts
    exact ⟨y ++ ys, vs, by simp, by unfold NodsC; exact ⟨y, ys, rfl, h2, h4⟩, h5⟩
/-- The cells of node number i. -/
theorem NodsC.at_ {l : List Nod} {xs : List Value} (h : NodsC w S l xs) (i : Nat) (hi : i < l.length) : ∃ y, NodC w S l[i] y ∧ (∀ j, j < 4 → xs[i * 4 + j]? = y[j]?) := by
  have e : l = l.take i ++ (l[i] :: l.drop (i + 1)) := by
    rw [← List.drop_eq_getElem_cons hi, List.take_append_drop]
  rw [e] at h
  obtain ⟨ys, zs, rfl, h1, h2⟩ := h.parts
  have hl := h1.len
  rw [List.length_take, Nat.min_eq_left (Nat.le_of_lt hi)] at hl
  unfold NodsC at h2
  obtain ⟨y, vs, rfl, h3, h4⟩ := h2
  refine ⟨y, h3, fun j hj => ?_⟩
  rw [List.getElem?_append_right (by omega), show i * 4 + j - ys.length = j by omega, List.getElem?_append_left (by rw [h3.len]; exact hj)]
theorem NodC.one_ {n : Nod} {xs : List Value} (h : NodC w S n xs) : ∀ u ∈ xs, u.oneCell' = true := by
  obtain ⟨n, a, t, k⟩ := n
  unfold NodC at h
  obtain ⟨A, ca, K, ck, ys, rfl, _⟩ := h
  intro u hu
  simp only [List.mem_cons, List.not_mem_nil, or_false] at hu
  rcases hu with rfl | rfl | rfl | rfl <;> rfl
end
end Go.Proofs.YtlgaeeedkihfpaaGreatDoor.Uf
