/-
  Texts of the proof of Harm, one behind the other: UrlC, SafA, SegC, SafB.
-/
import Derived.Test.YtlgaeeedkihfpaaGreatDoorH25
import Derived.Test.YtlgaeeedkihfpaaGreatDoorH11
/-
  url.Allowed; safe.Place.
-/
namespace Go.Proofs.YtlgaeeedkihfpaaGreatDoor.Uf
open Go.RowKit
open Tz (B bareU schemeU allowedU)

def okU (c : UInt8) : Bool := decide (32 ≤ c.toNat) && c != 92 && c != 127
theorem okU_x {c : UInt8} {x : Nat} (h : x = c.toNat) : okU c = (decide (32 ≤ x) && decide (x ≠ 92) && decide (x ≠ 127)) := by
  unfold okU
  rw [h]
  have e : ∀ n : UInt8, (c != n) = decide (c.toNat ≠ n.toNat) := fun n => by
    have := ceq (c := c) rfl n
    by_cases hc : c = n
    · subst hc; simp
    · have : c.toNat ≠ n.toNat := fun e => hc (UInt8.toNat_inj.1 e)
      simp [hc, this]
  rw [e 92, e 127]
  rfl

set_option maxRecDepth 100000 in
set_option maxHeartbeats 4000000 in
theorem allowed_u {w : World} {S : Nat → Prop} {A : Option Addr} {n c : Nat} {schemes : List B} (s : B) (h : StrsAt w S A n schemes) (hS : ∀ j, S j → j < w.heap.size) (hl : schemes.length ≤ 1000000) (hs : s.length ≤ 10000000) :
    Calls Tryz.prog 95 #[.string (bs s), .slice A n c] w fun e w' => e = .returned (.bool (allowedU s schemes)) ∧ Below w.heap.size w w' := by
  have hbl := bareU_len s
  go_enter Tryz.func95, Tryz.ntmps95
  go_wp2_with fail
  refine (scheme_u s hs).mono ?_
  rintro e1 w1 ⟨he, hb1⟩
  have h1 := h.keep (KeepS.below hb1 hS)
  cases hsc : schemeU s with
  | some x =>
    have HA := Lib.hid (show allowedU s schemes = schemes.contains x by unfold allowedU; rw [hsc])
    rw [hsc] at he
    subst he
    clear hsc
    go_wp2_with fail
    refine (contains_u x h1 hl).mono ?_
    generalize schemes.contains x = z at HA
    rintro e2 w2 ⟨rfl, hw2⟩
    rw [hw2]
    clear hw2 w2
    go_wp2_with fail
    go_ret
    exact ⟨by rw [HA.out]; rfl, hb1⟩
  | none =>
    have HA0 := Lib.hid (show allowedU s schemes = (!([47, 47] : B).isPrefixOf (bareU s) && (bareU s).all okU) by unfold allowedU; rw [hsc]; rfl)
    rw [hsc] at he
    subst he
    clear hsc h1 h
    go_wp2_with fail
    refine (bareu_u s hs).mono ?_
    rintro e2 w2 ⟨rfl, hb2⟩
    have hb := hb1.trans (hb2.mono hb1.size)
    clear hb1 hb2
    have htl : (bareU s).length ≤ 10000000 := by omega
    generalize bareU s = t at HA0 htl ⊢
    go_wp2_with fail
    refine (has_prefix t [47, 47]).mono ?_
    rintro e3 w3 ⟨rfl, hw3⟩
    rw [hw3]
    clear hw3 w3
    cases hpf : ([47, 47] : B).isPrefixOf t with
    | true =>
      have HA := Lib.hid (show allowedU s schemes = false by rw [HA0.out, hpf]; rfl)
      clear hpf
      go_wp2_with fail
      go_ret
      exact ⟨by rw [HA.out]; rfl, hb⟩
    | false =>
    have HA := Lib.hid (show allowedU s schemes = t.all okU by rw [HA0.out, hpf]; rfl)
    clear hpf HA0 hbl
    go_wp2_with fail
    go_loopw [24] (fun vi wr => ∃ k : Nat, vi = .int .i64 k ∧ k ≤ t.length ∧ wr = w2 ∧ Hid ((t.drop k).all okU = t.all okU)) (fun vi _ => t.length - kOf vi)
    case atStart => exact ⟨0, rfl, Nat.zero_le _, rfl, Lib.hid rfl⟩
    case round =>
    obtain ⟨k, rfl, hk, rfl, Hk⟩ := hrel
    by_cases hlt : k < t.length
    · have t0 : (k : Int) < ((bs t).size : Int) := by rw [bs_size]; omega
      have t1 : k < (bs t).size := by rw [bs_size]; omega
      obtain ⟨c, hc⟩ : ∃ c, c = t[k] := ⟨_, rfl⟩
      have hdc : t.drop k = c :: t.drop (k + 1) := hc ▸ List.drop_eq_getElem_cons hlt
      have hb0 : ((bs t)[k]'t1).toNat = c.toNat := by rw [hc]; rfl
      obtain ⟨x, hx⟩ : ∃ x, x = c.toNat := ⟨_, rfl⟩
      rw [← hx] at hb0
      have Hx := Lib.hid hx
      have Hdc := Lib.hid hdc
      have hi1 : IntKind.i64.wrap ((k : Int) + 1) = ((k + 1 : Nat) : Int) := by rw [IntKind.wrap_i64]; omega
      clear hx hdc hc
      by_cases a1 : (x : Int) < 32
      · skip
        have Hst := Lib.hid (show t.all okU = false by rw [← Hk.out, Hdc.out, List.all_cons, show okU c = false by rw [okU_x Hx.out]; simp; omega]; simp)
        go_wp2_with fail
        go_ret
        exact ⟨by rw [HA.out, Hst.out]; rfl, hb⟩
      by_cases a2 : x = 92
      · have g92 : ((x : Int) == 92) = true := by simp; omega
        have Hst := Lib.hid (show t.all okU = false by rw [← Hk.out, Hdc.out, List.all_cons, show okU c = false by rw [okU_x Hx.out]; simp; omega]; simp)
        go_wp2_with fail
        go_ret
        exact ⟨by rw [HA.out, Hst.out]; rfl, hb⟩
      have g92 : ((x : Int) == 92) = false := by simp; omega
      by_cases a3 : x = 127
      · have g127 : ((x : Int) == 127) = true := by simp; omega
        have Hst := Lib.hid (show t.all okU = false by rw [← Hk.out, Hdc.out, List.all_cons, show okU c = false by rw [okU_x Hx.out]; simp; omega]; simp)
        go_wp2_with fail
        go_ret
        exact ⟨by rw [HA.out, Hst.out]; rfl, hb⟩
      have g127 : ((x : Int) == 127) = false := by simp; omega
      have Hst := Lib.hid (show (t.drop (k + 1)).all okU = t.all okU by rw [← Hk.out, Hdc.out, List.all_cons, show okU c = true by rw [okU_x Hx.out]; simp; omega]; simp)
      go_wp2_with fail
      go_roundw
      case rel => exact ⟨k + 1, rfl, hlt, trivial, Hst⟩
      case measure =>
        show t.length - kOf (.int .i64 ((k + 1 : Nat) : Int)) < t.length - kOf (.int .i64 (k : Int))
        simp only [kOf, Int.toNat_natCast]
        omega
    · have t0 : ¬ ((k : Int) < ((bs t).size : Int)) := by rw [bs_size]; omega
      have Hst := Lib.hid (show t.all okU = true by rw [← Hk.out, List.drop_of_length_le (by omega)]; rfl)
      go_wp2_with fail
      go_ret
      exact ⟨by rw [HA.out, Hst.out]; rfl, hb⟩

set_option maxRecDepth 100000 in
set_option maxHeartbeats 4000000 in
theorem places_u {w : World} (s : B) : Calls Tryz.prog 94 #[.string (bs s)] w fun e w' => e = .returned (.bool (Tz.places.contains s)) ∧ Below w.heap.size w w' := by
  go_enter Tryz.func94, Tryz.ntmps94
  go_wp2_with fail
  have hb := (Below.refl w.heap.size w).alloc (Nat.le_refl _) (.cells (strCells Tz.places).toArray 144)
  have hs1 := StrsAt.of_blk (l := Tz.places) (Blk.new w 144 (strCells Tz.places).toArray)
  refine (contains_u s hs1 (by decide)).mono ?_
  generalize hz : Tz.places.contains s = z
  have HZ := Lib.hid hz
  clear hz
  rintro e1 w1 ⟨rfl, hw1⟩
  rw [hw1]
  clear hw1 w1
  go_wp2_with fail
  go_ret
  exact ⟨by rw [HZ.out]; rfl, hb⟩
end Go.Proofs.YtlgaeeedkihfpaaGreatDoor.Uf

/-
  safe.classes.
-/
namespace Go.Proofs.YtlgaeeedkihfpaaGreatDoor.Uf
open Go.RowKit Go.WideMaps Go.Maps
open Tz (B splitL onceG classesOk)

theorem onceG_congr (l : List B) : ∀ (r s1 s2 : List B), (∀ x, s1.contains x = s2.contains x) → onceG l r s1 = onceG l r s2
  | [], _, _, _ => rfl
  | c :: r, s1, s2, h => by
    unfold onceG
    rw [h c, onceG_congr l r (c :: s1) (c :: s2) (fun x => by simp only [List.contains_cons, h x])]
theorem onceG_step (l : List B) (c : B) (r s : List B) : onceG l (c :: r) s = (!s.contains c && l.contains c && onceG l r (s ++ [c])) := by
  conv => lhs; unfold onceG
  rw [onceG_congr l r (c :: s) (s ++ [c]) (fun x => by simp [Bool.or_comm])]

set_option maxRecDepth 100000 in
set_option maxHeartbeats 4000000 in
theorem classes_u {w : World} {S : Nat → Prop} {A : Option Addr} {n c : Nat} {cl : List B} {m : Int} (v : B) (h : StrsAt w S A n cl) (hS : ∀ j, S j → j < w.heap.size) (hl : cl.length ≤ 1000000) (hv : v.length ≤ 1000000) (hm : w.cell? ⟨0, 0, none⟩ = some (.int .i64 m)) :
    Calls Tryz.prog 93 #[.string (bs v), .slice A n c] w fun e w' => e = .returned (.bool (classesOk v cl)) ∧ Below w.heap.size w w' := by
  have hmm := @run_makeMap Tryz.prog
  have h0 : (0 : Nat) < w.heap.size := World.block_lt_of_cell? w ⟨0, 0, none⟩ hm
  have hm1 : (w.alloc (.map #[] 0)).cell? ⟨0, 0, none⟩ = some (.int .i64 m) := (World.cell?_alloc_lt w _ ⟨0, 0, none⟩ h0).trans hm
  have hll := split_len 32 v
  have hlm := split_mem 32 v
  have HC := Lib.hid (show classesOk v cl = onceG cl (splitL 32 v) [] from rfl)
  go_enter Tryz.func93, Tryz.ntmps93
  go_wp2_with fail
  refine (split_u v 32 (by omega) hm1).mono ?_
  generalize splitL 32 v = l at hll hlm HC ⊢
  rintro e1 w1 ⟨rfl, hw1⟩
  simp only [alloc_size] at hw1 ⊢
  have hB1 : Below w.heap.size w w1 := by rw [hw1]; exact ((Below.refl _ w).alloc (Nat.le_refl _) _).alloc (by rw [alloc_size]; omega) _
  have hR1 : Blk w1 (w.heap.size + 1) 9 (strCells l).toArray := by
    rw [hw1]
    have := Blk.new (w.alloc (.map #[] 0)) 9 (strCells l).toArray
    rw [alloc_size] at this
    exact this
  have hS1 : Seen w1 w.heap.size 0 [] := by
    rw [hw1]
    refine seen_kept (seen_new w) ?_
    exact ((Below.refl (w.heap.size + 1) (w.alloc (.map #[] 0))).alloc (by rw [alloc_size]; omega) _).block _ (by omega)
  have h1 := h.keep (KeepS.below hB1 hS)
  clear hw1 hm1 hmm h
  go_wp2_with fail
  go_loopw [12] (fun vi wr => ∃ (k : Nat) (sn : List B), vi = .int .i64 k ∧ k ≤ l.length ∧ Seen wr w.heap.size k sn ∧ Blk wr (w.heap.size + 1) 9 (strCells l).toArray ∧ StrsAt wr S A n cl ∧ Below w.heap.size w wr ∧ Hid (onceG cl (l.drop k) sn = onceG cl l [])) (fun vi _ => l.length - kOf vi)
  case atStart => exact ⟨0, [], rfl, Nat.zero_le _, hS1, hR1, h1, hB1, Lib.hid rfl⟩
  case round =>
    obtain ⟨k, sn, rfl, hk, hsn, hR, hst, hb, Hk⟩ := hrel
    by_cases hlt : k < l.length
    · have t0 : (k : Int) < (l.length : Int) := by omega
      obtain ⟨x, hx⟩ : ∃ x, x = l[k] := ⟨_, rfl⟩
      have hc : wr.cell? ⟨w.heap.size + 1, k, none⟩ = some (.string (bs x)) := by
        have := Blk.cell hR k
        rw [this, List.getElem?_toArray, List.getElem?_eq_getElem (by simpa using hlt), hx]
        simp [strCells]
      have hxl : x.length ≤ v.length := hlm x (by rw [hx]; exact List.getElem_mem _)
      have hdc : l.drop k = x :: l.drop (k + 1) := hx ▸ List.drop_eq_getElem_cons hlt
      have hstep := onceG_step cl x (l.drop (k + 1)) sn
      rw [← hdc, Hk.out] at hstep
      have Hst := Lib.hid hstep
      clear hx hdc hstep
      have hi1 : IntKind.i64.wrap ((k : Int) + 1) = ((k + 1 : Nat) : Int) := by rw [IntKind.wrap_i64]; omega
      have hlook := seen_look (x := x) hsn (by omega)
      cases hsc : sn.contains x with
      | true =>
        rw [hsc] at hlook Hst
        clear hsc
        go_wp2_with fail
        go_ret
        exact ⟨by rw [HC.out, Hst.out]; rfl, hb⟩
      | false =>
        rw [hsc] at hlook Hst
        clear hsc
        go_wp2_with fail
        refine (contains_u x hst hl).mono ?_
        generalize cl.contains x = z at Hst
        rintro e2 w2 ⟨rfl, hw2⟩
        rw [hw2]
        clear hw2 w2
        cases z with
        | false =>
          go_wp2_with fail
          go_ret
          exact ⟨by rw [HC.out, Hst.out]; rfl, hb⟩
        | true =>
          obtain ⟨w3, hput, hs3, hg3⟩ := seen_put hsn (x := x) (by omega) (by omega)
          have hne : ∀ {j : Nat} {t : TypeId} {cs : Array Value}, Blk wr j t cs → some j ≠ some w.heap.size := fun hx e => by injection e with e; exact seen_ne hsn hx e.symm
          have hR3 := hR.grown hg3 (hne hR)
          have hst3 := hst.keep (w' := w3) (fun j hj => hg3.block j (Nat.lt_of_lt_of_le (hS j hj) hb.size) (fun e => by injection e with e; have := hS j hj; omega))
          have hb3 : Below w.heap.size w w3 := hb.grown hg3 hb.size (fun k hk => by injection hk with hk; omega)
          have Hst2 := Lib.hid (show onceG cl (l.drop (k + 1)) (sn ++ [x]) = onceG cl l [] by rw [Hst.out]; rfl)
          clear hg3 hne hlook
          go_wp2_with fail
          go_roundw
          case rel => exact ⟨k + 1, sn ++ [x], rfl, hlt, hs3, hR3, hst3, hb3, Hst2⟩
          case measure =>
            show l.length - kOf (.int .i64 ((k + 1 : Nat) : Int)) < l.length - kOf (.int .i64 (k : Int))
            simp only [kOf, Int.toNat_natCast]
            omega
    · have t0 : ¬ ((k : Int) < (l.length : Int)) := by omega
      have Hst := Lib.hid (show onceG cl l [] = true by rw [← Hk.out, List.drop_of_length_le (by omega)]; rfl)
      go_wp2_with fail
      go_ret
      exact ⟨by rw [HC.out, Hst.out]; rfl, hb⟩
end Go.Proofs.YtlgaeeedkihfpaaGreatDoor.Uf

/-
  Regions no operation of which leaves a condition on the world.
-/
namespace Go.Proofs.YtlgaeeedkihfpaaGreatDoor.Uf
open Go.RowKit
section
variable {P : Program} {md : Region.Mode} {Q : Exit → Act → World → Prop} {S : World → Prop} {l : List Oper}
def everyB (ops : Array Oper) (n F : Nat) : Bool :=
  Region.noSelect ops && decide (n + F = ops.size) && segB .any ops (fun _ => false) n 0 (Array.replicate ops.size false)
theorem wp_region_every {id : Nat} {a : Act} {w : World} (n F : Nat) (hm : P.follows .mixedOrders = true) (hB : everyB l.toArray n F = true) (hQ : panicsOk Q) (hS : S w.drew)
    (h : wpQuiet P l.toArray S (fun a' => wpAnyZ P .any l.toArray Q S (fun _ => false) F (markF (Array.replicate l.length false) 0 n) a' w.drew) (l.take n) a) : (Code.region id l.toArray true).wp P Q a w := by
  simp only [everyB, Bool.and_eq_true, decide_eq_true_eq] at hB
  obtain ⟨⟨hs, hn⟩, hseg⟩ := hB
  have hn' : n ≤ l.length := by simp at hn; omega
  have hlen : (l.take n).length = n := by simp [hn']
  refine wp_region_any hm ?_
  refine wpAny_of_z (S := S) (z := fun _ => false) _ _ _ _ ?_
  have key := wpAnyZ_seg (P := P) (Q := Q) (md := .any) (S := S) (z := fun _ => false) (fuel := F) (w := w.drew) hs hQ hS
    (fun j hj => rfl) (l.take n) 0 (Array.replicate l.toArray.size false) a (fun j hj => by
      have : j < n := by omega
      simp [this]) (by rw [hlen]; exact hseg) (shutd_none _)
  rw [hlen, hn] at key
  refine key ?_
  simpa using h
theorem wpAnyZ_one {i F : Nat} {o : Oper} {rest : List Oper} {listed : Array Bool} {a : Act} {w : World} (_hS : S w) (hr : Region.ready md l.toArray listed = [i]) (ho : l.drop i = o :: rest)
    (h : ∀ K : Act → World → Prop, Shut (∀ a w, S w → wpAnyZ P md l.toArray Q S (fun _ => false) F (listed.setIfInBounds i true) a w → K a w) → if Region.wanted o (yielded l.toArray a.tmps) = true then Oper.wp P o a w K Q else K (a.put o.dst undef) w) :
    wpAnyZ P md l.toArray Q S (fun _ => false) (F + 1) listed a w := by
  have h0 : l.toArray[i]? = some o := by
    rw [List.getElem?_toArray]
    have := congrArg (·[0]?) ho
    simpa using this
  have h := h (fun a w => S w ∧ wpAnyZ P md l.toArray Q S (fun _ => false) F (listed.setIfInBounds i true) a w) (fun _ _ h1 h2 => ⟨h1, h2⟩)
  refine ⟨fun h1 => (by rw [hr] at h1; cases h1), fun j hj => ?_⟩
  rw [hr] at hj
  rcases List.mem_cons.1 hj with rfl | hj
  · unfold wpOp
    rw [h0]
    by_cases hwt : Region.wanted o (yielded l.toArray a.tmps) = true
    · rw [if_pos hwt] at h
      simp only [hwt, if_true]
      exact .inl (Oper.wp_mono (fun a w hh => ⟨fun _ => hh.1, hh.2⟩) h)
    · rw [if_neg hwt] at h
      simp only [hwt]
      exact ⟨fun _ => h.1, h.2⟩
  · cases hj
theorem wpAnyZ_end {F : Nat} {listed : Array Bool} {a : Act} {w : World} (hr : Region.ready md l.toArray listed = []) (h : Q .normal a w) : wpAnyZ P md l.toArray Q S (fun _ => false) F listed a w := by
  cases F with
  | zero => exact ⟨hr, h⟩
  | succ F => exact ⟨fun _ => h, by rw [hr]; simp⟩
def shutdB (md : Region.Mode) (ops : Array Oper) (listed : Array Bool) : Bool := (List.range ops.size).all fun j => match ops[j]? with
  | some o => !listed.getD j false || o.after.all fun e => !Region.binds md e || listed.getD e.on false
  | none => true
theorem shutd_of {ops : Array Oper} {listed : Array Bool} (h : shutdB md ops listed = true) : Shutd md ops listed := by
  intro j o ho hl e he hb
  have hj : j < ops.size := by
    rcases Nat.lt_or_ge j ops.size with h' | h'
    · exact h'
    · rw [Array.getElem?_eq_none h'] at ho; cases ho
  have := List.all_eq_true.1 h j (List.mem_range.2 hj)
  rw [ho] at this
  simp only [hl, Bool.not_true, Bool.false_or] at this
  have := (Array.all_eq_true_iff_forall_mem.1 this) e he
  simpa [hb] using this
theorem wpAnyZ_pure {i F : Nat} {o : Oper} {rest : List Oper} {listed : Array Bool} {a : Act} {w : World} (hS : S w) (ho : l.drop i = o :: rest) (hB : (Region.noSelect l.toArray && (Region.ready md l.toArray listed).contains i && Region.free md l.toArray listed i && plainK o) = true) (hsh : shutdB md l.toArray listed = true) (hQ : panicsOk Q)
    (h : wpQuiet P l.toArray S (fun a' => wpAnyZ P md l.toArray Q S (fun _ => false) F (listed.setIfInBounds i true) a' w) [o] a) : wpAnyZ P md l.toArray Q S (fun _ => false) (F + 1) listed a w := by
  simp only [Bool.and_eq_true] at hB
  obtain ⟨⟨⟨hs, hr⟩, hf⟩, hk⟩ := hB
  have h0 : l.toArray[i]? = some o := by
    rw [List.getElem?_toArray]
    have := congrArg (·[0]?) ho
    simpa using this
  simp only [wpQuiet] at h
  by_cases hwt : Region.wanted o (yielded l.toArray a.tmps) = true
  · rw [if_pos hwt] at h
    obtain ⟨v, hv, hK⟩ := h
    exact wpAnyZ_first (f := 0) h0 (Region.noSelect_spec hs) (fun c a w => hQ.at_ c a _ _ w) F listed a w (Region.free_spec h0 hf) (fun j _ hz => by cases hz) (shutd_of hsh) (by simpa using hr) (yieldsIf_of hk hwt hv) hS hK
  · rw [if_neg hwt] at h
    exact wpAnyZ_first (f := 0) h0 (Region.noSelect_spec hs) (fun c a w => hQ.at_ c a _ _ w) F listed a w (Region.free_spec h0 hf) (fun j _ hz => by cases hz) (shutd_of hsh) (by simpa using hr) (.inr ⟨by simpa using hwt, rfl⟩) hS h
end
end Go.Proofs.YtlgaeeedkihfpaaGreatDoor.Uf

/-
  safe.Value.
-/
namespace Go.Proofs.YtlgaeeedkihfpaaGreatDoor.Uf
open Go.RowKit
open Tz (B Atr Pol valueP elemP attrP filterS)

/-- What safe.Value finds in memory: the policy in block P, the attribute in block Q. -/
structure VaS (w V : World) (S : Nat → Prop) (P Q : Nat) (cs : Array Value) (p : Pol) (a : Atr) (A3 A4 A5 : Option Addr) (c3 c4 c5 : Nat) (m : Int) : Prop where
  hP : Blk V P 24 cs
  hQ : Blk V Q 57 #[.string (bs a.name), .string (bs a.val)]
  a3 : cs[3]? = some (.slice A3 p.schemes.length c3)
  a4 : cs[4]? = some (.slice A4 p.classes.length c4)
  a5 : cs[5]? = some (.slice A5 p.props.length c5)
  s3 : StrsAt V S A3 p.schemes.length p.schemes
  s4 : StrsAt V S A4 p.classes.length p.classes
  s5 : StrsAt V S A5 p.props.length p.props
  pol : PolV V S cs p
  hm : V.cell? ⟨0, 0, none⟩ = some (.int .i64 m)
  on : Below w.heap.size w V
  lt : ∀ j, S j → j < w.heap.size
section
variable {w V V' : World} {S : Nat → Prop} {P Q : Nat} {cs : Array Value} {p : Pol} {a : Atr} {A3 A4 A5 : Option Addr} {c3 c4 c5 : Nat} {m : Int}
theorem VaS.below (h : VaS w V S P Q cs p a A3 A4 A5 c3 c4 c5 m) (hb : Below V.heap.size V V') : VaS w V' S P Q cs p a A3 A4 A5 c3 c4 c5 m := by
  have hk := KeepS.below hb (fun j hj => Nat.lt_of_lt_of_le (h.lt j hj) h.on.size)
  exact ⟨h.hP.below hb (heap_lt h.hP), h.hQ.below hb (heap_lt h.hQ), h.a3, h.a4, h.a5, h.s3.keep hk, h.s4.keep hk, h.s5.keep hk, h.pol.keep hb, hm_below h.hm hb, h.on.trans (hb.mono h.on.size), h.lt⟩
theorem VaS.drew (h : VaS w V S P Q cs p a A3 A4 A5 c3 c4 c5 m) : VaS w V.drew S P Q cs p a A3 A4 A5 c3 c4 c5 m := h.below (below_drew (Below.refl _ _))
end
def atrV (a : Atr) : Value := .agg #[.string (bs a.name), .string (bs a.val)]

set_option maxRecDepth 100000 in
set_option maxHeartbeats 8000000 in
theorem value_u {w : World} {S : Nat → Prop} {cs : Array Value} {p : Pol} {m : Int} (e : B) (a : Atr) (h : PolV w S cs p) (hp : PolSmall p) (hm : w.cell? ⟨0, 0, none⟩ = some (.int .i64 m)) (hl : e.length + a.name.length + a.val.length ≤ 500000) :
    Calls Tryz.prog 69 #[.agg cs, .string (bs e), atrV a] w fun e' w' => e' = .returned (.bool (valueP p e a)) ∧ Below w.heap.size w w' := by
  have hcs := pol_cells h
  obtain ⟨A1, c1, A2, c2, A3, c3, A4, c4, A5, c5, ⟨k0, k1, k2, k3, k4, k5, k6, k7, k8⟩, h1, h2, h3, h4, h5, h6⟩ := h.cells
  have hsz : cs.size = 9 := by
    obtain ⟨_, _, _, _, _, _, _, _, _, _, rfl, _⟩ := h
    rfl
  have hi24 : (Tryz.prog.info? 24).map (·.size) = some cs.size := by rw [hsz]; kernel_rfl
  have hb : Below w.heap.size w ((w.alloc (.cells cs 24)).alloc (.cells #[.string (bs a.name), .string (bs a.val)] 57)) := ((Below.refl _ w).alloc (Nat.le_refl _) _).alloc (by rw [alloc_size]; omega) _
  have hk := KeepS.below hb h6
  have hQ0 : Blk ((w.alloc (.cells cs 24)).alloc (.cells #[.string (bs a.name), .string (bs a.val)] 57)) (w.heap.size + 1) 57 #[.string (bs a.name), .string (bs a.val)] := by
    have := Blk.new (w.alloc (.cells cs 24)) 57 #[.string (bs a.name), .string (bs a.val)]
    rw [alloc_size] at this
    exact this
  have hV : VaS w ((w.alloc (.cells cs 24)).alloc (.cells #[.string (bs a.name), .string (bs a.val)] 57)) S w.heap.size (w.heap.size + 1) cs p a A3 A4 A5 c3 c4 c5 m :=
    ⟨Blk.alloc (Blk.new w 24 cs) _, hQ0, k3, k4, k5, h3.keep hk, h4.keep hk, h5.keep hk, h.keep hb, hm_below hm hb, hb, h6⟩
  clear k0 k1 k2 k3 k4 k5 k6 k7 k8 h1 h2 h3 h4 h5 hb hk hQ0 hsz
  unfold atrV
  go_enter Tryz.func69, Tryz.ntmps69
  apply wp_seq_k
  intro K hK
  have HK := Lib.hid hK
  clear hK
  go_wp2_with fail
  refine HK.out _ _ ?_
  clear HK K hcs
  generalize ((w.alloc (.cells cs 24)).alloc (.cells #[.string (bs a.name), .string (bs a.val)] 57)) = V at hV ⊢
  generalize w.heap.size + 1 = Q at hV ⊢
  obtain ⟨P, hPe⟩ : ∃ x, x = w.heap.size := ⟨_, rfl⟩
  rw [← hPe] at hV
  rw [show (Value.pointer (some ⟨w.heap.size, 0, none⟩)) = Value.pointer (some ⟨P, 0, none⟩) by rw [hPe]]
  have HPe := Lib.hid hPe
  clear hPe
  have hP1 : V.heap[P]? = some (.cells cs 24 (0, 0)) := hV.hP
  have hP0 : P < V.heap.size := heap_lt hP1
  go_wp2_with (first
    | (with_reducible refine wpList_load_row rfl 24 (.tmp 3) rfl P rfl 24 cs (0, 0) _ hP1 Tryz.underlying24 rfl hi24 ?_))
  refine (elem_u e hV.pol hp).mono ?_
  rintro e1 V1 ⟨rfl, hb1⟩
  have hV1 := hV.below hb1
  clear hV hb1 hP1 hP0
  cases hel : elemP p e with
  | false =>
    have HR := Lib.hid (show valueP p e a = false by unfold valueP; rw [hel]; rfl)
    clear hel
    have hon := hV1.on
    clear hV1
    go_wp2_with fail
    go_ret
    exact ⟨by rw [HR.out]; rfl, hon⟩
  | true =>
  have HE := Lib.hid hel
  clear hel
  have q0 : V1.cell? ⟨Q, 0, none⟩ = some (.string (bs a.name)) := Blk.cell hV1.hQ 0
  have q1 : V1.cell? ⟨Q, 1, none⟩ = some (.string (bs a.val)) := Blk.cell hV1.hQ 1
  obtain ⟨nm, vl⟩ := a
  simp only at q0 q1 hl
  by_cases hrel : nm = [114, 101, 108]
  · subst hrel
    have HR := Lib.hid (show valueP p e ⟨[114, 101, 108], vl⟩ = (e == [97] && vl == Tz.forced) by unfold valueP; rw [HE.out]; rfl)
    have HV := Lib.hid hV1
    clear hV1
    by_cases he : e = [97]
    · subst he
      by_cases hf : vl = Tz.forced
      · subst hf
        go_wp2_with fail
        go_ret
        exact ⟨by rw [HR.out]; rfl, HV.out.on⟩
      · have hf1 : (vl == [110, 111, 102, 111, 108, 108, 111, 119, 32, 110, 111, 111, 112, 101, 110, 101, 114]) = false := by simpa [Tz.forced] using hf
        go_wp2_with fail
        go_ret
        exact ⟨by rw [HR.out, show (vl == Tz.forced) = false from hf1]; rfl, HV.out.on⟩
    · have he1 : (e == [97]) = false := by simpa using he
      go_wp2_with fail
      go_ret
      exact ⟨by rw [HR.out, he1]; rfl, HV.out.on⟩
  have g1 : (nm == [114, 101, 108]) = false := by simpa using hrel
  by_cases hsty : nm = [115, 116, 121, 108, 101]
  · subst hsty
    have HR := Lib.hid (show valueP p e ⟨[115, 116, 121, 108, 101], vl⟩ = (!vl.isEmpty && filterS vl p.props == vl) by unfold valueP; rw [HE.out]; rfl)
    have q5 : V1.cell? ⟨P, 5, none⟩ = some (.slice A5 p.props.length c5) := (Blk.cell hV1.hP 5).trans hV1.a5
    have hf := fun (V : World) (hV : VaS w V S P Q cs p ⟨[115, 116, 121, 108, 101], vl⟩ A3 A4 A5 c3 c4 c5 m) => filter_u (w := V) (c := c5) vl hV.s5 (fun j hj => Nat.lt_of_lt_of_le (hV.lt j hj) hV.on.size) (by have := hp.2.2.2.2.1; omega) (by omega) hV.hm
    have HF := Lib.hid hf
    clear hf
    by_cases hv : vl = []
    · subst hv
      have e0 : (([] : B) == ([] : B)) = true := rfl
      go_wp2_with fail
      obtain ⟨ι, hne, F, hF, hcov⟩ := class_of (fun Y => Y.cell? ⟨Q, 1, none⟩ = some (.string (bs [])) ∧ Y.cell? ⟨P, 5, none⟩ = some (.slice A5 p.props.length c5)) V1.drew ⟨q1, q5⟩
      have r1 : ∀ i, (F i).cell? ⟨Q, 1, none⟩ = some (.string (bs [])) := fun i => (hF i).1
      have r5 : ∀ i, (F i).cell? ⟨P, 5, none⟩ = some (.slice A5 p.props.length c5) := fun i => (hF i).2
      have hS0 := hcov V1.drew ⟨q1, q5⟩
      have hVd := hV1.drew
      refine wp_region_every 8 6 (S := fun X => ∃ i, X = F i) (by kernel_rfl) (by kernel_rfl) (fun _ _ _ _ _ h => h) hS0 ?_
      clear hV1 q0 q1 q5
      generalize V1.drew = Vd at hVd hS0 ⊢
      dsimp only [List.take, List.drop]
      repeat (go_big_quiet_step (fail))
      refine wpQuiet_nil ?_
      refine wpAnyZ_pure (i := 9) (F := 5) hS0 rfl (by kernel_rfl) (by kernel_rfl) (fun _ _ _ _ _ h => h) ?_
      go_big_quiet_step (fail)
      refine wpQuiet_nil ?_
      refine wpAnyZ_pure (i := 10) (F := 4) hS0 rfl (by kernel_rfl) (by kernel_rfl) (fun _ _ _ _ _ h => h) ?_
      go_big_quiet_step (fail)
      refine wpQuiet_nil ?_
      have HV3 := Lib.hid hVd
      refine wpAnyZ_one (i := 8) (F := 3) hS0 (by kernel_rfl) rfl (fun K hK => ?_)
      go_simp
      refine hK.out _ _ hS0 ?_
      clear hK K
      try simp only [Act.put, List.setIfInBounds_toArray, List.set_cons_zero, List.set_cons_succ]
      refine wpAnyZ_one (i := 11) (F := 2) hS0 (by kernel_rfl) rfl (fun K hK => ?_)
      go_simp
      refine hK.out _ _ hS0 ?_
      clear hK K
      try simp only [Act.put, List.setIfInBounds_toArray, List.set_cons_zero, List.set_cons_succ]
      refine wpAnyZ_one (i := 12) (F := 1) hS0 (by kernel_rfl) rfl (fun K hK => ?_)
      go_simp
      refine hK.out _ _ hS0 ?_
      clear hK K
      try simp only [Act.put, List.setIfInBounds_toArray, List.set_cons_zero, List.set_cons_succ]
      refine wpAnyZ_one (i := 13) (F := 0) hS0 (by kernel_rfl) rfl (fun K hK => ?_)
      go_simp
      refine hK.out _ _ hS0 ?_
      clear hK K
      try simp only [Act.put, List.setIfInBounds_toArray, List.set_cons_zero, List.set_cons_succ]
      refine wpAnyZ_end (by kernel_rfl) ?_
      go_wp2_with fail
      go_ret
      exact ⟨by rw [HR.out]; rfl, HV3.out.on⟩
    · have e0 : (vl == ([] : B)) = false := by simpa using hv
      have e1 : vl.isEmpty = false := by simpa using hv
      go_wp2_with fail
      obtain ⟨ι, hne, F, hF, hcov⟩ := class_of (fun Y => Y.cell? ⟨Q, 1, none⟩ = some (.string (bs vl)) ∧ Y.cell? ⟨P, 5, none⟩ = some (.slice A5 p.props.length c5)) V1.drew ⟨q1, q5⟩
      have r1 : ∀ i, (F i).cell? ⟨Q, 1, none⟩ = some (.string (bs vl)) := fun i => (hF i).1
      have r5 : ∀ i, (F i).cell? ⟨P, 5, none⟩ = some (.slice A5 p.props.length c5) := fun i => (hF i).2
      have hS0 := hcov V1.drew ⟨q1, q5⟩
      have hVd := hV1.drew
      refine wp_region_every 8 6 (S := fun X => ∃ i, X = F i) (by kernel_rfl) (by kernel_rfl) (fun _ _ _ _ _ h => h) hS0 ?_
      clear hV1 q0 q1 q5
      generalize V1.drew = Vd at hVd hS0 ⊢
      dsimp only [List.take, List.drop]
      repeat (go_big_quiet_step (fail))
      refine wpQuiet_nil ?_
      refine wpAnyZ_pure (i := 9) (F := 5) hS0 rfl (by kernel_rfl) (by kernel_rfl) (fun _ _ _ _ _ h => h) ?_
      go_big_quiet_step (fail)
      refine wpQuiet_nil ?_
      refine wpAnyZ_pure (i := 10) (F := 4) hS0 rfl (by kernel_rfl) (by kernel_rfl) (fun _ _ _ _ _ h => h) ?_
      go_big_quiet_step (fail)
      refine wpQuiet_nil ?_
      refine wpAnyZ_one (i := 8) (F := 3) hS0 (by kernel_rfl) rfl (fun K hK => ?_)
      go_simp
      refine (HF.out Vd hVd).mono ?_
      rintro e3 V3 ⟨rfl, hb3⟩
      have hV3 := hVd.below hb3
      have hS3 := hcov V3 ⟨Blk.cell hV3.hQ 1, (Blk.cell hV3.hP 5).trans hV3.a5⟩
      refine hK.out _ _ hS3 ?_
      clear hK K
      try simp only [Act.put, List.setIfInBounds_toArray, List.set_cons_zero, List.set_cons_succ]
      generalize hfz : filterS vl p.props = fz at HR
      clear hfz
      have HV3 := Lib.hid hV3
      clear hV3 hVd
      by_cases hq : fz = vl
      · subst hq
        refine wpAnyZ_one (i := 11) (F := 2) hS3 (by kernel_rfl) rfl (fun K hK => ?_)
        go_simp
        refine hK.out _ _ hS3 ?_
        clear hK K
        try simp only [Act.put, List.setIfInBounds_toArray, List.set_cons_zero, List.set_cons_succ]
        refine wpAnyZ_one (i := 12) (F := 1) hS3 (by kernel_rfl) rfl (fun K hK => ?_)
        go_simp
        refine hK.out _ _ hS3 ?_
        clear hK K
        try simp only [Act.put, List.setIfInBounds_toArray, List.set_cons_zero, List.set_cons_succ]
        refine wpAnyZ_one (i := 13) (F := 0) hS3 (by kernel_rfl) rfl (fun K hK => ?_)
        go_simp
        refine hK.out _ _ hS3 ?_
        clear hK K
        try simp only [Act.put, List.setIfInBounds_toArray, List.set_cons_zero, List.set_cons_succ]
        refine wpAnyZ_end (by kernel_rfl) ?_
        go_wp2_with fail
        go_ret
        exact ⟨by rw [HR.out, e1]; simp, HV3.out.on⟩
      · have g9 : (fz == vl) = false := by simpa using hq
        refine wpAnyZ_one (i := 11) (F := 2) hS3 (by kernel_rfl) rfl (fun K hK => ?_)
        go_simp
        refine hK.out _ _ hS3 ?_
        clear hK K
        try simp only [Act.put, List.setIfInBounds_toArray, List.set_cons_zero, List.set_cons_succ]
        refine wpAnyZ_one (i := 12) (F := 1) hS3 (by kernel_rfl) rfl (fun K hK => ?_)
        go_simp
        refine hK.out _ _ hS3 ?_
        clear hK K
        try simp only [Act.put, List.setIfInBounds_toArray, List.set_cons_zero, List.set_cons_succ]
        refine wpAnyZ_one (i := 13) (F := 0) hS3 (by kernel_rfl) rfl (fun K hK => ?_)
        go_simp
        refine hK.out _ _ hS3 ?_
        clear hK K
        try simp only [Act.put, List.setIfInBounds_toArray, List.set_cons_zero, List.set_cons_succ]
        refine wpAnyZ_end (by kernel_rfl) ?_
        go_wp2_with fail
        go_ret
        exact ⟨by rw [HR.out, e1, g9]; rfl, HV3.out.on⟩
  have g2 : (nm == [115, 116, 121, 108, 101]) = false := by simpa using hsty
  by_cases hcls : nm = [99, 108, 97, 115, 115]
  · subst hcls
    have HR := Lib.hid (show valueP p e ⟨[99, 108, 97, 115, 115], vl⟩ = (attrP p e [99, 108, 97, 115, 115] && !vl.isEmpty && Tz.classesOk vl p.classes) by unfold valueP; rw [HE.out]; rfl)
    have hP1 : V1.heap[P]? = some (.cells cs 24 (0, 0)) := hV1.hP
    go_wp2_with (first
      | (with_reducible refine wpList_load_row rfl 24 (.tmp 3) rfl P rfl 24 cs (0, 0) _ hP1 Tryz.underlying24 rfl hi24 ?_))
    refine (attr_u e [99, 108, 97, 115, 115] hV1.pol hp (by simp at hl ⊢; omega)).mono ?_
    rintro e2 V2 ⟨rfl, hb2⟩
    have hV2 := hV1.below hb2
    clear hV1 hb2 hP1 q0 q1
    have q1 : V2.cell? ⟨Q, 1, none⟩ = some (.string (bs vl)) := Blk.cell hV2.hQ 1
    have q4 : V2.cell? ⟨P, 4, none⟩ = some (.slice A4 p.classes.length c4) := (Blk.cell hV2.hP 4).trans hV2.a4
    have HV := Lib.hid hV2
    clear hV2
    generalize attrP p e [99, 108, 97, 115, 115] = z at HR
    cases z with
    | false =>
      go_wp2_with fail
      go_ret
      exact ⟨by rw [HR.out]; rfl, HV.out.on⟩
    | true =>
      by_cases hv : vl = []
      · subst hv
        have e0 : (([] : B) == ([] : B)) = true := rfl
        go_wp2_with fail
        go_ret
        exact ⟨by rw [HR.out]; rfl, HV.out.on⟩
      · have e0 : (vl == ([] : B)) = false := by simpa using hv
        have e1 : vl.isEmpty = false := by simpa using hv
        go_wp2_with fail
        refine (classes_u vl HV.out.s4 (fun j hj => Nat.lt_of_lt_of_le (HV.out.lt j hj) HV.out.on.size) (by have := hp.2.2.2.1.1; omega) (by omega) HV.out.hm).mono ?_
        generalize Tz.classesOk vl p.classes = z2 at HR
        rintro e3 V3 ⟨rfl, hb3⟩
        go_wp2_with fail
        go_ret
        exact ⟨by rw [HR.out, e1]; rfl, (HV.out.below hb3).on⟩
  have g3 : (nm == [99, 108, 97, 115, 115]) = false := by simpa using hcls
  have HR := Lib.hid (show valueP p e ⟨nm, vl⟩ = (attrP p e nm && (!Tz.places.contains nm || Tz.allowedU vl p.schemes)) by
    unfold valueP
    rw [HE.out]
    show (true && if nm = [114, 101, 108] then _ else if nm = [115, 116, 121, 108, 101] then _ else if nm = [99, 108, 97, 115, 115] then _ else _) = _
    rw [if_neg hrel, if_neg hsty, if_neg hcls]
    rfl)
  have hP1 : V1.heap[P]? = some (.cells cs 24 (0, 0)) := hV1.hP
  clear hrel hsty hcls
  go_wp2_with (first
    | (with_reducible refine wpList_load_row rfl 24 (.tmp 3) rfl P rfl 24 cs (0, 0) _ hP1 Tryz.underlying24 rfl hi24 ?_))
  refine (attr_u e nm hV1.pol hp (by omega)).mono ?_
  rintro e2 V2 ⟨rfl, hb2⟩
  have hV2 := hV1.below hb2
  clear hV1 hb2 hP1 q0 q1
  have q0 : V2.cell? ⟨Q, 0, none⟩ = some (.string (bs nm)) := Blk.cell hV2.hQ 0
  have HV := Lib.hid hV2
  clear hV2
  generalize attrP p e nm = z at HR
  cases z with
  | false =>
    go_wp2_with fail
    go_ret
    exact ⟨by rw [HR.out]; rfl, HV.out.on⟩
  | true =>
    go_wp2_with fail
    refine (places_u nm).mono ?_
    generalize Tz.places.contains nm = z2 at HR
    rintro e3 V3 ⟨rfl, hb3⟩
    have HV3 := Lib.hid (HV.out.below hb3)
    clear q0 hb3 HV
    cases z2 with
    | false =>
      go_wp2_with fail
      go_ret
      exact ⟨by rw [HR.out]; rfl, HV3.out.on⟩
    | true =>
      have q1 : V3.cell? ⟨Q, 1, none⟩ = some (.string (bs vl)) := Blk.cell HV3.out.hQ 1
      have q3 : V3.cell? ⟨P, 3, none⟩ = some (.slice A3 p.schemes.length c3) := (Blk.cell HV3.out.hP 3).trans HV3.out.a3
      go_wp2_with fail
      refine (allowed_u vl HV3.out.s3 (fun j hj => Nat.lt_of_lt_of_le (HV3.out.lt j hj) HV3.out.on.size) (by have := hp.2.2.1.1; omega) (by omega)).mono ?_
      generalize Tz.allowedU vl p.schemes = z3 at HR
      rintro e4 V4 ⟨rfl, hb4⟩
      go_wp2_with fail
      go_ret
      exact ⟨by rw [HR.out]; rfl, (HV3.out.below hb4).on⟩
end Go.Proofs.YtlgaeeedkihfpaaGreatDoor.Uf
