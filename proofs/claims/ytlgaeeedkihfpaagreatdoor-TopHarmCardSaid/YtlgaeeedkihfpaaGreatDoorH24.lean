/-
  Texts of the proof of Harm, one behind the other: StyD, StyE, StyF.
-/
import Derived.Test.YtlgaeeedkihfpaaGreatDoorH23
import Derived.Test.YtlgaeeedkihfpaaGreatDoorH14
/-
  style.Filter's closures: the first pass (which entry of a name is the last).
-/
namespace Go.Proofs.YtlgaeeedkihfpaaGreatDoor.Uf
open Go.RowKit Go.WideMaps Go.Maps
open Tz (B styleV pairsL)

theorem zeroI3 (w : World) : (zeroValue 3).run Tryz.prog w = .ok (.int .i64 0) w := by kernel_rfl
/-- The call's own map tells of each name a number. -/
def Cnt (w : World) (b n : Nat) (g : B → Nat) : Prop :=
  ∃ D : DataW Unit, w.ownsMap Tryz.prog 9 (plainElem Tryz.prog 3) b n D ∧ IsMap D ∧ (∀ x : B, D.atKey (.string x) (.lit (.int .i64 0)) = .lit (.int .i64 (g x : Nat)))
theorem cnt_new (w : World) : Cnt (w.alloc (.map #[] 0)) w.heap.size 0 (fun _ => 0) := ⟨.map [], World.ownsMap_made _ _ _ _, isMap_empty, fun _ => rfl⟩
theorem cnt_lt {w : World} {b n : Nat} {g : B → Nat} (h : Cnt w b n g) : b < w.heap.size := by
  obtain ⟨D, h, _⟩ := h
  exact h.lt
theorem cnt_kept {w w' : World} {b n : Nat} {g : B → Nat} (h : Cnt w b n g) (hb : w'.heap[b]? = w.heap[b]?) : Cnt w' b n g := by
  obtain ⟨D, ⟨es, clock, h1, h2⟩, h3⟩ := h
  exact ⟨D, ⟨es, clock, hb.trans h1, h2⟩, h3⟩
theorem cnt_ne {w : World} {b n : Nat} {g : B → Nat} (h : Cnt w b n g) {k : Nat} {t : TypeId} {cs : Array Value} (hk : Blk w k t cs) : k ≠ b := by
  obtain ⟨D, ⟨es, clock, h1, h2⟩, h3⟩ := h
  rintro rfl
  have : w.heap[k]? = some (.cells cs t (0, 0)) := hk
  rw [h1] at this
  cases this
theorem plainElem_int3_inv {v : Value} {z : DataW Unit × List MemPlace} (h : plainElem Tryz.prog 3 v = some z) : ∃ a, v = .int .i64 a ∧ z.1 = .lit (.int .i64 a) := by
  cases v with
  | int q a =>
    simp only [plainElem, show Tryz.prog.underlying 3 = some (.int .i64) from Tryz.underlying3] at h
    split at h
    · rename_i hq
      obtain ⟨rfl, _⟩ := hq
      injection h with h
      exact ⟨a, rfl, by rw [← h]⟩
    · cases h
  | _ => simp [plainElem, show Tryz.prog.underlying 3 = some (.int .i64) from Tryz.underlying3] at h
theorem cnt_look {w : World} {b n : Nat} {g : B → Nat} {x : B} (h : Cnt w b n g) (hx : x.length ≤ 10000000) :
    (Instr.lookup 139 (.map (some b)) (.string (bs x)) false).run Tryz.prog w = .ok (.int .i64 (g x : Nat)) w := by
  obtain ⟨D, h1, h2, h3⟩ := h
  obtain ⟨v, ps, hrun, hv⟩ := h1.lookup law9 (show Tryz.prog.underlying 139 = some (.map 9 3) by kernel_rfl) (zeroI3 w) (plainElem_int Tryz.underlying3 (by decide)) (key_b (Nat.le_trans hx (by decide)))
  obtain ⟨y, rfl, hy⟩ := plainElem_int3_inv hv
  rw [h3] at hy
  simp only [DataW.lit.injEq, Lit.int.injEq, true_and] at hy
  rw [hy]
  exact hrun
theorem wf_nat {v : Nat} (h : v ≤ 1000000000) : (Lit.int .i64 (v : Nat)).wf = true := by
  have e1 : IntKind.i64.min = -9223372036854775808 := by decide
  have e2 : IntKind.i64.max = 9223372036854775807 := by decide
  simp [Lit.wf, e1, e2]
  omega
theorem cnt_put {w : World} {b n v : Nat} {g : B → Nat} {x : B} (h : Cnt w b n g) (hx : x.length ≤ 10000000) (hn : n < 1000000000) (hv : v ≤ 1000000000) :
    ∃ w', (Instr.mapUpdate 139 (.map (some b)) (.string (bs x)) (.int .i64 (v : Nat))).run Tryz.prog w = .ok () w' ∧ Cnt w' b (n + 1) (fun y => if y = x then v else g y) ∧ w.grownBy w' (some b) := by
  obtain ⟨D, h1, h2, h3⟩ := h
  obtain ⟨w', hrun, r1, r2⟩ := h1.update law9 (show Tryz.prog.underlying 139 = some (.map 9 3) by kernel_rfl) (by unfold maxLen; omega) (key_b (Nat.le_trans hx (by decide))) (plainElem_int (a := (v : Nat)) Tryz.underlying3 (wf_nat (by omega)))
  refine ⟨w', hrun, ⟨_, r1, ?_, fun y => ?_⟩, r2⟩
  · obtain ⟨es, rfl⟩ := h2
    exact ⟨_, rfl⟩
  · by_cases hy : y = x
    · subst hy
      rw [atKey_put_same (k := .string y) h2 trivial]
      simp
    · rw [atKey_put_other (fun e => hy (by injection e)), h3]
      simp [hy]
/-- Of each name: the number of its last entry. -/
def GS (K : List (B × B)) (g : B → Nat) : Prop := ∀ y, (g y = 0 ∧ ∀ x ∈ K, x.1 ≠ y) ∨ (∃ i, ∃ h : i < K.length, g y = i + 1 ∧ K[i].1 = y ∧ ∀ j (h2 : j < K.length), i < j → K[j].1 ≠ y)
theorem GS.put {K : List (B × B)} {g : B → Nat} (h : GS K g) (a b : B) : GS (K ++ [(a, b)]) (fun y => if y = a then K.length + 1 else g y) := by
  intro y
  by_cases hy : y = a
  · subst hy
    refine .inr ⟨K.length, by simp, by simp, by simp, fun j hj hlt => ?_⟩
    simp at hj
    omega
  · simp only [if_neg hy]
    rcases h y with ⟨h1, h2⟩ | ⟨i, hi, h1, h2, h3⟩
    · refine .inl ⟨h1, fun x hx => ?_⟩
      rcases List.mem_append.1 hx with hx | hx
      · exact h2 x hx
      · simp at hx
        subst hx
        exact fun e => hy e.symm
    · refine .inr ⟨i, by simp; omega, h1, by rw [List.getElem_append_left hi]; exact h2, fun j hj hlt => ?_⟩
      by_cases hj2 : j < K.length
      · rw [List.getElem_append_left hj2]
        exact h3 j hj2 hlt
      · rw [List.getElem_append_right (by omega)]
        simp
        exact fun e => hy e.symm
def okP (props : List B) (x : B × B) : Bool := props.contains x.1 && styleV x.2
/-- What Filter's closures find in memory. -/
structure FilF (w : World) (S : Nat → Prop) (B3 B5 B6 B7 M : Nat) (A : Option Addr) (c : Nat) (props : List B) (n : Nat) (k : Nat) (g : B → Nat) : Prop where
  b3 : Blk w B3 22 #[.slice A props.length c]
  st : StrsAt w S A props.length props
  b7 : Blk w B7 107 #[.func (.func 103) #[] #[.pointer (some ⟨B3, 0, none⟩)]]
  b5 : Blk w B5 139 #[.map (some M)]
  b6 : Blk w B6 3 #[.int .i64 (n : Nat)]
  cn : Cnt w M k g
def FilR (w : World) (S : Nat → Prop) (B3 B5 B6 B7 M : Nat) (A : Option Addr) (c : Nat) (props : List B) (n : Nat) (g : B → Nat) (a : B) : Bool → Prop
  | true => FilF w S B3 B5 B6 B7 M A c props (n + 1) (n + 1) (fun y => if y = a then n + 1 else g y)
  | false => FilF w S B3 B5 B6 B7 M A c props n n g
section
variable {w w' : World} {S : Nat → Prop} {B3 B5 B6 B7 M : Nat} {A : Option Addr} {c : Nat} {props : List B} {n k : Nat} {g : B → Nat}
theorem FilF.below (h : FilF w S B3 B5 B6 B7 M A c props n k g) (hb : Below w.heap.size w w') (hS : ∀ j, S j → j < B6) : FilF w' S B3 B5 B6 B7 M A c props n k g :=
  ⟨h.b3.below hb (heap_lt h.b3), h.st.keep (KeepS.below hb fun j hj => Nat.lt_trans (hS j hj) (heap_lt h.b6)), h.b7.below hb (heap_lt h.b7), h.b5.below hb (heap_lt h.b5), h.b6.below hb (heap_lt h.b6), cnt_kept h.cn (hb.block _ (cnt_lt h.cn))⟩
theorem ent103 : Ent 103 := ent_of Tryz.func103 (by kernel_rfl) (by kernel_rfl)
theorem ent106 : Ent 106 := ent_of Tryz.func106 (by kernel_rfl) (by kernel_rfl)
theorem ent107 : Ent 107 := ent_of Tryz.func107 (by kernel_rfl) (by kernel_rfl)

set_option maxRecDepth 100000 in
set_option maxHeartbeats 4000000 in
theorem fil1_u (a b : B) (h3 : Blk w B3 22 #[.slice A props.length c]) (hs : StrsAt w S A props.length props) (hl : props.length ≤ 1000000) (hb : b.length ≤ 10000000) :
    Calls Tryz.prog 103 #[.string (bs a), .string (bs b), .pointer (some ⟨B3, 0, none⟩)] w fun e w' => e = .returned (.bool (okP props (a, b))) ∧ w' = w := by
  have c0 := Blk.cell h3 0
  have c0 : w.cell? ⟨B3, 0, none⟩ = some (.slice A props.length c) := c0
  have HO := Lib.hid (show okP props (a, b) = (props.contains a && styleV b) from rfl)
  clear h3
  go_enter Tryz.func103, Tryz.ntmps103
  go_wp2_with fail
  refine (contains_u a hs hl).mono ?_
  generalize props.contains a = z at HO
  rintro e1 w1 ⟨rfl, hw1⟩
  rw [hw1]
  clear hw1 w1
  cases z with
  | false =>
    go_wp2_with fail
    go_ret
    exact ⟨by rw [HO.out]; rfl, rfl⟩
  | true =>
    go_wp2_with fail
    refine (styleval_u b hb).mono ?_
    generalize styleV b = z2 at HO
    rintro e2 w2 ⟨rfl, hw2⟩
    rw [hw2]
    clear hw2 w2
    go_wp2_with fail
    go_ret
    exact ⟨by rw [HO.out]; rfl, rfl⟩

set_option maxRecDepth 100000 in
set_option maxHeartbeats 4000000 in
theorem fil2_u (a b : B) (h : FilF w S B3 B5 B6 B7 M A c props n n g) (hS : ∀ j, S j → j < B6 ∧ j < M) (hl : props.length ≤ 1000000) (hab : a.length + b.length ≤ 1000000) (hn : n ≤ 2000000) :
    Calls Tryz.prog 106 #[.string (bs a), .string (bs b), .pointer (some ⟨B7, 0, none⟩), .pointer (some ⟨B6, 0, none⟩), .pointer (some ⟨B5, 0, none⟩)] w fun e w' => e = .returned (.tuple #[]) ∧ Only (fun j => j = B6 ∨ j = M) w w' ∧
      FilR w' S B3 B5 B6 B7 M A c props n g a (okP props (a, b)) := by
  have c7 : w.cell? ⟨B7, 0, none⟩ = some (.func (.func 103) #[] #[.pointer (some ⟨B3, 0, none⟩)]) := Blk.cell h.b7 0
  have hEf : ∀ (args : Array Value) (w : World), (callFunc 103 args).run Tryz.prog w = .ok (.enter 103 args) w := ent103
  go_enter Tryz.func106, Tryz.ntmps106
  go_wp2_with fail
  refine (fil1_u a b h.b3 h.st hl (by omega)).mono ?_
  generalize hz : okP props (a, b) = z
  have HZ := Lib.hid hz
  clear hz
  rintro e1 w1 ⟨rfl, hw1⟩
  rw [hw1]
  clear hw1 w1
  cases z with
  | false =>
    go_wp2_with fail
    go_end0
    refine ⟨rfl, Only.refl _ _, ?_⟩
    rw [HZ.out]
    exact h
  | true =>
    have c6 : w.cell? ⟨B6, 0, none⟩ = some (.int .i64 (n : Nat)) := Blk.cell h.b6 0
    have f6 := Blk.frozen h.b6 0
    have c5 : w.cell? ⟨B5, 0, none⟩ = some (.map (some M)) := Blk.cell h.b5 0
    have hn1 : IntKind.i64.wrap ((n : Int) + 1) = ((n + 1 : Nat) : Int) := by rw [IntKind.wrap_i64]; omega
    have n6M : B6 ≠ M := cnt_ne h.cn h.b6
    have n65 : B6 ≠ B5 := type_ne h.b6 h.b5 (by decide)
    have n63 : B6 ≠ B3 := type_ne h.b6 h.b3 (by decide)
    have n67 : B6 ≠ B7 := type_ne h.b6 h.b7 (by decide)
    have keep : ∀ j, j ≠ B6 → (w.setCell ⟨B6, 0, none⟩ (.int .i64 ((n + 1 : Nat) : Int))).heap[j]? = w.heap[j]? := fun j hj => Below.heap_setCell w ⟨B6, 0, none⟩ _ j hj
    have F1 : FilF (w.setCell ⟨B6, 0, none⟩ (.int .i64 ((n + 1 : Nat) : Int))) S B3 B5 B6 B7 M A c props (n + 1) n g :=
      ⟨(keep _ (Ne.symm n63)).trans h.b3, h.st.keep (fun j hj => keep j (fun e => by have := (hS j hj).1; omega)), (keep _ (Ne.symm n67)).trans h.b7, (keep _ (Ne.symm n65)).trans h.b5, Blk.set_ h.b6 0 _, cnt_kept h.cn (keep _ (Ne.symm n6M))⟩
    have O1 : Only (fun j => j = B6 ∨ j = M) w (w.setCell ⟨B6, 0, none⟩ (.int .i64 ((n + 1 : Nat) : Int))) := Only.setCell (Only.refl _ w) (p := ⟨B6, 0, none⟩) (fun _ => .inl rfl) _
    obtain ⟨w2, hput, hc2, hg2⟩ := cnt_put (x := a) (v := n + 1) F1.cn (by omega) (by omega) (by omega)
    have nM : ∀ {j : Nat} {t : TypeId} {cs : Array Value}, Blk (w.setCell ⟨B6, 0, none⟩ (.int .i64 ((n + 1 : Nat) : Int))) j t cs → some j ≠ some M := fun hx e => by injection e with e; exact cnt_ne F1.cn hx e
    have F2 : FilF w2 S B3 B5 B6 B7 M A c props (n + 1) (n + 1) (fun y => if y = a then n + 1 else g y) :=
      ⟨F1.b3.grown hg2 (nM F1.b3), F1.st.keep (fun j hj => hg2.block j (Nat.lt_trans (hS j hj).1 (heap_lt F1.b6)) (fun e => by injection e with e; have := (hS j hj).2; omega)), F1.b7.grown hg2 (nM F1.b7), F1.b5.grown hg2 (nM F1.b5), F1.b6.grown hg2 (nM F1.b6), hc2⟩
    have O2 := O1.grown hg2 (fun k hk _ => .inr (by injection hk with hk; exact hk.symm))
    have d6 : (w.setCell ⟨B6, 0, none⟩ (.int .i64 ((n + 1 : Nat) : Int))).cell? ⟨B6, 0, none⟩ = some (.int .i64 ((n + 1 : Nat) : Int)) := Blk.cell F1.b6 0
    have d5 : (w.setCell ⟨B6, 0, none⟩ (.int .i64 ((n + 1 : Nat) : Int))).cell? ⟨B5, 0, none⟩ = some (.map (some M)) := Blk.cell F1.b5 0
    have HF := Lib.hid (And.intro O2 F2)
    clear O2 F2 O1 keep hc2 hg2 h nM F1
    have hcast : ((n + 1 : Nat) : Int) = (n : Int) + 1 := by omega
    rw [hcast] at hput d6 d5 hn1
    go_wp2_with fail
    go_end0
    refine ⟨rfl, HF.out.1, ?_⟩
    rw [HZ.out]
    exact HF.out.2
end
end Go.Proofs.YtlgaeeedkihfpaaGreatDoor.Uf

/-
  style.Filter's closures: the second pass.
-/
namespace Go.Proofs.YtlgaeeedkihfpaaGreatDoor.Uf
open Go.RowKit Go.WideMaps Go.Maps
open Tz (B styleV pairsL)

theorem info9 : (Tryz.prog.info? 9).map (fun i => (i.zero, i.size, i.bytes)) = some (some (.string ⟨#[]⟩), 1, 16) := by kernel_rfl
/-- The list that Filter makes. -/
structure OutF (w : World) (base B8 : Nat) (v : Value) (outs : List B) : Prop where
  b8 : Blk w B8 22 #[v]
  own : w.ownsRow base 9 1 v outs.length (strCells outs)
def lineOf (a b : B) : B := a ++ 58 :: 32 :: b
def Fil3R (w w' : World) (S : Nat → Prop) (base B3 B5 B6 B7 B8 M : Nat) (A : Option Addr) (c : Nat) (props : List B) (n k : Nat) (g : B → Nat) (v : Value) (outs : List B) (a b : B) : Bool → Prop
  | true => ∃ v', (v'.ownBlock = v.ownBlock ∨ ∀ j, v'.ownBlock = some j → w.heap.size ≤ j) ∧ FilF w' S B3 B5 B6 B7 M A c props (n + 1) k g ∧ OutF w' base B8 v' (if g a = n + 1 then outs ++ [lineOf a b] else outs)
  | false => ∃ v', (v'.ownBlock = v.ownBlock ∨ ∀ j, v'.ownBlock = some j → w.heap.size ≤ j) ∧ FilF w' S B3 B5 B6 B7 M A c props n k g ∧ OutF w' base B8 v' outs
section
variable {w w' : World} {S : Nat → Prop} {base B3 B5 B6 B7 B8 M : Nat} {A : Option Addr} {c : Nat} {props : List B} {n k : Nat} {g : B → Nat} {v : Value} {outs : List B}

set_option maxRecDepth 100000 in
set_option maxHeartbeats 4000000 in
theorem fil3_u (a b : B) (h : FilF w S B3 B5 B6 B7 M A c props n k g) (ho : OutF w base B8 v outs) (hS : ∀ j, S j → j < B6 ∧ j < M ∧ j < base ∧ j < B8) (hl : props.length ≤ 1000000) (hab : a.length + b.length ≤ 1000000) (hn : n ≤ 2000000) (hol : outs.length ≤ 2000000) (hbase : base ≤ w.heap.size) (h38 : B3 ≠ B8) :
    Calls Tryz.prog 107 #[.string (bs a), .string (bs b), .pointer (some ⟨B7, 0, none⟩), .pointer (some ⟨B6, 0, none⟩), .pointer (some ⟨B5, 0, none⟩), .pointer (some ⟨B8, 0, none⟩)] w fun e w' => e = .returned (.tuple #[]) ∧ Only (fun j => j = B6 ∨ j = B8 ∨ v.ownBlock = some j) w w' ∧
      Fil3R w w' S base B3 B5 B6 B7 B8 M A c props n k g v outs a b (okP props (a, b)) := by
  have c7 : w.cell? ⟨B7, 0, none⟩ = some (.func (.func 103) #[] #[.pointer (some ⟨B3, 0, none⟩)]) := Blk.cell h.b7 0
  have hEf : ∀ (args : Array Value) (w : World), (callFunc 103 args).run Tryz.prog w = .ok (.enter 103 args) w := ent103
  go_enter Tryz.func107, Tryz.ntmps107
  go_wp2_with fail
  refine (fil1_u a b h.b3 h.st hl (by omega)).mono ?_
  generalize hz : okP props (a, b) = z
  have HZ := Lib.hid hz
  clear hz
  rintro e1 w1 ⟨rfl, hw1⟩
  rw [hw1]
  clear hw1 w1
  cases z with
  | false =>
    go_wp2_with fail
    refine bodyPost_ret (results_none rfl _ _ _) rfl ?_
    refine ⟨rfl, Only.refl _ _, ?_⟩
    rw [HZ.out]
    exact ⟨v, .inl rfl, h, ho⟩
  | true =>
    have c6 : w.cell? ⟨B6, 0, none⟩ = some (.int .i64 (n : Nat)) := Blk.cell h.b6 0
    have f6 := Blk.frozen h.b6 0
    have hn1 : IntKind.i64.wrap ((n : Int) + 1) = (n : Int) + 1 := by rw [IntKind.wrap_i64]; omega
    have hcast : ((n + 1 : Nat) : Int) = (n : Int) + 1 := by omega
    have n6M : B6 ≠ M := cnt_ne h.cn h.b6
    have n65 : B6 ≠ B5 := type_ne h.b6 h.b5 (by decide)
    have n63 : B6 ≠ B3 := type_ne h.b6 h.b3 (by decide)
    have n67 : B6 ≠ B7 := type_ne h.b6 h.b7 (by decide)
    have n68 : B6 ≠ B8 := type_ne h.b6 ho.b8 (by decide)
    have keep : ∀ j, j ≠ B6 → (w.setCell ⟨B6, 0, none⟩ (.int .i64 ((n : Int) + 1))).heap[j]? = w.heap[j]? := fun j hj => Below.heap_setCell w ⟨B6, 0, none⟩ _ j hj
    have F1 : FilF (w.setCell ⟨B6, 0, none⟩ (.int .i64 ((n : Int) + 1))) S B3 B5 B6 B7 M A c props (n + 1) k g :=
      ⟨(keep _ (Ne.symm n63)).trans h.b3, h.st.keep (fun j hj => keep j (fun e => by have := (hS j hj).1; omega)), (keep _ (Ne.symm n67)).trans h.b7, (keep _ (Ne.symm n65)).trans h.b5, by rw [hcast]; exact Blk.set_ h.b6 0 _, cnt_kept h.cn (keep _ (Ne.symm n6M))⟩
    have hv6 : v.ownBlock ≠ some B6 := own_blk_ne ho.own h.b6 (by decide)
    have O1 : OutF (w.setCell ⟨B6, 0, none⟩ (.int .i64 ((n : Int) + 1))) base B8 v outs := ⟨(keep _ (Ne.symm n68)).trans ho.b8, ownsRow_setCell_other ho.own (a := ⟨B6, 0, none⟩) hv6 _⟩
    have Q1 : Only (fun j => j = B6 ∨ j = B8 ∨ v.ownBlock = some j) w (w.setCell ⟨B6, 0, none⟩ (.int .i64 ((n : Int) + 1))) := Only.setCell (Only.refl _ w) (p := ⟨B6, 0, none⟩) (fun _ => .inl rfl) _
    have hsz1 : w.heap.size ≤ (w.setCell ⟨B6, 0, none⟩ (.int .i64 ((n : Int) + 1))).heap.size := Q1.size
    have hlook := cnt_look (x := a) F1.cn (by omega)
    have d6 : (w.setCell ⟨B6, 0, none⟩ (.int .i64 ((n : Int) + 1))).cell? ⟨B6, 0, none⟩ = some (.int .i64 ((n : Int) + 1)) := by have := Blk.cell F1.b6 0; rw [hcast] at this; exact this
    have d5 : (w.setCell ⟨B6, 0, none⟩ (.int .i64 ((n : Int) + 1))).cell? ⟨B5, 0, none⟩ = some (.map (some M)) := Blk.cell F1.b5 0
    have d8 : (w.setCell ⟨B6, 0, none⟩ (.int .i64 ((n : Int) + 1))).cell? ⟨B8, 0, none⟩ = some v := Blk.cell O1.b8 0
    have ap1 : bs a ++ (⟨#[58, 32]⟩ : ByteArray) = bs (a ++ [58, 32]) := bs_append a [58, 32]
    have ap2 : bs (a ++ [58, 32]) ++ bs b = bs (a ++ 58 :: 32 :: b) := by rw [bs_append, List.append_assoc]; rfl
    have z1 : ¬ (9223372036854775807 < (bs a).size + (⟨#[58, 32]⟩ : ByteArray).size) := by rw [bs_size]; have : (⟨#[58, 32]⟩ : ByteArray).size = 2 := rfl; omega
    have z2 : ¬ (9223372036854775807 < (bs (a ++ [58, 32])).size + (bs b).size) := by rw [bs_size, bs_size, List.length_append]; simp; omega
    obtain ⟨i0, hi, hz0, hz1, hzb⟩ := info_parts info9
    have H := Lib.hid (And.intro F1 (And.intro O1 Q1))
    clear keep Q1 h ho F1 hcast
    have own1 := O1.own
    have B81 := O1.b8
    clear O1
    have HW : (w.setCell ⟨B6, 0, none⟩ (.int .i64 ((n : Int) + 1))) = (w.setCell ⟨B6, 0, none⟩ (.int .i64 ((n : Int) + 1))) := rfl
    by_cases hga : g a = n + 1
    · have ht : ((g a : Nat) : Int) = (n : Int) + 1 := by omega
      have hr6 := reads_row (w.setCell ⟨B6, 0, none⟩ (.int .i64 ((n : Int) + 1))) 9 [.string (bs (a ++ 58 :: 32 :: b))] 1 1 rfl
      have hszE : (w.setCell ⟨B6, 0, none⟩ (.int .i64 ((n : Int) + 1))).heap.size = w.heap.size := by simp [World.setCell]
      rw [hszE] at hr6
      have own2 : ((w.setCell ⟨B6, 0, none⟩ (.int .i64 ((n : Int) + 1))).alloc (.cells #[.string (bs (a ++ 58 :: 32 :: b))] 9)).ownsRow base 9 1 v outs.length (strCells outs) := own_keepT own1 (KeepT.below ((Below.refl _ _).alloc (Nat.le_refl _) _))
      have B82 : Blk ((w.setCell ⟨B6, 0, none⟩ (.int .i64 ((n : Int) + 1))).alloc (.cells #[.string (bs (a ++ 58 :: 32 :: b))] 9)) B8 22 #[v] := Blk.alloc B81 _
      have hv8 : v.ownBlock ≠ some B8 := own_blk_ne own2 B82 (by decide)
      go_wp2_with (first
        | (at_builtin; refine wpList_append_any _ rfl (.tmp 20) (.tmp 25) 22 rfl base 9 i0 _ 1 16 Tryz.underlying22 hi hz0 hz1 hzb rfl (by omega) v outs.length (strCells outs) rfl own2 _ _ 1 1 [.string (bs (a ++ 58 :: 32 :: b))] rfl hr6 (by simp [Value.oneCell']) (by unfold maxLen; omega) (by omega) (by have := hsz1; rw [alloc_size]; omega) ?_; intro v4 w4 hown4 hg4 hat4; obtain ⟨a4, k4, rfl⟩ := own_slice hown4; have B84 : Blk w4 B8 22 #[v] := B82.grown hg4 (fun e => hv8 e.symm); have d84 : w4.cell? ⟨B8, 0, none⟩ = some v := Blk.cell B84 0; have f84 := Blk.frozen B84 0))
      go_end0
      have Fa := H.out.1.below ((Below.refl _ _).alloc (Nat.le_refl _) (.cells #[.string (bs (a ++ 58 :: 32 :: b))] 9)) (fun j hj => (hS j hj).1)
      have hvne : ∀ {j : Nat} {t : TypeId} {cs : Array Value}, Blk ((w.setCell ⟨B6, 0, none⟩ (.int .i64 ((n : Int) + 1))).alloc (.cells #[.string (bs (a ++ 58 :: 32 :: b))] 9)) j t cs → 9 ≠ t → some j ≠ v.ownBlock := fun hx ht e => own_blk_ne own2 hx ht e.symm
      have n78 : B7 ≠ B8 := type_ne Fa.b7 B82 (by decide)
      have n58 : B5 ≠ B8 := type_ne Fa.b5 B82 (by decide)
      have nM8 : M ≠ B8 := fun e => cnt_ne Fa.cn B82 e.symm
      have hvS : ∀ j, S j → some j ≠ v.ownBlock := fun j hj e => by have := (own2.lt j e.symm).1; have := (hS j hj).2.2.1; omega
      have hvM : some M ≠ v.ownBlock := fun e => by
        obtain ⟨cs, ht⟩ := own_row own2 e.symm
        exact cnt_ne Fa.cn ht rfl
      have F4 : FilF w4 S B3 B5 B6 B7 M A c props (n + 1) k g :=
        ⟨Fa.b3.grown hg4 (hvne Fa.b3 (by decide)), Fa.st.keep (fun j hj => hg4.block j (Nat.lt_trans (hS j hj).1 (heap_lt Fa.b6)) (hvS j hj)), Fa.b7.grown hg4 (hvne Fa.b7 (by decide)), Fa.b5.grown hg4 (hvne Fa.b5 (by decide)), Fa.b6.grown hg4 (hvne Fa.b6 (by decide)), cnt_kept Fa.cn (hg4.block M (cnt_lt Fa.cn) hvM)⟩
      have keep8 : ∀ j, j ≠ B8 → (w4.setCell ⟨B8, 0, none⟩ (.slice a4 (outs.length + 1) k4)).heap[j]? = w4.heap[j]? := fun j hj => Below.heap_setCell w4 ⟨B8, 0, none⟩ _ j hj
      have F5 : FilF (w4.setCell ⟨B8, 0, none⟩ (.slice a4 (outs.length + 1) k4)) S B3 B5 B6 B7 M A c props (n + 1) k g :=
        ⟨(keep8 _ h38).trans F4.b3, F4.st.keep (fun j hj => keep8 j (fun e => by have := (hS j hj).2.2.2; omega)), (keep8 _ n78).trans F4.b7, (keep8 _ n58).trans F4.b5, (keep8 _ n68).trans F4.b6, cnt_kept F4.cn (keep8 _ nM8)⟩
      have hv48 : (Value.slice a4 (outs.length + 1) k4).ownBlock ≠ some B8 := own_blk_ne hown4 B84 (by decide)
      have hlen : (outs ++ [lineOf a b]).length = outs.length + 1 := by simp
      have O5 : OutF (w4.setCell ⟨B8, 0, none⟩ (.slice a4 (outs.length + 1) k4)) base B8 (.slice a4 (outs.length + 1) k4) (outs ++ [lineOf a b]) := by
        refine ⟨Blk.set_ B84 0 _, ?_⟩
        rw [hlen, show strCells (outs ++ [lineOf a b]) = strCells outs ++ [.string (bs (a ++ 58 :: 32 :: b))] by simp [strCells, lineOf]]
        exact ownsRow_setCell_other hown4 (a := ⟨B8, 0, none⟩) hv48 _
      refine ⟨rfl, Only.setCell (((H.out.2.2).alloc _).grown hg4 (fun k hk _ => .inr (.inr hk))) (p := ⟨B8, 0, none⟩) (fun _ => .inr (.inl rfl)) _, ?_⟩
      rw [HZ.out]
      refine ⟨_, ?_, F5, by rw [if_pos hga]; exact O5⟩
      rcases hat4 with e | e
      · exact .inl e
      · refine .inr (fun j hj => ?_)
        rw [e, alloc_size, hszE] at hj
        injection hj with hj
        omega
    · have ht : ¬ (((g a : Nat) : Int) = (n : Int) + 1) := by omega
      go_wp2_with fail
      go_end0
      refine ⟨rfl, H.out.2.2, ?_⟩
      rw [HZ.out]
      exact ⟨v, .inl rfl, H.out.1, by rw [if_neg hga]; exact H.out.2.1⟩
end
end Go.Proofs.YtlgaeeedkihfpaaGreatDoor.Uf

/-
  style.Filter.
-/
namespace Go.Proofs.YtlgaeeedkihfpaaGreatDoor.Uf
open Go.RowKit Go.WideMaps Go.Maps
open Tz (B styleV pairsL filterS lastsL joinL)

theorem setCell_alloc1 (w : World) (u v : Value) (t : TypeId) : (w.alloc (.cells #[u] t)).setCell ⟨w.heap.size, 0, none⟩ v = w.alloc (.cells #[v] t) := setCell_alloc0 w u v t
theorem store_fn (W : World) (N : Nat) (hN : W.heap.size = N) (t : TypeId) (f : Fn) (cap : Array Value) :
    (store ⟨N, 0, none⟩ (.func f #[] cap)).run Tryz.prog (W.alloc (.cells #[.nilFunc] t)) = .ok () (W.alloc (.cells #[.func f #[] cap] t)) := by
  subst hN
  rw [run_store _ _ _ _ _ rfl]
  simp
  exact setCell_alloc0 W _ _ t
theorem gs_last {K R : List (B × B)} {a b : B} {g : B → Nat} (h : GS (K ++ (a, b) :: R) g) : (g a = K.length + 1 ↔ R.any (fun y => y.1 == a) = false) := by
  have hK : (K ++ (a, b) :: R)[K.length]'(by simp) = (a, b) := by simp
  rcases h a with ⟨_, h2⟩ | ⟨i, hi, h1, h2, h3⟩
  · exact absurd rfl (h2 (a, b) (by simp))
  · have hge : K.length ≤ i := by
      rcases Nat.lt_or_ge i K.length with hlt | hge
      · exact absurd (by rw [hK]) (h3 K.length (by simp) hlt)
      · exact hge
    constructor
    · intro hg
      have hik : i = K.length := by omega
      subst hik
      rw [List.any_eq_false]
      intro y hy
      obtain ⟨j, hj, rfl⟩ := List.getElem_of_mem hy
      have := h3 (K.length + 1 + j) (by simp; omega) (by omega)
      rw [List.getElem_append_right (by omega)] at this
      simp only [show K.length + 1 + j - K.length = j + 1 by omega, List.getElem_cons_succ] at this
      simpa using this
    · intro hR
      rcases Nat.lt_or_ge K.length i with hlt | hge2
      · have hi2 : i - K.length - 1 < R.length := by simp at hi; omega
        obtain ⟨d, rfl⟩ : ∃ d, i = K.length + 1 + d := ⟨i - K.length - 1, by omega⟩
        have hd : d < R.length := by omega
        rw [List.getElem_append_right (by omega)] at h2
        simp only [show K.length + 1 + d - K.length = d + 1 by omega, List.getElem_cons_succ] at h2
        have := List.any_eq_false.1 hR _ (List.getElem_mem hd)
        exact absurd (by rw [h2]; exact beq_self_eq_true a) this
      · omega
theorem lasts_mem : ∀ (l : List (B × B)) (x : B × B), x ∈ lastsL l → x ∈ l
  | [], x, h => by simp [lastsL] at h
  | y :: r, x, h => by
    unfold lastsL at h
    split at h
    · exact List.mem_cons_of_mem _ (lasts_mem r x h)
    · rcases List.mem_cons.1 h with rfl | h
      · simp
      · exact List.mem_cons_of_mem _ (lasts_mem r x h)
theorem lasts_len : ∀ (l : List (B × B)), (lastsL l).length ≤ l.length
  | [] => by simp [lastsL]
  | y :: r => by
    have := lasts_len r
    unfold lastsL
    split <;> simp <;> omega
theorem pairs_mem {s : B} {x : B × B} (h : x ∈ pairsL s) : x.1.length + x.2.length ≤ s.length := by
  unfold pairsL at h
  obtain ⟨y, hy, rfl⟩ := List.mem_map.1 h
  obtain ⟨z, hz, hc⟩ := List.mem_filterMap.1 hy
  obtain ⟨a, b⟩ := y
  have h1 := cut_len hc
  have h2 := split_mem 59 s z hz
  have h3 := bare_len a
  have h4 := bare_len b
  simp only
  omega
theorem pairs_len (s : B) : (pairsL s).length ≤ s.length + 1 := Nat.le_trans (pairsG_len _) (split_len 59 s)
theorem joinL_len (sep : B) (M : Nat) : ∀ l : List B, (∀ x ∈ l, x.length ≤ M) → (joinL sep l).length ≤ l.length * (M + sep.length)
  | [], _ => by simp [joinL]
  | [x], h => by have := h x (by simp); simp [joinL]; omega
  | x :: y :: r, h => by
    have h1 := h x (by simp)
    have h2 := joinL_len sep M (y :: r) (fun z hz => h z (List.mem_cons_of_mem _ hz))
    have e : joinL sep (x :: y :: r) = x ++ sep ++ joinL sep (y :: r) := rfl
    rw [e, List.length_append, List.length_append, List.length_cons, Nat.succ_mul]
    omega
theorem strs_of_own {w : World} {base : Nat} {A : Option Addr} {c : Nat} {l : List B} (h : w.ownsRow base 9 1 (.slice A l.length c) l.length (strCells l)) : StrsAt w (fun b => (Value.slice A l.length c).ownBlock = some b) A l.length l :=
  ⟨rfl, fun hn => by
    obtain ⟨g, cap, hv, _, _⟩ := h.form hn
    obtain rfl : A = some ⟨g, 0, none⟩ := by injection hv
    refine ⟨g, 0, rfl, rfl, fun j hj => ?_⟩
    rw [Nat.zero_add]
    refine (h.cellAt j (by omega)).trans ?_
    simp [strCells, List.getElem?_eq_getElem hj]⟩
theorem OutF.below {w w' : World} {base B8 : Nat} {v : Value} {outs : List B} (h : OutF w base B8 v outs) (hb : Below w.heap.size w w') : OutF w' base B8 v outs := ⟨h.b8.below hb (heap_lt h.b8), own_keepT h.own (KeepT.below hb)⟩

/-- The first pass. -/
def J1 (S : Nat → Prop) (B3 B5 B6 B7 M : Nat) (A : Option Addr) (c : Nat) (props : List B) (done : List (B × B)) (X : Nat → Prop) (w : World) : Prop :=
  X = (fun j => j = B6 ∨ j = M) ∧ ∃ g, FilF w S B3 B5 B6 B7 M A c props (done.filter (okP props)).length (done.filter (okP props)).length g ∧ GS (done.filter (okP props)) g
theorem filter_snoc (p : B × B → Bool) (l : List (B × B)) (x : B × B) : (l ++ [x]).filter p = if p x = true then l.filter p ++ [x] else l.filter p := by
  rw [List.filter_append]
  by_cases h : p x = true
  · rw [if_pos h]; simp [h]
  · rw [if_neg h]; simp [h]
theorem J1_step {S : Nat → Prop} {B3 B5 B6 B7 M : Nat} {A : Option Addr} {c : Nat} {props : List B} {done : List (B × B)} {X : Nat → Prop} {w1 : World} {a b : B} (h : J1 S B3 B5 B6 B7 M A c props done X w1) (hS : ∀ j, S j → j < B6 ∧ j < M) (hl : props.length ≤ 1000000)
    (hab : a.length + b.length ≤ 1000000) (hd : done.length ≤ 2000000) :
    Calls Tryz.prog 106 (#[.string (bs a), .string (bs b)] ++ #[.pointer (some ⟨B7, 0, none⟩), .pointer (some ⟨B6, 0, none⟩), .pointer (some ⟨B5, 0, none⟩)]) w1 fun e w2 => e = .returned (.tuple #[]) ∧ ∃ X', J1 S B3 B5 B6 B7 M A c props (done ++ [(a, b)]) X' w2 ∧ (∀ k, X' k → X k ∨ w1.heap.size ≤ k) ∧ Only X w1 w2 := by
  obtain ⟨rfl, g, hF, hG⟩ := h
  have hfl := List.length_filter_le (okP props) done
  refine (fil2_u a b hF hS hl hab (by omega)).mono ?_
  rintro e w2 ⟨he, hO, hR⟩
  refine ⟨he, _, ⟨rfl, ?_⟩, fun k hk => .inl hk, hO⟩
  rw [filter_snoc]
  cases hz : okP props (a, b) with
  | true =>
    rw [hz] at hR
    rw [if_pos rfl, List.length_append, List.length_singleton]
    exact ⟨_, hR, hG.put a b⟩
  | false =>
    rw [hz] at hR
    rw [if_neg (by simp)]
    exact ⟨g, hR, hG⟩
/-- The second pass. -/
def J2 (S : Nat → Prop) (base B3 B5 B6 B7 B8 M : Nat) (A : Option Addr) (c : Nat) (props : List B) (s : B) (g : B → Nat) (done : List (B × B)) (X : Nat → Prop) (w : World) : Prop :=
  ∃ v sel rest, X = (fun j => j = B6 ∨ j = B8 ∨ v.ownBlock = some j) ∧ FilF w S B3 B5 B6 B7 M A c props (done.filter (okP props)).length ((pairsL s).filter (okP props)).length g ∧
    OutF w base B8 v (sel.map fun x => lineOf x.1 x.2) ∧ pairsL s = done ++ rest ∧ sel ++ lastsL (rest.filter (okP props)) = lastsL ((pairsL s).filter (okP props))
theorem J2_step {S : Nat → Prop} {base B3 B5 B6 B7 B8 M : Nat} {A : Option Addr} {c : Nat} {props : List B} {s : B} {g : B → Nat} {done : List (B × B)} {X : Nat → Prop} {w1 : World} {a b : B} (h : J2 S base B3 B5 B6 B7 B8 M A c props s g done X w1) (hG : GS ((pairsL s).filter (okP props)) g)
    (hS : ∀ j, S j → j < B6 ∧ j < M ∧ j < base ∧ j < B8) (hl : props.length ≤ 1000000) (hab : a.length + b.length ≤ 1000000) (hd : done.length ≤ 2000000) (hs : s.length ≤ 1000000) (hpre : ∃ rest, pairsL s = done ++ (a, b) :: rest) (hbase : base ≤ B6) (h38 : B3 ≠ B8) :
    Calls Tryz.prog 107 (#[.string (bs a), .string (bs b)] ++ #[.pointer (some ⟨B7, 0, none⟩), .pointer (some ⟨B6, 0, none⟩), .pointer (some ⟨B5, 0, none⟩), .pointer (some ⟨B8, 0, none⟩)]) w1 fun e w2 => e = .returned (.tuple #[]) ∧ ∃ X', J2 S base B3 B5 B6 B7 B8 M A c props s g (done ++ [(a, b)]) X' w2 ∧ (∀ k, X' k → X k ∨ w1.heap.size ≤ k) ∧ Only X w1 w2 := by
  obtain ⟨v, sel, rest, rfl, hF, hO, hp, hsel⟩ := h
  obtain ⟨rest', hp'⟩ := hpre
  obtain rfl : rest = (a, b) :: rest' := List.append_cancel_left (hp.symm.trans hp')
  have hfl := List.length_filter_le (okP props) done
  have hol : (sel.map fun x => lineOf x.1 x.2).length ≤ 2000000 := by
    have h1 := congrArg List.length hsel
    have h2 := lasts_len ((pairsL s).filter (okP props))
    have h3 := List.length_filter_le (okP props) (pairsL s)
    have h4 := pairs_len s
    rw [List.length_append] at h1
    rw [List.length_map]
    omega
  have hb6 := heap_lt hF.b6
  refine (fil3_u a b hF hO hS hl hab (by omega) hol (by omega) h38).mono ?_
  rintro e w2 ⟨he, hOn, hR⟩
  refine ⟨he, ?_⟩
  cases hz : okP props (a, b) with
  | true =>
    rw [hz] at hR
    obtain ⟨v', hv', hF', hO'⟩ := hR
    have hK : (pairsL s).filter (okP props) = done.filter (okP props) ++ (a, b) :: rest'.filter (okP props) := by rw [hp, List.filter_append, List.filter_cons, if_pos hz]
    rw [hK] at hG
    have hgl := gs_last hG
    refine ⟨_, ⟨v', (if g a = (done.filter (okP props)).length + 1 then sel ++ [(a, b)] else sel), rest', rfl, ?_, ?_, by rw [hp]; simp, ?_⟩, ?_, hOn⟩
    · rw [filter_snoc, if_pos hz, List.length_append, List.length_singleton]
      exact hF'
    · split
      · rename_i hg
        rw [if_pos hg] at hO'
        rw [List.map_append]
        exact hO'
      · rename_i hg
        rw [if_neg hg] at hO'
        exact hO'
    · rw [← hsel, List.filter_cons, if_pos hz]
      conv => rhs; unfold lastsL
      by_cases hg : g a = (done.filter (okP props)).length + 1
      · rw [if_pos hg, if_neg (by rw [hgl.1 hg]; simp), List.append_assoc]
        rfl
      · rw [if_neg hg, if_pos (by cases hx : (rest'.filter (okP props)).any (fun y => y.1 == a) with | true => rfl | false => exact absurd (hgl.2 hx) hg)]
    · intro k hk
      rcases hk with hk | hk | hk
      · exact .inl (.inl hk)
      · exact .inl (.inr (.inl hk))
      · rcases hv' with e | e
        · exact .inl (.inr (.inr (e ▸ hk)))
        · exact .inr (e k hk)
  | false =>
    rw [hz] at hR
    obtain ⟨v', hv', hF', hO'⟩ := hR
    refine ⟨_, ⟨v', sel, rest', rfl, ?_, hO', by rw [hp]; simp, ?_⟩, ?_, hOn⟩
    · rw [filter_snoc, if_neg (by rw [hz]; simp)]
      exact hF'
    · rw [← hsel, List.filter_cons, if_neg (by rw [hz]; simp)]
    · intro k hk
      rcases hk with hk | hk | hk
      · exact .inl (.inl hk)
      · exact .inl (.inr (.inl hk))
      · rcases hv' with e | e
        · exact .inl (.inr (.inr (e ▸ hk)))
        · exact .inr (e k hk)
end Go.Proofs.YtlgaeeedkihfpaaGreatDoor.Uf
