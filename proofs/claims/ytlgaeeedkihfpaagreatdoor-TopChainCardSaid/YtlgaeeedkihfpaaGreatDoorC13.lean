/-
  Texts of the proof of Chain, one behind the other: TokE, Sw, DomM, Cel, SegA.
-/
import Derived.Test.YtlgaeeedkihfpaaGreatDoorC12
import Derived.Test.YtlgaeeedkihfpaaGreatDoorC01
import Derived.Laws.OwnMore
import Derived.Laws.CopyRow
import Derived.Laws.Rows
import Derived.Test.YtlgaeeedkihfpaaGreatDoorC10
import Derived.Test.YtlgaeeedkihfpaaGreatDoorC11
import Derived.Test.YtlgaeeedkihfpaaGreatDoorC06
/-
  tok.Raw and tok.reader's raw.
-/
namespace Go.Proofs.YtlgaeeedkihfpaaGreatDoor.Uf
open Go.RowKit
open Tz (B Atr Tok plainL textN textT resolveL rawL rawNames rawTexts rawEnd rawN plaintext)


set_option maxRecDepth 100000 in
set_option maxHeartbeats 4000000 in
theorem raw_name {w : World} (l : B) : Calls Tryz.prog 51 #[.string (bs l)] w fun e w' => e = .returned (.tuple #[.bool (rawL l).1, .bool (rawL l).2]) ∧ w' = w := by
  obtain ⟨R, hR⟩ : ∃ R, R = rawL l := ⟨_, rfl⟩
  rw [← hR]
  by_cases h0 : l = [115, 99, 114, 105, 112, 116]
  · subst h0
    have HR := Lib.hid hR
    clear hR
    go_enter Tryz.func51, Tryz.ntmps51
    go_wp2_with fail
    go_ret2
    exact ⟨by rw [HR.out]; rfl, rfl⟩
  have e0 : (l == [115, 99, 114, 105, 112, 116]) = false := beq_eq_false_iff_ne.2 h0
  clear h0
  by_cases h1 : l = [115, 116, 121, 108, 101]
  · subst h1
    have HR := Lib.hid hR
    clear hR
    go_enter Tryz.func51, Tryz.ntmps51
    go_wp2_with fail
    go_ret2
    exact ⟨by rw [HR.out]; rfl, rfl⟩
  have e1 : (l == [115, 116, 121, 108, 101]) = false := beq_eq_false_iff_ne.2 h1
  clear h1
  by_cases h2 : l = [120, 109, 112]
  · subst h2
    have HR := Lib.hid hR
    clear hR
    go_enter Tryz.func51, Tryz.ntmps51
    go_wp2_with fail
    go_ret2
    exact ⟨by rw [HR.out]; rfl, rfl⟩
  have e2 : (l == [120, 109, 112]) = false := beq_eq_false_iff_ne.2 h2
  clear h2
  by_cases h3 : l = [105, 102, 114, 97, 109, 101]
  · subst h3
    have HR := Lib.hid hR
    clear hR
    go_enter Tryz.func51, Tryz.ntmps51
    go_wp2_with fail
    go_ret2
    exact ⟨by rw [HR.out]; rfl, rfl⟩
  have e3 : (l == [105, 102, 114, 97, 109, 101]) = false := beq_eq_false_iff_ne.2 h3
  clear h3
  by_cases h4 : l = [110, 111, 101, 109, 98, 101, 100]
  · subst h4
    have HR := Lib.hid hR
    clear hR
    go_enter Tryz.func51, Tryz.ntmps51
    go_wp2_with fail
    go_ret2
    exact ⟨by rw [HR.out]; rfl, rfl⟩
  have e4 : (l == [110, 111, 101, 109, 98, 101, 100]) = false := beq_eq_false_iff_ne.2 h4
  clear h4
  by_cases h5 : l = [110, 111, 102, 114, 97, 109, 101, 115]
  · subst h5
    have HR := Lib.hid hR
    clear hR
    go_enter Tryz.func51, Tryz.ntmps51
    go_wp2_with fail
    go_ret2
    exact ⟨by rw [HR.out]; rfl, rfl⟩
  have e5 : (l == [110, 111, 102, 114, 97, 109, 101, 115]) = false := beq_eq_false_iff_ne.2 h5
  clear h5
  by_cases h6 : l = [112, 108, 97, 105, 110, 116, 101, 120, 116]
  · subst h6
    have HR := Lib.hid hR
    clear hR
    go_enter Tryz.func51, Tryz.ntmps51
    go_wp2_with fail
    go_ret2
    exact ⟨by rw [HR.out]; rfl, rfl⟩
  have e6 : (l == [112, 108, 97, 105, 110, 116, 101, 120, 116]) = false := beq_eq_false_iff_ne.2 h6
  clear h6
  by_cases h7 : l = [116, 101, 120, 116, 97, 114, 101, 97]
  · subst h7
    have HR := Lib.hid hR
    clear hR
    go_enter Tryz.func51, Tryz.ntmps51
    go_wp2_with fail
    go_ret2
    exact ⟨by rw [HR.out]; rfl, rfl⟩
  have e7 : (l == [116, 101, 120, 116, 97, 114, 101, 97]) = false := beq_eq_false_iff_ne.2 h7
  clear h7
  by_cases h8 : l = [116, 105, 116, 108, 101]
  · subst h8
    have HR := Lib.hid hR
    clear hR
    go_enter Tryz.func51, Tryz.ntmps51
    go_wp2_with fail
    go_ret2
    exact ⟨by rw [HR.out]; rfl, rfl⟩
  have e8 : (l == [116, 105, 116, 108, 101]) = false := beq_eq_false_iff_ne.2 h8
  clear h8
  have hR2 : R = (false, false) := by
    rw [hR]
    simp only [rawL, rawNames, rawTexts, List.contains_cons, List.contains_nil, Bool.or_false, e0, e1, e2, e3, e4, e5, e6, e7, e8, Bool.false_eq_true, if_false]
  clear hR
  have HR := Lib.hid hR2
  clear hR2
  go_enter Tryz.func51, Tryz.ntmps51
  go_wp2_with fail
  go_ret2
  exact ⟨by rw [HR.out]; rfl, rfl⟩
end Go.Proofs.YtlgaeeedkihfpaaGreatDoor.Uf

/-
  Switches over names: dom.Void, dom.Block, policy.never, san.Dropped.
-/
namespace Go.Proofs.YtlgaeeedkihfpaaGreatDoor.Uf
open Go.RowKit
open Tz (B)

theorem no_both {b : Bool} (h1 : b = true) (h2 : b = false) : False := by rw [h1] at h2; cases h2

set_option maxRecDepth 100000 in
set_option maxHeartbeats 4000000 in
theorem void_u {w : World} (l : B) : Calls Tryz.prog 59 #[.string (bs l)] w fun e w' => e = .returned (.bool (Tz.voidL l)) ∧ w' = w := by
  go_enter Tryz.func59, Tryz.ntmps59
  go_wp2_with fail
  all_goals first
    | (exfalso; rename_i h1 h2; rw [h1] at h2; cases h2; done)
    | (go_ret; exact ⟨by simp_all [Tz.voidL, Tz.voids], rfl⟩)

set_option maxRecDepth 100000 in
set_option maxHeartbeats 4000000 in
theorem block_u {w : World} (l : B) : Calls Tryz.prog 55 #[.string (bs l)] w fun e w' => e = .returned (.bool (Tz.blockL l)) ∧ w' = w := by
  go_enter Tryz.func55, Tryz.ntmps55
  go_wp2_with fail
  all_goals first
    | (exfalso; rename_i h1 h2; rw [h1] at h2; cases h2; done)
    | (go_ret; exact ⟨by simp_all [Tz.blockL, Tz.blocks], rfl⟩)

set_option maxRecDepth 100000 in
set_option maxHeartbeats 4000000 in
theorem never_u {w : World} (l : B) : Calls Tryz.prog 39 #[.string (bs l)] w fun e w' => e = .returned (.bool (Tz.neverL l)) ∧ w' = w := by
  go_enter Tryz.func39, Tryz.ntmps39
  go_wp2_with fail
  all_goals first
    | exact (no_both (by assumption) (by assumption)).elim
    | (go_ret; exact ⟨by simp_all [Tz.neverL, Tz.nevers], rfl⟩)
    | skip
  refine (raw_name l).mono ?_
  rintro e w' ⟨rfl, rfl⟩
  go_wp2_with fail
  go_ret
  exact ⟨by simp_all [Tz.neverL, Tz.nevers], rfl⟩

set_option maxRecDepth 100000 in
set_option maxHeartbeats 4000000 in
theorem dropped_u {w : World} (l : B) : Calls Tryz.prog 22 #[.string (bs l)] w fun e w' => e = .returned (.bool (Tz.dropL l)) ∧ w' = w := by
  go_enter Tryz.func22, Tryz.ntmps22
  go_wp2_with fail
  all_goals first
    | exact (no_both (by assumption) (by assumption)).elim
    | (go_ret; exact ⟨by simp_all [Tz.dropL, Tz.drops], rfl⟩)
    | skip
  refine (raw_name l).mono ?_
  rintro e w' ⟨rfl, rfl⟩
  go_wp2_with fail
  go_ret
  exact ⟨by simp_all [Tz.dropL, Tz.drops], rfl⟩
end Go.Proofs.YtlgaeeedkihfpaaGreatDoor.Uf

/-
  dom's builder in memory.
-/
namespace Go.Proofs.YtlgaeeedkihfpaaGreatDoor.Uf
open Go.RowKit
open Tz (B Atr Tok Nod El Bd)

/-- An open element's cells. -/
def elCells (e : El) (A : Option Addr) (ca : Nat) (K : Option Addr) (ck : Nat) : List Value := [.string (bs e.name), .slice A e.attrs.length ca, .string (bs []), .slice K e.kids.length ck, .string (bs e.name)]
/-- Open elements in memory, the innermost first: their cells in the order of the row; X: the blocks of their kids' rows. -/
inductive OpC (w : World) (base : Nat) (S : Nat → Prop) : List Nat → List El → List Value → Prop where
  | nil : OpC w base S [] [] []
  | cons {X : List Nat} {r : List El} {xs : List Value} (e : El) (A : Option Addr) (ca : Nat) (K : Option Addr) (ck : Nat) (ys : List Value) : OpC w base S X r xs → RdS w S 2 A e.attrs.length (atrCells e.attrs) →
      w.ownsRow base 61 4 (.slice K e.kids.length ck) e.kids.length ys → NodsC w S e.kids ys → (∀ g, (Value.slice K e.kids.length ck).ownBlock = some g → ¬ S g ∧ g ∉ X) →
      OpC w base S ((Value.slice K e.kids.length ck).ownBlock.toList ++ X) (e :: r) (xs ++ elCells e A ca K ck)
/-- The builder in memory. -/
structure BdX (w : World) (base b : Nat) (S : Nat → Prop) (v : Value) (xs : List Value) (X : List Nat) (o : List El) (many : Nat) (over : Bool) : Prop where
  blk : Blk w b 66 #[v, .int .i64 (many : Nat), .bool over]
  ge : base ≤ b
  row : w.ownsRow base 63 5 v o.length xs
  opn : OpC w base S X o xs
  st : ∀ g, S g → ∃ cs t, w.heap[g]? = some (.cells cs t (0, 0)) ∧ (t = 57 ∨ t = 61)
/-- A row is known by its type. -/
theorem type_ne {w : World} {g g' : Nat} {cs cs' : Array Value} {t t' : TypeId} (h : w.heap[g]? = some (.cells cs t (0, 0))) (h' : w.heap[g']? = some (.cells cs' t' (0, 0))) (hne : t ≠ t') : g ≠ g' := by
  rintro rfl
  rw [h] at h'
  injection h' with h'
  injection h' with _ h' _
  exact hne h'
section
variable {w w' : World} {base b : Nat} {S S' : Nat → Prop} {v : Value} {xs : List Value} {X : List Nat} {o r : List El} {e : El} {many : Nat} {over : Bool}
theorem OpC.len : ∀ {X : List Nat} {o : List El} {xs : List Value}, OpC w base S X o xs → xs.length = o.length * 5
  | _, _, _, .nil => rfl
  | _, _, _, .cons e A ca K ck ys h _ _ _ _ => by
    rw [List.length_append, h.len, List.length_cons]
    simp [elCells]
    omega
/-- The blocks of the kids' rows are rows of nodes. -/
theorem OpC.x61 : ∀ {X : List Nat} {o : List El} {xs : List Value}, OpC w base S X o xs → ∀ g ∈ X, base ≤ g ∧ ∃ cs, w.heap[g]? = some (.cells cs 61 (0, 0))
  | _, _, _, .nil, g, hg => by cases hg
  | _, _, _, .cons e A ca K ck ys h _ ho _ _, g, hg => by
    rcases List.mem_append.1 hg with hg | hg
    · have hg' : (Value.slice K e.kids.length ck).ownBlock = some g := by
        cases hv : (Value.slice K e.kids.length ck).ownBlock with
        | none => rw [hv] at hg; cases hg
        | some k => rw [hv] at hg; simp at hg; rw [hg]
      exact ⟨(ho.lt g hg').1, own_row ho hg'⟩
    · exact h.x61 g hg
theorem RdS.keepX {size n : Nat} {A : Option Addr} {ys : List Value} (h : RdS w S size A n ys) (hk : KeepS S w w') : RdS w' S size A n ys := h.keep hk
theorem OpC.keep (hk : KeepS S w w') : ∀ {X : List Nat} {o : List El} {xs : List Value}, OpC w base S X o xs → (∀ g ∈ X, w'.heap[g]? = w.heap[g]?) → OpC w' base S X o xs
  | _, _, _, .nil, _ => .nil
  | _, _, _, .cons e A ca K ck ys h ha ho hn hx, hX => by
    refine .cons e A ca K ck ys (OpC.keep hk h (fun g hg => hX g (List.mem_append_right _ hg))) (ha.keep hk) ?_ (NodsC.keep hk _ _ hn) hx
    refine ⟨ho.1, ?_⟩
    rcases ho.2 with h2 | ⟨g, cap, cur, hv, hb, hg, h3⟩
    · exact .inl h2
    · refine .inr ⟨g, cap, cur, hv, hb, (hX g (List.mem_append_left _ ?_)).trans hg, h3⟩
      rw [hv]
      simp [Value.ownBlock]
/-- More blocks are known not to turn. -/
theorem OpC.more (hS : ∀ g, S g → S' g) : ∀ {X : List Nat} {o : List El} {xs : List Value}, OpC w base S X o xs → (∀ g ∈ X, ¬ S' g) → OpC w base S' X o xs
  | _, _, _, .nil, _ => .nil
  | _, _, _, .cons e A ca K ck ys h ha ho hn hx, hX => by
    refine .cons e A ca K ck ys (OpC.more hS h (fun g hg => hX g (List.mem_append_right _ hg))) (ha.mono hS) ho (NodsC.mono hS _ _ hn) (fun g hg => ⟨hX g (List.mem_append_left _ ?_), (hx g hg).2⟩)
    rw [hg]
    simp
theorem BdX.keepB (h : BdX w base b S v xs X o many over) (hb : Below w.heap.size w w') : BdX w' base b S v xs X o many over where
  blk := h.blk.below hb (heap_lt h.blk)
  ge := h.ge
  row := own_keepT h.row (KeepT.below hb)
  opn := OpC.keep (KeepS.below hb fun g hg => by obtain ⟨cs, t, h1, _⟩ := h.st g hg; exact heap_lt h1) h.opn (fun g hg => hb.block g (by obtain ⟨_, cs, h1⟩ := h.opn.x61 g hg; exact heap_lt h1))
  st := fun g hg => by
    obtain ⟨cs, t, h1, h2⟩ := h.st g hg
    exact ⟨cs, t, (hb.block g (heap_lt h1)).trans h1, h2⟩
theorem BdX.drewN (h : BdX w base b S v xs X o many over) (n : Nat) : BdX (w.drewN n) base b S v xs X o many over := h.keepB (drewN_below _ w n)
theorem BdX.slice (h : BdX w base b S v xs X (e :: r) many over) : ∃ g cap, v = .slice (some ⟨g, 0, none⟩) (r.length + 1) cap := by
  obtain ⟨g, cap, hv, _, _⟩ := h.row.form (by simp)
  exact ⟨g, cap, hv⟩
/-- The innermost element's cells. -/
theorem BdX.top {g cap n : Nat} (h : BdX w base b S (.slice (some ⟨g, 0, none⟩) n cap) xs X (e :: r) many over) :
    ∃ A ca K ck ys xs0 X0, xs = xs0 ++ elCells e A ca K ck ∧ X = (Value.slice K e.kids.length ck).ownBlock.toList ++ X0 ∧ OpC w base S X0 r xs0 ∧ RdS w S 2 A e.attrs.length (atrCells e.attrs) ∧
      w.ownsRow base 61 4 (.slice K e.kids.length ck) e.kids.length ys ∧ NodsC w S e.kids ys ∧ (∀ g, (Value.slice K e.kids.length ck).ownBlock = some g → ¬ S g ∧ g ∉ X0) ∧
      (∀ j, j < 5 → w.cell? ⟨g, r.length * 5 + j, none⟩ = (elCells e A ca K ck)[j]?) := by
  cases h.opn with
  | cons e A ca K ck ys h1 h2 h3 h4 h5 =>
    refine ⟨A, ca, K, ck, ys, _, _, rfl, rfl, h1, h2, h3, h4, h5, fun j hj => ?_⟩
    have hr := h.row
    have hn : n = (e :: r).length := by
      rcases hr.2 with ⟨hv, _⟩ | ⟨g', cap', cur, hv, _⟩
      · cases hv
      · injection hv
    subst hn
    rw [hr.cellAt (r.length * 5 + j) (by simp only [List.length_cons]; omega), ← h1.len, List.getElem?_append_right (by omega)]
    congr 1
    omega
theorem BdX.fro {g cap n : Nat} (h : BdX w base b S (.slice (some ⟨g, 0, none⟩) n cap) xs X o many over) (j : Nat) : w.frozen? ⟨g, j, none⟩ = false := by
  rcases h.row.2 with ⟨hv, _⟩ | ⟨g', cap', cur, hv, _, hg, _⟩
  · cases hv
  · injection hv with hv
    injection hv with hv
    injection hv with hv
    subst hv
    exact Blk.frozen (show Blk w g 63 cur from hg) j
end

set_option maxRecDepth 100000 in
set_option maxHeartbeats 4000000 in
theorem last_u {w : World} {base b g cap : Nat} {S : Nat → Prop} {xs : List Value} {X : List Nat} {e : El} {r : List El} {many : Nat} {over : Bool} (h : BdX w base b S (.slice (some ⟨g, 0, none⟩) (r.length + 1) cap) xs X (e :: r) many over) (hl : r.length ≤ 60000000) :
    Calls Tryz.prog 52 #[.pointer (some ⟨b, 0, none⟩)] w fun e w' => e = .returned (.pointer (some ⟨g, r.length * 5, none⟩)) ∧ ∃ n, w' = w.drewN n := by
  have c0 := Blk.cell h.blk 0
  simp only [List.getElem?_toArray, List.getElem?_cons_zero] at c0
  go_enter Tryz.func52, Tryz.ntmps52
  have hw : IntKind.i64.wrap ((r.length : Int) + 1 - 1) = (r.length : Int) := by rw [IntKind.wrap_i64]; omega
  have hw2 : IntKind.i64.wrap (r.length : Int) = (r.length : Int) := by rw [IntKind.wrap_i64]; omega
  go_wp2_with fail
  go_quiet (fail)
  go_wp2_with fail
  go_ret
  exact ⟨rfl, _, rfl⟩
end Go.Proofs.YtlgaeeedkihfpaaGreatDoor.Uf

/-
  Whole values into and out of the midst of a row.
-/
namespace Go.Proofs.YtlgaeeedkihfpaaGreatDoor.Uf
open Go.RowKit

section
variable {P : Program}
theorem run_loadVar_at (w : World) (p : Addr) (ty : TypeId) (cs : List Value) (d : TypeDesc) (hc : ∀ j v, cs[j]? = some v → w.cell? (p.add j) = some v)
    (hu : P.underlying ty = some d) (hd : (match d with | .struct _ | .array _ _ => true | _ => false) = true) (hi : (P.info? ty).map (·.size) = some cs.length) :
    (loadVar ty p).run P w = .ok (.agg cs.toArray) w := by
  have hl : (loadCells p cs.length).run P w = .ok cs.toArray w := run_loadCells_list (P := P) w p cs hc
  cases hq : P.info? ty with
  | none => simp [hq] at hi
  | some i =>
    have hs : i.size = cs.length := by simpa [hq] using hi
    have hagg : (isAgg ty).run P w = .ok true w := by
      unfold isAgg
      rw [Sem.run_bind, run_underlying hu w]
      cases d <;> simp_all
    simp [loadVar, Sem.run_bind, hagg, sizeOf, typeInfo, hq, hs, hl]
theorem wp_load_at {o : Oper} {a : Act} {w : World} {K : Act → World → Prop} {Q : Exit → Act → World → Prop} (ty : TypeId) (x : Operand) (ho : o.op = .load ty x)
    (p : Addr) (hx : a.eval x = .pointer (some p)) (cs : List Value) (d : TypeDesc) (hc : ∀ j v, cs[j]? = some v → w.cell? (p.add j) = some v)
    (hu : P.underlying ty = some d) (hd : (match d with | .struct _ | .array _ _ => true | _ => false) = true) (hi : (P.info? ty).map (·.size) = some cs.length)
    (h : K (a.put o.dst (.agg cs.toArray)) w) : o.wp P a w K Q := by
  unfold Oper.wp execOp
  simp only [ho, hx, Instr.loadAt, Instr.sureAddr, Sem.run_bind, Sem.run_pure, Result.andThen_ok, run_loadVar_at w p ty cs d hc hu hd hi]
  exact h
theorem wpList_load_at {ops : Array Oper} {rest : List Oper} {o : Oper} {a : Act} {w : World} {Q : Exit → Act → World → Prop} (hgd : o.guard = none) (ty : TypeId) (x : Operand) (ho : o.op = .load ty x)
    (p : Addr) (hx : a.eval x = .pointer (some p)) (cs : List Value) (d : TypeDesc) (hc : ∀ j v, cs[j]? = some v → w.cell? (p.add j) = some v)
    (hu : P.underlying ty = some d) (hd : (match d with | .struct _ | .array _ _ => true | _ => false) = true) (hi : (P.info? ty).map (·.size) = some cs.length)
    (h : wpList P ops Q rest (a.put o.dst (.agg cs.toArray)) w) : wpList P ops Q (o :: rest) a w :=
  wpList_plain hgd fun _ hK => wp_load_at ty x ho p hx cs d hc hu hd hi (hK _ _ h)
theorem run_storeVar_at (w : World) (g o : Nat) (t ty : TypeId) (cur cells : Array Value) (hg : w.heap[g]? = some (.cells cur t (0, 0))) (hi : (P.info? ty).map (·.size) = some cells.size)
    (ho : o + cells.size ≤ cur.size) (h1 : cells.all (·.oneCell') = true) :
    (storeVar ty ⟨g, o, none⟩ (.agg cells)).run P w = .ok () (w.setRow g (cur.toList.take o ++ cells.toList ++ cur.toList.drop (o + cells.size)).toArray) := by
  have := run_storeCells_at P g o t cells.toList 0 cur w hg (by simpa using ho) (fun v hv => (Array.all_eq_true_iff_forall_mem.1 h1) v (by simpa using hv))
  cases hq : P.info? ty with
  | none => simp [hq] at hi
  | some i =>
    have hs : cells.size = i.size := by simp [hq] at hi; omega
    simp only [Nat.add_zero, Array.length_toList] at this
    simp [storeVar, sizeOf, typeInfo, hq, Value.cells, hs] at this ⊢
    rw [this]
theorem wp_store_at {o : Oper} {a : Act} {w : World} {K : Act → World → Prop} {Q : Exit → Act → World → Prop} (ty : TypeId) (x y : Operand) (ho : o.op = .store ty x y)
    (g off : Nat) (cells : Array Value) (hx : a.eval x = .pointer (some ⟨g, off, none⟩)) (hy : a.eval y = .agg cells)
    (t : TypeId) (cur : Array Value) (hg : w.heap[g]? = some (.cells cur t (0, 0))) (hi : (P.info? ty).map (·.size) = some cells.size)
    (hold : off + cells.size ≤ cur.size) (h1 : cells.all (·.oneCell') = true)
    (h : K (a.put o.dst undef) (w.setRow g (cur.toList.take off ++ cells.toList ++ cur.toList.drop (off + cells.size)).toArray)) : o.wp P a w K Q := by
  unfold Oper.wp execOp
  simp only [ho, hx, hy, Instr.storeAt, Instr.sureAddr, Sem.run_bind, Sem.run_pure, Result.andThen_ok, run_storeVar_at w g off t ty cur cells hg hi hold h1]
  exact h
theorem wpList_store_at {ops : Array Oper} {rest : List Oper} {o : Oper} {a : Act} {w : World} {Q : Exit → Act → World → Prop} (hgd : o.guard = none) (ty : TypeId) (x y : Operand) (ho : o.op = .store ty x y)
    (g off : Nat) (cells : Array Value) (hx : a.eval x = .pointer (some ⟨g, off, none⟩)) (hy : a.eval y = .agg cells)
    (t : TypeId) (cur : Array Value) (hg : w.heap[g]? = some (.cells cur t (0, 0))) (hi : (P.info? ty).map (·.size) = some cells.size)
    (hold : off + cells.size ≤ cur.size) (h1 : cells.all (·.oneCell') = true)
    (h : wpList P ops Q rest (a.put o.dst undef) (w.setRow g (cur.toList.take off ++ cells.toList ++ cur.toList.drop (off + cells.size)).toArray)) : wpList P ops Q (o :: rest) a w :=
  wpList_plain hgd fun _ hK => wp_store_at ty x y ho g off cells hx hy t cur hg hi hold h1 (hK _ _ h)
/-- The last element of an own row is written over. -/
theorem own_last {w : World} {base n size g c : Nat} {e : TypeId} {ys zs vs : List Value} {cur : Array Value} (h : w.ownsRow base e size (.slice (some ⟨g, 0, none⟩) (n + 1) c) (n + 1) (ys ++ zs)) (hy : ys.length = n * size) (hv : vs.length = size)
    (hg : w.heap[g]? = some (.cells cur e (0, 0))) : (w.setRow g (cur.toList.take (n * size) ++ vs ++ cur.toList.drop (n * size + vs.length)).toArray).ownsRow base e size (.slice (some ⟨g, 0, none⟩) (n + 1) c) (n + 1) (ys ++ vs) := by
  rcases h.2 with ⟨hv2, _⟩ | ⟨g', cap, cur', hv2, hb, hg', hnc, hcm, hcs, htk⟩
  · cases hv2
  · simp only [Value.slice.injEq, Option.some.injEq, Addr.mk.injEq, and_true, true_and] at hv2
    obtain ⟨rfl, rfl⟩ := hv2
    rw [hg] at hg'
    injection hg' with hg'
    injection hg' with hg' _ _
    subst hg'
    have hsz : (n + 1) * size ≤ cur.toList.length := by
      rw [Array.length_toList, hcs]
      exact Nat.mul_le_mul_right _ hnc
    have hsz2 : (n + 1) * size = n * size + size := by rw [Nat.add_mul, Nat.one_mul]
    have ht : cur.toList.take (n * size) = ys := by
      have := congrArg (List.take (n * size)) htk
      rw [List.take_take, Nat.min_eq_left (by omega), List.take_left' hy] at this
      exact this
    refine ⟨by rw [List.length_append, hy, hv, hsz2], .inr ⟨g, c, _, rfl, hb, setRow_heap _ g _ _ e (0, 0) hg, hnc, hcm, ?_, ?_⟩⟩
    · rw [List.size_toArray, List.length_append, List.length_append, List.length_take, List.length_drop, Nat.min_eq_left (by omega), ← hcs, ← Array.length_toList]
      omega
    · rw [ht]
      simp only []
      rw [List.take_left' (by rw [List.length_append, hy, hv, hsz2])]
theorem own_cur {w : World} {base n size g c : Nat} {e : TypeId} {xs : List Value} (h : w.ownsRow base e size (.slice (some ⟨g, 0, none⟩) n c) n xs) : ∃ cur, w.heap[g]? = some (.cells cur e (0, 0)) ∧ n * size ≤ cur.size := by
  rcases h.2 with ⟨hv2, _⟩ | ⟨g', cap, cur', hv2, hb, hg', hnc, hcm, hcs, htk⟩
  · cases hv2
  · simp only [Value.slice.injEq, Option.some.injEq, Addr.mk.injEq, and_true, true_and] at hv2
    obtain ⟨rfl, rfl⟩ := hv2
    exact ⟨cur', hg', by rw [hcs]; exact Nat.mul_le_mul_right _ hnc⟩
/-- A beginning of what is owned. -/
theorem own_upto {w : World} {base : Nat} {e : TypeId} {n c m size : Nat} {a : Option Addr} {xs : List Value} (h : w.ownsRow base e size (.slice a n c) n xs) (hm : m ≤ n) : w.ownsRow base e size (.slice a m c) m (xs.take (m * size)) := by
  have hl := h.1
  have hms : m * size ≤ n * size := Nat.mul_le_mul_right _ hm
  refine ⟨by rw [List.length_take, hl, Nat.min_eq_left hms], ?_⟩
  rcases h.2 with ⟨hn, h0⟩ | ⟨g, cap, cur, hv, hbs, hgg, h1, h2, h3, h4⟩
  · injection hn with e1 e2 e3
    subst e1 e2 e3
    obtain rfl : m = 0 := by omega
    exact .inl ⟨rfl, rfl⟩
  · injection hv with e1 e2 e3
    subst e1 e3
    refine .inr ⟨g, c, cur, rfl, hbs, hgg, by omega, h2, h3, ?_⟩
    rw [← h4, List.take_take, Nat.min_eq_left hms]
end
end Go.Proofs.YtlgaeeedkihfpaaGreatDoor.Uf

/-
  Regions that draw their order: a beginning in the order of the text, then whatever may come, one by one.
-/
namespace Go.Proofs.YtlgaeeedkihfpaaGreatDoor.Uf

section
variable {P : Program} {Q : Exit → Act → World → Prop} {md : Region.Mode} {S : World → Prop} {C : Act → World → Prop} {l : List Oper}

/-- As wpListS, and C at the end of the m operations. -/
def wpListC (P : Program) (ops : Array Oper) (Q : Exit → Act → World → Prop) (S : World → Prop) (C : Act → World → Prop) : Nat → List Oper → Act → World → Prop
  | 0, _, a, w => C a w
  | _ + 1, [], _, _ => False
  | m + 1, o :: rest, a, w => if Region.wanted o (yielded ops a.tmps) then o.wp P a w (fun a' w' => S w' ∧ wpListC P ops Q S C m rest a' w') Q ∨ (o.asks P a w ∧ LetsOut Q) else wpListC P ops Q S C m rest (a.put o.dst undef) w
theorem wpListC_step {ops : Array Oper} {m : Nat} {o : Oper} {rest : List Oper} {a : Act} {w : World} (hS : S w)
    (h : ∀ K : Act → World → Prop, Shut (∀ a w, S w → wpListC P ops Q S C m rest a w → K a w) → if Region.wanted o (yielded ops a.tmps) = true then Oper.wp P o a w K Q else K (a.put o.dst undef) w) : wpListC P ops Q S C (m + 1) (o :: rest) a w := by
  have := h (fun a w => S w ∧ wpListC P ops Q S C m rest a w) (fun _ _ h1 h2 => ⟨h1, h2⟩)
  unfold wpListC
  split
  · rename_i hw; rw [if_pos hw] at this; exact .inl this
  · rename_i hw; rw [if_neg hw] at this; exact this.2
theorem wpListC_zero {ops : Array Oper} {l : List Oper} {a : Act} {w : World} (h : C a w) : wpListC P ops Q S C 0 l a w := h
/-- For m steps just one may come up. -/
def forcedN (md : Region.Mode) (ops : Array Oper) : Nat → Nat → Array Bool → Bool
  | 0, _, _ => true
  | n + 1, k, listed => (Region.ready md ops listed == [k]) && forcedN md ops n (k + 1) (listed.setIfInBounds k true)
theorem wpAnyZ_forcedN {ops : Array Oper} {z : Nat → Bool} {F : Nat} : ∀ (m : Nat) (l : List Oper) (k : Nat) (listed : Array Bool) (a : Act) (w : World), (∀ j, l[j]? = ops[k + j]?) → forcedN md ops m k listed = true → (∀ j, k + m ≤ j → j < ops.size → z j = true) →
    (∀ j, j < k → listed.getD j true = true) → listed.size = ops.size → S w → wpListC P ops Q S (wpAny P md ops Q F (markF listed k m)) m l a w → wpAnyZ P md ops Q S z (m + F) listed a w
  | 0, l, k, listed, a, w, hl, hB, hz, hlo, hsz, _, h => by
    rw [Nat.zero_add]
    refine wpAnyZ_of_any _ _ _ _ (fun j hj => ?_) h
    rcases Nat.lt_or_ge j k with h1 | h1
    · rw [hlo j h1] at hj; cases hj
    · rcases Nat.lt_or_ge j ops.size with h2 | h2
      · exact hz j (by omega) h2
      · have h3 : listed.size ≤ j := by omega
        rw [Array.getD_eq_getD_getElem?, Array.getElem?_eq_none h3] at hj
        cases hj
  | m + 1, [], k, listed, a, w, hl, hB, _, _, _, _, h => h.elim
  | m + 1, o :: l, k, listed, a, w, hl, hB, hz, hlo, hsz, hS, h => by
    have h0 : ops[k]? = some o := by simpa using (hl 0).symm
    simp only [forcedN, Bool.and_eq_true, beq_iff_eq] at hB
    have hlt : k < listed.size := by
      have hun := (mem_ready.1 (show k ∈ Region.ready md ops listed by rw [hB.1]; simp)).1
      rcases Nat.lt_or_ge k listed.size with h' | h'
      · exact h'
      · simp [Array.getElem?_eq_none h'] at hun
    have hn : ∀ a w, S w → wpListC P ops Q S (wpAny P md ops Q F (markF listed k (m + 1))) m l a w → wpAnyZ P md ops Q S z (m + F) (listed.setIfInBounds k true) a w := fun a w hw hh =>
      wpAnyZ_forcedN m l (k + 1) _ a w (fun j => by have := hl (j + 1); simpa [Nat.add_assoc, Nat.add_comm 1 j] using this) hB.2 (fun j h1 h2 => hz j (by omega) h2)
        (fun j hj => by
          by_cases hjk : k = j
          · subst hjk; simp [hlt]
          · rw [getD_set_ne true hjk]; exact hlo j (by omega)) (by simpa using hsz) hw hh
    have e1 : m + 1 + F = (m + F) + 1 := by omega
    rw [e1]
    refine ⟨fun h1 => (by rw [hB.1] at h1; cases h1), fun j hj => ?_⟩
    rw [hB.1] at hj
    rcases List.mem_cons.1 hj with rfl | hj
    · unfold wpOp
      rw [h0]
      unfold wpListC at h
      by_cases hwt : Region.wanted o (yielded ops a.tmps) = true
      · rw [if_pos hwt] at h
        simp only [hwt, if_true]
        exact h.imp (Oper.wp_mono fun a w hh => ⟨fun _ => hh.1, hn a w hh.1 hh.2⟩) id
      · rw [if_neg hwt] at h
        simp only [hwt]
        exact ⟨fun _ => hS, hn _ _ hS h⟩
    · cases hj
def headB (ops : Array Oper) (n m F : Nat) : Bool :=
  Region.noSelect ops && decide (n + m + F = ops.size) && segB .any ops (fun j => decide (n + m ≤ j) && decide (j < ops.size)) n 0 (Array.replicate ops.size false) && forcedN .any ops m n (markF (Array.replicate ops.size false) 0 n)
theorem markF_add : ∀ (n m k : Nat) (b : Array Bool), markF (markF b k n) (k + n) m = markF b k (n + m)
  | 0, m, k, b => by simp [markF]
  | n + 1, m, k, b => by
    rw [show n + 1 + m = (n + m) + 1 by omega]
    simp only [markF]
    rw [← markF_add n m (k + 1)]
    congr 1
    omega
theorem wp_region_head {id : Nat} {a : Act} {w : World} (n m F : Nat) (hm : P.follows .mixedOrders = true) (hB : headB l.toArray n m F = true) (hQ : panicsOk Q) (hS : S w.drew)
    (h : wpQuiet P l.toArray S (fun a' => wpListC P l.toArray Q S (wpAny P .any l.toArray Q F (markF (Array.replicate l.length false) 0 (n + m))) m (l.drop n) a' w.drew) (l.take n) a) : (Code.region id l.toArray true).wp P Q a w := by
  simp only [headB, Bool.and_eq_true, decide_eq_true_eq] at hB
  obtain ⟨⟨⟨hs, hn⟩, hseg⟩, hfor⟩ := hB
  have hn' : n ≤ l.length := by simp at hn; omega
  have hlen : (l.take n).length = n := by simp [hn']
  refine wp_region_any hm ?_
  refine wpAny_of_z (S := S) (z := fun j => decide (n + m ≤ j) && decide (j < l.toArray.size)) _ _ _ _ ?_
  have key := wpAnyZ_seg (P := P) (Q := Q) (md := .any) (S := S) (z := fun j => decide (n + m ≤ j) && decide (j < l.toArray.size)) (fuel := m + F) (w := w.drew) hs hQ hS
    (fun j hj => by simp at hj ⊢; omega) (l.take n) 0 (Array.replicate l.toArray.size false) a (fun j hj => by
      have : j < n := by omega
      simp [this]) (by rw [hlen]; exact hseg) (shutd_none _)
  rw [hlen, show n + (m + F) = l.toArray.size by omega] at key
  refine key ?_
  have conv : ∀ a', wpListC P l.toArray Q S (wpAny P .any l.toArray Q F (markF (Array.replicate l.length false) 0 (n + m))) m (l.drop n) a' w.drew → wpAnyZ P .any l.toArray Q S (fun j => decide (n + m ≤ j) && decide (j < l.toArray.size)) (m + F) (markF (Array.replicate l.toArray.size false) 0 n) a' w.drew := fun a' ha => by
    refine wpAnyZ_forcedN m (l.drop n) n _ _ _ (fun j => by simp) hfor (fun j h1 h2 => by simp only [Bool.and_eq_true, decide_eq_true_eq]; exact ⟨h1, h2⟩) (fun j hj => markF_get n 0 _ j (Nat.zero_le _) (by omega) (by simp; omega)) (by rw [markF_size, Array.size_replicate]) hS ?_
    have e2 := markF_add n m 0 (Array.replicate l.toArray.size false)
    rw [Nat.zero_add] at e2
    rw [e2]
    simpa using ha
  have mono : ∀ (m : List Oper) (a : Act) (K K' : Act → Prop), (∀ a, K a → K' a) → wpQuiet P l.toArray S K m a → wpQuiet P l.toArray S K' m a := by
    intro m
    induction m with
    | nil => intro a K K' hk h; exact hk _ h
    | cons o m ih =>
      intro a K K' hk h
      simp only [wpQuiet] at h ⊢
      split
      · rename_i hw
        rw [if_pos hw] at h
        obtain ⟨v, h1, h2⟩ := h
        exact ⟨v, h1, ih _ K K' hk h2⟩
      · rename_i hw
        rw [if_neg hw] at h
        exact ih _ K K' hk h
  exact mono _ _ _ _ conv h

/-! ### one by one -/
/-- Number i alone may come up. -/
theorem wpAny_one {i F : Nat} {o : Oper} {rest : List Oper} {listed : Array Bool} {a : Act} {w : World} (hr : Region.ready md l.toArray listed = [i]) (ho : l.drop i = o :: rest)
    (h : ∀ K : Act → World → Prop, Shut (∀ a w, wpAny P md l.toArray Q F (listed.setIfInBounds i true) a w → K a w) → if Region.wanted o (yielded l.toArray a.tmps) = true then Oper.wp P o a w K Q else K (a.put o.dst undef) w) :
    wpAny P md l.toArray Q (F + 1) listed a w :=
  ⟨fun h0 => (by rw [hr] at h0; cases h0), fun j hj => by
    rw [hr] at hj
    rcases List.mem_cons.1 hj with rfl | hj
    · have h0 : l.toArray[j]? = some o := by
        rw [List.getElem?_toArray]
        have := congrArg (·[0]?) ho
        simpa using this
      exact wpOp_step h0 (fun K hK => h K (fun a w hW => hK a w hW))
    · cases hj⟩
/-- Number i or number j. -/
theorem wpAny_two {i j F : Nat} {o p : Oper} {r1 r2 : List Oper} {listed : Array Bool} {a : Act} {w : World} (hr : Region.ready md l.toArray listed = [i, j]) (ho : l.drop i = o :: r1) (hp : l.drop j = p :: r2)
    (h1 : ∀ K : Act → World → Prop, Shut (∀ a w, wpAny P md l.toArray Q F (listed.setIfInBounds i true) a w → K a w) → if Region.wanted o (yielded l.toArray a.tmps) = true then Oper.wp P o a w K Q else K (a.put o.dst undef) w)
    (h2 : ∀ K : Act → World → Prop, Shut (∀ a w, wpAny P md l.toArray Q F (listed.setIfInBounds j true) a w → K a w) → if Region.wanted p (yielded l.toArray a.tmps) = true then Oper.wp P p a w K Q else K (a.put p.dst undef) w) :
    wpAny P md l.toArray Q (F + 1) listed a w :=
  ⟨fun h0 => (by rw [hr] at h0; cases h0), fun k hk => by
    rw [hr] at hk
    have at_ : ∀ {i : Nat} {o : Oper} {r : List Oper}, l.drop i = o :: r → l.toArray[i]? = some o := fun {i o r} ho => by
      rw [List.getElem?_toArray]
      have := congrArg (·[0]?) ho
      simpa using this
    rcases List.mem_cons.1 hk with rfl | hk
    · exact wpOp_step (at_ ho) (fun K hK => h1 K (fun a w hW => hK a w hW))
    · rcases List.mem_cons.1 hk with rfl | hk
      · exact wpOp_step (at_ hp) (fun K hK => h2 K (fun a w hW => hK a w hW))
      · cases hk⟩
theorem wpAny_end {F : Nat} {listed : Array Bool} {a : Act} {w : World} (hr : Region.ready md l.toArray listed = []) (h : Q .normal a w) : wpAny P md l.toArray Q F listed a w := by
  cases F with
  | zero => exact ⟨hr, h⟩
  | succ F => exact ⟨fun _ => h, by rw [hr]; simp⟩
/-- Number i does not look at the world: it is taken first. -/
theorem wpAny_pure {i F : Nat} {o : Oper} {rest : List Oper} {listed : Array Bool} {a : Act} {w : World} (ho : l.drop i = o :: rest) (hB : (Region.noSelect l.toArray && (Region.ready md l.toArray listed).contains i && Region.free md l.toArray listed i && plainK o) = true) (hQ : panicsOk Q)
    (h : wpQuiet P l.toArray (fun _ => True) (fun a' => wpAny P md l.toArray Q F (listed.setIfInBounds i true) a' w) [o] a) : wpAny P md l.toArray Q (F + 1) listed a w := by
  simp only [Bool.and_eq_true] at hB
  obtain ⟨⟨⟨hs, hr⟩, hf⟩, hk⟩ := hB
  have h0 : l.toArray[i]? = some o := by
    rw [List.getElem?_toArray]
    have := congrArg (·[0]?) ho
    simpa using this
  have fin : ∀ v, YieldsIf P l.toArray (fun _ => True) o v a → wpAny P md l.toArray Q F (listed.setIfInBounds i true) (a.put o.dst v) w → wpAny P md l.toArray Q (F + 1) listed a w := fun v hy hh => by
    refine wpAny_first h0 (Region.noSelect_spec hs) (fun c a w => hQ.at_ c a _ _ w) F listed a w (Region.free_spec h0 hf) (by simpa using hr) ?_ hh
    rcases hy with ⟨h1, h2⟩ | h1
    · exact .inl ⟨h1, fun w => h2 w trivial⟩
    · exact .inr h1
  simp only [wpQuiet] at h
  by_cases hwt : Region.wanted o (yielded l.toArray a.tmps) = true
  · rw [if_pos hwt] at h
    obtain ⟨v, hv, hK⟩ := h
    exact fin v (yieldsIf_of hk hwt hv) hK
  · rw [if_neg hwt] at h
    exact fin undef (.inr ⟨by simpa using hwt, rfl⟩) h
end
theorem setRow_setCell (w : World) {g : Nat} {p : Addr} (cs : Array Value) (u : Value) (h : g ≠ p.block) : (w.setCell p u).setRow g cs = (w.setRow g cs).setCell p u := by
  simp only [World.setRow, World.setCell]
  congr 1
  apply Array.ext_getElem?
  intro i
  simp only [Array.getElem?_modify]
  by_cases h1 : g = i
  · subst h1
    have : ¬ p.block = g := fun e => h e.symm
    simp [this]
  · by_cases h2 : p.block = i
    · simp [h1, h2]
    · simp [h1, h2]
end Go.Proofs.YtlgaeeedkihfpaaGreatDoor.Uf
