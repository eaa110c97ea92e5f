/-
  Texts of the proof of Chain, one behind the other: TopC, ChgC, ChgD.
-/
import Derived.Test.YtlgaeeedkihfpaaGreatDoorC34
import Derived.Test.YtlgaeeedkihfpaaGreatDoorC25
import Derived.Test.YtlgaeeedkihfpaaGreatDoorC19
/-
  versoref08.Light: where it says so, a policy's lists are small.
-/
namespace Go.Proofs.YtlgaeeedkihfpaaGreatDoor.Uf
open Go.RowKit
open Tz (B Pol)

def listsP (p : Pol) : List (List B) := [p.elems, p.attrs, p.schemes, p.classes, p.props]
/-- A list whose texts are short, cut at 10000, and which is itself short. -/
def LightL (l : List B) (T : Nat) : Prop := l.length ≤ 100 ∧ ∀ s ∈ l, min s.length 10000 ≤ T
theorem LightL.mono {l : List B} {T T' : Nat} (h : LightL l T) (hT : T ≤ T') : LightL l T' := ⟨h.1, fun s hs => Nat.le_trans (h.2 s hs) hT⟩
theorem LightL.small {l : List B} {T : Nat} (h : LightL l T) (hT : T < 6000) : Small l := ⟨by have := h.1; omega, fun s hs => by have := h.2 s hs; omega⟩
theorem light_small {p : Pol} {T : Nat} (h : ∀ j (hj : j < 5), LightL ((listsP p)[j]'hj) T) (hT : T < 6000) : PolSmall p :=
  ⟨(h 0 (by omega)).small hT, (h 1 (by omega)).small hT, (h 2 (by omega)).small hT, (h 3 (by omega)).small hT, (h 4 (by omega)).small hT⟩

def LightR (p : Pol) (e : Ending) : Prop := ∃ b, e = .returned (.bool b) ∧ (b = true → PolSmall p)

set_option maxRecDepth 100000 in
set_option maxHeartbeats 8000000 in
theorem light_u {w : World} {SP : Nat → Prop} {cs : Array Value} {p : Pol} (h : PolV w SP cs p) :
    Calls Tryz.prog 6 #[.agg cs] w fun e w' => LightR p e ∧ Below w.heap.size w w' := by
  have hcs := pol_cells h
  obtain ⟨A1, c1, A2, c2, A3, c3, A4, c4, A5, c5, ⟨_, k1, k2, k3, k4, k5, _, _, _⟩, h1, h2, h3, h4, h5, h6⟩ := h.cells
  have hb : Below w.heap.size w (w.alloc (.cells cs 24)) := (Below.refl _ w).alloc (Nat.le_refl _) _
  have hP : Blk (w.alloc (.cells cs 24)) w.heap.size 24 cs := Blk.new w 24 cs
  have hrow : ∀ i (hi : i < 5), ∃ A c, (#[.slice A1 p.elems.length c1, .slice A2 p.attrs.length c2, .slice A3 p.schemes.length c3, .slice A4 p.classes.length c4, .slice A5 p.props.length c5] : Array Value)[i]? = some (.slice A ((listsP p)[i]'hi).length c) ∧ StrsAt w SP A ((listsP p)[i]'hi).length ((listsP p)[i]'hi) := fun i hi => by
    match i, hi with
    | 0, _ => exact ⟨A1, c1, rfl, h1⟩
    | 1, _ => exact ⟨A2, c2, rfl, h2⟩
    | 2, _ => exact ⟨A3, c3, rfl, h3⟩
    | 3, _ => exact ⟨A4, c4, rfl, h4⟩
    | 4, _ => exact ⟨A5, c5, rfl, h5⟩
  have HR := Lib.hid hrow
  have HK := Lib.hid (And.intro k1 (And.intro k2 (And.intro k3 (And.intro k4 k5))))
  clear hrow h h1 h2 h3 h4 h5 k1 k2 k3 k4 k5
  go_enter Tryz.func6, Tryz.ntmps6
  apply wp_seq_k
  intro K' hK
  have HKK := Lib.hid hK
  clear hK
  go_wp2_with fail
  refine HKK.out _ _ ?_
  clear HKK K' hcs
  generalize (w.alloc (.cells cs 24)) = V at hb hP ⊢
  have q1 : V.cell? ⟨w.heap.size, 1, none⟩ = some (.slice A1 p.elems.length c1) := (Blk.cell hP 1).trans HK.out.1
  have q2 : V.cell? ⟨w.heap.size, 2, none⟩ = some (.slice A2 p.attrs.length c2) := (Blk.cell hP 2).trans HK.out.2.1
  have q3 : V.cell? ⟨w.heap.size, 3, none⟩ = some (.slice A3 p.schemes.length c3) := (Blk.cell hP 3).trans HK.out.2.2.1
  have q4 : V.cell? ⟨w.heap.size, 4, none⟩ = some (.slice A4 p.classes.length c4) := (Blk.cell hP 4).trans HK.out.2.2.2.1
  have q5 : V.cell? ⟨w.heap.size, 5, none⟩ = some (.slice A5 p.props.length c5) := (Blk.cell hP 5).trans HK.out.2.2.2.2
  go_wp2_with fail
  have hR : Blk (V.alloc (.cells #[.slice A1 p.elems.length c1, .slice A2 p.attrs.length c2, .slice A3 p.schemes.length c3, .slice A4 p.classes.length c4, .slice A5 p.props.length c5] 22)) V.heap.size 22 #[.slice A1 p.elems.length c1, .slice A2 p.attrs.length c2, .slice A3 p.schemes.length c3, .slice A4 p.classes.length c4, .slice A5 p.props.length c5] := Blk.new V 22 _
  have hb2 : Below w.heap.size w (V.alloc (.cells #[.slice A1 p.elems.length c1, .slice A2 p.attrs.length c2, .slice A3 p.schemes.length c3, .slice A4 p.classes.length c4, .slice A5 p.props.length c5] 22)) := hb.alloc hb.size _
  have hvs := hb.size
  clear q1 q2 q3 q4 q5 hP HK
  generalize (V.alloc (.cells #[.slice A1 p.elems.length c1, .slice A2 p.attrs.length c2, .slice A3 p.schemes.length c3, .slice A4 p.classes.length c4, .slice A5 p.props.length c5] 22)) = V2 at hR hb2 ⊢
  have hRl := heap_lt hR
  go_loopw [19, 3] (fun vi vt wr => ∃ i T : Nat, vi = .int .i64 i ∧ vt = .int .i64 T ∧ i ≤ 5 ∧ T ≤ 1000000 * i ∧ (∀ j (hj : j < 5), j < i → LightL ((listsP p)[j]'hj) T) ∧ Below V2.heap.size V2 wr) (fun vi _ _ => 5 - kOf vi)
  case atStart => exact ⟨0, 0, rfl, rfl, by omega, by omega, fun _ _ h => absurd h (by omega), Below.refl _ _⟩
  case round =>
    obtain ⟨i, T, rfl, rfl, hi, hT, hL, hbi⟩ := hrel
    by_cases hlt : i < 5
    · have t0 : (i : Int) < 5 := by omega
      obtain ⟨A, c, hcell, hstr⟩ := HR.out i hlt
      have kc : wr.cell? ⟨V.heap.size, i, none⟩ = some (.slice A ((listsP p)[i]'hlt).length c) := ((hbi.cell (p := ⟨V.heap.size, i, none⟩) hRl).trans (Blk.cell hR i)).trans hcell
      have hi1 : IntKind.i64.wrap ((i : Int) + 1) = ((i + 1 : Nat) : Int) := by rw [IntKind.wrap_i64]; omega
      obtain ⟨l, hl⟩ : ∃ l, l = (listsP p)[i]'hlt := ⟨_, rfl⟩
      rw [← hl] at kc hstr
      have HL := Lib.hid (And.intro hl hL)
      clear hl hL hcell
      by_cases h100 : l.length ≤ 100
      · have t1 : ¬ ((100 : Int) < (l.length : Int)) := by omega
        go_wp2_with fail
        go_loopw [6, 3] (fun vi vt wq => ∃ k T2 : Nat, vi = .int .i64 k ∧ vt = .int .i64 T2 ∧ k ≤ l.length ∧ T ≤ T2 ∧ T2 ≤ T + 10000 * k ∧ (∀ s ∈ l.take k, min s.length 10000 ≤ T2) ∧ Below V2.heap.size V2 wq) (fun vi _ _ => l.length - kOf vi)
        case atStart => exact ⟨0, T, rfl, rfl, Nat.zero_le _, Nat.le_refl _, by omega, fun _ h => by simp at h, hbi⟩
        case round =>
          clear kc
          obtain ⟨k, T2, rfl, rfl, hk, hT1, hT2, hmin, hbk⟩ := hrel
          by_cases hkl : k < l.length
          · have t2 : (k : Int) < (l.length : Int) := by omega
            obtain ⟨g, o, rfl, hSg, hcs⟩ := hstr.2 (by omega)
            have kc : wr.cell? ⟨g, o + k, none⟩ = some (.string (bs l[k])) := by
              have hg := h6 g hSg
              refine (hbk.cell (p := ⟨g, o + k, none⟩) (by show g < V2.heap.size; have := hb2.size; omega)).trans ?_
              exact (hb2.cell (p := ⟨g, o + k, none⟩) hg).trans (hcs k hkl)
            have hmem : ∀ s ∈ l.take (k + 1), s ∈ l.take k ∨ s = l[k] := fun s hs => by
              rw [List.take_add_one, List.getElem?_eq_getElem hkl, List.mem_append] at hs
              exact hs.imp id (fun h => by simpa using h)
            generalize l[k] = x at kc hmem
            have hi2 : IntKind.i64.wrap ((k : Int) + 1) = ((k + 1 : Nat) : Int) := by rw [IntKind.wrap_i64]; omega
            obtain ⟨M, hM⟩ : ∃ M, M = min x.length 10000 := ⟨_, rfl⟩
            have hMle : M ≤ 10000 := by omega
            have mm : min ((bs x).size : Int) 10000 = (M : Int) := by rw [bs_size]; omega
            have hi3 : IntKind.i64.wrap ((T2 : Int) + (M : Int)) = ((T2 + M : Nat) : Int) := by rw [IntKind.wrap_i64]; omega
            have HM := Lib.hid (And.intro hM (And.intro hmem hmin))
            clear hM hmem hmin
            go_wp2_with fail
            go_roundw
            case rel =>
              refine ⟨k + 1, T2 + M, by go_num, by go_num, hkl, by omega, by omega, fun s hs => ?_, hbk⟩
              rcases HM.out.2.1 s hs with h | rfl
              · have := HM.out.2.2 s h
                omega
              · have := HM.out.1
                omega
            case measure =>
              show l.length - kOf (.int .i64 ((k + 1 : Nat) : Int)) < l.length - kOf (.int .i64 (k : Int))
              simp only [kOf, Int.toNat_natCast]
              omega
          · have t2 : ¬ (k : Int) < (l.length : Int) := by omega
            have hkt : l.take k = l := List.take_of_length_le (by omega)
            rw [hkt] at hmin
            go_wp2_with fail
            go_roundw
            case rel =>
              refine ⟨i + 1, T2, rfl, rfl, hlt, by omega, fun j hj hj1 => ?_, hbk⟩
              rcases Nat.lt_or_ge j i with h | h
              · exact (HL.out.2 j hj h).mono hT1
              · obtain rfl : j = i := by omega
                rw [← HL.out.1]
                exact ⟨h100, hmin⟩
            case measure =>
              show 5 - kOf (.int .i64 ((i + 1 : Nat) : Int)) < 5 - kOf (.int .i64 (i : Int))
              simp only [kOf, Int.toNat_natCast]
              omega
      · have t1 : (100 : Int) < (l.length : Int) := by omega
        go_wp2_with fail
        go_ret
        exact ⟨⟨false, rfl, fun h => by cases h⟩, hb2.trans (hbi.mono hb2.size)⟩
    · have t0 : ¬ (i : Int) < 5 := by omega
      obtain rfl : i = 5 := by omega
      by_cases hT6 : T < 6000
      · have t1 : (T : Int) < 6000 := by omega
        go_wp2_with fail
        go_ret
        exact ⟨⟨true, rfl, fun _ => light_small (fun j hj => hL j hj hj) hT6⟩, hb2.trans (hbi.mono hb2.size)⟩
      · have t1 : ¬ (T : Int) < 6000 := by omega
        go_wp2_with fail
        go_ret
        exact ⟨⟨false, rfl, fun h => by cases h⟩, hb2.trans (hbi.mono hb2.size)⟩
end Go.Proofs.YtlgaeeedkihfpaaGreatDoor.Uf

/-
  Lists of policies in memory; versoref09.Light; chain.next.
-/
namespace Go.Proofs.YtlgaeeedkihfpaaGreatDoor.Uf
open Go.RowKit
open Tz (B Pol allP strictP looseA rightP)

theorem wpList_load_arr {P : Program} {ops : Array Oper} {rest : List Oper} {o : Oper} {a : Act} {w : World} {Q : Exit → Act → World → Prop} (hgd : o.guard = none) (ty : TypeId) (x : Operand) (ho : o.op = .load ty x)
    (p : Addr) (hx : a.eval x = .pointer (some p)) (cs : Array Value) (d : TypeDesc) (hc : ∀ (j : Nat) (v : Value), cs[j]? = some v → w.cell? (p.add j) = some v)
    (hu : P.underlying ty = some d) (hd : (match d with | .struct _ | .array _ _ => true | _ => false) = true) (hi : (P.info? ty).map (·.size) = some cs.size)
    (h : wpList P ops Q rest (a.put o.dst (.agg cs)) w) : wpList P ops Q (o :: rest) a w :=
  wpList_load_at hgd ty x ho p hx cs.toList d (fun j v hv => hc j v (by simpa using hv)) hu hd (by simpa using hi) (by simpa using h)
/-- A load of many cells that a guard lets run. -/
theorem wpList_load_rowG {P : Program} {ops : Array Oper} {rest : List Oper} {o : Oper} {a : Act} {w : World} {Q : Exit → Act → World → Prop} (hwt : Region.wanted o (yielded ops a.tmps) = true) (ty : TypeId) (x : Operand) (ho : o.op = .load ty x)
    (g : Nat) (hx : a.eval x = .pointer (some ⟨g, 0, none⟩)) (t : TypeId) (cs : Array Value) (fr : Nat × Nat) (d : TypeDesc) (hg : w.heap[g]? = some (.cells cs t fr))
    (hu : P.underlying ty = some d) (hd : (match d with | .struct _ | .array _ _ => true | _ => false) = true) (hi : (P.info? ty).map (·.size) = some cs.size)
    (h : wpList P ops Q rest (a.put o.dst (.agg cs)) w) : wpList P ops Q (o :: rest) a w :=
  wpList_step fun K hK => by
    rw [if_pos hwt]
    exact wp_load_row ty x ho g hx t cs fr d hg hu hd hi (hK _ _ h)
theorem wpQuiet_load_arr {P : Program} {ops : Array Oper} {C : World → Prop} {Q : Act → Prop} {a : Act} {o : Oper} {rest : List Oper} (hgd : o.guard = none) (ty : TypeId) (x : Operand) (ho : o.op = .load ty x)
    (p : Addr) (hx : a.eval x = .pointer (some p)) (cs : Array Value) (d : TypeDesc) (hc : ∀ w, C w → ∀ (j : Nat) (v : Value), cs[j]? = some v → w.cell? (p.add j) = some v)
    (hu : P.underlying ty = some d) (hd : (match d with | .struct _ | .array _ _ => true | _ => false) = true) (hi : (P.info? ty).map (·.size) = some cs.size)
    (h : wpQuiet P ops C Q rest (a.put o.dst (.agg cs))) : wpQuiet P ops C Q (o :: rest) a := by
  unfold wpQuiet
  rw [if_pos (by unfold Region.wanted; rw [hgd])]
  refine ⟨.agg cs, fun w hw => ?_, h⟩
  unfold Oper.quietAt execOp
  have hl := run_loadVar_at (P := P) w p ty cs.toList d (fun j v hv => hc w hw j v (by simpa using hv)) hu hd (by simpa using hi)
  rw [Array.toArray_toList] at hl
  simp only [ho, hx, Instr.loadAt, Instr.sureAddr, Sem.run_bind, Sem.run_pure, Result.andThen_ok, hl]
  exact ⟨rfl, rfl⟩
/-- Policies in memory. -/
def PolsV (w : World) (S : Nat → Prop) (A : Option Addr) (ps : List Pol) : Prop :=
  (∀ g, S g → g < w.heap.size) ∧ ∀ i (h : i < ps.length), ∃ ad cs, A = some ad ∧ S ad.block ∧ PolV w S cs ps[i] ∧ ∀ (j : Nat) (u : Value), cs[j]? = some u → w.cell? ((ad.add (i * 9)).add j) = some u
theorem PolsV.keep {w w' : World} {S : Nat → Prop} {A : Option Addr} {ps : List Pol} (h : PolsV w S A ps) (hb : Below w.heap.size w w') : PolsV w' S A ps :=
  ⟨fun g hg => Nat.lt_of_lt_of_le (h.1 g hg) hb.size, fun i hi => by
    obtain ⟨ad, cs, e, hS, hp, hc⟩ := h.2 i hi
    exact ⟨ad, cs, e, hS, hp.keep hb, fun j u hu => (hb.cell (by rw [block_of_add, block_of_add]; exact h.1 _ hS)).trans (hc j u hu)⟩⟩
theorem pol_size {w : World} {S : Nat → Prop} {cs : Array Value} {p : Pol} (h : PolV w S cs p) : cs.size = 9 := by
  obtain ⟨_, _, _, _, _, _, _, _, _, _, rfl, _⟩ := h
  rfl
theorem pol_one {w : World} {S : Nat → Prop} {cs : Array Value} {p : Pol} (h : PolV w S cs p) : cs.all (·.oneCell') = true := by
  obtain ⟨_, _, _, _, _, _, _, _, _, _, rfl, _⟩ := h
  simp [Value.oneCell']
theorem info24 : (Tryz.prog.info? 24).map (·.size) = some 9 := by kernel_rfl
def LightsR (ps : List Pol) (e : Ending) : Prop := ∃ b, e = .returned (.bool b) ∧ (b = true → ps.length ≤ 12 ∧ ∀ p ∈ ps, PolSmall p)

set_option maxRecDepth 100000 in
set_option maxHeartbeats 4000000 in
theorem light9_u {w : World} {S : Nat → Prop} {A : Option Addr} {c : Nat} {ps : List Pol} (h : PolsV w S A ps) :
    Calls Tryz.prog 9 #[.slice A ps.length c] w fun e w' => LightsR ps e ∧ Below w.heap.size w w' := by
  go_enter Tryz.func9, Tryz.ntmps9
  by_cases h12 : (12 : Int) < (ps.length : Int)
  · go_wp2_with fail
    go_ret
    exact ⟨⟨false, rfl, fun h => by cases h⟩, Below.refl _ _⟩
  · go_wp2_with fail
    go_loopw [3] (fun vi wr => ∃ i : Nat, vi = .int .i64 i ∧ i ≤ ps.length ∧ (∀ p ∈ ps.take i, PolSmall p) ∧ Below w.heap.size w wr) (fun vi _ => ps.length - kOf vi)
    case atStart => exact ⟨0, rfl, Nat.zero_le _, by simp, Below.refl _ _⟩
    case round =>
      obtain ⟨i, rfl, hi, hall, hbi⟩ := hrel
      by_cases hlt : i < ps.length
      · have t0 : (i : Int) < (ps.length : Int) := by omega
        obtain ⟨ad, cs, rfl, hSb, hpv, hcells⟩ := (h.keep hbi).2 i hlt
        have hsz := pol_size hpv
        have hi24 : (Tryz.prog.info? 24).map (·.size) = some cs.size := by rw [hsz]; exact info24
        have hst : ∀ p ∈ ps.take (i + 1), p ∈ ps.take i ∨ p = ps[i] := fun p hp => by
          rw [List.take_add_one, List.getElem?_eq_getElem hlt, List.mem_append] at hp
          exact hp.imp id (fun h => by simpa using h)
        generalize ps[i] = p at hpv hst
        have hi1 : IntKind.i64.wrap ((i : Int) + 1) = ((i + 1 : Nat) : Int) := by rw [IntKind.wrap_i64]; omega
        have HX := Lib.hid (And.intro hpv (And.intro hst hall))
        clear hpv hst hall hsz
        go_wp2_with (first
          | (with_reducible refine wpList_load_arr rfl 24 (.tmp 15) rfl (ad.add (i * 9)) rfl cs _ hcells Tryz.underlying24 rfl hi24 ?_))
        refine (light_u HX.out.1).mono ?_
        rintro e1 w1 ⟨⟨b, rfl, hsm⟩, hb1⟩
        have hb2 := hbi.trans (hb1.mono hbi.size)
        cases b with
        | false =>
          go_wp2_with fail
          go_ret
          exact ⟨⟨false, rfl, fun h => by cases h⟩, hb2⟩
        | true =>
          have HS := Lib.hid (hsm rfl)
          clear hsm hb1 hbi
          go_wp2_with fail
          go_roundw
          case rel => exact ⟨i + 1, rfl, hlt, fun p' hp' => (HX.out.2.1 p' hp').elim (fun h => HX.out.2.2 p' h) (fun e => by rw [e]; exact HS.out), hb2⟩
          case measure =>
            show ps.length - kOf (.int .i64 ((i + 1 : Nat) : Int)) < ps.length - kOf (.int .i64 (i : Int))
            simp only [kOf, Int.toNat_natCast]
            omega
      · have t0 : ¬ (i : Int) < (ps.length : Int) := by omega
        have hkt : ps.take i = ps := List.take_of_length_le (by omega)
        rw [hkt] at hall
        go_wp2_with fail
        go_ret
        exact ⟨⟨true, rfl, fun _ => ⟨by omega, hall⟩⟩, hbi⟩

/-- Why a policy may not stand behind so many. -/
def nextP (n : Int) (last p : Pol) : Int := if rightP p = false then 2 else if p.epoch ≠ n + 1 then 7 else if 0 < n ∧ strictP p last = false then 6 else 0
set_option maxRecDepth 100000 in
set_option maxHeartbeats 8000000 in
theorem nextp_u {w : World} {SP SQ : Nat → Prop} {cs ds : Array Value} {p q : Pol} {m : Int} {n : Nat} (h : PolV w SP cs q) (hq : PolV w SQ ds p) (hp : PolSmall q) (hqs : PolSmall p) (hm : w.cell? ⟨0, 0, none⟩ = some (.int .i64 m)) (hn : n ≤ 1000) :
    Calls Tryz.prog 23 #[.int .i64 n, .agg cs, .agg ds] w fun e w' => e = .returned (.int .i64 (nextP n q p)) ∧ Below w.heap.size w w' := by
  have hcs := pol_cells h
  have hds := pol_cells hq
  obtain ⟨_, _, _, _, _, _, _, _, _, _, ⟨l0, _⟩, _⟩ := hq.cells
  have hi24 : (Tryz.prog.info? 24).map (·.size) = some cs.size := by rw [pol_size h]; exact info24
  have hj24 : (Tryz.prog.info? 24).map (·.size) = some ds.size := by rw [pol_size hq]; exact info24
  have hb : Below w.heap.size w ((w.alloc (.cells cs 24)).alloc (.cells ds 24)) := ((Below.refl _ w).alloc (Nat.le_refl _) _).alloc (by rw [alloc_size]; omega) _
  have hP : Blk ((w.alloc (.cells cs 24)).alloc (.cells ds 24)) w.heap.size 24 cs := Blk.alloc (Blk.new w 24 cs) _
  have hQ : Blk ((w.alloc (.cells cs 24)).alloc (.cells ds 24)) (w.heap.size + 1) 24 ds := by
    have := Blk.new (w.alloc (.cells cs 24)) 24 ds
    rw [alloc_size] at this
    exact this
  have HV := Lib.hid (fun V (hV : Below w.heap.size w V) => And.intro (h.keep hV) (And.intro (hq.keep hV) (hm_below hm hV)))
  obtain ⟨res, hres⟩ : ∃ res, res = nextP n q p := ⟨_, rfl⟩
  rw [← hres]
  have HRES := Lib.hid hres
  clear hres h hq hm
  go_enter Tryz.func23, Tryz.ntmps23
  apply wp_seq_k
  intro K' hK
  have HK := Lib.hid hK
  clear hK
  go_wp2_with fail
  refine HK.out _ _ ?_
  clear HK K' hcs hds
  generalize ((w.alloc (.cells cs 24)).alloc (.cells ds 24)) = V at hb hP hQ ⊢
  have hQ1 : V.heap[w.heap.size + 1]? = some (.cells ds 24 (0, 0)) := hQ
  go_wp2_with (first
    | (with_reducible refine wpList_load_row rfl 24 (.tmp 5) rfl (w.heap.size + 1) rfl 24 ds (0, 0) _ hQ1 Tryz.underlying24 rfl hj24 ?_))
  obtain ⟨_, g2, g3⟩ := HV.out V hb
  refine (right_u g2 hqs g3).mono ?_
  have HRT := Lib.hid (show ∀ z, rightP p = z → res = if z = false then 2 else if p.epoch ≠ (n : Int) + 1 then 7 else if 0 < (n : Int) ∧ strictP p q = false then 6 else 0 from fun z hz => by rw [HRES.out, ← hz]; rfl)
  generalize hz : rightP p = z
  have HR := Lib.hid (HRT.out z hz)
  clear hz HRT
  rintro e1 V1 ⟨rfl, hb1⟩
  have hbw := hb.trans (hb1.mono hb.size)
  have hP1 := hP.below hb1 (heap_lt hP)
  have hQ2 := hQ.below hb1 (heap_lt hQ)
  clear hb hb1 hP hQ hQ1 g2 g3
  cases z with
  | false =>
    go_wp2_with fail
    go_ret
    exact ⟨by rw [HR.out]; rfl, hbw⟩
  | true =>
    have a0 : V1.cell? ⟨w.heap.size + 1, 0, none⟩ = some (.int .i64 p.epoch) := (Blk.cell hQ2 0).trans l0
    have hw : IntKind.i64.wrap ((n : Int) + 1) = ((n : Int) + 1) := by rw [IntKind.wrap_i64]; omega
    by_cases hep : p.epoch = (n : Int) + 1
    · have HR2 := Lib.hid (show res = if 0 < (n : Int) ∧ strictP p q = false then 6 else 0 by rw [HR.out, if_neg (by simp), if_neg (by rw [hep]; simp)])
      have hne : (p.epoch != (n : Int) + 1) = false := by simp [hep]
      by_cases h0 : 0 < n
      · have t1 : (0 : Int) < (n : Int) := by omega
        have hP3 : V1.heap[w.heap.size]? = some (.cells cs 24 (0, 0)) := hP1
        have hQ3 : V1.heap[w.heap.size + 1]? = some (.cells ds 24 (0, 0)) := hQ2
        go_wp2_with (first
          | (with_reducible refine wpList_load_rowG rfl 24 (.tmp 5) rfl (w.heap.size + 1) rfl 24 ds (0, 0) _ hQ3 Tryz.underlying24 rfl hj24 ?_)
          | (with_reducible refine wpList_load_rowG rfl 24 (.tmp 4) rfl w.heap.size rfl 24 cs (0, 0) _ hP3 Tryz.underlying24 rfl hi24 ?_))
        obtain ⟨g1, g2, _⟩ := HV.out V1 hbw
        refine (strict_u g2 g1 hqs hp).mono ?_
        generalize strictP p q = y at HR2
        rintro e2 V2 ⟨rfl, hb2⟩
        have hbw2 := hbw.trans (hb2.mono hbw.size)
        cases y with
        | true =>
          go_wp2_with fail
          go_ret
          have hr : res = 0 := by rw [HR2.out, if_neg (fun h => by cases h.2)]
          exact ⟨by rw [hr]; rfl, hbw2⟩
        | false =>
          go_wp2_with fail
          go_ret
          have hr : res = 6 := by rw [HR2.out]; simp; omega
          exact ⟨by rw [hr]; rfl, hbw2⟩
      · have t1 : ¬ (0 : Int) < (n : Int) := by omega
        go_wp2_with fail
        go_ret
        have hr : res = 0 := by rw [HR2.out, if_neg (fun h => by have := h.1; omega)]
        exact ⟨by rw [hr]; rfl, hbw⟩
    · have hne : (p.epoch != (n : Int) + 1) = true := by simpa using hep
      have HR2 := Lib.hid (show res = 7 by rw [HR.out, if_neg (by simp), if_pos hep])
      go_wp2_with fail
      go_ret
      exact ⟨by rw [HR2.out]; rfl, hbw⟩

/-- Why policies are no chain; 0: they are one. -/
def chainG : Nat → Pol → List Pol → Int
  | _, _, [] => 0
  | n, last, p :: r => if nextP n last p ≠ 0 then nextP n last p else chainG (n + 1) p r
def Z0 : Pol := ⟨0, [], [], [], [], [], 0, 0, 0⟩
def CZ : Array Value := #[.int .i64 0, .slice none 0 0, .slice none 0 0, .slice none 0 0, .slice none 0 0, .slice none 0 0, .int .i64 0, .int .i64 0, .int .i64 0]
theorem z0_small : PolSmall Z0 := ⟨⟨by decide, fun _ h => by cases h⟩, ⟨by decide, fun _ h => by cases h⟩, ⟨by decide, fun _ h => by cases h⟩, ⟨by decide, fun _ h => by cases h⟩, ⟨by decide, fun _ h => by cases h⟩⟩
theorem z0_v (w : World) (S : Nat → Prop) (hS : ∀ g, S g → g < w.heap.size) : PolV w S CZ Z0 := ⟨none, 0, none, 0, none, 0, none, 0, none, 0, rfl, strs_nil, strs_nil, strs_nil, strs_nil, strs_nil, hS⟩
def lastP (ps : List Pol) (i : Nat) : Pol := if i = 0 then Z0 else ps.getD (i - 1) Z0
theorem chain_step {ps : List Pol} {i : Nat} (hi : i < ps.length) : chainG i (lastP ps i) (ps.drop i) = if nextP i (lastP ps i) ps[i] ≠ 0 then nextP i (lastP ps i) ps[i] else chainG (i + 1) (lastP ps (i + 1)) (ps.drop (i + 1)) := by
  rw [List.drop_eq_getElem_cons hi]
  show (if _ then _ else _) = _
  have e : lastP ps (i + 1) = ps[i] := by
    unfold lastP
    rw [if_neg (by omega), Nat.add_sub_cancel, List.getD, List.getElem?_eq_getElem hi]
    rfl
  rw [e]

def CheckR (ps : List Pol) (e : Ending) : Prop := ∃ k : Int, e = .returned (.tuple #[.int .i64 (chainG 0 Z0 ps), .int .i64 k])
set_option maxRecDepth 100000 in
set_option maxHeartbeats 8000000 in
theorem check_u {w : World} {S : Nat → Prop} {A : Option Addr} {c : Nat} {ps : List Pol} {m : Int} (h : PolsV w S A ps) (hps : ps.length ≤ 12) (hsm : ∀ p ∈ ps, PolSmall p) (hm : w.cell? ⟨0, 0, none⟩ = some (.int .i64 m)) :
    Calls Tryz.prog 10 #[.slice A ps.length c] w fun e w' => CheckR ps e ∧ Below w.heap.size w w' := by
  have hb0 : Below w.heap.size w (w.alloc (.cells CZ 24)) := (Below.refl _ w).alloc (Nat.le_refl _) _
  have hP0 : Blk (w.alloc (.cells CZ 24)) w.heap.size 24 CZ := Blk.new w 24 _
  have HV := Lib.hid (fun V (hV : Below w.heap.size w V) => And.intro (h.keep hV) (hm_below hm hV))
  have hS := h.1
  clear h hm
  go_enter Tryz.func10, Tryz.ntmps10
  apply wp_seq_k
  intro K' hK
  have HK := Lib.hid hK
  clear hK
  go_wp2_with fail
  refine HK.out _ _ ?_
  clear HK K'
  apply wp_seq_k
  intro K' hK
  have HK := Lib.hid hK
  clear hK
  go_wp2_with fail
  refine HK.out _ _ ?_
  clear HK K'
  have hP0 : Blk (w.alloc (.cells #[.int .i64 0, .slice none 0 0, .slice none 0 0, .slice none 0 0, .slice none 0 0, .slice none 0 0, .int .i64 0, .int .i64 0, .int .i64 0] 24)) w.heap.size 24 CZ := hP0
  have hb0 : Below w.heap.size w (w.alloc (.cells #[.int .i64 0, .slice none 0 0, .slice none 0 0, .slice none 0 0, .slice none 0 0, .slice none 0 0, .int .i64 0, .int .i64 0, .int .i64 0] 24)) := hb0
  generalize (w.alloc (.cells #[.int .i64 0, .slice none 0 0, .slice none 0 0, .slice none 0 0, .slice none 0 0, .slice none 0 0, .int .i64 0, .int .i64 0, .int .i64 0] 24)) = V at hb0 hP0 ⊢
  go_wp2_with fail
  go_loopw [9] (fun vi wr => ∃ (i : Nat) (csl : Array Value), vi = .int .i64 i ∧ i ≤ ps.length ∧ Blk wr w.heap.size 24 csl ∧ PolV wr S csl (lastP ps i) ∧ PolSmall (lastP ps i) ∧ Below w.heap.size w wr ∧ chainG i (lastP ps i) (ps.drop i) = chainG 0 Z0 ps) (fun vi _ => ps.length - kOf vi)
  case atStart => exact ⟨0, CZ, rfl, Nat.zero_le _, hP0, z0_v _ _ (fun g hg => Nat.lt_of_lt_of_le (hS g hg) hb0.size), z0_small, hb0, rfl⟩
  case round =>
    clear hP0 hb0
    obtain ⟨i, csl, rfl, hi, hPr, hpl, hpls, hbi, hch⟩ := hrel
    by_cases hlt : i < ps.length
    · have t0 : (i : Int) < (ps.length : Int) := by omega
      obtain ⟨ad, cs, rfl, hSb, hpv, hcells⟩ := (HV.out wr hbi).1.2 i hlt
      have hi24 : (Tryz.prog.info? 24).map (·.size) = some cs.size := by rw [pol_size hpv]; exact info24
      have hj24 : (Tryz.prog.info? 24).map (·.size) = some csl.size := by rw [pol_size hpl]; exact info24
      have hsz2 : csl.size = cs.size := by rw [pol_size hpl, pol_size hpv]
      have hone : cs.all (·.oneCell') = true := pol_one hpv
      have hstep := chain_step hlt
      rw [hch] at hstep
      have hsmi := hsm ps[i] (List.getElem_mem hlt)
      have hlast : lastP ps (i + 1) = ps[i] := by
        unfold lastP
        rw [if_neg (by omega), Nat.add_sub_cancel, List.getD, List.getElem?_eq_getElem hlt]
        rfl
      have HST := Lib.hid (And.intro hstep hlast)
      generalize ps[i] = p at hpv hsmi HST
      generalize lastP ps i = q at hpl hpls HST
      have hi1 : IntKind.i64.wrap ((i : Int) + 1) = ((i + 1 : Nat) : Int) := by rw [IntKind.wrap_i64]; omega
      have HX := Lib.hid (And.intro hpl (And.intro hpls (And.intro hpv hsmi)))
      clear hstep hlast hch hpl hpls hpv hsmi
      go_wp2_with fail
      have hPd : Blk wr.drew w.heap.size 24 csl := hPr
      have hrow : ∀ X, X = wr.drew → X.heap[w.heap.size]? = some (.cells csl 24 (0, 0)) := fun X hX => by rw [hX]; exact hPd
      have hcel : ∀ X, X = wr.drew → ∀ (j : Nat) (v : Value), cs[j]? = some v → X.cell? ((ad.add (i * 9)).add j) = some v := fun X hX j v hv => by rw [hX]; exact hcells j v hv
      refine wp_region_tail 6 (by kernel_rfl) (by kernel_rfl) (fun _ _ _ _ _ h => h) ?_
      dsimp only [List.take, List.drop]
      try simp only [Act.put, List.setIfInBounds_toArray, List.set_cons_zero, List.set_cons_succ]
      repeat (go_big_quiet_step (fail))
      with_reducible refine wpQuiet_load_row rfl 24 (.tmp 4) rfl w.heap.size rfl 24 csl _ hrow Tryz.underlying24 rfl hj24 ?_
      try simp only [Act.put, List.setIfInBounds_toArray, List.set_cons_zero, List.set_cons_succ]
      repeat (go_big_quiet_step (fail))
      with_reducible refine wpQuiet_load_arr rfl 24 (.tmp 16) rfl (ad.add (i * 9)) rfl cs _ hcel Tryz.underlying24 rfl hi24 ?_
      refine wpQuiet_nil ?_
      try simp only [Act.put, List.setIfInBounds_toArray, List.set_cons_zero, List.set_cons_succ]
      have hbd : Below w.heap.size w wr.drew := hbi.drew
      have hbdr : Below wr.heap.size wr wr.drew := (Below.refl _ _).drew
      generalize wr.drew = W at hPd hbd hbdr ⊢
      clear hrow hcel
      go_wp2_with fail
      obtain ⟨h1, h2⟩ := HV.out W hbd
      refine (nextp_u (n := i) (HX.out.1.keep hbdr) (HX.out.2.2.1.keep hbdr) HX.out.2.1 HX.out.2.2.2 h2 (by omega)).mono ?_
      rintro e2 W2 ⟨rfl, hb2⟩
      have hP2 := hPd.below hb2 (heap_lt hPd)
      have hbw2 := hbd.trans (hb2.mono hbd.size)
      have hbr2 := hbdr.trans (hb2.mono hbdr.size)
      generalize hnx : nextP (i : Int) q p = nx at HST
      clear hnx h1 h2 hb2 hPd hbd hbdr
      by_cases hz : nx = 0
      · subst hz
        have hP3 : W2.heap[w.heap.size]? = some (.cells csl 24 (0, 0)) := hP2
        have hcel2 : ∀ (j : Nat) (v : Value), cs[j]? = some v → W2.cell? ((ad.add (i * 9)).add j) = some v := fun j v hv => (hbr2.cell (by rw [block_of_add, block_of_add]; exact Nat.lt_of_lt_of_le (hS _ hSb) hbi.size)).trans (hcells j v hv)
        go_wp2_with (first
          | (with_reducible refine wpList_load_arr rfl 24 (.tmp 25) rfl (ad.add (i * 9)) rfl cs _ hcel2 Tryz.underlying24 rfl hi24 ?_)
          | (with_reducible refine wpList_store_row rfl 24 (.tmp 4) (.tmp 26) rfl w.heap.size cs rfl rfl 24 _ hP3 hi24 hsz2 hone ?_))
        go_roundw
        case rel =>
          refine ⟨i + 1, cs, by go_num, hlt, setRow_heap W2 w.heap.size csl cs 24 (0, 0) hP3, ?_, ?_, below_setRow hbw2 (Nat.le_refl _) _, ?_⟩
          · rw [HST.out.2]
            refine HX.out.2.2.1.keepS (fun g hg => ?_) ?_
            · have hgw := hS g hg
              rw [setRow_other _ _ _ _ (by omega)]
              exact hbr2.block g (Nat.lt_of_lt_of_le hgw hbi.size)
            · rw [size_setRow]; exact hbr2.size
          · rw [HST.out.2]; exact HX.out.2.2.2
          · have := HST.out.1
            rw [if_neg (by simp)] at this
            exact this.symm
        case measure =>
          show ps.length - kOf (.int .i64 ((i + 1 : Nat) : Int)) < ps.length - kOf (.int .i64 (i : Int))
          simp only [kOf, Int.toNat_natCast]
          omega
      · have hz2 : (nx != 0) = true := by simpa using hz
        go_wp2_with fail
        go_ret2
        refine ⟨⟨i, ?_⟩, hbw2⟩
        rw [HST.out.1, if_pos hz]
        rfl
    · have t0 : ¬ (i : Int) < (ps.length : Int) := by omega
      rw [List.drop_of_length_le (by omega)] at hch
      go_wp2_with fail
      go_ret2
      refine ⟨⟨-1, ?_⟩, hbi⟩
      rw [← hch]
      rfl
end Go.Proofs.YtlgaeeedkihfpaaGreatDoor.Uf

/-
  ser.small.
-/
namespace Go.Proofs.YtlgaeeedkihfpaaGreatDoor.Uf
open Go.RowKit
open Tz (B smallB digitB smallS)

def okS (first : Bool) (o : B) (c : UInt8) : Bool := smallB c || (!first && (digitB c || o.contains c))
def smG (o : B) : Bool → B → Bool
  | _, [] => true
  | f, c :: s => okS f o c && smG o false s
theorem smG_cons (o : B) (f : Bool) (c : UInt8) (s : B) : smG o f (c :: s) = (okS f o c && smG o false s) := rfl
theorem smG_all (o : B) : ∀ s : B, smG o false s = s.all fun c => smallB c || digitB c || o.contains c
  | [] => rfl
  | c :: s => by unfold smG okS; rw [smG_all o s]; simp [Bool.or_assoc]
theorem smallS_eq (s o : B) : smallS s o = (smG o true s && s != []) := by
  cases s with
  | nil => rfl
  | cons c s =>
    unfold smallS smG okS
    rw [smG_all]
    simp
theorem okS_x {c : UInt8} {x : Nat} {f : Bool} {o : B} (h : x = c.toNat) : okS f o c = ((decide (97 ≤ x) && decide (x ≤ 122)) || (!f && (decide (48 ≤ x) && decide (x ≤ 57) || o.contains c))) := by
  unfold okS smallB digitB
  rw [h]
theorem ix_has {o : B} {c : UInt8} : (0 : Int) ≤ ixB o c ↔ o.contains c = true := by
  unfold ixB
  cases hf : o.findIdx? (· == c) with
  | none =>
    rw [List.findIdx?_eq_none_iff] at hf
    simp only [List.contains_iff_mem]
    constructor
    · intro h; exact absurd h (by decide)
    · intro h; have := hf c h; simp at this
  | some i =>
    obtain ⟨hlt, he, _⟩ := List.findIdx?_eq_some_iff_getElem.1 hf
    have hm : o[i] ∈ o := List.getElem_mem hlt
    rw [eq_of_beq he] at hm
    simp only [List.contains_iff_mem]
    exact ⟨fun _ => hm, fun _ => by omega⟩

set_option maxRecDepth 100000 in
set_option maxHeartbeats 8000000 in
theorem small_u {w : World} (s o : B) (hs : s.length ≤ 600000000) : Calls Tryz.prog 102 #[.string (bs s), .string (bs o)] w fun e w' => e = .returned (.bool (smallS s o)) ∧ Below w.heap.size w w' := by
  go_enter Tryz.func102, Tryz.ntmps102
  go_wp2_with fail
  go_loopw [9] (fun vi wr => ∃ k : Nat, vi = .int .i64 k ∧ k ≤ s.length ∧ Below w.heap.size w wr ∧ Hid (smG o (k == 0) (s.drop k) = smG o true s)) (fun vi _ => s.length - kOf vi)
  case atStart => exact ⟨0, rfl, Nat.zero_le _, Below.refl _ _, Lib.hid rfl⟩
  case round =>
    obtain ⟨k, rfl, hk, hw, Hk⟩ := hrel
    by_cases hlt : k < s.length
    · have t0 : (k : Int) < ((bs s).size : Int) := by rw [bs_size]; omega
      have t1 : k < (bs s).size := by rw [bs_size]; omega
      obtain ⟨c, hc⟩ : ∃ c, c = s[k] := ⟨_, rfl⟩
      have hdc : s.drop k = c :: s.drop (k + 1) := hc ▸ List.drop_eq_getElem_cons hlt
      have hb0 : ((bs s)[k]'t1).toNat = c.toNat := by rw [hc]; rfl
      have hx256 : c.toNat < 256 := c.toNat_lt
      obtain ⟨x, hx⟩ : ∃ x, x = c.toNat := ⟨_, rfl⟩
      rw [← hx] at hb0 hx256
      have Hx := Lib.hid hx
      have Hdc := Lib.hid hdc
      have hi1 : IntKind.i64.wrap ((k : Int) + 1) = ((k + 1 : Nat) : Int) := by rw [IntKind.wrap_i64]; omega
      clear hx hdc hc
      by_cases a1 : (97 : Int) ≤ (x : Int)
      · by_cases a2 : (x : Int) ≤ 122
        · skip
          have Hst := Lib.hid (show smG o false (s.drop (k + 1)) = smG o true s by rw [← Hk.out, Hdc.out, smG_cons, show okS (k == 0) o c = true by rw [okS_x Hx.out]; simp; omega]; simp)
          go_wp2_with fail
          go_roundw
          case rel => exact ⟨k + 1, rfl, hlt, hw, Hst⟩
          case measure =>
            show s.length - kOf (.int .i64 ((k + 1 : Nat) : Int)) < s.length - kOf (.int .i64 (k : Int))
            simp only [kOf, Int.toNat_natCast]
            omega
        · have b1 : (48 : Int) ≤ (x : Int) := by omega
          have b2 : ¬ ((x : Int) ≤ 57) := by omega
          by_cases hk0 : 0 < k
          · have t2 : (0 : Int) < (k : Int) := by omega
            go_wp2_with fail
            refine (index_byte o x hx256).mono ?_
            rintro e1 w1 ⟨rfl, hw1⟩
            have hw : Below w.heap.size w w1 := by rw [hw1]; exact ⟨hw.os, hw.tape, hw.output, hw.size, hw.block⟩
            clear hw1
            have hof : UInt8.ofNat x = c := by rw [Hx.out]; simp
            rw [hof]
            by_cases hi : (0 : Int) ≤ ixB o c
            · have hoc := Lib.hid (show o.contains c = true from ix_has.1 hi)
              generalize ixB o c = I at hi ⊢
              have Hst := Lib.hid (show smG o false (s.drop (k + 1)) = smG o true s by rw [← Hk.out, Hdc.out, smG_cons, show okS (k == 0) o c = true by rw [k0 hk0, okS_x Hx.out, hoc.out]; simp]; simp)
              go_wp2_with fail
              go_roundw
              case rel => exact ⟨k + 1, rfl, hlt, hw, Hst⟩
              case measure =>
                show s.length - kOf (.int .i64 ((k + 1 : Nat) : Int)) < s.length - kOf (.int .i64 (k : Int))
                simp only [kOf, Int.toNat_natCast]
                omega
            · have hoc := Lib.hid (show o.contains c = false from by rw [← Bool.not_eq_true]; exact fun h => hi (ix_has.2 h))
              generalize ixB o c = I at hi ⊢
              have Hst := Lib.hid (show smallS s o = false by rw [smallS_eq, ← Hk.out, Hdc.out, smG_cons, show okS (k == 0) o c = false by rw [k0 hk0, okS_x Hx.out, hoc.out]; simp; omega]; simp)
              go_wp2_with fail
              go_ret
              exact ⟨by rw [Hst.out]; rfl, hw⟩
          · have t2 : ¬ (0 : Int) < (k : Int) := by omega
            have Hst := Lib.hid (show smallS s o = false by rw [smallS_eq, ← Hk.out, Hdc.out, smG_cons, show okS (k == 0) o c = false by rw [show k = 0 by omega, okS_x Hx.out]; simp; omega]; simp)
            go_wp2_with fail
            go_ret
            exact ⟨by rw [Hst.out]; rfl, hw⟩
      · by_cases b1 : (48 : Int) ≤ (x : Int)
        · by_cases b2 : (x : Int) ≤ 57
          · skip
            by_cases hk0 : 0 < k
            · have t2 : (0 : Int) < (k : Int) := by omega
              have Hst := Lib.hid (show smG o false (s.drop (k + 1)) = smG o true s by rw [← Hk.out, Hdc.out, smG_cons, show okS (k == 0) o c = true by rw [k0 hk0, okS_x Hx.out]; simp; omega]; simp)
              go_wp2_with fail
              go_roundw
              case rel => exact ⟨k + 1, rfl, hlt, hw, Hst⟩
              case measure =>
                show s.length - kOf (.int .i64 ((k + 1 : Nat) : Int)) < s.length - kOf (.int .i64 (k : Int))
                simp only [kOf, Int.toNat_natCast]
                omega
            · have t2 : ¬ (0 : Int) < (k : Int) := by omega
              have Hst := Lib.hid (show smallS s o = false by rw [smallS_eq, ← Hk.out, Hdc.out, smG_cons, show okS (k == 0) o c = false by rw [show k = 0 by omega, okS_x Hx.out]; simp; omega]; simp)
              go_wp2_with fail
              go_ret
              exact ⟨by rw [Hst.out]; rfl, hw⟩
          · skip
            by_cases hk0 : 0 < k
            · have t2 : (0 : Int) < (k : Int) := by omega
              go_wp2_with fail
              refine (index_byte o x hx256).mono ?_
              rintro e1 w1 ⟨rfl, hw1⟩
              have hw : Below w.heap.size w w1 := by rw [hw1]; exact ⟨hw.os, hw.tape, hw.output, hw.size, hw.block⟩
              clear hw1
              have hof : UInt8.ofNat x = c := by rw [Hx.out]; simp
              rw [hof]
              by_cases hi : (0 : Int) ≤ ixB o c
              · have hoc := Lib.hid (show o.contains c = true from ix_has.1 hi)
                generalize ixB o c = I at hi ⊢
                have Hst := Lib.hid (show smG o false (s.drop (k + 1)) = smG o true s by rw [← Hk.out, Hdc.out, smG_cons, show okS (k == 0) o c = true by rw [k0 hk0, okS_x Hx.out, hoc.out]; simp]; simp)
                go_wp2_with fail
                go_roundw
                case rel => exact ⟨k + 1, rfl, hlt, hw, Hst⟩
                case measure =>
                  show s.length - kOf (.int .i64 ((k + 1 : Nat) : Int)) < s.length - kOf (.int .i64 (k : Int))
                  simp only [kOf, Int.toNat_natCast]
                  omega
              · have hoc := Lib.hid (show o.contains c = false from by rw [← Bool.not_eq_true]; exact fun h => hi (ix_has.2 h))
                generalize ixB o c = I at hi ⊢
                have Hst := Lib.hid (show smallS s o = false by rw [smallS_eq, ← Hk.out, Hdc.out, smG_cons, show okS (k == 0) o c = false by rw [k0 hk0, okS_x Hx.out, hoc.out]; simp; omega]; simp)
                go_wp2_with fail
                go_ret
                exact ⟨by rw [Hst.out]; rfl, hw⟩
            · have t2 : ¬ (0 : Int) < (k : Int) := by omega
              have Hst := Lib.hid (show smallS s o = false by rw [smallS_eq, ← Hk.out, Hdc.out, smG_cons, show okS (k == 0) o c = false by rw [show k = 0 by omega, okS_x Hx.out]; simp; omega]; simp)
              go_wp2_with fail
              go_ret
              exact ⟨by rw [Hst.out]; rfl, hw⟩
        · skip
          by_cases hk0 : 0 < k
          · have t2 : (0 : Int) < (k : Int) := by omega
            go_wp2_with fail
            refine (index_byte o x hx256).mono ?_
            rintro e1 w1 ⟨rfl, hw1⟩
            have hw : Below w.heap.size w w1 := by rw [hw1]; exact ⟨hw.os, hw.tape, hw.output, hw.size, hw.block⟩
            clear hw1
            have hof : UInt8.ofNat x = c := by rw [Hx.out]; simp
            rw [hof]
            by_cases hi : (0 : Int) ≤ ixB o c
            · have hoc := Lib.hid (show o.contains c = true from ix_has.1 hi)
              generalize ixB o c = I at hi ⊢
              have Hst := Lib.hid (show smG o false (s.drop (k + 1)) = smG o true s by rw [← Hk.out, Hdc.out, smG_cons, show okS (k == 0) o c = true by rw [k0 hk0, okS_x Hx.out, hoc.out]; simp]; simp)
              go_wp2_with fail
              go_roundw
              case rel => exact ⟨k + 1, rfl, hlt, hw, Hst⟩
              case measure =>
                show s.length - kOf (.int .i64 ((k + 1 : Nat) : Int)) < s.length - kOf (.int .i64 (k : Int))
                simp only [kOf, Int.toNat_natCast]
                omega
            · have hoc := Lib.hid (show o.contains c = false from by rw [← Bool.not_eq_true]; exact fun h => hi (ix_has.2 h))
              generalize ixB o c = I at hi ⊢
              have Hst := Lib.hid (show smallS s o = false by rw [smallS_eq, ← Hk.out, Hdc.out, smG_cons, show okS (k == 0) o c = false by rw [k0 hk0, okS_x Hx.out, hoc.out]; simp; omega]; simp)
              go_wp2_with fail
              go_ret
              exact ⟨by rw [Hst.out]; rfl, hw⟩
          · have t2 : ¬ (0 : Int) < (k : Int) := by omega
            have Hst := Lib.hid (show smallS s o = false by rw [smallS_eq, ← Hk.out, Hdc.out, smG_cons, show okS (k == 0) o c = false by rw [show k = 0 by omega, okS_x Hx.out]; simp; omega]; simp)
            go_wp2_with fail
            go_ret
            exact ⟨by rw [Hst.out]; rfl, hw⟩
    · have t0 : ¬ ((k : Int) < ((bs s).size : Int)) := by rw [bs_size]; omega
      have Hst := Lib.hid (show smG o true s = true by rw [← Hk.out, List.drop_of_length_le (by omega)]; rfl)
      by_cases hs0 : s = []
      · subst hs0
        have e0 : (([] : B) == ([] : B)) = true := rfl
        go_wp2_with fail
        go_ret
        exact ⟨rfl, hw⟩
      · have e0 : (s == ([] : B)) = false := by simpa using hs0
        have hr := Lib.hid (show smallS s o = true by rw [smallS_eq, Hst.out]; simpa using hs0)
        go_wp2_with fail
        go_ret
        exact ⟨by rw [hr.out]; rfl, hw⟩
end Go.Proofs.YtlgaeeedkihfpaaGreatDoor.Uf
