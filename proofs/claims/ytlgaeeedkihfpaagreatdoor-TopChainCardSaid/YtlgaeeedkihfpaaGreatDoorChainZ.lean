/-
  TopChain: for every list of policies and every page the law returns true: along a chain of policies, what is clean by each, cleaned by the next, is safe by all ahead. The tables are Go's own, tied to the program's text.
-/
import Derived.Test.YtlgaeeedkihfpaaGreatDoorCards
import Derived.Test.YtlgaeeedkihfpaaGreatDoorTie
import Derived.WalkKit
import Derived.ProofKit
import Derived.OpenShut
import Derived.SliceStrings
import Derived.ShutString
import Derived.ChangeOld
import Derived.ChangeArms
import Derived.Below
import Derived.Deep.DeepHandedRow
import Derived.Deep.Slices
import Derived.Lib.LaidU8
import Derived.Test.YtlgaeeedkihfpaaGreatDoorC39
namespace Go.Proofs.YtlgaeeedkihfpaaGreatDoor.topChain
open Go.ChangeShapes Go.WideShapes Go.ChangeAt Go.RowKit
open Go.ChangeMaps (open_string shut_string)
open Uf
set_option linter.unusedVariables false

theorem own : ownKnob Tryz.prog.godebug = none := by kernel_rfl
theorem laidOut : laidOutB Tryz.prog = true := by kernel_rfl
set_option maxRecDepth 100000 in
/-- bytealg.MaxLen holds some number. -/
theorem max_cell {W : World} (h : W.ShapedOpen Tryz.prog) : ∃ m, W.cell? ⟨0, 0, none⟩ = some (.int .i64 m) := by
  obtain ⟨h1, _⟩ := h
  obtain ⟨cs, hc, hs, hr⟩ := h1 0 #[.int .i64 0] 3 (of_decide_eq_true (by kernel_rfl)) (by kernel_rfl)
  obtain ⟨ts, ht, _, hk⟩ := hr (by kernel_rfl)
  have ht2 : Tryz.prog.cellTypes Tryz.prog.depth 3 = some [3] := by kernel_rfl
  rw [ht2] at ht
  injection ht with ht
  subst ht
  have hs1 : cs.size = 1 := hs
  obtain ⟨u, hu, hok⟩ := hk 0 cs[0] (by simp)
  simp at hu
  subst hu
  have hcell : W.cell? ⟨0, 0, none⟩ = some cs[0] := by
    rw [cell_of_row W 0 0 cs 3 (0, 0) hc]
    simp
  unfold Cell.ok at hok
  rw [Tryz.underlying3] at hok
  cases hv : cs[0] with
  | int k n =>
    rw [hv] at hok
    obtain ⟨rfl, _⟩ := hok
    exact ⟨n, by rw [hcell, hv]⟩
  | _ => rw [hv] at hok; exact hok.elim

theorem spot_none {W : World} {a : Addr} {u : Value} (h : W.cell? a = some u) : a = ⟨a.block, a.off, none⟩ := by
  obtain ⟨g, o, s⟩ := a
  cases s with
  | none => rfl
  | some k =>
    unfold World.cell? at h
    split at h
    · simp at h
    · cases h
/-- A list of texts that came in. -/
theorem strs_of {H : Type} {enc : TypeId × Value → H} {W : World} {fuel : Nat} {v : Value} {x : DataW H × List MemPlace} (h : DataW.trod enc Tryz.prog W 0 (fun _ => true) true fuel 22 [v] = some x) :
    ∃ (A : Option Addr) (l : List Tz.B) (c : Nat), v = .slice A l.length c ∧ StrsAt W (fun g => g < W.heap.size) A l.length l := by
  rcases open_strings Tryz.underlying22 Tryz.underlying9 (by kernel_rfl) h with ⟨hcs, _⟩ | ⟨a, len, cap, zs, hcs, _, hl, hm, hz, _, hcell, _⟩
  · injection hcs with hv _
    exact ⟨none, [], 0, hv, strs_nil⟩
  · injection hcs with hv _
    have hz : zs.length = cap := by simpa using hz
    have hlen : ((zs.take len).map fun s => s.data.toList).length = len := by rw [List.length_map, List.length_take]; omega
    refine ⟨some a, (zs.take len).map fun s => s.data.toList, cap, by rw [hlen]; exact hv, rfl, fun hp => ?_⟩
    rw [hlen] at hp
    have c0 := hcell 0 (by omega)
    have e0 : a.add 0 = a := by unfold Addr.add; simp
    rw [e0] at c0
    have ea := spot_none c0
    refine ⟨a.block, a.off, by rw [← ea], World.block_lt_of_cell? W _ c0, fun j hj => ?_⟩
    rw [hlen] at hj
    have cj := hcell j (by omega)
    have ej : a.add j = ⟨a.block, a.off + j, none⟩ := by
      rw [ea]
      exact add_mid _ _ _
    rw [ej] at cj
    rw [cj]
    congr 1
    rw [List.getElem_map, List.getElem_take]
    simp [List.getD, List.getElem?_eq_getElem (show j < zs.length by omega)]
    rfl
set_option maxRecDepth 100000 in
/-- A policy that came in. -/
theorem pol_of {H : Type} {enc : TypeId × Value → H} {W : World} {fuel : Nat} {cells : List Value} {x : DataW H × List MemPlace} (hlen : cells.length = 9) (hf : DataW.trod enc Tryz.prog W 0 (fun _ => true) true fuel 24 cells = some x) :
    ∃ p, PolV W (fun g => g < W.heap.size) cells.toArray p := by
  obtain ⟨v0, v1, v2, v3, v4, v5, v6, v7, v8, rfl⟩ : ∃ v0 v1 v2 v3 v4 v5 v6 v7 v8 : Value, cells = [v0, v1, v2, v3, v4, v5, v6, v7, v8] := by
    match cells, hlen with
    | [v0, v1, v2, v3, v4, v5, v6, v7, v8], _ => exact ⟨_, _, _, _, _, _, _, _, _, rfl⟩
  obtain ⟨xs, n, _, _, _, hxs, hi⟩ := DataW.trod_struct Tryz.underlying24 hf
  have hx9 : xs.length = 9 := hxs
  have hc3 : Tryz.prog.cellsOf 3 = 1 := by kernel_rfl
  have hc22 : Tryz.prog.cellsOf 22 = 1 := by kernel_rfl
  have i0 : DataW.trod enc Tryz.prog W 0 (fun _ => true) true n 3 [v0] = some xs[0] := by
    have h := hi 0 { name := "Epoch", type := 3, offset := 0, embedded := false, tag := "", pkgPath := "", byteOffset := 0 } rfl
    rw [List.getElem?_eq_getElem (by omega)] at h
    have e : Tryz.prog.cellsOf 3 = 1 := hc3
    simp only [e] at h
    exact h
  have i1 : DataW.trod enc Tryz.prog W 0 (fun _ => true) true n 22 [v1] = some xs[1] := by
    have h := hi 1 { name := "Elems", type := 22, offset := 1, embedded := false, tag := "", pkgPath := "", byteOffset := 8 } rfl
    rw [List.getElem?_eq_getElem (by omega)] at h
    have e : Tryz.prog.cellsOf 22 = 1 := hc22
    simp only [e] at h
    exact h
  have i2 : DataW.trod enc Tryz.prog W 0 (fun _ => true) true n 22 [v2] = some xs[2] := by
    have h := hi 2 { name := "Attrs", type := 22, offset := 2, embedded := false, tag := "", pkgPath := "", byteOffset := 32 } rfl
    rw [List.getElem?_eq_getElem (by omega)] at h
    have e : Tryz.prog.cellsOf 22 = 1 := hc22
    simp only [e] at h
    exact h
  have i3 : DataW.trod enc Tryz.prog W 0 (fun _ => true) true n 22 [v3] = some xs[3] := by
    have h := hi 3 { name := "Schemes", type := 22, offset := 3, embedded := false, tag := "", pkgPath := "", byteOffset := 56 } rfl
    rw [List.getElem?_eq_getElem (by omega)] at h
    have e : Tryz.prog.cellsOf 22 = 1 := hc22
    simp only [e] at h
    exact h
  have i4 : DataW.trod enc Tryz.prog W 0 (fun _ => true) true n 22 [v4] = some xs[4] := by
    have h := hi 4 { name := "Classes", type := 22, offset := 4, embedded := false, tag := "", pkgPath := "", byteOffset := 80 } rfl
    rw [List.getElem?_eq_getElem (by omega)] at h
    have e : Tryz.prog.cellsOf 22 = 1 := hc22
    simp only [e] at h
    exact h
  have i5 : DataW.trod enc Tryz.prog W 0 (fun _ => true) true n 22 [v5] = some xs[5] := by
    have h := hi 5 { name := "Props", type := 22, offset := 5, embedded := false, tag := "", pkgPath := "", byteOffset := 104 } rfl
    rw [List.getElem?_eq_getElem (by omega)] at h
    have e : Tryz.prog.cellsOf 22 = 1 := hc22
    simp only [e] at h
    exact h
  have i6 : DataW.trod enc Tryz.prog W 0 (fun _ => true) true n 3 [v6] = some xs[6] := by
    have h := hi 6 { name := "Depth", type := 3, offset := 6, embedded := false, tag := "", pkgPath := "", byteOffset := 128 } rfl
    rw [List.getElem?_eq_getElem (by omega)] at h
    have e : Tryz.prog.cellsOf 3 = 1 := hc3
    simp only [e] at h
    exact h
  have i7 : DataW.trod enc Tryz.prog W 0 (fun _ => true) true n 3 [v7] = some xs[7] := by
    have h := hi 7 { name := "Nodes", type := 3, offset := 7, embedded := false, tag := "", pkgPath := "", byteOffset := 136 } rfl
    rw [List.getElem?_eq_getElem (by omega)] at h
    have e : Tryz.prog.cellsOf 3 = 1 := hc3
    simp only [e] at h
    exact h
  have i8 : DataW.trod enc Tryz.prog W 0 (fun _ => true) true n 3 [v8] = some xs[8] := by
    have h := hi 8 { name := "Bytes", type := 3, offset := 8, embedded := false, tag := "", pkgPath := "", byteOffset := 144 } rfl
    rw [List.getElem?_eq_getElem (by omega)] at h
    have e : Tryz.prog.cellsOf 3 = 1 := hc3
    simp only [e] at h
    exact h
  obtain ⟨x0, e0, _, _⟩ := DataW.trod_int Tryz.underlying3 i0
  obtain ⟨x6, e6, _, _⟩ := DataW.trod_int Tryz.underlying3 i6
  obtain ⟨x7, e7, _, _⟩ := DataW.trod_int Tryz.underlying3 i7
  obtain ⟨x8, e8, _, _⟩ := DataW.trod_int Tryz.underlying3 i8
  obtain ⟨A1, l1, c1, rfl, s1⟩ := strs_of i1
  obtain ⟨A2, l2, c2, rfl, s2⟩ := strs_of i2
  obtain ⟨A3, l3, c3, rfl, s3⟩ := strs_of i3
  obtain ⟨A4, l4, c4, rfl, s4⟩ := strs_of i4
  obtain ⟨A5, l5, c5, rfl, s5⟩ := strs_of i5
  injection e0 with e0
  injection e6 with e6
  injection e7 with e7
  injection e8 with e8
  subst e0 e6 e7 e8
  exact ⟨⟨x0, l1, l2, l3, l4, l5, x6, x7, x8⟩, A1, c1, A2, c2, A3, c3, A4, c4, A5, c5, rfl, s1, s2, s3, s4, s5, fun _ h => h⟩

set_option maxRecDepth 100000 in
/-- A list of policies that came in. -/
theorem pols_of {H : Type} {enc : TypeId × Value → H} {W : World} {fuel : Nat} {A : Option Addr} {n c : Nat} {x : DataW H × List MemPlace} (h : DataW.trod enc Tryz.prog W 0 (fun _ => true) true fuel 33 [.slice A n c] = some x) :
    ∃ ps : List Tz.Pol, n = ps.length ∧ PolsV W (fun g => g < W.heap.size) A ps := by
  rcases Go.Deep.open_slice Tryz.underlying33 h with ⟨hcs, _⟩ | ⟨a, len, cap, m, nf, D, Pl, hcs, _, hl, hm, hmm, _, hi⟩
  · simp only [List.cons.injEq, Value.slice.injEq, and_true] at hcs
    obtain ⟨rfl, rfl, rfl⟩ := hcs
    exact ⟨[], rfl, fun _ h => h, fun i h => absurd h (by simp)⟩
  · simp only [List.cons.injEq, Value.slice.injEq, and_true] at hcs
    obtain ⟨rfl, rfl, rfl⟩ := hcs
    have hc24 : Tryz.prog.cellsOf 24 = 9 := by kernel_rfl
    have hmc : n ≤ m := by rw [hmm]; simpa using hl
    have hall : ∀ i, ∃ p : Tz.Pol, i < n → ∃ cs : Array Value, a.block < W.heap.size ∧ PolV W (fun g => g < W.heap.size) cs p ∧ ∀ (j : Nat) (u : Value), cs[j]? = some u → W.cell? ((a.add (i * 9)).add j) = some u := by
      intro i
      by_cases hin : i < n
      · obtain ⟨cs, h1, h2⟩ := hi i (by omega)
        rw [hc24] at h1
        obtain ⟨_, hlen, hcell⟩ := World.cells?_some h1
        obtain ⟨p, hp⟩ := pol_of hlen h2
        have hcl : ∀ (j : Nat) (u : Value), cs[j]? = some u → W.cell? ((a.add (i * 9)).add j) = some u := fun j u hu => by
          rw [hcell j (by have := (List.getElem?_eq_some_iff.1 hu).1; omega)]
          exact hu
        refine ⟨p, fun _ => ⟨cs.toArray, ?_, hp, fun j u hu => hcl j u (by simpa using hu)⟩⟩
        have h0 := hcl 0 cs[0] (List.getElem?_eq_getElem (by omega))
        have h3 := World.block_lt_of_cell? W _ h0
        rw [block_of_add, block_of_add] at h3
        exact h3
      · exact ⟨Z0, fun h => absurd h hin⟩
    obtain ⟨P, hP⟩ := Classical.axiomOfChoice hall
    refine ⟨(List.range n).map P, by simp, fun _ h => h, fun i hlt => ?_⟩
    have hin : i < n := by simpa using hlt
    obtain ⟨cs, h1, h2, h3⟩ := hP i hin
    refine ⟨a, cs, rfl, h1, ?_, h3⟩
    simpa using h2

set_option maxRecDepth 100000 in
theorem contract (H : Type) (enc : TypeId × Value → H) (W : World) (base : Nat) (args : Array Value) (ds gs : List (DataW H)) (before : List MemPlace)
    (hval : ∀ (j : Nat) t v, Tryz.f4.params[j]? = some t → args[j]? = some v → Value.okWide Tryz.prog W .any base t v)
    (hW : DataW.Whole enc Tryz.prog Tryz.f4.params.toList Rows.topChainSpec.vars false W args.toList ds gs before) (hsh : W.ShapedOpen Tryz.prog) :
    Calls Tryz.prog 4 args W fun e W' => ∃ v, e = .returned v ∧ Rows.topChainSpec.post enc Tryz.prog Tryz.f4 false true false false W args v W' := by
  have hW' := hW
  obtain ⟨p, q, hA0, hV, rfl, hfz, hnd⟩ := hW
  have hA : DataW.TrodAll enc Tryz.prog W 0 (fun _ => true) true Tryz.f4.params.toList args.toList ds p := hA0
  rw [Tryz.params4] at hA hval
  obtain ⟨v0, vs0, d0, ds0, p0, q0, hargs, rfl, rfl, h0, r0⟩ := trodAll_cons hA
  obtain ⟨v1, vs1, d1, ds1, p1, q1, rfl, rfl, rfl, h1, r1⟩ := trodAll_cons r0
  obtain ⟨rfl, rfl, rfl⟩ := trodAll_nil r1
  obtain rfl : args = #[v0, v1] := by cases args; simp_all
  obtain ⟨rfl, rfl⟩ := trodVars_none hV
  obtain ⟨a0, len0, cap0, rfl⟩ := okWide_slice Tryz.underlying33 (hval 0 33 v0 rfl rfl)
  obtain ⟨pols, rfl, hpol⟩ : ∃ ps : List Tz.Pol, len0 = ps.length ∧ PolsV W (fun g => g < W.heap.size) a0 ps := by
    obtain ⟨fuel, hf⟩ := h0
    exact pols_of (by simpa [Value.cells] using hf)
  have k0 := h0
  have lt0 : ∀ x ∈ p0, x.block < W.heap.size := by obtain ⟨m, hm⟩ := k0; exact DataW.trod_lt m _ _ _ hm
  obtain ⟨a1, len1, cap1, rfl⟩ := okWide_slice Tryz.underlying25 (hval 1 25 v1 rfl rfl)
  have k1 := h1
  have lt1 : ∀ x ∈ p1, x.block < W.heap.size := by obtain ⟨m, hm⟩ := k1; exact DataW.trod_lt m _ _ _ hm
  obtain ⟨z1, w1⟩ : ∃ zs, IsRow .u8 W a1 len1 cap1 zs := by
    obtain ⟨fuel, hf⟩ := h1
    rcases open_ints Tryz.underlying25 Tryz.underlying5 (by kernel_rfl) hf with ⟨hcs, _⟩ | ⟨x, l, c, zs, hcs, _, hl, hm, hz, _, hcell, hwz⟩
    · simp [Value.cells] at hcs
      obtain ⟨rfl, rfl, rfl⟩ := hcs
      exact ⟨[], .inl ⟨rfl, rfl, rfl, rfl⟩⟩
    · simp [Value.cells] at hcs
      obtain ⟨rfl, rfl, rfl⟩ := hcs
      exact ⟨zs, .inr ⟨_, rfl, hl, hm, by simpa using hz, hcell, hwz⟩⟩
  obtain ⟨xs1, rfl, came1⟩ := IsRow.came w1
  clear hA0
  obtain ⟨m, hmax⟩ := max_cell hsh
  refine (chain_u (c := cap0) (cc := cap1) (pg := (strOfNums xs1).data.toList) hpol hmax came1.reads (Nat.le_refl _) rfl (by simp [strOfNums])).mono fun e W' ⟨he, bel⟩ => ?_
  subst he
  exact ⟨_, rfl, _, _, _, [], _, [], hW', trodAll_mk1 (shut_bool Tryz.underlying4 _), (trodAll_cons_mk (Below.trod laidOut (by kernel_rfl) (of_decide_eq_true (by kernel_rfl)) k0 bel lt0) (trodAll_cons_mk (Below.trod laidOut (by kernel_rfl) (of_decide_eq_true (by kernel_rfl)) k1 bel lt1) trodAll_mk0)), rfl, bel.frame _, fun h => by cases h⟩

/-- A world for the witness: the tables hold what their initialisers lay. -/
def asCells (cs : List Value) : Obj → Obj
  | .cells _ t frozen => .cells cs.toArray t frozen
  | o => o
def accCells : List Value := [128, 191, 160, 191, 128, 159, 144, 191, 128, 143, 0, 0, 0, 0, 0, 0, 0, 0, 0, 0, 0, 0, 0, 0, 0, 0, 0, 0, 0, 0, 0, 0].map (Value.int .u8)
noncomputable def laidWorld (os : Os) : World :=
  { World.holding Tryz.prog os ⟨#[], #[], []⟩ with heap := ((World.holding Tryz.prog os ⟨#[], #[], []⟩).heap.modify 1 (asCells (Lib.firstTab.map (Value.int .u8)))).modify 2 (asCells accCells) }
theorem laid_met (os : Os) : laidMet Tryz.prog Rows.topChainRow.laid ((laidWorld os).forCall (fun _ _ => 0) ⟨#[], #[.slice none 0 0, .slice none 0 0], []⟩).memory :=
  laidMet_of_run' 8 (by kernel_rfl) (by kernel_rfl)
theorem reads (os : Os) {H : Type} (enc : TypeId × Value → H) : ∃ places, DataW.whole enc Tryz.prog ((laidWorld os).forCall (fun _ _ => 0) ⟨#[], #[.slice none 0 0, .slice none 0 0], []⟩).memory Tryz.f4.params.toList Rows.topChainSpec.vars false (#[.slice none 0 0, .slice none 0 0] : Array Value).toList 8 = some ([.nil, .nil], [], places) :=
  ⟨[], by kernel_rfl⟩

set_option maxRecDepth 100000 in
theorem lifted (os : Os) (started : os.Started) (H : Type) (enc : TypeId × Value → H) (F : Stop.Interp) :
    ReturnsInHanded {} Tryz.checked os 4 .any ((OpenSpec.ofChange Rows.topChainSpec).preRow enc Tryz.prog Tryz.f4 Rows.topChainRow.domain false Rows.topChainRow.laid) (((OpenSpec.ofChange Rows.topChainSpec).at F).post enc Tryz.prog Tryz.f4 false true false false) := by
  obtain ⟨places, hx⟩ := reads os enc
  refine returnsInHanded_of_row (C := Tryz.checked) (s := OpenSpec.ofChange Rows.topChainSpec) own started (by kernel_rfl) Tryz.func4
    (witness_row_at (enc := enc) (C := Tryz.checked) false (laidWorld os) #[.slice none 0 0, .slice none 0 0] rfl (by kernel_rfl) (by kernel_rfl) (by kernel_rfl)
      (OpenSpec.preRow_of_cond 8 hx (by kernel_rfl) (fun k hk => by cases hk) (by kernel_rfl) (laid_met os))) ?_
  intro W base args ds gs before hval hW _ _ _ _ hsh _
  exact contract H enc W base args ds gs before hval hW hsh

theorem said : Rows.TopChainSaid :=
  OpenClaim.holds_of_cond 4 Tryz.f4 rfl rfl rfl rfl rfl rfl rfl ⟨rfl, rfl, rfl, rfl, rfl⟩ rfl rfl rfl rfl rfl (by kernel_rfl) Tryz.func4 (by kernel_rfl)
    (of_decide_eq_true (by kernel_rfl)) (by unfold Func.isWrapper; first | (rw [if_pos (by decide +kernel)]; kernel_rfl) | (rw [if_neg (by decide +kernel)]; exact ⟨rfl, rfl⟩))
    (fun os started H enc _ F => by rw [OpenClaim.pre_eq_preRow]; exact lifted os started H enc F)

theorem plain (f : FuncId) (fn : Func) (hf : Tryz.pinned.checked.prog.funcNamed "verso/versotop.TopChain" = some f) (hfn : Tryz.pinned.checked.prog.funcs[f]? = some fn) :
    false = Tryz.pinned.checked.prog.looks [] ∧ ∀ (j : Nat) t, fn.params[j]? = some t → Tryz.pinned.checked.prog.wantsStandIn t = false := by
  obtain rfl : f = 4 := Option.some.inj ((show Tryz.prog.funcNamed "verso/versotop.TopChain" = some 4 by kernel_rfl).symm.trans hf) |>.symm
  obtain rfl : fn = Tryz.f4 := (Option.some.inj (Tryz.func4.symm.trans hfn)).symm
  refine ⟨by kernel_rfl, fun j t ht => ?_⟩
  rw [Tryz.params4] at ht
  have hm := Array.mem_of_getElem? ht
  simp only [List.mem_toArray, List.mem_cons, List.not_mem_nil, or_false] at hm
  rcases hm with rfl | rfl
  · exact (show Tryz.prog.wantsStandIn 33 = false by kernel_rfl)
  · exact (show Tryz.prog.wantsStandIn 25 = false by kernel_rfl)

theorem proved : Rows.TopChainCardSaid :=
  Claim7.holds_tied_plain_at .later [] _ _ _ _ said (fun _ h => by cases h) (by kernel_rfl) (fun _ h => by cases h) topChain_row_tie rfl ⟨rfl, rfl⟩ (by kernel_rfl) rfl plain (by kernel_rfl)
#print axioms proved
end Go.Proofs.YtlgaeeedkihfpaaGreatDoor.topChain
