/-
  Texts of the proof of Chain, one behind the other: StyE, StyF, StyG.
-/
import Derived.Test.YtlgaeeedkihfpaaGreatDoorC26
/-
  style.Filter's closures: the second pass.
-/
namespace Go.Proofs.YtlgaeeedkihfpaaGreatDoor.Uf
open Go.RowKit Go.WideMaps Go.Maps
open Tz (B styleV pairsL)

theorem info9 : (Tryz.prog.info? 9).map (fun i => (i.zero, i.size, i.bytes)) = some (some (.string ⟨#[]⟩), 1, 16) := by kernel_rfl
/-- The list that Filter makes. -/
structure OutF (w : World) (base B8 : Nat) (v : Value) (outs : List B) : Prop where
  b8 : Blk w B8 22 #[v]
  own : w.ownsRow base 9 1 v outs.length (strCells outs)
def lineOf (a b : B) : B := a ++ 58 :: 32 :: b
def Fil3R (w w' : World) (S : Nat → Prop) (base B3 B5 B6 B7 B8 M : Nat) (A : Option Addr) (c : Nat) (props : List B) (n k : Nat) (g : B → Nat) (v : Value) (outs : List B) (a b : B) : Bool → Prop
  | true => ∃ v', (v'.ownBlock = v.ownBlock ∨ ∀ j, v'.ownBlock = some j → w.heap.size ≤ j) ∧ FilF w' S B3 B5 B6 B7 M A c props (n + 1) k g ∧ OutF w' base B8 v' (if g a = n + 1 then outs ++ [lineOf a b] else outs)
  | false => ∃ v', (v'.ownBlock = v.ownBlock ∨ ∀ j, v'.ownBlock = some j → w.heap.size ≤ j) ∧ FilF w' S B3 B5 B6 B7 M A c props n k g ∧ OutF w' base B8 v' outs
section
variable {w w' : World} {S : Nat → Prop} {base B3 B5 B6 B7 B8 M : Nat} {A : Option Addr} {c : Nat} {props : List B} {n k : Nat} {g : B → Nat} {v : Value} {outs : List B}

set_option maxRecDepth 100000 in
set_option maxHeartbeats 4000000 in
theorem fil3_u (a b : B) (h : FilF w S B3 B5 B6 B7 M A c props n k g) (ho : OutF w base B8 v outs) (hS : ∀ j, S j → j < B6 ∧ j < M ∧ j < base ∧ j < B8) (hl : props.length ≤ 60000000) (hab : a.length + b.length ≤ 60000000) (hn : n ≤ 120000000) (hol : outs.length ≤ 120000000) (hbase : base ≤ w.heap.size) (h38 : B3 ≠ B8) :
    Calls Tryz.prog 107 #[.string (bs a), .string (bs b), .pointer (some ⟨B7, 0, none⟩), .pointer (some ⟨B6, 0, none⟩), .pointer (some ⟨B5, 0, none⟩), .pointer (some ⟨B8, 0, none⟩)] w fun e w' => e = .returned (.tuple #[]) ∧ Only (fun j => j = B6 ∨ j = B8 ∨ v.ownBlock = some j) w w' ∧
      Fil3R w w' S base B3 B5 B6 B7 B8 M A c props n k g v outs a b (okP props (a, b)) := by
  have c7 : w.cell? ⟨B7, 0, none⟩ = some (.func (.func 103) #[] #[.pointer (some ⟨B3, 0, none⟩)]) := Blk.cell h.b7 0
  have hEf : ∀ (args : Array Value) (w : World), (callFunc 103 args).run Tryz.prog w = .ok (.enter 103 args) w := ent103
  go_enter Tryz.func107, Tryz.ntmps107
  go_wp2_with fail
  refine (fil1_u a b h.b3 h.st hl (by omega)).mono ?_
  generalize hz : okP props (a, b) = z
  have HZ := Lib.hid hz
  clear hz
  rintro e1 w1 ⟨rfl, hw1⟩
  rw [hw1]
  clear hw1 w1
  cases z with
  | false =>
    go_wp2_with fail
    refine bodyPost_ret (results_none rfl _ _ _) rfl ?_
    refine ⟨rfl, Only.refl _ _, ?_⟩
    rw [HZ.out]
    exact ⟨v, .inl rfl, h, ho⟩
  | true =>
    have c6 : w.cell? ⟨B6, 0, none⟩ = some (.int .i64 (n : Nat)) := Blk.cell h.b6 0
    have f6 := Blk.frozen h.b6 0
    have hn1 : IntKind.i64.wrap ((n : Int) + 1) = (n : Int) + 1 := by rw [IntKind.wrap_i64]; omega
    have hcast : ((n + 1 : Nat) : Int) = (n : Int) + 1 := by omega
    have n6M : B6 ≠ M := cnt_ne h.cn h.b6
    have n65 : B6 ≠ B5 := type_ne h.b6 h.b5 (by decide)
    have n63 : B6 ≠ B3 := type_ne h.b6 h.b3 (by decide)
    have n67 : B6 ≠ B7 := type_ne h.b6 h.b7 (by decide)
    have n68 : B6 ≠ B8 := type_ne h.b6 ho.b8 (by decide)
    have keep : ∀ j, j ≠ B6 → (w.setCell ⟨B6, 0, none⟩ (.int .i64 ((n : Int) + 1))).heap[j]? = w.heap[j]? := fun j hj => Below.heap_setCell w ⟨B6, 0, none⟩ _ j hj
    have F1 : FilF (w.setCell ⟨B6, 0, none⟩ (.int .i64 ((n : Int) + 1))) S B3 B5 B6 B7 M A c props (n + 1) k g :=
      ⟨(keep _ (Ne.symm n63)).trans h.b3, h.st.keep (fun j hj => keep j (fun e => by have := (hS j hj).1; omega)), (keep _ (Ne.symm n67)).trans h.b7, (keep _ (Ne.symm n65)).trans h.b5, by rw [hcast]; exact Blk.set_ h.b6 0 _, cnt_kept h.cn (keep _ (Ne.symm n6M))⟩
    have hv6 : v.ownBlock ≠ some B6 := own_blk_ne ho.own h.b6 (by decide)
    have O1 : OutF (w.setCell ⟨B6, 0, none⟩ (.int .i64 ((n : Int) + 1))) base B8 v outs := ⟨(keep _ (Ne.symm n68)).trans ho.b8, ownsRow_setCell_other ho.own (a := ⟨B6, 0, none⟩) hv6 _⟩
    have Q1 : Only (fun j => j = B6 ∨ j = B8 ∨ v.ownBlock = some j) w (w.setCell ⟨B6, 0, none⟩ (.int .i64 ((n : Int) + 1))) := Only.setCell (Only.refl _ w) (p := ⟨B6, 0, none⟩) (fun _ => .inl rfl) _
    have hsz1 : w.heap.size ≤ (w.setCell ⟨B6, 0, none⟩ (.int .i64 ((n : Int) + 1))).heap.size := Q1.size
    have hlook := cnt_look (x := a) F1.cn (by omega)
    have d6 : (w.setCell ⟨B6, 0, none⟩ (.int .i64 ((n : Int) + 1))).cell? ⟨B6, 0, none⟩ = some (.int .i64 ((n : Int) + 1)) := by have := Blk.cell F1.b6 0; rw [hcast] at this; exact this
    have d5 : (w.setCell ⟨B6, 0, none⟩ (.int .i64 ((n : Int) + 1))).cell? ⟨B5, 0, none⟩ = some (.map (some M)) := Blk.cell F1.b5 0
    have d8 : (w.setCell ⟨B6, 0, none⟩ (.int .i64 ((n : Int) + 1))).cell? ⟨B8, 0, none⟩ = some v := Blk.cell O1.b8 0
    have ap1 : bs a ++ (⟨#[58, 32]⟩ : ByteArray) = bs (a ++ [58, 32]) := bs_append a [58, 32]
    have ap2 : bs (a ++ [58, 32]) ++ bs b = bs (a ++ 58 :: 32 :: b) := by rw [bs_append, List.append_assoc]; rfl
    have z1 : ¬ (9223372036854775807 < (bs a).size + (⟨#[58, 32]⟩ : ByteArray).size) := by rw [bs_size]; have : (⟨#[58, 32]⟩ : ByteArray).size = 2 := rfl; omega
    have z2 : ¬ (9223372036854775807 < (bs (a ++ [58, 32])).size + (bs b).size) := by rw [bs_size, bs_size, List.length_append]; simp; omega
    obtain ⟨i0, hi, hz0, hz1, hzb⟩ := info_parts info9
    have H := Lib.hid (And.intro F1 (And.intro O1 Q1))
    clear keep Q1 h ho F1 hcast
    have own1 := O1.own
    have B81 := O1.b8
    clear O1
    have HW : (w.setCell ⟨B6, 0, none⟩ (.int .i64 ((n : Int) + 1))) = (w.setCell ⟨B6, 0, none⟩ (.int .i64 ((n : Int) + 1))) := rfl
    by_cases hga : g a = n + 1
    · have ht : ((g a : Nat) : Int) = (n : Int) + 1 := by omega
      have hr6 := reads_row (w.setCell ⟨B6, 0, none⟩ (.int .i64 ((n : Int) + 1))) 9 [.string (bs (a ++ 58 :: 32 :: b))] 1 1 rfl
      have hszE : (w.setCell ⟨B6, 0, none⟩ (.int .i64 ((n : Int) + 1))).heap.size = w.heap.size := by simp [World.setCell]
      rw [hszE] at hr6
      have own2 : ((w.setCell ⟨B6, 0, none⟩ (.int .i64 ((n : Int) + 1))).alloc (.cells #[.string (bs (a ++ 58 :: 32 :: b))] 9)).ownsRow base 9 1 v outs.length (strCells outs) := own_keepT own1 (KeepT.below ((Below.refl _ _).alloc (Nat.le_refl _) _))
      have B82 : Blk ((w.setCell ⟨B6, 0, none⟩ (.int .i64 ((n : Int) + 1))).alloc (.cells #[.string (bs (a ++ 58 :: 32 :: b))] 9)) B8 22 #[v] := Blk.alloc B81 _
      have hv8 : v.ownBlock ≠ some B8 := own_blk_ne own2 B82 (by decide)
      go_wp2_with (first
        | (at_builtin; refine wpList_append_any _ rfl (.tmp 20) (.tmp 25) 22 rfl base 9 i0 _ 1 16 Tryz.underlying22 hi hz0 hz1 hzb rfl (by omega) v outs.length (strCells outs) rfl own2 _ _ 1 1 [.string (bs (a ++ 58 :: 32 :: b))] rfl hr6 (by simp [Value.oneCell']) (by unfold maxLen; omega) (by omega) (by have := hsz1; rw [alloc_size]; omega) ?_; intro v4 w4 hown4 hg4 hat4; obtain ⟨a4, k4, rfl⟩ := own_slice hown4; have B84 : Blk w4 B8 22 #[v] := B82.grown hg4 (fun e => hv8 e.symm); have d84 : w4.cell? ⟨B8, 0, none⟩ = some v := Blk.cell B84 0; have f84 := Blk.frozen B84 0))
      go_end0
      have Fa := H.out.1.below ((Below.refl _ _).alloc (Nat.le_refl _) (.cells #[.string (bs (a ++ 58 :: 32 :: b))] 9)) (fun j hj => (hS j hj).1)
      have hvne : ∀ {j : Nat} {t : TypeId} {cs : Array Value}, Blk ((w.setCell ⟨B6, 0, none⟩ (.int .i64 ((n : Int) + 1))).alloc (.cells #[.string (bs (a ++ 58 :: 32 :: b))] 9)) j t cs → 9 ≠ t → some j ≠ v.ownBlock := fun hx ht e => own_blk_ne own2 hx ht e.symm
      have n78 : B7 ≠ B8 := type_ne Fa.b7 B82 (by decide)
      have n58 : B5 ≠ B8 := type_ne Fa.b5 B82 (by decide)
      have nM8 : M ≠ B8 := fun e => cnt_ne Fa.cn B82 e.symm
      have hvS : ∀ j, S j → some j ≠ v.ownBlock := fun j hj e => by have := (own2.lt j e.symm).1; have := (hS j hj).2.2.1; omega
      have hvM : some M ≠ v.ownBlock := fun e => by
        obtain ⟨cs, ht⟩ := own_row own2 e.symm
        exact cnt_ne Fa.cn ht rfl
      have F4 : FilF w4 S B3 B5 B6 B7 M A c props (n + 1) k g :=
        ⟨Fa.b3.grown hg4 (hvne Fa.b3 (by decide)), Fa.st.keep (fun j hj => hg4.block j (Nat.lt_trans (hS j hj).1 (heap_lt Fa.b6)) (hvS j hj)), Fa.b7.grown hg4 (hvne Fa.b7 (by decide)), Fa.b5.grown hg4 (hvne Fa.b5 (by decide)), Fa.b6.grown hg4 (hvne Fa.b6 (by decide)), cnt_kept Fa.cn (hg4.block M (cnt_lt Fa.cn) hvM)⟩
      have keep8 : ∀ j, j ≠ B8 → (w4.setCell ⟨B8, 0, none⟩ (.slice a4 (outs.length + 1) k4)).heap[j]? = w4.heap[j]? := fun j hj => Below.heap_setCell w4 ⟨B8, 0, none⟩ _ j hj
      have F5 : FilF (w4.setCell ⟨B8, 0, none⟩ (.slice a4 (outs.length + 1) k4)) S B3 B5 B6 B7 M A c props (n + 1) k g :=
        ⟨(keep8 _ h38).trans F4.b3, F4.st.keep (fun j hj => keep8 j (fun e => by have := (hS j hj).2.2.2; omega)), (keep8 _ n78).trans F4.b7, (keep8 _ n58).trans F4.b5, (keep8 _ n68).trans F4.b6, cnt_kept F4.cn (keep8 _ nM8)⟩
      have hv48 : (Value.slice a4 (outs.length + 1) k4).ownBlock ≠ some B8 := own_blk_ne hown4 B84 (by decide)
      have hlen : (outs ++ [lineOf a b]).length = outs.length + 1 := by simp
      have O5 : OutF (w4.setCell ⟨B8, 0, none⟩ (.slice a4 (outs.length + 1) k4)) base B8 (.slice a4 (outs.length + 1) k4) (outs ++ [lineOf a b]) := by
        refine ⟨Blk.set_ B84 0 _, ?_⟩
        rw [hlen, show strCells (outs ++ [lineOf a b]) = strCells outs ++ [.string (bs (a ++ 58 :: 32 :: b))] by simp [strCells, lineOf]]
        exact ownsRow_setCell_other hown4 (a := ⟨B8, 0, none⟩) hv48 _
      refine ⟨rfl, Only.setCell (((H.out.2.2).alloc _).grown hg4 (fun k hk _ => .inr (.inr hk))) (p := ⟨B8, 0, none⟩) (fun _ => .inr (.inl rfl)) _, ?_⟩
      rw [HZ.out]
      refine ⟨_, ?_, F5, by rw [if_pos hga]; exact O5⟩
      rcases hat4 with e | e
      · exact .inl e
      · refine .inr (fun j hj => ?_)
        rw [e, alloc_size, hszE] at hj
        injection hj with hj
        omega
    · have ht : ¬ (((g a : Nat) : Int) = (n : Int) + 1) := by omega
      go_wp2_with fail
      go_end0
      refine ⟨rfl, H.out.2.2, ?_⟩
      rw [HZ.out]
      exact ⟨v, .inl rfl, H.out.1, by rw [if_neg hga]; exact H.out.2.1⟩
end
end Go.Proofs.YtlgaeeedkihfpaaGreatDoor.Uf

/-
  style.Filter.
-/
namespace Go.Proofs.YtlgaeeedkihfpaaGreatDoor.Uf
open Go.RowKit Go.WideMaps Go.Maps
open Tz (B styleV pairsL filterS lastsL joinL)

theorem setCell_alloc1 (w : World) (u v : Value) (t : TypeId) : (w.alloc (.cells #[u] t)).setCell ⟨w.heap.size, 0, none⟩ v = w.alloc (.cells #[v] t) := setCell_alloc0 w u v t
theorem store_fn (W : World) (N : Nat) (hN : W.heap.size = N) (t : TypeId) (f : Fn) (cap : Array Value) :
    (store ⟨N, 0, none⟩ (.func f #[] cap)).run Tryz.prog (W.alloc (.cells #[.nilFunc] t)) = .ok () (W.alloc (.cells #[.func f #[] cap] t)) := by
  subst hN
  rw [run_store _ _ _ _ _ rfl]
  simp
  exact setCell_alloc0 W _ _ t
theorem gs_last {K R : List (B × B)} {a b : B} {g : B → Nat} (h : GS (K ++ (a, b) :: R) g) : (g a = K.length + 1 ↔ R.any (fun y => y.1 == a) = false) := by
  have hK : (K ++ (a, b) :: R)[K.length]'(by simp) = (a, b) := by simp
  rcases h a with ⟨_, h2⟩ | ⟨i, hi, h1, h2, h3⟩
  · exact absurd rfl (h2 (a, b) (by simp))
  · have hge : K.length ≤ i := by
      rcases Nat.lt_or_ge i K.length with hlt | hge
      · exact absurd (by rw [hK]) (h3 K.length (by simp) hlt)
      · exact hge
    constructor
    · intro hg
      have hik : i = K.length := by omega
      subst hik
      rw [List.any_eq_false]
      intro y hy
      obtain ⟨j, hj, rfl⟩ := List.getElem_of_mem hy
      have := h3 (K.length + 1 + j) (by simp; omega) (by omega)
      rw [List.getElem_append_right (by omega)] at this
      simp only [show K.length + 1 + j - K.length = j + 1 by omega, List.getElem_cons_succ] at this
      simpa using this
    · intro hR
      rcases Nat.lt_or_ge K.length i with hlt | hge2
      · have hi2 : i - K.length - 1 < R.length := by simp at hi; omega
        obtain ⟨d, rfl⟩ : ∃ d, i = K.length + 1 + d := ⟨i - K.length - 1, by omega⟩
        have hd : d < R.length := by omega
        rw [List.getElem_append_right (by omega)] at h2
        simp only [show K.length + 1 + d - K.length = d + 1 by omega, List.getElem_cons_succ] at h2
        have := List.any_eq_false.1 hR _ (List.getElem_mem hd)
        exact absurd (by rw [h2]; exact beq_self_eq_true a) this
      · omega
theorem lasts_mem : ∀ (l : List (B × B)) (x : B × B), x ∈ lastsL l → x ∈ l
  | [], x, h => by simp [lastsL] at h
  | y :: r, x, h => by
    unfold lastsL at h
    split at h
    · exact List.mem_cons_of_mem _ (lasts_mem r x h)
    · rcases List.mem_cons.1 h with rfl | h
      · simp
      · exact List.mem_cons_of_mem _ (lasts_mem r x h)
theorem lasts_len : ∀ (l : List (B × B)), (lastsL l).length ≤ l.length
  | [] => by simp [lastsL]
  | y :: r => by
    have := lasts_len r
    unfold lastsL
    split <;> simp <;> omega
theorem pairs_mem {s : B} {x : B × B} (h : x ∈ pairsL s) : x.1.length + x.2.length ≤ s.length := by
  unfold pairsL at h
  obtain ⟨y, hy, rfl⟩ := List.mem_map.1 h
  obtain ⟨z, hz, hc⟩ := List.mem_filterMap.1 hy
  obtain ⟨a, b⟩ := y
  have h1 := cut_len hc
  have h2 := split_mem 59 s z hz
  have h3 := bare_len a
  have h4 := bare_len b
  simp only
  omega
theorem pairs_len (s : B) : (pairsL s).length ≤ s.length + 1 := Nat.le_trans (pairsG_len _) (split_len 59 s)
theorem joinL_len (sep : B) (M : Nat) : ∀ l : List B, (∀ x ∈ l, x.length ≤ M) → (joinL sep l).length ≤ l.length * (M + sep.length)
  | [], _ => by simp [joinL]
  | [x], h => by have := h x (by simp); simp [joinL]; omega
  | x :: y :: r, h => by
    have h1 := h x (by simp)
    have h2 := joinL_len sep M (y :: r) (fun z hz => h z (List.mem_cons_of_mem _ hz))
    have e : joinL sep (x :: y :: r) = x ++ sep ++ joinL sep (y :: r) := rfl
    rw [e, List.length_append, List.length_append, List.length_cons, Nat.succ_mul]
    omega
theorem strs_of_own {w : World} {base : Nat} {A : Option Addr} {c : Nat} {l : List B} (h : w.ownsRow base 9 1 (.slice A l.length c) l.length (strCells l)) : StrsAt w (fun b => (Value.slice A l.length c).ownBlock = some b) A l.length l :=
  ⟨rfl, fun hn => by
    obtain ⟨g, cap, hv, _, _⟩ := h.form hn
    obtain rfl : A = some ⟨g, 0, none⟩ := by injection hv
    refine ⟨g, 0, rfl, rfl, fun j hj => ?_⟩
    rw [Nat.zero_add]
    refine (h.cellAt j (by omega)).trans ?_
    simp [strCells, List.getElem?_eq_getElem hj]⟩
theorem OutF.below {w w' : World} {base B8 : Nat} {v : Value} {outs : List B} (h : OutF w base B8 v outs) (hb : Below w.heap.size w w') : OutF w' base B8 v outs := ⟨h.b8.below hb (heap_lt h.b8), own_keepT h.own (KeepT.below hb)⟩

/-- The first pass. -/
def J1 (S : Nat → Prop) (B3 B5 B6 B7 M : Nat) (A : Option Addr) (c : Nat) (props : List B) (done : List (B × B)) (X : Nat → Prop) (w : World) : Prop :=
  X = (fun j => j = B6 ∨ j = M) ∧ ∃ g, FilF w S B3 B5 B6 B7 M A c props (done.filter (okP props)).length (done.filter (okP props)).length g ∧ GS (done.filter (okP props)) g
theorem filter_snoc (p : B × B → Bool) (l : List (B × B)) (x : B × B) : (l ++ [x]).filter p = if p x = true then l.filter p ++ [x] else l.filter p := by
  rw [List.filter_append]
  by_cases h : p x = true
  · rw [if_pos h]; simp [h]
  · rw [if_neg h]; simp [h]
theorem J1_step {S : Nat → Prop} {B3 B5 B6 B7 M : Nat} {A : Option Addr} {c : Nat} {props : List B} {done : List (B × B)} {X : Nat → Prop} {w1 : World} {a b : B} (h : J1 S B3 B5 B6 B7 M A c props done X w1) (hS : ∀ j, S j → j < B6 ∧ j < M) (hl : props.length ≤ 60000000)
    (hab : a.length + b.length ≤ 60000000) (hd : done.length ≤ 120000000) :
    Calls Tryz.prog 106 (#[.string (bs a), .string (bs b)] ++ #[.pointer (some ⟨B7, 0, none⟩), .pointer (some ⟨B6, 0, none⟩), .pointer (some ⟨B5, 0, none⟩)]) w1 fun e w2 => e = .returned (.tuple #[]) ∧ ∃ X', J1 S B3 B5 B6 B7 M A c props (done ++ [(a, b)]) X' w2 ∧ (∀ k, X' k → X k ∨ w1.heap.size ≤ k) ∧ Only X w1 w2 := by
  obtain ⟨rfl, g, hF, hG⟩ := h
  have hfl := List.length_filter_le (okP props) done
  refine (fil2_u a b hF hS hl hab (by omega)).mono ?_
  rintro e w2 ⟨he, hO, hR⟩
  refine ⟨he, _, ⟨rfl, ?_⟩, fun k hk => .inl hk, hO⟩
  rw [filter_snoc]
  cases hz : okP props (a, b) with
  | true =>
    rw [hz] at hR
    rw [if_pos rfl, List.length_append, List.length_singleton]
    exact ⟨_, hR, hG.put a b⟩
  | false =>
    rw [hz] at hR
    rw [if_neg (by simp)]
    exact ⟨g, hR, hG⟩
/-- The second pass. -/
def J2 (S : Nat → Prop) (base B3 B5 B6 B7 B8 M : Nat) (A : Option Addr) (c : Nat) (props : List B) (s : B) (g : B → Nat) (done : List (B × B)) (X : Nat → Prop) (w : World) : Prop :=
  ∃ v sel rest, X = (fun j => j = B6 ∨ j = B8 ∨ v.ownBlock = some j) ∧ FilF w S B3 B5 B6 B7 M A c props (done.filter (okP props)).length ((pairsL s).filter (okP props)).length g ∧
    OutF w base B8 v (sel.map fun x => lineOf x.1 x.2) ∧ pairsL s = done ++ rest ∧ sel ++ lastsL (rest.filter (okP props)) = lastsL ((pairsL s).filter (okP props))
theorem J2_step {S : Nat → Prop} {base B3 B5 B6 B7 B8 M : Nat} {A : Option Addr} {c : Nat} {props : List B} {s : B} {g : B → Nat} {done : List (B × B)} {X : Nat → Prop} {w1 : World} {a b : B} (h : J2 S base B3 B5 B6 B7 B8 M A c props s g done X w1) (hG : GS ((pairsL s).filter (okP props)) g)
    (hS : ∀ j, S j → j < B6 ∧ j < M ∧ j < base ∧ j < B8) (hl : props.length ≤ 60000000) (hab : a.length + b.length ≤ 60000000) (hd : done.length ≤ 120000000) (hs : s.length ≤ 60000000) (hpre : ∃ rest, pairsL s = done ++ (a, b) :: rest) (hbase : base ≤ B6) (h38 : B3 ≠ B8) :
    Calls Tryz.prog 107 (#[.string (bs a), .string (bs b)] ++ #[.pointer (some ⟨B7, 0, none⟩), .pointer (some ⟨B6, 0, none⟩), .pointer (some ⟨B5, 0, none⟩), .pointer (some ⟨B8, 0, none⟩)]) w1 fun e w2 => e = .returned (.tuple #[]) ∧ ∃ X', J2 S base B3 B5 B6 B7 B8 M A c props s g (done ++ [(a, b)]) X' w2 ∧ (∀ k, X' k → X k ∨ w1.heap.size ≤ k) ∧ Only X w1 w2 := by
  obtain ⟨v, sel, rest, rfl, hF, hO, hp, hsel⟩ := h
  obtain ⟨rest', hp'⟩ := hpre
  obtain rfl : rest = (a, b) :: rest' := List.append_cancel_left (hp.symm.trans hp')
  have hfl := List.length_filter_le (okP props) done
  have hol : (sel.map fun x => lineOf x.1 x.2).length ≤ 120000000 := by
    have h1 := congrArg List.length hsel
    have h2 := lasts_len ((pairsL s).filter (okP props))
    have h3 := List.length_filter_le (okP props) (pairsL s)
    have h4 := pairs_len s
    rw [List.length_append] at h1
    rw [List.length_map]
    omega
  have hb6 := heap_lt hF.b6
  refine (fil3_u a b hF hO hS hl hab (by omega) hol (by omega) h38).mono ?_
  rintro e w2 ⟨he, hOn, hR⟩
  refine ⟨he, ?_⟩
  cases hz : okP props (a, b) with
  | true =>
    rw [hz] at hR
    obtain ⟨v', hv', hF', hO'⟩ := hR
    have hK : (pairsL s).filter (okP props) = done.filter (okP props) ++ (a, b) :: rest'.filter (okP props) := by rw [hp, List.filter_append, List.filter_cons, if_pos hz]
    rw [hK] at hG
    have hgl := gs_last hG
    refine ⟨_, ⟨v', (if g a = (done.filter (okP props)).length + 1 then sel ++ [(a, b)] else sel), rest', rfl, ?_, ?_, by rw [hp]; simp, ?_⟩, ?_, hOn⟩
    · rw [filter_snoc, if_pos hz, List.length_append, List.length_singleton]
      exact hF'
    · split
      · rename_i hg
        rw [if_pos hg] at hO'
        rw [List.map_append]
        exact hO'
      · rename_i hg
        rw [if_neg hg] at hO'
        exact hO'
    · rw [← hsel, List.filter_cons, if_pos hz]
      conv => rhs; unfold lastsL
      by_cases hg : g a = (done.filter (okP props)).length + 1
      · rw [if_pos hg, if_neg (by rw [hgl.1 hg]; simp), List.append_assoc]
        rfl
      · rw [if_neg hg, if_pos (by cases hx : (rest'.filter (okP props)).any (fun y => y.1 == a) with | true => rfl | false => exact absurd (hgl.2 hx) hg)]
    · intro k hk
      rcases hk with hk | hk | hk
      · exact .inl (.inl hk)
      · exact .inl (.inr (.inl hk))
      · rcases hv' with e | e
        · exact .inl (.inr (.inr (e ▸ hk)))
        · exact .inr (e k hk)
  | false =>
    rw [hz] at hR
    obtain ⟨v', hv', hF', hO'⟩ := hR
    refine ⟨_, ⟨v', sel, rest', rfl, ?_, hO', by rw [hp]; simp, ?_⟩, ?_, hOn⟩
    · rw [filter_snoc, if_neg (by rw [hz]; simp)]
      exact hF'
    · rw [← hsel, List.filter_cons, if_neg (by rw [hz]; simp)]
    · intro k hk
      rcases hk with hk | hk | hk
      · exact .inl (.inl hk)
      · exact .inl (.inr (.inl hk))
      · rcases hv' with e | e
        · exact .inl (.inr (.inr (e ▸ hk)))
        · exact .inr (e k hk)
end Go.Proofs.YtlgaeeedkihfpaaGreatDoor.Uf

/-
  style.Filter, whole.
-/
namespace Go.Proofs.YtlgaeeedkihfpaaGreatDoor.Uf
open Go.RowKit Go.WideMaps Go.Maps
open Tz (B styleV pairsL filterS lastsL joinL)

set_option maxRecDepth 100000 in
set_option maxHeartbeats 4000000 in
theorem filter_u {w : World} {S : Nat → Prop} {A : Option Addr} {c : Nat} {props : List B} {m : Int} (s : B) (h : StrsAt w S A props.length props) (hS : ∀ j, S j → j < w.heap.size) (hl : props.length ≤ 60000000) (hs : s.length ≤ 5000000) (hm : w.cell? ⟨0, 0, none⟩ = some (.int .i64 m)) :
    Calls Tryz.prog 91 #[.string (bs s), .slice A props.length c] w fun e w' => e = .returned (.string (bs (filterS s props))) ∧ Below w.heap.size w w' := by
  have hmm := @run_makeMap Tryz.prog
  have h0 : (0 : Nat) < w.heap.size := World.block_lt_of_cell? w ⟨0, 0, none⟩ hm
  have hst := store_fn ((((w.alloc (.cells #[.slice A props.length c] 22)).alloc (.map #[] 0)).alloc (.cells #[.map (some (w.heap.size + 1))] 139)).alloc (.cells #[.int .i64 0] 3)) (w.heap.size + 1 + 1 + 1 + 1) (by simp only [alloc_size]) 107 (.func 103) #[.pointer (some ⟨w.heap.size, 0, none⟩)]
  have G1 : Below w.heap.size w (((((w.alloc (.cells #[.slice A props.length c] 22)).alloc (.map #[] 0)).alloc (.cells #[.map (some (w.heap.size + 1))] 139)).alloc (.cells #[.int .i64 0] 3)).alloc (.cells #[(.func (.func 103) #[] #[.pointer (some ⟨w.heap.size, 0, none⟩)])] 107)) := (((((Below.refl _ w).alloc (Nat.le_refl _) _).alloc (by simp only [alloc_size]; omega) _).alloc (by simp only [alloc_size]; omega) _).alloc (by simp only [alloc_size]; omega) _).alloc (by simp only [alloc_size]; omega) _
  have P3 : Blk (((((w.alloc (.cells #[.slice A props.length c] 22)).alloc (.map #[] 0)).alloc (.cells #[.map (some (w.heap.size + 1))] 139)).alloc (.cells #[.int .i64 0] 3)).alloc (.cells #[(.func (.func 103) #[] #[.pointer (some ⟨w.heap.size, 0, none⟩)])] 107)) w.heap.size 22 #[.slice A props.length c] := Blk.alloc (Blk.alloc (Blk.alloc (Blk.alloc (Blk.new w 22 _) _) _) _) _
  have P5 : Blk (((((w.alloc (.cells #[.slice A props.length c] 22)).alloc (.map #[] 0)).alloc (.cells #[.map (some (w.heap.size + 1))] 139)).alloc (.cells #[.int .i64 0] 3)).alloc (.cells #[(.func (.func 103) #[] #[.pointer (some ⟨w.heap.size, 0, none⟩)])] 107)) (w.heap.size + 1 + 1) 139 #[.map (some (w.heap.size + 1))] := Blk.alloc (Blk.alloc (by have := Blk.new ((w.alloc (.cells #[.slice A props.length c] 22)).alloc (.map #[] 0)) 139 #[.map (some (w.heap.size + 1))]; simp only [alloc_size] at this; exact this) _) _
  have P6 : Blk (((((w.alloc (.cells #[.slice A props.length c] 22)).alloc (.map #[] 0)).alloc (.cells #[.map (some (w.heap.size + 1))] 139)).alloc (.cells #[.int .i64 0] 3)).alloc (.cells #[(.func (.func 103) #[] #[.pointer (some ⟨w.heap.size, 0, none⟩)])] 107)) (w.heap.size + 1 + 1 + 1) 3 #[.int .i64 ((0 : Nat) : Int)] := Blk.alloc (by have := Blk.new (((w.alloc (.cells #[.slice A props.length c] 22)).alloc (.map #[] 0)).alloc (.cells #[.map (some (w.heap.size + 1))] 139)) 3 #[.int .i64 0]; simp only [alloc_size] at this; exact this) _
  have P7 : Blk (((((w.alloc (.cells #[.slice A props.length c] 22)).alloc (.map #[] 0)).alloc (.cells #[.map (some (w.heap.size + 1))] 139)).alloc (.cells #[.int .i64 0] 3)).alloc (.cells #[(.func (.func 103) #[] #[.pointer (some ⟨w.heap.size, 0, none⟩)])] 107)) (w.heap.size + 1 + 1 + 1 + 1) 107 #[(.func (.func 103) #[] #[.pointer (some ⟨w.heap.size, 0, none⟩)])] := by have := Blk.new ((((w.alloc (.cells #[.slice A props.length c] 22)).alloc (.map #[] 0)).alloc (.cells #[.map (some (w.heap.size + 1))] 139)).alloc (.cells #[.int .i64 0] 3)) 107 #[(.func (.func 103) #[] #[.pointer (some ⟨w.heap.size, 0, none⟩)])]; simp only [alloc_size] at this; exact this
  have PM : Cnt (((((w.alloc (.cells #[.slice A props.length c] 22)).alloc (.map #[] 0)).alloc (.cells #[.map (some (w.heap.size + 1))] 139)).alloc (.cells #[.int .i64 0] 3)).alloc (.cells #[(.func (.func 103) #[] #[.pointer (some ⟨w.heap.size, 0, none⟩)])] 107)) (w.heap.size + 1) 0 (fun _ => 0) := by
    have h1 := cnt_new (w.alloc (.cells #[.slice A props.length c] 22))
    simp only [alloc_size] at h1
    refine cnt_kept h1 ?_
    have hb : Below (w.heap.size + 1 + 1) ((w.alloc (.cells #[.slice A props.length c] 22)).alloc (.map #[] 0)) (((((w.alloc (.cells #[.slice A props.length c] 22)).alloc (.map #[] 0)).alloc (.cells #[.map (some (w.heap.size + 1))] 139)).alloc (.cells #[.int .i64 0] 3)).alloc (.cells #[(.func (.func 103) #[] #[.pointer (some ⟨w.heap.size, 0, none⟩)])] 107)) := (((Below.refl _ _).alloc (by simp only [alloc_size]; omega) _).alloc (by simp only [alloc_size]; omega) _).alloc (by simp only [alloc_size]; omega) _
    exact hb.block _ (by omega)
  have F0 : FilF (((((w.alloc (.cells #[.slice A props.length c] 22)).alloc (.map #[] 0)).alloc (.cells #[.map (some (w.heap.size + 1))] 139)).alloc (.cells #[.int .i64 0] 3)).alloc (.cells #[(.func (.func 103) #[] #[.pointer (some ⟨w.heap.size, 0, none⟩)])] 107)) S w.heap.size (w.heap.size + 1 + 1) (w.heap.size + 1 + 1 + 1) (w.heap.size + 1 + 1 + 1 + 1) (w.heap.size + 1) A c props 0 0 (fun _ => 0) :=
    ⟨P3, h.keep (KeepS.below G1 hS), P7, P5, P6, PM⟩
  clear P3 P5 P6 P7 PM h
  go_enter Tryz.func91, Tryz.ntmps91
  go_wp2_with fail
  generalize ((((w.alloc (.cells #[.slice A props.length c] 22)).alloc (.map #[] 0)).alloc (.cells #[.map (some (w.heap.size + 1))] 139)).alloc (.cells #[.int .i64 0] 3)).alloc (.cells #[(.func (.func 103) #[] #[.pointer (some ⟨w.heap.size, 0, none⟩)])] 107) = V at G1 F0 ⊢
  clear hst hmm
  obtain ⟨B5, h5⟩ : ∃ x, x = w.heap.size + 1 + 1 := ⟨_, rfl⟩
  obtain ⟨B6, h6⟩ : ∃ x, x = w.heap.size + 1 + 1 + 1 := ⟨_, rfl⟩
  obtain ⟨B7, h7⟩ : ∃ x, x = w.heap.size + 1 + 1 + 1 + 1 := ⟨_, rfl⟩
  obtain ⟨M, hM⟩ : ∃ x, x = w.heap.size + 1 := ⟨_, rfl⟩
  rw [← h7, ← h6, ← h5, ← hM] at F0 ⊢
  have q1 : B6 ≠ B5 := by omega
  have q2 : w.heap.size ≠ B6 := by omega
  have q3 : B7 ≠ B6 := by omega
  have q4 : M ≠ B6 := by omega
  have q5 : w.heap.size ≤ B6 := by omega
  have q6 : w.heap.size ≤ M := by omega
  have q7 : B5 ≠ B6 := by omega
  have q8 : w.heap.size ≠ B5 := by omega
  clear h5 h6 h7 hM
  have hmV : V.cell? ⟨0, 0, none⟩ = some (.int .i64 m) := (G1.cell (p := ⟨0, 0, none⟩) h0).trans hm
  have hS1 : ∀ j, S j → j < B6 ∧ j < M := fun j hj => by have := hS j hj; omega
  have hJ0 : J1 S w.heap.size B5 B6 B7 M A c props [] (fun j => j = B6 ∨ j = M) V := ⟨rfl, _, F0, fun y => .inl ⟨rfl, fun x hx => by simp at hx⟩⟩
  have hlt : ∀ k, (k = B6 ∨ k = M) → k < V.heap.size := fun k hk => by
    rcases hk with rfl | rfl
    · exact heap_lt F0.b6
    · exact cnt_lt F0.cn
  refine (each_u (J := J1 S w.heap.size B5 B6 B7 M A c props) (s := s) ent106 hJ0 hlt (by omega) hmV (by omega) ?_ ?_).mono ?_
  · rintro done X w1 w2 ⟨rfl, g, hF, hG⟩ hb
    exact ⟨rfl, g, hF.below hb (fun j hj => (hS1 j hj).1), hG⟩
  · intro done X w1 a b hJ hab hd hpre
    exact J1_step hJ hS1 hl (by omega) (by omega)
  rintro e1 w1 ⟨rfl, X1, ⟨rfl, g, hF1, hG1⟩, _, hO1⟩
  have hb1 : Below w.heap.size w w1 := G1.trans (hO1.belowOf G1.size (fun k hk => by omega))
  clear hJ0 hlt hO1 F0 hmV G1
  have c6 : w1.cell? ⟨B6, 0, none⟩ = some (.int .i64 (((pairsL s).filter (okP props)).length : Nat)) := Blk.cell hF1.b6 0
  have f6 := Blk.frozen hF1.b6 0
  have keep : ∀ j, j ≠ B6 → (w1.setCell ⟨B6, 0, none⟩ (.int .i64 0)).heap[j]? = w1.heap[j]? := fun j hj => Below.heap_setCell w1 ⟨B6, 0, none⟩ _ j hj
  have F2 : FilF (w1.setCell ⟨B6, 0, none⟩ (.int .i64 0)) S w.heap.size B5 B6 B7 M A c props 0 ((pairsL s).filter (okP props)).length g :=
    ⟨(keep _ q2).trans hF1.b3, hF1.st.keep (fun j hj => keep j (fun e => by have := (hS1 j hj).1; omega)), (keep _ q3).trans hF1.b7, (keep _ q7).trans hF1.b5, Blk.set_ hF1.b6 0 _, cnt_kept hF1.cn (keep _ q4)⟩
  have hb2 : Below w.heap.size w (w1.setCell ⟨B6, 0, none⟩ (.int .i64 0)) := hb1.setCell (by show w.heap.size ≤ B6; omega) _
  clear keep hF1
  have hsz2 := heap_lt F2.b6
  have hb3 : Below w.heap.size w ((w1.setCell ⟨B6, 0, none⟩ (.int .i64 0)).alloc (.cells #[.slice none 0 0] 22)) := hb2.alloc (by omega) _
  have F3 := F2.below ((Below.refl _ _).alloc (Nat.le_refl _) (.cells #[.slice none 0 0] 22)) (fun j hj => (hS1 j hj).1)
  have hszE : (w1.setCell ⟨B6, 0, none⟩ (.int .i64 0)).heap.size = w1.heap.size := by simp [World.setCell]
  have B8b : Blk ((w1.setCell ⟨B6, 0, none⟩ (.int .i64 0)).alloc (.cells #[.slice none 0 0] 22)) w1.heap.size 22 #[.slice none 0 0] := by
    have := Blk.new (w1.setCell ⟨B6, 0, none⟩ (.int .i64 0)) 22 #[.slice none 0 0]
    rw [hszE] at this
    exact this
  rw [hszE] at hsz2
  clear F2 hb2
  have HH := Lib.hid hszE
  clear hszE
  go_wp2_with fail
  have hmV2 : ((w1.setCell ⟨B6, 0, none⟩ (.int .i64 0)).alloc (.cells #[.slice none 0 0] 22)).cell? ⟨0, 0, none⟩ = some (.int .i64 m) := (hb3.cell (p := ⟨0, 0, none⟩) h0).trans hm
  have hB8lt := heap_lt B8b
  obtain ⟨B8, h8⟩ : ∃ x, x = w1.heap.size := ⟨_, rfl⟩
  rw [← h8] at hsz2 B8b hB8lt ⊢
  clear HH c6 f6 h8
  generalize ((w1.setCell ⟨B6, 0, none⟩ (.int .i64 0)).alloc (.cells #[.slice none 0 0] 22)) = V2 at hb3 F3 B8b hmV2 hB8lt ⊢
  have hS2 : ∀ j, S j → j < B6 ∧ j < M ∧ j < w.heap.size ∧ j < B8 := fun j hj => ⟨(hS1 j hj).1, (hS1 j hj).2, hS j hj, by have := (hS1 j hj).1; omega⟩
  have hJ2 : J2 S w.heap.size w.heap.size B5 B6 B7 B8 M A c props s g [] (fun j => j = B6 ∨ j = B8 ∨ (Value.slice none 0 0).ownBlock = some j) V2 :=
    ⟨.slice none 0 0, [], pairsL s, rfl, F3, ⟨B8b, World.ownsRow_nil _ _ _ _⟩, rfl, rfl⟩
  have hlt2 : ∀ k, (k = B6 ∨ k = B8 ∨ (Value.slice none 0 0).ownBlock = some k) → k < V2.heap.size := fun k hk => by
    rcases hk with rfl | rfl | hk
    · exact heap_lt F3.b6
    · exact hB8lt
    · cases hk
  have h08 : ¬ (0 = B6 ∨ 0 = B8 ∨ (Value.slice none 0 0).ownBlock = some 0) := fun hk => by
    rcases hk with hk | hk | hk
    · omega
    · omega
    · cases hk
  refine (each_u (J := J2 S w.heap.size w.heap.size B5 B6 B7 B8 M A c props s g) (s := s) ent107 hJ2 hlt2 h08 hmV2 (by omega) ?_ ?_).mono ?_
  · rintro done X w1 w2 ⟨v, sel, rest, hX, hF, hO, hp, hsel⟩ hb
    exact ⟨v, sel, rest, hX, hF.below hb (fun j hj => (hS1 j hj).1), hO.below hb, hp, hsel⟩
  · intro done X w1 a b hJ hab hd hpre
    exact J2_step hJ hG1 hS2 hl (by omega) (by omega) (by omega) hpre q5 (by omega)
  rintro e3 w3 ⟨rfl, X3, ⟨v, sel, rest, _, _, hO, hp, hsel⟩, _, hOn⟩
  obtain rfl : rest = [] := by
    have := congrArg List.length hp
    rw [List.length_append] at this
    exact List.eq_nil_of_length_eq_zero (by omega)
  have hb4 : Below w.heap.size w w3 := hb3.trans (hOn.belowOf hb3.size (fun k hk => by
    rcases hk with rfl | rfl | hk
    · exact q5
    · omega
    · cases hk))
  have hsel : sel = lastsL ((pairsL s).filter (okP props)) := by
    rw [← hsel]
    simp [lastsL]
  clear hp hJ2 hlt2 h08 hmV2 F3 B8b hb3 hOn
  have hF := Lib.hid (show filterS s props = joinL [59, 32] (sel.map fun x => lineOf x.1 x.2) by
    unfold filterS
    rw [hsel]
    congr 1
    refine List.map_congr_left (fun x _ => ?_)
    simp [lineOf])
  have hn : (sel.map fun x => lineOf x.1 x.2).length ≤ s.length + 1 := by
    rw [List.length_map, hsel]
    have h2 := lasts_len ((pairsL s).filter (okP props))
    have h3 := List.length_filter_le (okP props) (pairsL s)
    have h4 := pairs_len s
    omega
  have hx : ∀ x ∈ (sel.map fun x => lineOf x.1 x.2), x.length ≤ s.length + 2 := by
    intro x hx
    obtain ⟨y, hy, rfl⟩ := List.mem_map.1 hx
    rw [hsel] at hy
    have := pairs_mem (List.mem_filter.1 (lasts_mem _ _ hy)).1
    unfold lineOf
    simp
    omega
  have hjl := joinL_len [59, 32] (s.length + 2) _ hx
  clear hsel hx
  generalize (sel.map fun x => lineOf x.1 x.2) = outs at hO hF hn hjl
  obtain ⟨A9, c9, rfl⟩ := own_slice hO.own
  have d8 : w3.cell? ⟨B8, 0, none⟩ = some (.slice A9 outs.length c9) := Blk.cell hO.b8 0
  have hstr := strs_of_own hO.own
  have hcap := (own_le hO.own).2
  have hlt9 : ∀ k, (Value.slice A9 outs.length c9).ownBlock = some k → k < w3.heap.size := fun k hk => (hO.own.lt k hk).2
  have hjb : (joinL [59, 32] outs).length ≤ 140737488355328 := by
    have h1 : outs.length * (s.length + 2 + [59, 32].length) ≤ 5000001 * 5000004 := Nat.mul_le_mul (by omega) (by simp; omega)
    have h2 : 5000001 * 5000004 ≤ 140737488355328 := by decide
    omega
  clear hO hjl
  go_wp2_with fail
  refine (join_u [59, 32] hstr hlt9 (by omega) hcap hjb).mono ?_
  rintro e5 w5 ⟨rfl, hb5⟩
  go_wp2_with fail
  go_ret
  exact ⟨by rw [hF.out]; rfl, hb4.trans (hb5.mono hb4.size)⟩
end Go.Proofs.YtlgaeeedkihfpaaGreatDoor.Uf
