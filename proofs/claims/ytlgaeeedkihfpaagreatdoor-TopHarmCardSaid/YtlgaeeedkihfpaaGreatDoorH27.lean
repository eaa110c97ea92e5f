/-
  Texts of the proof of Harm, one behind the other: SanA, Sums, SanB.
-/
import Derived.Test.YtlgaeeedkihfpaaGreatDoorH26
/-
  san.classes.
-/
namespace Go.Proofs.YtlgaeeedkihfpaaGreatDoor.Uf
open Go.RowKit Go.WideMaps Go.Maps
open Tz (B splitL firstsG classesS joinL)

theorem firsts_len (l : List B) : ∀ (r out : List B), (firstsG l r out).length ≤ out.length + r.length
  | [], out => by simp [firstsG]
  | c :: r, out => by
    unfold firstsG
    split
    · have := firsts_len l r (out ++ [c]); simp at this ⊢; omega
    · have := firsts_len l r out; simp; omega
theorem firsts_mem (l : List B) : ∀ (r out : List B) (x : B), x ∈ firstsG l r out → x ∈ out ∨ x ∈ r
  | [], out, x, h => .inl (by simpa [firstsG] using h)
  | c :: r, out, x, h => by
    unfold firstsG at h
    split at h
    · rcases firsts_mem l r _ x h with h | h
      · rcases List.mem_append.1 h with h | h
        · exact .inl h
        · exact .inr (by simp at h; simp [h])
      · exact .inr (List.mem_cons_of_mem _ h)
    · rcases firsts_mem l r _ x h with h | h
      · exact .inl h
      · exact .inr (List.mem_cons_of_mem _ h)
theorem firsts_step (l : List B) (c : B) (r out : List B) : firstsG l (c :: r) out = if (!out.contains c && l.contains c) = true then firstsG l r (out ++ [c]) else firstsG l r out := rfl

set_option maxRecDepth 100000 in
set_option maxHeartbeats 4000000 in
theorem sclasses_u {w : World} {S : Nat → Prop} {A : Option Addr} {n c : Nat} {cl : List B} {m : Int} (v : B) (h : StrsAt w S A n cl) (hS : ∀ j, S j → j < w.heap.size) (hl : cl.length ≤ 1000000) (hv : v.length ≤ 500000) (hm : w.cell? ⟨0, 0, none⟩ = some (.int .i64 m)) :
    Calls Tryz.prog 115 #[.string (bs v), .slice A n c] w fun e w' => e = .returned (.string (bs (classesS v cl))) ∧ Below w.heap.size w w' := by
  have hmm := @run_makeMap Tryz.prog
  have h0 : (0 : Nat) < w.heap.size := World.block_lt_of_cell? w ⟨0, 0, none⟩ hm
  have hm1 : (w.alloc (.map #[] 0)).cell? ⟨0, 0, none⟩ = some (.int .i64 m) := (World.cell?_alloc_lt w _ ⟨0, 0, none⟩ h0).trans hm
  have hll := split_len 32 v
  have hlm := split_mem 32 v
  have HC := Lib.hid (show classesS v cl = joinL [32] (firstsG cl (splitL 32 v) []) from rfl)
  have HFL := Lib.hid (firsts_len cl (splitL 32 v) [])
  have HFM := Lib.hid (firsts_mem cl (splitL 32 v) [])
  obtain ⟨i0, hi, hz0, hz1, hzb⟩ := info_parts info9
  go_enter Tryz.func115, Tryz.ntmps115
  go_wp2_with fail
  refine (split_u v 32 (by omega) hm1).mono ?_
  generalize splitL 32 v = l at hll hlm HC HFL HFM ⊢
  rintro e1 w1 ⟨rfl, hw1⟩
  simp only [alloc_size] at hw1 ⊢
  have hB1 : Below w.heap.size w w1 := by rw [hw1]; exact ((Below.refl _ w).alloc (Nat.le_refl _) _).alloc (by rw [alloc_size]; omega) _
  have hR1 : Blk w1 (w.heap.size + 1) 9 (strCells l).toArray := by
    rw [hw1]
    have := Blk.new (w.alloc (.map #[] 0)) 9 (strCells l).toArray
    rw [alloc_size] at this
    exact this
  have hS1 : Seen w1 w.heap.size 0 [] := by
    rw [hw1]
    refine seen_kept (seen_new w) ?_
    exact ((Below.refl (w.heap.size + 1) (w.alloc (.map #[] 0))).alloc (by rw [alloc_size]; omega) _).block _ (by omega)
  have h1 := h.keep (KeepS.below hB1 hS)
  have hbase : w.heap.size + 1 < w1.heap.size := heap_lt hR1
  clear hw1 hm1 hmm h
  go_wp2_with fail
  go_loopw [13, 6] (fun vi vo wr => ∃ (k : Nat) (out : List B), vi = .int .i64 k ∧ k ≤ l.length ∧ Seen wr w.heap.size out.length out ∧ wr.ownsRow w1.heap.size 9 1 vo out.length (strCells out) ∧ Blk wr (w.heap.size + 1) 9 (strCells l).toArray ∧ StrsAt wr S A n cl ∧ Below w.heap.size w wr ∧ w1.heap.size ≤ wr.heap.size ∧ out.length ≤ k ∧ Hid (firstsG cl (l.drop k) out = firstsG cl l [])) (fun vi _ _ => l.length - kOf vi)
  case atStart => exact ⟨0, [], rfl, Nat.zero_le _, hS1, World.ownsRow_nil _ _ _ _, hR1, h1, hB1, Nat.le_refl _, Nat.le_refl _, Lib.hid rfl⟩
  case round =>
    obtain ⟨k, out, rfl, hk, hsn, hown, hR, hst, hb, hsz, hok, Hk⟩ := hrel
    by_cases hlt : k < l.length
    · have t0 : (k : Int) < (l.length : Int) := by omega
      obtain ⟨x, hx⟩ : ∃ x, x = l[k] := ⟨_, rfl⟩
      have hc : wr.cell? ⟨w.heap.size + 1, k, none⟩ = some (.string (bs x)) := by
        have := Blk.cell hR k
        rw [this, List.getElem?_toArray, List.getElem?_eq_getElem (by simpa using hlt), hx]
        simp [strCells]
      have hxl : x.length ≤ v.length := hlm x (by rw [hx]; exact List.getElem_mem _)
      have hdc : l.drop k = x :: l.drop (k + 1) := hx ▸ List.drop_eq_getElem_cons hlt
      have hstep := firsts_step cl x (l.drop (k + 1)) out
      rw [← hdc, Hk.out] at hstep
      have Hst := Lib.hid hstep
      clear hx hdc hstep
      have hi1 : IntKind.i64.wrap ((k : Int) + 1) = ((k + 1 : Nat) : Int) := by rw [IntKind.wrap_i64]; omega
      have hlook := seen_look (x := x) hsn (by omega)
      cases hsc : out.contains x with
      | true =>
        rw [hsc] at hlook Hst
        have Hst2 := Lib.hid (show firstsG cl (l.drop (k + 1)) out = firstsG cl l [] by rw [Hst.out]; rfl)
        clear hsc
        go_wp2_with fail
        go_roundw
        case rel => exact ⟨k + 1, out, rfl, hlt, hsn, hown, hR, hst, hb, hsz, by omega, Hst2⟩
        case measure =>
          show l.length - kOf (.int .i64 ((k + 1 : Nat) : Int)) < l.length - kOf (.int .i64 (k : Int))
          simp only [kOf, Int.toNat_natCast]
          omega
      | false =>
        rw [hsc] at hlook Hst
        clear hsc
        go_wp2_with fail
        refine (contains_u x hst hl).mono ?_
        generalize cl.contains x = z at Hst
        rintro e2 w2 ⟨rfl, hw2⟩
        rw [hw2]
        clear hw2 w2
        cases z with
        | false =>
          have Hst2 := Lib.hid (show firstsG cl (l.drop (k + 1)) out = firstsG cl l [] by rw [Hst.out]; rfl)
          go_wp2_with fail
          go_roundw
          case rel => exact ⟨k + 1, out, rfl, hlt, hsn, hown, hR, hst, hb, hsz, by omega, Hst2⟩
          case measure =>
            show l.length - kOf (.int .i64 ((k + 1 : Nat) : Int)) < l.length - kOf (.int .i64 (k : Int))
            simp only [kOf, Int.toNat_natCast]
            omega
        | true =>
          obtain ⟨w3, hput, hs3, hg3⟩ := seen_put hsn (x := x) (by omega) (by omega)
          have hne : ∀ {j : Nat} {t : TypeId} {cs : Array Value}, Blk wr j t cs → some j ≠ some w.heap.size := fun hx e => by injection e with e; exact seen_ne hsn hx e.symm
          have hR3 := hR.grown hg3 (hne hR)
          have hst3 := hst.keep (w' := w3) (fun j hj => hg3.block j (Nat.lt_of_lt_of_le (hS j hj) hb.size) (fun e => by injection e with e; have := hS j hj; omega))
          have hb3 : Below w.heap.size w w3 := hb.grown hg3 hb.size (fun k hk => by injection hk with hk; omega)
          have hown3 := own_keepT hown (w' := w3) (fun g cur hx => (hg3.block g (heap_lt hx) (hne hx)).trans hx)
          have hsz3 : w1.heap.size ≤ w3.heap.size := Nat.le_trans hsz hg3.size
          have own2 : (w3.alloc (.cells #[.string (bs x)] 9)).ownsRow w1.heap.size 9 1 u6 out.length (strCells out) := own_keepT hown3 (KeepT.below ((Below.refl _ _).alloc (Nat.le_refl _) _))
          have Hst2 := Lib.hid (show firstsG cl (l.drop (k + 1)) (out ++ [x]) = firstsG cl l [] by rw [Hst.out]; rfl)
          clear hg3 hne hlook hown hown3 hsn hR hst hb
          go_wp2_with (first
            | (at_builtin; refine wpList_append_any _ rfl (.tmp 28) (.tmp 30) 22 rfl w1.heap.size 9 i0 _ 1 16 Tryz.underlying22 hi hz0 hz1 hzb rfl (by omega) u6 out.length (strCells out) rfl own2 _ _ 1 1 [.string (bs x)] rfl (reads_row w3 9 [.string (bs x)] 1 1 rfl) (by simp [Value.oneCell']) (by unfold maxLen; omega) (by omega) (by rw [alloc_size]; omega) ?_; intro v4 w4 hown4 hg4 hat4))
          have hgv : ∀ j, j < w1.heap.size → u6.ownBlock ≠ some j := fun j hj e => by have := (own2.lt j e).1; omega
          have hb4 : Below w1.heap.size w3 w4 := (((Below.refl _ w3).mono hsz3).alloc hsz3 _).grown hg4 (by rw [alloc_size]; omega) (fun k hk => by
            rcases Nat.lt_or_ge k w1.heap.size with h | h
            · exact absurd hk (hgv k h)
            · exact h)
          go_roundw
          case rel =>
            refine ⟨k + 1, out ++ [x], rfl, hlt, ?_, ?_, hR3.below hb4 hbase, hst3.keep (fun j hj => hb4.block j (by have := hS j hj; omega)), hb3.trans (hb4.mono (by omega)), Nat.le_trans hsz3 hb4.size, by simp; omega, Hst2⟩
            · rw [List.length_append, List.length_singleton]
              exact seen_kept hs3 (hb4.block _ (by omega))
            · rw [List.length_append, List.length_singleton, show strCells (out ++ [x]) = strCells out ++ [.string (bs x)] by simp [strCells]]
              exact hown4
          case measure =>
            show l.length - kOf (.int .i64 ((k + 1 : Nat) : Int)) < l.length - kOf (.int .i64 (k : Int))
            simp only [kOf, Int.toNat_natCast]
            omega
    · have t0 : ¬ ((k : Int) < (l.length : Int)) := by omega
      have Hst := Lib.hid (show out = firstsG cl l [] by rw [← Hk.out, List.drop_of_length_le (by omega)]; rfl)
      obtain ⟨A9, c9, rfl⟩ := own_slice hown
      have hstr := strs_of_own hown
      have hcap := (own_le hown).2
      have hlt9 : ∀ k, (Value.slice A9 out.length c9).ownBlock = some k → k < wr.heap.size := fun k hk => (hown.lt k hk).2
      have hjl := joinL_len [32] v.length out (fun x hx => by
        rw [Hst.out] at hx
        rcases HFM.out x hx with h | h
        · simp at h
        · exact hlm x h)
      have hjb : (joinL [32] out).length ≤ 140737488355328 := by
        have h1 : out.length * (v.length + [32].length) ≤ 500001 * 500001 := Nat.mul_le_mul (by omega) (by simp; omega)
        have h2 : 500001 * 500001 ≤ 140737488355328 := by decide
        omega
      clear hown hjl
      go_wp2_with fail
      refine (join_u [32] hstr hlt9 (by omega) hcap hjb).mono ?_
      rintro e5 w5 ⟨rfl, hb5⟩
      go_wp2_with fail
      go_ret
      exact ⟨by rw [HC.out, ← Hst.out]; rfl, hb.trans (hb5.mono hb.size)⟩
end Go.Proofs.YtlgaeeedkihfpaaGreatDoor.Uf

/-
  How long filtered styles and classes are (plain).
-/
namespace Go.Proofs.YtlgaeeedkihfpaaGreatDoor.Uf
open Go.RowKit
open Tz (B splitL cutL joinL lastsL pairsL filterS firstsG classesS)

theorem joinL_sum (sep : B) : ∀ l : List B, (joinL sep l).length ≤ (l.map List.length).sum + l.length * sep.length
  | [] => by simp [joinL]
  | [x] => by simp [joinL]
  | x :: y :: r => by
    have h := joinL_sum sep (y :: r)
    have e : joinL sep (x :: y :: r) = x ++ sep ++ joinL sep (y :: r) := rfl
    rw [e, List.length_append, List.length_append, List.map_cons, List.sum_cons, List.length_cons, Nat.succ_mul]
    omega
theorem split_sum (c : UInt8) : ∀ s : B, ((splitL c s).map List.length).sum ≤ s.length
  | [] => by simp [splitL]
  | x :: s => by
    have ih := split_sum c s
    unfold splitL
    split
    · simp; omega
    · cases h : splitL c s with
      | nil => simp
      | cons a t => rw [h] at ih; simp at ih ⊢; omega
def pW (x : B × B) : Nat := x.1.length + x.2.length
theorem pairsG_sum : ∀ l : List B, ((pairsG l).map pW).sum ≤ (l.map List.length).sum
  | [] => by simp [pairsG]
  | x :: l => by
    have ih := pairsG_sum l
    have e : pairsG (x :: l) = (match cutL 58 x with | some (a, b) => [(Tz.bareL a, Tz.bareL b)] | none => []) ++ pairsG l := by
      rw [show x :: l = [x] ++ l from rfl, pairsG_app]
      congr 1
      unfold pairsG
      cases h : cutL 58 x <;> simp [h]
    rw [e]
    cases h : cutL 58 x with
    | none => simp; omega
    | some ab =>
      obtain ⟨a, b⟩ := ab
      have h1 := cut_len h
      have h2 := bare_len a
      have h3 := bare_len b
      simp [pW]
      omega
theorem lasts_sum : ∀ l : List (B × B), ((lastsL l).map pW).sum ≤ (l.map pW).sum
  | [] => by simp [lastsL]
  | x :: r => by
    have ih := lasts_sum r
    unfold lastsL
    split <;> simp <;> omega
theorem filter_sum (p : B × B → Bool) : ∀ l : List (B × B), ((l.filter p).map pW).sum ≤ (l.map pW).sum
  | [] => by simp
  | x :: r => by
    have ih := filter_sum p r
    rw [List.filter_cons]
    split <;> simp <;> omega
theorem line_sum : ∀ l : List (B × B), ((l.map fun x => x.1 ++ [58, 32] ++ x.2).map List.length).sum = (l.map pW).sum + 2 * l.length
  | [] => by simp
  | x :: r => by
    have ih := line_sum r
    simp only [List.map_cons, List.sum_cons, List.length_cons, ih]
    simp [pW]
    omega
theorem filterS_len (s : B) (props : List B) : (filterS s props).length ≤ 5 * s.length + 4 := by
  unfold filterS
  refine Nat.le_trans (joinL_sum _ _) ?_
  rw [line_sum, List.length_map]
  have h1 := lasts_sum ((pairsL s).filter fun x => props.contains x.1 && Tz.styleV x.2)
  have h2 := filter_sum (fun x => props.contains x.1 && Tz.styleV x.2) (pairsL s)
  have h3 : ((pairsL s).map pW).sum ≤ s.length := Nat.le_trans (pairsG_sum _) (split_sum 59 s)
  have h4 := lasts_len ((pairsL s).filter fun x => props.contains x.1 && Tz.styleV x.2)
  have h5 := List.length_filter_le (fun x => props.contains x.1 && Tz.styleV x.2) (pairsL s)
  have h6 := pairs_len s
  have h7 : ([59, 32] : B).length = 2 := rfl
  rw [h7]
  omega
theorem firsts_sum (l : List B) : ∀ r out : List B, ((firstsG l r out).map List.length).sum ≤ (out.map List.length).sum + (r.map List.length).sum
  | [], out => by simp [firstsG]
  | c :: r, out => by
    unfold firstsG
    split
    · have := firsts_sum l r (out ++ [c]); simp at this ⊢; omega
    · have := firsts_sum l r out; simp; omega
theorem classesS_len (v : B) (l : List B) : (classesS v l).length ≤ 2 * v.length + 1 := by
  unfold classesS
  refine Nat.le_trans (joinL_sum _ _) ?_
  have h1 := firsts_sum l (splitL 32 v) []
  have h2 := split_sum 32 v
  have h3 := firsts_len l (splitL 32 v) []
  have h4 := split_len 32 v
  have h7 : ([32] : B).length = 1 := rfl
  rw [h7]
  simp only [List.map_nil, List.sum_nil, List.length_nil] at h1 h3
  omega
end Go.Proofs.YtlgaeeedkihfpaaGreatDoor.Uf

/-
  san's cleaner: attr.
-/
namespace Go.Proofs.YtlgaeeedkihfpaaGreatDoor.Uf
open Go.RowKit
open Tz (B Atr Pol attrS)

theorem cattr_ret {tmps : Array Value} {w1 : World} {g : Nat} {cs : Array Value} (hp : tmps.getD 6 undef = .pointer (some ⟨g, 0, none⟩)) (hg : w1.heap[g]? = some (.cells cs 57 (0, 0))) (hi : (Tryz.prog.info? 57).map (·.size) = some cs.size) :
    (results Tryz.f100 tmps).run Tryz.prog w1 = .ok (.tuple #[.agg cs, tmps.getD 7 undef]) w1 := by
  rw [results_cell_tmp (show Tryz.f100.results = #[.cell 6 57, .tmp 7] from rfl), hp]
  simp [asAddr, run_loadVar_row w1 g 57 57 cs (0, 0) _ hg Tryz.underlying57 rfl hi]
set_option maxRecDepth 100000 in
set_option maxHeartbeats 8000000 in
theorem cattr_u {w : World} {S : Nat → Prop} {cs : Array Value} {p : Pol} {m : Int} (e : B) (a : Atr) (h : PolV w S cs p) (hp : PolSmall p) (hm : w.cell? ⟨0, 0, none⟩ = some (.int .i64 m)) (hl : e.length + a.name.length + a.val.length ≤ 95000) :
    Calls Tryz.prog 100 #[.agg cs, .string (bs e), atrV a] w fun e' w' => ∃ b ok, e' = .returned (.tuple #[atrV b, .bool ok]) ∧ attrS p e a = (if ok = true then some b else none) ∧ Below w.heap.size w w' := by
  have hcs := pol_cells h
  obtain ⟨A1, c1, A2, c2, A3, c3, A4, c4, A5, c5, ⟨k0, k1, k2, k3, k4, k5, k6, k7, k8⟩, h1, h2, h3, h4, h5, h6⟩ := h.cells
  have hsz : cs.size = 9 := by
    obtain ⟨_, _, _, _, _, _, _, _, _, _, rfl, _⟩ := h
    rfl
  have hi24 : (Tryz.prog.info? 24).map (·.size) = some cs.toList.length := by simp only [Array.length_toList]; rw [hsz]; kernel_rfl
  have hb : Below w.heap.size w (((w.alloc (.cells cs 94)).alloc (.cells #[.string (bs a.name), .string (bs a.val)] 57)).alloc (.cells #[.string ⟨#[]⟩, .string ⟨#[]⟩] 57)) := (((Below.refl _ w).alloc (Nat.le_refl _) _).alloc (by rw [alloc_size]; omega) _).alloc (by simp only [alloc_size]; omega) _
  have hP : Blk (((w.alloc (.cells cs 94)).alloc (.cells #[.string (bs a.name), .string (bs a.val)] 57)).alloc (.cells #[.string ⟨#[]⟩, .string ⟨#[]⟩] 57)) w.heap.size 94 cs := Blk.alloc (Blk.alloc (Blk.new w 94 cs) _) _
  have hQ : Blk (((w.alloc (.cells cs 94)).alloc (.cells #[.string (bs a.name), .string (bs a.val)] 57)).alloc (.cells #[.string ⟨#[]⟩, .string ⟨#[]⟩] 57)) (w.heap.size + 1) 57 #[.string (bs a.name), .string (bs a.val)] := by
    have := Blk.new (w.alloc (.cells cs 94)) 57 #[.string (bs a.name), .string (bs a.val)]
    rw [alloc_size] at this
    exact Blk.alloc this _
  have hT : Blk (((w.alloc (.cells cs 94)).alloc (.cells #[.string (bs a.name), .string (bs a.val)] 57)).alloc (.cells #[.string ⟨#[]⟩, .string ⟨#[]⟩] 57)) (w.heap.size + 1 + 1) 57 #[.string (bs []), .string (bs [])] := by
    have := Blk.new ((w.alloc (.cells cs 94)).alloc (.cells #[.string (bs a.name), .string (bs a.val)] 57)) 57 #[.string (bs []), .string (bs [])]
    simp only [alloc_size] at this
    exact this
  have hV := h.keep hb
  have hmV := hm_below hm hb
  clear k0 k1 k2 k3 k6 k7 k8 h1 h2 h3
  unfold atrV
  go_enter Tryz.func100, Tryz.ntmps100
  apply wp_seq_k
  intro K hK
  have HK := Lib.hid hK
  clear hK
  go_wp2_with fail
  refine HK.out _ _ ?_
  clear HK K hcs
  generalize (((w.alloc (.cells cs 94)).alloc (.cells #[.string (bs a.name), .string (bs a.val)] 57)).alloc (.cells #[.string ⟨#[]⟩, .string ⟨#[]⟩] 57)) = V at hb hP hQ hT hV hmV ⊢
  apply wp_seq_k
  intro K hK
  have hmid : ∀ (u8 u9 u10 u11 u12 u13 u14 u15 u16 u17 u18 u19 u20 u21 u22 u23 u24 u25 u26 u27 u28 u29 u30 : Value) (b : Atr) (V2 : World), Blk V2 w.heap.size 94 cs → Blk V2 (w.heap.size + 1) 57 #[.string (bs b.name), .string (bs b.val)] → Blk V2 (w.heap.size + 1 + 1) 57 #[.string (bs []), .string (bs [])] → Below w.heap.size w V2 →
      attrS p e a = (if Tz.valueP p e b = true then some b else none) → e.length + b.name.length + b.val.length ≤ 500000 → K ⟨#[.agg cs, .string (bs e), .agg #[.string (bs a.name), .string (bs a.val)], .pointer (some ⟨w.heap.size, 0, none⟩), undef, .pointer (some ⟨w.heap.size + 1, 0, none⟩), .pointer (some ⟨w.heap.size + 1 + 1, 0, none⟩), .bool false, u8, u9, u10, u11, u12, u13, u14, u15, u16, u17, u18, u19, u20, u21, u22, u23, u24, u25, u26, u27, u28, u29, u30, undef, undef, undef, undef, undef, undef], []⟩ V2 := by
    intro u8 u9 u10 u11 u12 u13 u14 u15 u16 u17 u18 u19 u20 u21 u22 u23 u24 u25 u26 u27 u28 u29 u30 b V2 hP hQ hT hb hab hbl
    have hV := h.keep hb
    have hmV := hm_below hm hb
    refine hK _ _ ?_
    clear hK K
    go_wp2_with fail
    have hbd := below_drew hb
    obtain ⟨ι, hne, F, hF, hcov⟩ := class_of (fun Y => Blk Y w.heap.size 94 cs ∧ Blk Y (w.heap.size + 1) 57 #[.string (bs b.name), .string (bs b.val)]) V2.drew ⟨hP, hQ⟩
    have r0 : ∀ i, (F i).cell? ⟨w.heap.size + 1, 0, none⟩ = some (.string (bs b.name)) := fun i => Blk.cell (hF i).2 0
    have r1 : ∀ i, (F i).cell? ⟨w.heap.size + 1, 1, none⟩ = some (.string (bs b.val)) := fun i => Blk.cell (hF i).2 1
    have hS0 := hcov V2.drew ⟨hP, hQ⟩
    refine wp_region_every 2 6 (S := fun X => ∃ i, X = F i) (by kernel_rfl) (by kernel_rfl) (fun _ _ _ _ _ h => h) hS0 ?_
    have hPd : Blk V2.drew w.heap.size 94 cs := hP
    have hQd : Blk V2.drew (w.heap.size + 1) 57 #[.string (bs b.name), .string (bs b.val)] := hQ
    have hTd : Blk V2.drew (w.heap.size + 1 + 1) 57 #[.string (bs []), .string (bs [])] := hT
    have hVd : PolV V2.drew S cs p := hV.keep (below_drew (Below.refl _ _))
    have hmd : V2.drew.cell? ⟨0, 0, none⟩ = some (.int .i64 m) := hmV
    clear hP hQ hT hV hmV hb
    generalize V2.drew = Vd at hPd hQd hTd hVd hmd hbd hS0 ⊢
    dsimp only [List.take, List.drop]
    repeat (go_big_quiet_step (fail))
    refine wpQuiet_nil ?_
    refine wpAnyZ_pure (i := 3) (F := 5) hS0 rfl (by kernel_rfl) (by kernel_rfl) (fun _ _ _ _ _ h => h) ?_
    go_big_quiet_step (fail)
    refine wpQuiet_nil ?_
    refine wpAnyZ_pure (i := 4) (F := 4) hS0 rfl (by kernel_rfl) (by kernel_rfl) (fun _ _ _ _ _ h => h) ?_
    go_big_quiet_step (fail)
    refine wpQuiet_nil ?_
    refine wpAnyZ_one (i := 2) (F := 3) hS0 (by kernel_rfl) rfl (fun K hK => ?_)
    rw [if_pos (by rfl)]
    refine wp_load_at 24 (.tmp 32) rfl ⟨w.heap.size, 0, none⟩ rfl cs.toList _ (fun j u hj => by rw [add_mid, Nat.zero_add]; exact (Blk.cell hPd j).trans (by simpa using hj)) Tryz.underlying24 rfl hi24 ?_
    refine hK.out _ _ hS0 ?_
    clear hK K
    try simp only [Act.put, List.setIfInBounds_toArray, List.set_cons_zero, List.set_cons_succ, Array.toArray_toList]
    refine wpAnyZ_one (i := 5) (F := 2) hS0 (by kernel_rfl) rfl (fun K hK => ?_)
    go_simp
    refine (value_u (w := Vd) e b hVd hp hmd hbl).mono ?_
    rintro e3 V3 ⟨rfl, hb3⟩
    have hP3 := hPd.below hb3 (heap_lt hPd)
    have hQ3 := hQd.below hb3 (heap_lt hQd)
    have hT3 := hTd.below hb3 (heap_lt hTd)
    have hS3 := hcov V3 ⟨hP3, hQ3⟩
    have hbw3 := hbd.trans (hb3.mono hbd.size)
    refine hK.out _ _ hS3 ?_
    clear hK K
    try simp only [Act.put, List.setIfInBounds_toArray, List.set_cons_zero, List.set_cons_succ]
    have hnPT : w.heap.size ≠ w.heap.size + 1 + 1 := by omega
    have hnQT : w.heap.size + 1 ≠ w.heap.size + 1 + 1 := by omega
    have hP4 : Blk (V3.setRow (w.heap.size + 1 + 1) #[.string (bs b.name), .string (bs b.val)]) w.heap.size 94 cs := (setRow_other _ _ _ _ hnPT).trans hP3
    have hQ4 : Blk (V3.setRow (w.heap.size + 1 + 1) #[.string (bs b.name), .string (bs b.val)]) (w.heap.size + 1) 57 #[.string (bs b.name), .string (bs b.val)] := (setRow_other _ _ _ _ hnQT).trans hQ3
    have hT4 := setRow_heap V3 (w.heap.size + 1 + 1) _ #[.string (bs b.name), .string (bs b.val)] 57 (0, 0) hT3
    have hb4 : Below w.heap.size w (V3.setRow (w.heap.size + 1 + 1) #[.string (bs b.name), .string (bs b.val)]) := below_setRow hbw3 (by omega) _
    have hS4 := hcov _ ⟨hP4, hQ4⟩
    refine wpAnyZ_one (i := 6) (F := 1) hS3 (by kernel_rfl) rfl (fun K hK => ?_)
    rw [if_pos (by rfl)]
    refine wp_store_at 57 (.tmp 6) (.tmp 31) rfl (w.heap.size + 1 + 1) 0 #[.string (bs b.name), .string (bs b.val)] rfl rfl 57 _ hT3 (by kernel_rfl) (by simp) (by simp [Value.oneCell']) ?_
    refine hK.out _ _ hS4 ?_
    clear hK K
    try simp only [Act.put, List.setIfInBounds_toArray, List.set_cons_zero, List.set_cons_succ]
    refine wpAnyZ_one (i := 7) (F := 0) hS4 (by kernel_rfl) rfl (fun K hK => ?_)
    go_simp
    refine hK.out _ _ hS4 ?_
    clear hK K
    try simp only [Act.put, List.setIfInBounds_toArray, List.set_cons_zero, List.set_cons_succ]
    refine wpAnyZ_end (by kernel_rfl) ?_
    go_wp2_with fail
    refine bodyPost_ret (cattr_ret (g := w.heap.size + 1 + 1) (cs := #[.string (bs b.name), .string (bs b.val)]) rfl hT4 (by kernel_rfl)) rfl ?_
    exact ⟨b, Tz.valueP p e b, rfl, hab, hb4⟩
  have q0 : V.cell? ⟨w.heap.size + 1, 0, none⟩ = some (.string (bs a.name)) := Blk.cell hQ 0
  have q1 : V.cell? ⟨w.heap.size + 1, 1, none⟩ = some (.string (bs a.val)) := Blk.cell hQ 1
  clear hK
  have q3 : V.cell? ⟨w.heap.size, 5, none⟩ = some (.slice A5 p.props.length c5) := (Blk.cell hP 5).trans k5
  have q4 : V.cell? ⟨w.heap.size, 4, none⟩ = some (.slice A4 p.classes.length c4) := (Blk.cell hP 4).trans k4
  obtain ⟨nm, vl⟩ := a
  simp only at q0 q1 hl
  by_cases hrel : nm = [114, 101, 108]
  · subst hrel
    clear hmid
    have hQ1 : V.heap[w.heap.size + 1]? = some (.cells #[.string (bs [114, 101, 108]), .string (bs vl)] 57 (0, 0)) := hQ
    have hT1 : V.heap[w.heap.size + 1 + 1]? = some (.cells #[.string (bs []), .string (bs [])] 57 (0, 0)) := hT
    have hT4 := setRow_heap V (w.heap.size + 1 + 1) _ #[.string (bs [114, 101, 108]), .string (bs vl)] 57 (0, 0) hT1
    have hb4 : Below w.heap.size w (V.setRow (w.heap.size + 1 + 1) #[.string (bs [114, 101, 108]), .string (bs vl)]) := below_setRow hb (by omega) _
    go_wp2_with (first
      | (with_reducible refine wpList_load_row rfl 57 (.tmp 5) rfl (w.heap.size + 1) rfl 57 #[.string (bs [114, 101, 108]), .string (bs vl)] (0, 0) _ hQ1 Tryz.underlying57 rfl (by kernel_rfl) ?_)
      | (with_reducible refine wpList_store_row rfl 57 (.tmp 6) (.tmp 12) rfl (w.heap.size + 1 + 1) #[.string (bs [114, 101, 108]), .string (bs vl)] rfl rfl 57 _ hT1 (by kernel_rfl) rfl (by simp [Value.oneCell']) ?_))
    refine bodyPost_ret (cattr_ret (g := w.heap.size + 1 + 1) (cs := #[.string (bs [114, 101, 108]), .string (bs vl)]) rfl hT4 (by kernel_rfl)) rfl ?_
    exact ⟨⟨[114, 101, 108], vl⟩, .inl ⟨rfl, rfl, hb4⟩⟩
  have grel : (nm == [114, 101, 108]) = false := by simpa using hrel
  by_cases hsty : nm = [115, 116, 121, 108, 101]
  · subst hsty
    have s1 := h5.keep (KeepS.below hb h6)
    go_wp2_with fail
    refine (filter_u (c := c5) vl s1 (fun j hj => Nat.lt_of_lt_of_le (h6 j hj) hb.size) (by have := hp.2.2.2.2.1; omega) (by omega) hmV).mono ?_
    have hlen := filterS_len vl p.props
    generalize hfz : Tz.filterS vl p.props = fz at hlen
    rintro e1 V1 ⟨rfl, hb1⟩
    have hP1 := hP.below hb1 (heap_lt hP)
    have hQ1 := hQ.below hb1 (heap_lt hQ)
    have hT1 := hT.below hb1 (heap_lt hT)
    have c1' : V1.cell? ⟨w.heap.size + 1, 1, none⟩ = some (.string (bs vl)) := Blk.cell hQ1 1
    have f1' := Blk.frozen hQ1 1
    have hb2 : Below w.heap.size w (V1.setCell ⟨w.heap.size + 1, 1, none⟩ (.string (bs fz))) := (hb.trans (hb1.mono hb.size)).setCell (by show w.heap.size ≤ w.heap.size + 1; omega) _
    have keep : ∀ j, j ≠ w.heap.size + 1 → (V1.setCell ⟨w.heap.size + 1, 1, none⟩ (.string (bs fz))).heap[j]? = V1.heap[j]? := fun j hj => Below.heap_setCell V1 ⟨w.heap.size + 1, 1, none⟩ _ j hj
    have HM := Lib.hid (hmid)
    have hQ2 : Blk (V1.setCell ⟨w.heap.size + 1, 1, none⟩ (.string (bs fz))) (w.heap.size + 1) 57 #[.string (bs [115, 116, 121, 108, 101]), .string (bs fz)] := Blk.set_ hQ1 1 _
    have hP2 := (keep w.heap.size (by omega)).trans hP1
    have hT2 := (keep (w.heap.size + 1 + 1) (by omega)).trans hT1
    have hat : attrS p e ⟨[115, 116, 121, 108, 101], vl⟩ = (if Tz.valueP p e ⟨[115, 116, 121, 108, 101], fz⟩ = true then some ⟨[115, 116, 121, 108, 101], fz⟩ else none) := by rw [← hfz]; rfl
    have HG := Lib.hid (And.intro hP2 (And.intro hQ2 (And.intro hT2 (And.intro hb2 hat))))
    clear keep hmid hP2 hQ2 hT2 hb2 hat hfz
    go_wp2_with fail
    exact HM.out _ _ _ _ _ _ _ _ _ _ _ _ _ _ _ _ _ _ _ _ _ _ _ ⟨[115, 116, 121, 108, 101], fz⟩ _ HG.out.1 HG.out.2.1 HG.out.2.2.1 HG.out.2.2.2.1 HG.out.2.2.2.2 (by simp at hl ⊢; omega)
  have gsty : (nm == [115, 116, 121, 108, 101]) = false := by simpa using hsty
  by_cases hcls : nm = [99, 108, 97, 115, 115]
  · subst hcls
    have s1 := h4.keep (KeepS.below hb h6)
    go_wp2_with fail
    refine (sclasses_u (c := c4) vl s1 (fun j hj => Nat.lt_of_lt_of_le (h6 j hj) hb.size) (by have := hp.2.2.2.1.1; omega) (by omega) hmV).mono ?_
    have hlen := classesS_len vl p.classes
    generalize hfz : Tz.classesS vl p.classes = fz at hlen
    rintro e1 V1 ⟨rfl, hb1⟩
    have hP1 := hP.below hb1 (heap_lt hP)
    have hQ1 := hQ.below hb1 (heap_lt hQ)
    have hT1 := hT.below hb1 (heap_lt hT)
    have c1' : V1.cell? ⟨w.heap.size + 1, 1, none⟩ = some (.string (bs vl)) := Blk.cell hQ1 1
    have f1' := Blk.frozen hQ1 1
    have hb2 : Below w.heap.size w (V1.setCell ⟨w.heap.size + 1, 1, none⟩ (.string (bs fz))) := (hb.trans (hb1.mono hb.size)).setCell (by show w.heap.size ≤ w.heap.size + 1; omega) _
    have keep : ∀ j, j ≠ w.heap.size + 1 → (V1.setCell ⟨w.heap.size + 1, 1, none⟩ (.string (bs fz))).heap[j]? = V1.heap[j]? := fun j hj => Below.heap_setCell V1 ⟨w.heap.size + 1, 1, none⟩ _ j hj
    have HM := Lib.hid (hmid)
    have hQ2 : Blk (V1.setCell ⟨w.heap.size + 1, 1, none⟩ (.string (bs fz))) (w.heap.size + 1) 57 #[.string (bs [99, 108, 97, 115, 115]), .string (bs fz)] := Blk.set_ hQ1 1 _
    have hP2 := (keep w.heap.size (by omega)).trans hP1
    have hT2 := (keep (w.heap.size + 1 + 1) (by omega)).trans hT1
    have hat : attrS p e ⟨[99, 108, 97, 115, 115], vl⟩ = (if Tz.valueP p e ⟨[99, 108, 97, 115, 115], fz⟩ = true then some ⟨[99, 108, 97, 115, 115], fz⟩ else none) := by rw [← hfz]; rfl
    have HG := Lib.hid (And.intro hP2 (And.intro hQ2 (And.intro hT2 (And.intro hb2 hat))))
    clear keep hmid hP2 hQ2 hT2 hb2 hat hfz
    go_wp2_with fail
    exact HM.out _ _ _ _ _ _ _ _ _ _ _ _ _ _ _ _ _ _ _ _ _ _ _ ⟨[99, 108, 97, 115, 115], fz⟩ _ HG.out.1 HG.out.2.1 HG.out.2.2.1 HG.out.2.2.2.1 HG.out.2.2.2.2 (by simp at hl ⊢; omega)
  have gcls : (nm == [99, 108, 97, 115, 115]) = false := by simpa using hcls
  have hat : attrS p e ⟨nm, vl⟩ = (if Tz.valueP p e ⟨nm, vl⟩ = true then some ⟨nm, vl⟩ else none) := by
    unfold attrS
    show (if nm = [114, 101, 108] then none else _) = _
    rw [if_neg hrel]
    show (if Tz.valueP p e (if nm = [115, 116, 121, 108, 101] then _ else if nm = [99, 108, 97, 115, 115] then _ else _) = true then some (if nm = [115, 116, 121, 108, 101] then _ else if nm = [99, 108, 97, 115, 115] then _ else _) else none) = _
    rw [if_neg hsty, if_neg hcls]
  have HM := Lib.hid (hmid)
  have HG := Lib.hid (And.intro hP (And.intro hQ (And.intro hT (And.intro hb hat))))
  clear hmid hat hrel hsty hcls hP hQ hT hb
  go_wp2_with fail
  exact HM.out _ _ _ _ _ _ _ _ _ _ _ _ _ _ _ _ _ _ _ _ _ _ _ ⟨nm, vl⟩ _ HG.out.1 HG.out.2.1 HG.out.2.2.1 HG.out.2.2.2.1 HG.out.2.2.2.2 (by simp; omega)
end Go.Proofs.YtlgaeeedkihfpaaGreatDoor.Uf
