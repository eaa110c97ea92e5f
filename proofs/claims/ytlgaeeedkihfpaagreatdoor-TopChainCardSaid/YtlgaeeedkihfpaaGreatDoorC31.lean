/-
  Texts of the proof of Chain, one behind the other: SanD, SanE, WtC, SegD, SanF, SanG.
-/
import Derived.Test.YtlgaeeedkihfpaaGreatDoorC30
import Derived.Test.YtlgaeeedkihfpaaGreatDoorC29
/-
  san.put: a node behind those that stand.
-/
namespace Go.Proofs.YtlgaeeedkihfpaaGreatDoor.Uf
open Go.RowKit
open Tz (B Atr Nod putS)

/-- A list of nodes under way: its own row, its nodes' rows in S. -/
structure OutN (w : World) (base : Nat) (S : Nat → Prop) (v : Value) (out : List Nod) (ys : List Value) : Prop where
  own : w.ownsRow base 61 4 v out.length ys
  nod : NodsC w S out ys
  nS : ∀ g, v.ownBlock = some g → ¬ S g
  lt : ∀ g, S g → g < w.heap.size
theorem OutN.grown_ {w wa wc : World} {base : Nat} {S : Nat → Prop} {v v2 : Value} {out : List Nod} {ys y : List Value} {n : Nod} (h : OutN w base S v out ys) (hn : NodC w S n y) (hb : Below w.heap.size w wa) (hg : wa.grownBy wc v.ownBlock) (hown : wc.ownsRow base 61 4 v2 (out.length + 1) (ys ++ y)) (hat : v2.ownBlock = v.ownBlock ∨ v2.ownBlock = some wa.heap.size) :
    OutN wc base S v2 (out ++ [n]) (ys ++ y) ∧ (v2.ownBlock = v.ownBlock ∨ ∀ j, v2.ownBlock = some j → w.heap.size ≤ j) ∧ Only (fun j => v.ownBlock = some j) w wc := by
  have hk : KeepS S w wc := fun g hg' => (hg.block g (Nat.lt_of_lt_of_le (h.lt g hg') hb.size) (fun e => h.nS g e.symm hg')).trans (hb.block g (h.lt g hg'))
  refine ⟨⟨by rw [List.length_append, List.length_singleton]; exact hown, (NodsC.keep hk _ _ h.nod).app (NodsC.one (NodC.keep hk _ _ hn)), fun g hg' => ?_, fun g hg' => Nat.lt_of_lt_of_le (h.lt g hg') (Nat.le_trans hb.size hg.size)⟩, ?_, ?_⟩
  · rcases hat with e | e
    · exact h.nS g (e ▸ hg')
    · rw [e] at hg'
      injection hg' with hg'
      intro hs
      have := h.lt g hs
      have := hb.size
      omega
  · rcases hat with e | e
    · exact .inl e
    · refine .inr (fun j hj => ?_)
      rw [e] at hj
      injection hj with hj
      have := hb.size
      omega
  · exact ⟨hg.os.trans hb.os, hg.tape.trans hb.tape, hg.output.trans hb.output, Nat.le_trans hb.size hg.size, fun k hk' hne => (hg.block k (Nat.lt_of_lt_of_le hk' hb.size) (fun e => hne e.symm)).trans (hb.block k hk')⟩
theorem putS_named {out : List Nod} {n : Nod} (h : n.name ≠ []) : putS out n = out ++ [n] := by unfold putS; rw [if_pos h]
theorem putS_empty {out : List Nod} {n : Nod} (h : n.name = []) (h2 : n.text = []) : putS out n = out := by unfold putS; rw [if_neg (by simp [h]), if_pos h2]

set_option maxRecDepth 100000 in
set_option maxHeartbeats 4000000 in
theorem putn_named {w : World} {base : Nat} {S : Nat → Prop} {v : Value} {out : List Nod} {ys y : List Value} {n : Nod} (h : OutN w base S v out ys) (hn : NodC w S n y) (hbase : base ≤ w.heap.size) (ho : out.length ≤ 180000000) (hnm : n.name ≠ []) :
    Calls Tryz.prog 76 #[v, .agg y.toArray] w fun e w' => ∃ v' ys', e = .returned v' ∧ OutN w' base S v' (putS out n) ys' ∧ (v'.ownBlock = v.ownBlock ∨ ∀ j, v'.ownBlock = some j → w.heap.size ≤ j) ∧ Only (fun j => v.ownBlock = some j) w w' := by
  rw [putS_named hnm]
  obtain ⟨i0, hi, hz0, hz1, hzb⟩ := info_parts info61
  obtain ⟨nm, at_, tx, kd⟩ := n
  have hn' := hn
  unfold NodC at hn'
  obtain ⟨A, ca, K, ck, zs, rfl, _⟩ := hn'
  simp only [Nod.name] at hnm
  obtain ⟨A0, c0, rfl⟩ := own_slice h.own
  have hG := fun (wa wc : World) (v2 : Value) => OutN.grown_ (wa := wa) (wc := wc) (v2 := v2) h hn
  have HG := Lib.hid hG
  have hown := h.own
  have en : (nm == ([] : B)) = false := by simpa using hnm
  have hw1 : IntKind.i64.wrap ((out.length : Int) - 1) = (out.length : Int) - 1 := by rw [IntKind.wrap_i64]; omega
  clear hG h hn hnm
  have hB1 : (w.alloc (.cells #[.string (bs nm), .slice A at_.length ca, .string (bs tx), .slice K kd.length ck] 61)).heap[w.heap.size]? = some (.cells #[.string (bs nm), .slice A at_.length ca, .string (bs tx), .slice K kd.length ck] 61 (0, 0)) := Blk.new w 61 _
  have q0 : (w.alloc (.cells #[.string (bs nm), .slice A at_.length ca, .string (bs tx), .slice K kd.length ck] 61)).cell? ⟨w.heap.size, 0, none⟩ = some (.string (bs nm)) := Blk.cell hB1 0
  have hb1 : Below w.heap.size w (w.alloc (.cells #[.string (bs nm), .slice A at_.length ca, .string (bs tx), .slice K kd.length ck] 61)) := (Below.refl _ w).alloc (Nat.le_refl _) _
  have own1 := own_keepT hown (KeepT.below hb1)
  go_enter Tryz.func76, Tryz.ntmps76
  apply wp_seq_k
  intro K' hK
  have HK := Lib.hid hK
  clear hK
  go_wp2_with fail
  refine HK.out _ _ ?_
  clear HK K'
  generalize w.alloc (.cells #[.string (bs nm), .slice A at_.length ca, .string (bs tx), .slice K kd.length ck] 61) = W at hB1 q0 hb1 own1 ⊢
  have hszW := hb1.size
  have hb2 : Below w.heap.size w (W.alloc (.cells #[.string (bs nm), .slice A at_.length ca, .string (bs tx), .slice K kd.length ck] 61)) := hb1.alloc hszW _
  have own2 : (W.alloc (.cells #[.string (bs nm), .slice A at_.length ca, .string (bs tx), .slice K kd.length ck] 61)).ownsRow base 61 4 (.slice A0 out.length c0) out.length ys := own_keepT own1 (KeepT.below ((Below.refl _ _).alloc (Nat.le_refl _) _))
  go_wp2_with (first
    | (with_reducible refine wpList_load_row rfl 61 (.tmp 3) rfl w.heap.size rfl 61 #[.string (bs nm), .slice A at_.length ca, .string (bs tx), .slice K kd.length ck] (0, 0) _ hB1 Tryz.underlying61 rfl (by kernel_rfl) ?_)
    | (at_builtin; refine wpList_append_any _ rfl (.tmp 13) (.tmp 15) 37 rfl base 61 i0 _ 4 80 Tryz.underlying37 hi hz0 hz1 hzb rfl (by omega) (.slice A0 out.length c0) out.length ys rfl own2 _ _ 1 1 [.string (bs nm), .slice A at_.length ca, .string (bs tx), .slice K kd.length ck] rfl (reads_row W 61 [.string (bs nm), .slice A at_.length ca, .string (bs tx), .slice K kd.length ck] 4 1 rfl) (by simp [Value.oneCell']) (by unfold maxLen; omega) (by omega) (by rw [alloc_size]; omega) ?_; intro v6 w6 hown6 hg6 hat6))
  go_ret
  have hfin := HG.out _ w6 v6 hb2 hg6 hown6 hat6
  exact ⟨v6, _, rfl, hfin.1, hfin.2.1, hfin.2.2⟩
set_option maxRecDepth 100000 in
set_option maxHeartbeats 4000000 in
theorem putn_empty {w : World} {base : Nat} {S : Nat → Prop} {v : Value} {out : List Nod} {ys y : List Value} {n : Nod} (h : OutN w base S v out ys) (hn : NodC w S n y) (ho : out.length ≤ 180000000) (hnm : n.name = []) (htx : n.text = []) :
    Calls Tryz.prog 76 #[v, .agg y.toArray] w fun e w' => e = .returned v ∧ Below w.heap.size w w' := by
  obtain ⟨nm, at_, tx, kd⟩ := n
  have hn' := hn
  unfold NodC at hn'
  obtain ⟨A, ca, K, ck, zs, rfl, _⟩ := hn'
  simp only [Nod.name] at hnm
  simp only [Nod.text] at htx
  subst hnm htx
  obtain ⟨A0, c0, rfl⟩ := own_slice h.own
  have en : (([] : B) == ([] : B)) = true := rfl
  have hw1 : IntKind.i64.wrap ((out.length : Int) - 1) = (out.length : Int) - 1 := by rw [IntKind.wrap_i64]; omega
  clear h hn
  have hB1 : Blk (w.alloc (.cells #[.string (bs []), .slice A at_.length ca, .string (bs []), .slice K kd.length ck] 61)) w.heap.size 61 #[.string (bs []), .slice A at_.length ca, .string (bs []), .slice K kd.length ck] := Blk.new w 61 _
  have q0 : (w.alloc (.cells #[.string (bs []), .slice A at_.length ca, .string (bs []), .slice K kd.length ck] 61)).cell? ⟨w.heap.size, 0, none⟩ = some (.string (bs [])) := Blk.cell hB1 0
  have q2 : (w.alloc (.cells #[.string (bs []), .slice A at_.length ca, .string (bs []), .slice K kd.length ck] 61)).cell? ⟨w.heap.size, 2, none⟩ = some (.string (bs [])) := Blk.cell hB1 2
  have hb1 : Below w.heap.size w (w.alloc (.cells #[.string (bs []), .slice A at_.length ca, .string (bs []), .slice K kd.length ck] 61)) := (Below.refl _ w).alloc (Nat.le_refl _) _
  go_enter Tryz.func76, Tryz.ntmps76
  apply wp_seq_k
  intro K' hK
  have HK := Lib.hid hK
  clear hK
  go_wp2_with fail
  refine HK.out _ _ ?_
  clear HK K'
  generalize w.alloc (.cells #[.string (bs []), .slice A at_.length ca, .string (bs []), .slice K kd.length ck] 61) = W at hB1 q0 q2 hb1 ⊢
  go_wp2_with fail
  go_ret
  exact ⟨rfl, hb1⟩
theorem last_cell {w : World} {base : Nat} {S : Nat → Prop} {A0 : Option Addr} {c0 : Nat} {out : List Nod} {ys : List Value} (h : OutN w base S (.slice A0 out.length c0) out ys) (j : Nat) (hj : j < out.length) : ∃ g, A0 = some ⟨g, 0, none⟩ ∧ w.cell? ⟨g, j * 4, none⟩ = some (.string (bs out[j].name)) := by
  obtain ⟨g, cap, hv, _, _⟩ := h.own.form (by omega)
  obtain rfl : A0 = some ⟨g, 0, none⟩ := by injection hv
  refine ⟨g, rfl, ?_⟩
  obtain ⟨y, hy, hyj⟩ := h.nod.at_ j hj
  have hl := h.nod.len
  refine (h.own.cellAt (j * 4) (by omega)).trans ?_
  rw [show j * 4 = j * 4 + 0 by omega, hyj 0 (by omega)]
  generalize out[j] = n at hy
  obtain ⟨nm, at_, tx, kd⟩ := n
  unfold NodC at hy
  obtain ⟨_, _, _, _, _, rfl, _⟩ := hy
  rfl
set_option maxRecDepth 100000 in
set_option maxHeartbeats 4000000 in
theorem putn_text {w : World} {base : Nat} {S : Nat → Prop} {v : Value} {out : List Nod} {ys y : List Value} {n : Nod} (h : OutN w base S v out ys) (hn : NodC w S n y) (hbase : base ≤ w.heap.size) (ho : out.length ≤ 180000000) (hnm : n.name = []) (htx : n.text ≠ []) (hlast : out = [] ∨ ∃ init x, out = init ++ [x] ∧ x.name ≠ []) :
    Calls Tryz.prog 76 #[v, .agg y.toArray] w fun e w' => ∃ v' ys', e = .returned v' ∧ OutN w' base S v' (out ++ [Tz.txt n.text]) ys' ∧ (v'.ownBlock = v.ownBlock ∨ ∀ j, v'.ownBlock = some j → w.heap.size ≤ j) ∧ Only (fun j => v.ownBlock = some j) w w' := by
  obtain ⟨i0, hi, hz0, hz1, hzb⟩ := info_parts info61
  obtain ⟨nm, at_, tx, kd⟩ := n
  have hn' := hn
  unfold NodC at hn'
  obtain ⟨A, ca, K, ck, zs, rfl, _⟩ := hn'
  simp only [Nod.name] at hnm
  simp only [Nod.text] at htx ⊢
  subst hnm
  obtain ⟨A0, c0, rfl⟩ := own_slice h.own
  have hG := fun (wa wc : World) (v2 : Value) => OutN.grown_ (wa := wa) (wc := wc) (v2 := v2) h (nodC_txt w S tx)
  have HG := Lib.hid hG
  have hown := h.own
  have en : (([] : B) == ([] : B)) = true := rfl
  have et : (tx == ([] : B)) = false := by simpa using htx
  have hw1 : IntKind.i64.wrap ((out.length : Int) - 1) = (out.length : Int) - 1 := by rw [IntKind.wrap_i64]; omega
  have hcl := fun j hj => last_cell h j hj
  have HCL := Lib.hid hcl
  clear hG h hn htx hcl
  have hB1 : Blk (w.alloc (.cells #[.string (bs []), .slice A at_.length ca, .string (bs tx), .slice K kd.length ck] 61)) w.heap.size 61 #[.string (bs []), .slice A at_.length ca, .string (bs tx), .slice K kd.length ck] := Blk.new w 61 _
  have q0 : (w.alloc (.cells #[.string (bs []), .slice A at_.length ca, .string (bs tx), .slice K kd.length ck] 61)).cell? ⟨w.heap.size, 0, none⟩ = some (.string (bs [])) := Blk.cell hB1 0
  have q2 : (w.alloc (.cells #[.string (bs []), .slice A at_.length ca, .string (bs tx), .slice K kd.length ck] 61)).cell? ⟨w.heap.size, 2, none⟩ = some (.string (bs tx)) := Blk.cell hB1 2
  have hb1 : Below w.heap.size w (w.alloc (.cells #[.string (bs []), .slice A at_.length ca, .string (bs tx), .slice K kd.length ck] 61)) := (Below.refl _ w).alloc (Nat.le_refl _) _
  have own1 := own_keepT hown (KeepT.below hb1)
  go_enter Tryz.func76, Tryz.ntmps76
  apply wp_seq_k
  intro K' hK
  have HK := Lib.hid hK
  clear hK
  go_wp2_with fail
  refine HK.out _ _ ?_
  clear HK K'
  generalize w.alloc (.cells #[.string (bs []), .slice A at_.length ca, .string (bs tx), .slice K kd.length ck] 61) = W at hB1 q0 q2 hb1 own1 ⊢
  have hszW := hb1.size
  have hb2 : Below w.heap.size w (W.alloc (.cells #[.string (bs []), .slice none 0 0, .string (bs tx), .slice none 0 0] 61)) := hb1.alloc hszW _
  have own2 : (W.alloc (.cells #[.string (bs []), .slice none 0 0, .string (bs tx), .slice none 0 0] 61)).ownsRow base 61 4 (.slice A0 out.length c0) out.length ys := own_keepT own1 (KeepT.below ((Below.refl _ _).alloc (Nat.le_refl _) _))
  clear hown own1
  rcases hlast with rfl | ⟨init, x, rfl, hx⟩
  · skip
    go_wp2_with (first
      | (at_builtin; refine wpList_append_any _ rfl (.tmp 44) (.tmp 48) 37 rfl base 61 i0 _ 4 80 Tryz.underlying37 hi hz0 hz1 hzb rfl (by omega) _ _ ys rfl own2 _ _ 1 1 [.string (bs []), .slice none 0 0, .string (bs tx), .slice none 0 0] rfl (reads_row W 61 [.string (bs []), .slice none 0 0, .string (bs tx), .slice none 0 0] 4 1 rfl) (by simp [Value.oneCell']) (by unfold maxLen; omega) (by omega) (by rw [alloc_size]; omega) ?_; intro v6 w6 hown6 hg6 hat6))
    go_ret
    have hfin := HG.out _ w6 v6 hb2 hg6 hown6 hat6
    exact ⟨v6, _, rfl, hfin.1, hfin.2.1, hfin.2.2⟩
  · have hlen : (init ++ [x]).length = init.length + 1 := by simp
    have hgx : (init ++ [x])[init.length]'(by simp) = x := by simp
    obtain ⟨g, rfl, hc⟩ := HCL.out init.length (by simp)
    rw [hgx] at hc
    have hgl : g < w.heap.size := World.block_lt_of_cell? w ⟨g, init.length * 4, none⟩ hc
    have hcW : W.cell? ⟨g, init.length * 4, none⟩ = some (.string (bs x.name)) := (hb1.cell (p := ⟨g, init.length * 4, none⟩) hgl).trans hc
    have ex : (x.name == ([] : B)) = false := by simpa using hx
    clear hc hgx HCL hx
    rw [hlen] at own2 hw1 ho ⊢
    have hw1 : IntKind.i64.wrap ((init.length : Int) + 1 - 1) = (init.length : Int) := by rw [IntKind.wrap_i64]; omega
    have t0 : (0 : Int) ≤ (init.length : Int) := by omega
    have t1 : (init.length : Int) < (init.length : Int) + 1 := by omega
    have t2 : init.length < init.length + 1 := by omega
    go_wp2_with (first
      | (at_builtin; refine wpList_append_any _ rfl (.tmp 44) (.tmp 48) 37 rfl base 61 i0 _ 4 80 Tryz.underlying37 hi hz0 hz1 hzb rfl (by omega) _ _ ys rfl own2 _ _ 1 1 [.string (bs []), .slice none 0 0, .string (bs tx), .slice none 0 0] rfl (reads_row W 61 [.string (bs []), .slice none 0 0, .string (bs tx), .slice none 0 0] 4 1 rfl) (by simp [Value.oneCell']) (by unfold maxLen; omega) (by omega) (by rw [alloc_size]; omega) ?_; intro v6 w6 hown6 hg6 hat6))
    go_ret
    rw [hlen] at HG
    have hfin := HG.out _ w6 v6 hb2 hg6 hown6 hat6
    exact ⟨v6, _, rfl, hfin.1, hfin.2.1, hfin.2.2⟩
set_option maxRecDepth 100000 in
set_option maxHeartbeats 4000000 in
theorem putn_join {w : World} {base : Nat} {S : Nat → Prop} {v : Value} {init : List Nod} {x : Nod} {ys y : List Value} {n : Nod} (h : OutN w base S v (init ++ [x]) ys) (hn : NodC w S n y) (ho : (init ++ [x]).length ≤ 180000000) (hnm : n.name = []) (htx : n.text ≠ []) (hx : x.name = []) (hbt : x.text.length + n.text.length ≤ 60000000000) :
    Calls Tryz.prog 76 #[v, .agg y.toArray] w fun e w' => ∃ ys', e = .returned v ∧ OutN w' base S v (init ++ [.mk x.name x.attrs (x.text ++ n.text) x.kids]) ys' ∧ Only (fun j => v.ownBlock = some j) w w' := by
  obtain ⟨nm, at_, tx, kd⟩ := n
  have hn' := hn
  unfold NodC at hn'
  obtain ⟨A, ca, K, ck, zs, rfl, _⟩ := hn'
  simp only [Nod.name] at hnm
  have hT : (Nod.mk nm at_ tx kd).text = tx := rfl
  rw [hT] at htx hbt ⊢
  clear hT
  subst hnm
  obtain ⟨g, cap, rfl, hbg, hgl⟩ := h.own.form (by simp)
  have hlen : (init ++ [x]).length = init.length + 1 := by simp
  obtain ⟨ys0, y0, rfl, hn0, hn1⟩ := h.nod.parts
  have hy0 := hn0.len
  unfold NodsC at hn1
  obtain ⟨y', ysn, rfl, hny, hnil⟩ := hn1
  unfold NodsC at hnil
  subst hnil
  rw [List.append_nil] at h
  obtain ⟨ya, yd, rfl, hnew⟩ := nodC_text hny (x.text ++ tx)
  have hown := h.own
  rw [hlen] at hown
  have c0 : w.cell? ⟨g, init.length * 4, none⟩ = some (.string (bs [])) := by
    have := hown.cellAt (init.length * 4) (by omega)
    rw [this, List.getElem?_append_right (by omega), hy0, Nat.sub_self, hx]
    rfl
  have c2 : w.cell? ⟨g, init.length * 4 + 2, none⟩ = some (.string (bs x.text)) := by
    have := hown.cellAt (init.length * 4 + 2) (by omega)
    rw [this, List.getElem?_append_right (by omega), hy0, show init.length * 4 + 2 - init.length * 4 = 2 by omega]
    rfl
  have hb1 : Below w.heap.size w (w.alloc (.cells #[.string (bs []), .slice A at_.length ca, .string (bs tx), .slice K kd.length ck] 61)) := (Below.refl _ w).alloc (Nat.le_refl _) _
  have own1 := own_keepT hown (KeepT.below hb1)
  have hB1 : Blk (w.alloc (.cells #[.string (bs []), .slice A at_.length ca, .string (bs tx), .slice K kd.length ck] 61)) w.heap.size 61 #[.string (bs []), .slice A at_.length ca, .string (bs tx), .slice K kd.length ck] := Blk.new w 61 _
  have q0 : (w.alloc (.cells #[.string (bs []), .slice A at_.length ca, .string (bs tx), .slice K kd.length ck] 61)).cell? ⟨w.heap.size, 0, none⟩ = some (.string (bs [])) := Blk.cell hB1 0
  have q2 : (w.alloc (.cells #[.string (bs []), .slice A at_.length ca, .string (bs tx), .slice K kd.length ck] 61)).cell? ⟨w.heap.size, 2, none⟩ = some (.string (bs tx)) := Blk.cell hB1 2
  have d0 := (hb1.cell (p := ⟨g, init.length * 4, none⟩) hgl).trans c0
  have d2 := (hb1.cell (p := ⟨g, init.length * 4 + 2, none⟩) hgl).trans c2
  have en : (([] : B) == ([] : B)) = true := rfl
  have et : (tx == ([] : B)) = false := by simpa using htx
  have hw1 : IntKind.i64.wrap ((init.length : Int) + 1 - 1) = (init.length : Int) := by rw [IntKind.wrap_i64]; omega
  have t0 : (0 : Int) ≤ (init.length : Int) := by omega
  have t1 : (init.length : Int) < (init.length : Int) + 1 := by omega
  have t2 : init.length < init.length + 1 := by omega
  have hap : bs x.text ++ bs tx = bs (x.text ++ tx) := bs_append _ _
  have hsz : ¬ (9223372036854775807 < (bs x.text).size + (bs tx).size) := by rw [bs_size, bs_size]; omega
  have hnS := h.nS
  have hltS := h.lt
  have HN := Lib.hid (And.intro hn0 hnew)
  rw [hlen]
  clear h hn hny hn0 hnew c0 c2 htx hx hown
  go_enter Tryz.func76, Tryz.ntmps76
  apply wp_seq_k
  intro K' hK
  have HK := Lib.hid hK
  clear hK
  go_wp2_with fail
  refine HK.out _ _ ?_
  clear HK K'
  generalize w.alloc (.cells #[.string (bs []), .slice A at_.length ca, .string (bs tx), .slice K kd.length ck] 61) = W at hB1 q0 q2 hb1 own1 d0 d2 ⊢
  go_wp2_with fail
  have e2 : W.drew.cell? ⟨g, init.length * 4 + 2, none⟩ = some (.string (bs x.text)) := d2
  have r2 : W.drew.cell? ⟨w.heap.size, 2, none⟩ = some (.string (bs tx)) := q2
  refine wp_region_tail 8 (by kernel_rfl) (by kernel_rfl) (fun _ _ _ _ _ h => h) ?_
  dsimp only [List.take, List.drop, Act.put]
  repeat (go_big_quiet_step (fail))
  refine wpQuiet_nil ?_
  have own3 : W.drew.ownsRow base 61 4 (.slice (some ⟨g, 0, none⟩) (init.length + 1) cap) (init.length + 1) (ys0 ++ [.string (bs x.name), ya, .string (bs x.text), yd]) := own1
  have hb3 := below_drew hb1
  have f2 : W.drew.frozen? ⟨g, init.length * 4 + 2, none⟩ = false := own3.frozenAt _
  clear own1 hb1 d0 d2 q0 q2 hB1
  generalize W.drew = V at own3 hb3 e2 r2 f2 ⊢
  go_wp2_with fail
  go_ret
  have hst := own3.stored (init.length * 4 + 2) (.string (bs (x.text ++ tx)))
  have hnx : ∀ j, S j → j ≠ g := fun j hj e => hnS g rfl (e ▸ hj)
  have hkS : KeepS S w (V.setCell ⟨g, init.length * 4 + 2, none⟩ (.string (bs (x.text ++ tx)))) := fun j hj => (Below.heap_setCell V ⟨g, init.length * 4 + 2, none⟩ _ j (hnx j hj)).trans (hb3.block j (hltS j hj))
  have hlen2 : (init ++ [Nod.mk x.name x.attrs (x.text ++ tx) x.kids]).length = init.length + 1 := by simp
  refine ⟨_, rfl, ⟨?_, (NodsC.keep hkS _ _ HN.out.1).app (NodsC.one (NodC.keep hkS _ _ HN.out.2)), hnS, fun j hj => Nat.lt_of_lt_of_le (hltS j hj) (by simpa [World.setCell] using hb3.size)⟩, ?_⟩
  · rw [hlen2]
    have := hst.1
    rw [List.set_append_right _ _ (by omega), hy0, show init.length * 4 + 2 - init.length * 4 = 2 by omega] at this
    exact this
  · have hO : Only (fun j => (Value.slice (some ⟨g, 0, none⟩) (init.length + 1) cap).ownBlock = some j) w V := ⟨hb3.os, hb3.tape, hb3.output, hb3.size, fun k hk _ => hb3.block k hk⟩
    exact hO.setCell (p := ⟨g, init.length * 4 + 2, none⟩) (fun _ => rfl) _
end Go.Proofs.YtlgaeeedkihfpaaGreatDoor.Uf

/-
  san.put, whole.
-/
namespace Go.Proofs.YtlgaeeedkihfpaaGreatDoor.Uf
open Go.RowKit
open Tz (B Atr Nod putS)

theorem OutN.below_ {w w' : World} {base : Nat} {S : Nat → Prop} {v : Value} {out : List Nod} {ys : List Value} (h : OutN w base S v out ys) (hb : Below w.heap.size w w') : OutN w' base S v out ys := by
  have hk := KeepS.below hb h.lt
  exact ⟨own_keepT h.own (KeepT.below hb), NodsC.keep hk _ _ h.nod, h.nS, fun g hg => Nat.lt_of_lt_of_le (h.lt g hg) hb.size⟩
theorem putn_u {w : World} {base : Nat} {S : Nat → Prop} {v : Value} {out : List Nod} {ys y : List Value} {n : Nod} (h : OutN w base S v out ys) (hn : NodC w S n y) (hbase : base ≤ w.heap.size) (ho : out.length ≤ 180000000) (ht : ∀ x ∈ out, x.text.length + n.text.length ≤ 60000000000) :
    Calls Tryz.prog 76 #[v, .agg y.toArray] w fun e w' => ∃ v' ys', e = .returned v' ∧ OutN w' base S v' (putS out n) ys' ∧ (v'.ownBlock = v.ownBlock ∨ ∀ j, v'.ownBlock = some j → w.heap.size ≤ j) ∧ Only (fun j => v.ownBlock = some j) w w' := by
  by_cases hnm : n.name = []
  · by_cases htx : n.text = []
    · refine (putn_empty h hn ho hnm htx).mono ?_
      rintro e w' ⟨rfl, hb⟩
      rw [putS_empty hnm htx]
      exact ⟨v, ys, rfl, h.below_ hb, .inl rfl, ⟨hb.os, hb.tape, hb.output, hb.size, fun k hk _ => hb.block k hk⟩⟩
    · have hput : putS out n = match Tz.joinK n.text out with | some k => k | none => out ++ [Tz.txt n.text] := by
        unfold putS
        rw [if_neg (by simp [hnm]), if_neg htx]
        rfl
      by_cases ho0 : out = []
      · have hj : Tz.joinK n.text out = none := by rw [ho0]; rfl
        rw [hput, hj]
        exact putn_text h hn hbase ho hnm htx (.inl ho0)
      · obtain ⟨init, x, rfl⟩ : ∃ init x, out = init ++ [x] := ⟨out.dropLast, out.getLast ho0, (List.dropLast_concat_getLast ho0).symm⟩
        by_cases hx : x.name = []
        · rw [hput, joinK_app, if_pos hx]
          refine (putn_join h hn ho hnm htx hx (ht x (by simp))).mono ?_
          rintro e w' ⟨ys', rfl, h1, h2⟩
          exact ⟨v, ys', rfl, h1, .inl rfl, h2⟩
        · rw [hput, joinK_app, if_neg hx]
          exact putn_text h hn hbase ho hnm htx (.inr ⟨init, x, rfl, hx⟩)
  · exact putn_named h hn hbase ho hnm
end Go.Proofs.YtlgaeeedkihfpaaGreatDoor.Uf

/-
  Weights of cleaned trees (plain).
-/
namespace Go.Proofs.YtlgaeeedkihfpaaGreatDoor.Uf
open Go.RowKit
open Tz (B Atr Nod Pol putS nodeS foldS attrS attrsS)

theorem attrS_w {p : Pol} {e : B} {a b : Atr} (h : attrS p e a = some b) : b.name.length + b.val.length + 1 ≤ 5 * (a.name.length + a.val.length + 1) := by
  have h1 := filterS_len a.val p.props
  have h2 := classesS_len a.val p.classes
  unfold attrS at h
  dsimp only at h
  repeat' split at h
  all_goals first
    | (cases h; done)
    | (injection h with h; subst h; dsimp only; omega)
    | (injection h with h; subst h; omega)
theorem outA_w (p : Pol) (e : B) : ∀ l : List Atr, aw (outA p e l) ≤ 5 * aw l
  | [] => by simp [outA, aw]
  | a :: l => by
    have ih := outA_w p e l
    unfold outA at ih ⊢
    rw [List.filterMap_cons]
    cases h : attrS p e a with
    | none => simp [aw] at ih ⊢; omega
    | some b =>
      have := attrS_w h
      simp [aw] at ih ⊢
      omega
theorem attrsS_w (p : Pol) (e : B) (l : List Atr) : aw (attrsS p e l) ≤ 5 * aw l + 21 := by
  rw [attrsS_eq]
  have := outA_w p e l
  split
  · rw [aw_app]
    have : aw [⟨Tz.relN, Tz.forced⟩] = 21 := by decide
    omega
  · omega
theorem putS_w (out : List Nod) (n : Nod) : nodsW (putS out n) ≤ nodsW out + nodW n := by
  unfold putS
  split
  · rw [nodsW_app]; simp [nodsW]
  · split
    · omega
    · have ht := nodW_text n
      split
      · rename_i k hk
        have := nodsW_join hk
        omega
      · rw [nodsW_app]
        obtain ⟨nm, a, tx, k⟩ := n
        simp [nodsW, Tz.txt, nodW, aw, Nod.text]
        omega
mutual
theorem nodeS_w (p : Pol) : ∀ (out : List Nod) (n : Nod), nodsW (nodeS p out n) ≤ nodsW out + 25 * nodW n
  | out, .mk n a t k => by
    unfold nodeS
    split
    · have := putS_w out (.mk n a t k); omega
    · split
      · omega
      · split
        · have h1 := putS_w out (.mk n (attrsS p n a) [] (foldS p [] k))
          have h2 := foldS_w p [] k
          have h3 := attrsS_w p n a
          simp [nodW, nodsW] at h1 h2 ⊢
          omega
        · have := foldS_w p out k
          simp [nodW]
          omega
theorem foldS_w (p : Pol) : ∀ (out : List Nod) (k : List Nod), nodsW (foldS p out k) ≤ nodsW out + 25 * nodsW k
  | out, [] => by simp [foldS]
  | out, n :: r => by
    have h1 := nodeS_w p out n
    have h2 := foldS_w p (nodeS p out n) r
    simp [foldS, nodsW] at h2 ⊢
    omega
end
end Go.Proofs.YtlgaeeedkihfpaaGreatDoor.Uf

/-
  A load of many cells in a region that draws its order.
-/
namespace Go.Proofs.YtlgaeeedkihfpaaGreatDoor.Uf
open Go.RowKit
theorem wpQuiet_load_row {P : Program} {ops : Array Oper} {C : World → Prop} {Q : Act → Prop} {a : Act} {o : Oper} {rest : List Oper} (hgd : o.guard = none) (ty : TypeId) (x : Operand) (ho : o.op = .load ty x)
    (g : Nat) (hx : a.eval x = .pointer (some ⟨g, 0, none⟩)) (t : TypeId) (cs : Array Value) (d : TypeDesc) (hg : ∀ w, C w → w.heap[g]? = some (.cells cs t (0, 0)))
    (hu : P.underlying ty = some d) (hd : (match d with | .struct _ | .array _ _ => true | _ => false) = true) (hi : (P.info? ty).map (·.size) = some cs.size)
    (h : wpQuiet P ops C Q rest (a.put o.dst (.agg cs))) : wpQuiet P ops C Q (o :: rest) a := by
  unfold wpQuiet
  rw [if_pos (by unfold Region.wanted; rw [hgd])]
  refine ⟨.agg cs, fun w hw => ?_, h⟩
  unfold Oper.quietAt execOp
  simp only [ho, hx, Instr.loadAt, Instr.sureAddr, Sem.run_bind, Sem.run_pure, Result.andThen_ok, run_loadVar_row w g t ty cs (0, 0) d (hg w hw) hu hd hi]
  exact ⟨rfl, rfl⟩
end Go.Proofs.YtlgaeeedkihfpaaGreatDoor.Uf

/-
  san's node and fold: what they leave.
-/
namespace Go.Proofs.YtlgaeeedkihfpaaGreatDoor.Uf
open Go.RowKit
open Tz (B Atr Nod Pol putS nodeS foldS)

theorem PolV.keepS {w w' : World} {S : Nat → Prop} {cs : Array Value} {p : Pol} (h : PolV w S cs p) (hk : KeepS S w w') (hs : w.heap.size ≤ w'.heap.size) : PolV w' S cs p := by
  obtain ⟨A1, c1, A2, c2, A3, c3, A4, c4, A5, c5, rfl, h1, h2, h3, h4, h5, h6⟩ := h
  exact ⟨A1, c1, A2, c2, A3, c3, A4, c4, A5, c5, rfl, h1.keep hk, h2.keep hk, h3.keep hk, h4.keep hk, h5.keep hk, fun g hg => Nat.lt_of_lt_of_le (h6 g hg) hs⟩
theorem TreeV.keepS {w w' : World} {S : Nat → Prop} {v : Value} {k : List Nod} (h : TreeV w S v k) (hk : KeepS S w w') (hs : w.heap.size ≤ w'.heap.size) : TreeV w' S v k := by
  obtain ⟨A, c, ys, rfl, h1, h2, h3⟩ := h
  exact ⟨A, c, ys, rfl, h1.keep hk, NodsC.keep hk _ _ h2, fun g hg => Nat.lt_of_lt_of_le (h3 g hg) hs⟩
theorem TreeV.mono {w : World} {S S' : Nat → Prop} {v : Value} {k : List Nod} (h : TreeV w S v k) (hS : ∀ g, S g → S' g) (hlt : ∀ g, S' g → g < w.heap.size) : TreeV w S' v k := by
  obtain ⟨A, c, ys, rfl, h1, h2, h3⟩ := h
  exact ⟨A, c, ys, rfl, h1.mono hS, NodsC.mono hS _ _ h2, hlt⟩
theorem OutN.more {w : World} {base : Nat} {S S' : Nat → Prop} {v : Value} {out : List Nod} {ys : List Value} (h : OutN w base S v out ys) (hS : ∀ g, S g → S' g) (hlt : ∀ g, S' g → g < w.heap.size) (hn : ∀ g, v.ownBlock = some g → ¬ S' g) : OutN w base S' v out ys := ⟨h.own, NodsC.mono hS _ _ h.nod, hn, hlt⟩
theorem OutN.keep_ {w w' : World} {base : Nat} {S : Nat → Prop} {v : Value} {out : List Nod} {ys : List Value} (h : OutN w base S v out ys) (hb : Below w.heap.size w w') : OutN w' base S v out ys := h.below_ hb
theorem OutN.nil {w : World} {base : Nat} {S : Nat → Prop} (hlt : ∀ g, S g → g < w.heap.size) : OutN w base S (.slice none 0 0) [] [] := ⟨World.ownsRow_nil _ _ _ _, NodsC.nil, (fun g hg => by cases hg), hlt⟩
/-- What a call leaves that has put nodes. -/
def OutP (w : World) (base : Nat) (S : Nat → Prop) (v : Value) (out' : List Nod) (e : Ending) (w' : World) : Prop :=
  ∃ v' ys' S', e = .returned v' ∧ OutN w' base S' v' out' ys' ∧ (∀ g, S g → S' g) ∧ (∀ g, S' g → S g ∨ w.heap.size ≤ g) ∧ (v'.ownBlock = v.ownBlock ∨ ∀ j, v'.ownBlock = some j → w.heap.size ≤ j) ∧ Only (fun j => v.ownBlock = some j) w w'
/-- What san's functions are called with. -/
structure SanS (w : World) (S SP : Nat → Prop) (cs : Array Value) (p : Pol) (m : Int) : Prop where
  pol : PolV w SP cs p
  sub : ∀ g, SP g → S g
  z : S 0
  hm : w.cell? ⟨0, 0, none⟩ = some (.int .i64 m)
theorem SanS.keep {w w' : World} {S S' SP : Nat → Prop} {cs : Array Value} {p : Pol} {m : Int} (h : SanS w S SP cs p m) (hk : KeepS S w w') (hs : w.heap.size ≤ w'.heap.size) (hS : ∀ g, S g → S' g) : SanS w' S' SP cs p m :=
  ⟨h.pol.keepS (fun g hg => hk g (h.sub g hg)) hs, fun g hg => hS g (h.sub g hg), hS 0 h.z, (cell_heap (p := ⟨0, 0, none⟩) (hk 0 h.z)).trans h.hm⟩
theorem OutN.keepOnly {w w' : World} {base : Nat} {S : Nat → Prop} {v : Value} {out : List Nod} {ys : List Value} (h : OutN w base S v out ys) (ho : Only (fun j => v.ownBlock = some j) w w') : KeepS S w w' := fun g hg => ho.block g (h.lt g hg) (fun e => h.nS g e hg)
end Go.Proofs.YtlgaeeedkihfpaaGreatDoor.Uf

/-
  san.fold, its function given.
-/
namespace Go.Proofs.YtlgaeeedkihfpaaGreatDoor.Uf
open Go.RowKit
open Tz (B Atr Nod Pol putS nodeS foldS)

theorem ent48 : Ent 48 := ent_of Tryz.func48 (by kernel_rfl) (by kernel_rfl)
def NodeAll (N : Nat) : Prop := ∀ (w : World) (base : Nat) (S SP : Nat → Prop) (cs : Array Value) (p : Pol) (m : Int) (v : Value) (out : List Nod) (ys y : List Value) (n : Nod), SanS w S SP cs p m → PolSmall p → OutN w base S v out ys → base ≤ w.heap.size → NodC w S n y → nodW n < N → nodW n ≤ 900000 → nodsW out + 25 * nodW n ≤ 180000000 →
  Calls Tryz.prog 48 #[.agg cs, v, .agg y.toArray] w (OutP w base S v (nodeS p out n))
theorem foldS_app (p : Pol) : ∀ (k : List Nod) (out : List Nod) (n : Nod), foldS p out (k ++ [n]) = nodeS p (foldS p out k) n
  | [], out, n => by simp [foldS]
  | x :: k, out, n => by simp [foldS, foldS_app p k]
theorem TreeV.at_ {w : World} {S : Nat → Prop} {v : Value} {k : List Nod} (h : TreeV w S v k) (i : Nat) (hi : i < k.length) :
    ∃ ad c y0 y1 y2 y3, v = .slice (some ad) k.length c ∧ S ad.block ∧ NodC w S k[i] [y0, y1, y2, y3] ∧ (∀ j u, ([y0, y1, y2, y3] : List Value)[j]? = some u → w.cell? ((ad.add (i * 4)).add j) = some u) := by
  obtain ⟨A0, c, ys, rfl, h1, h2, h3⟩ := h
  obtain ⟨ad, rfl, hS, hc⟩ := h1.2 (by omega)
  obtain ⟨y, hy, hj⟩ := h2.at_ i hi
  have hl := hy.len
  obtain ⟨y0, y1, y2, y3, rfl⟩ : ∃ a b c d, y = [a, b, c, d] := by
    match y, hl with
    | [a, b, c, d], _ => exact ⟨a, b, c, d, rfl⟩
  refine ⟨ad, c, y0, y1, y2, y3, rfl, hS, hy, fun j u hu => ?_⟩
  have hj4 : j < 4 := by
    have := (List.getElem?_eq_some_iff.1 hu).1
    simpa using this
  rw [add_add]
  exact hc _ _ ((hj j hj4).trans hu)

set_option maxRecDepth 100000 in
set_option maxHeartbeats 8000000 in
theorem fold_of {N : Nat} (HN : NodeAll N) {w : World} {base : Nat} {S SP : Nat → Prop} {cs : Array Value} {p : Pol} {m : Int} {v kv : Value} {out k : List Nod} {ys : List Value} (hs : SanS w S SP cs p m) (hp : PolSmall p) (ho : OutN w base S v out ys) (hbase : base ≤ w.heap.size) (hT : TreeV w S kv k) (hN : nodsW k < N) (hk9 : nodsW k ≤ 900000) (hw : nodsW out + 25 * nodsW k ≤ 180000000) :
    Calls Tryz.prog 49 #[v, kv, .func (.func 48) #[.agg cs] #[]] w (OutP w base S v (foldS p out k)) := by
  obtain ⟨A0, c0, _, hkv, _⟩ := id hT
  have hkl := nodsW_len k
  have H := Lib.hid HN
  have hEf : ∀ (args : Array Value) (w : World), (callFunc 48 args).run Tryz.prog w = .ok (.enter 48 args) w := ent48
  clear HN
  subst hkv
  go_enter Tryz.func49, Tryz.ntmps49
  go_wp2_with fail
  go_loopw [11, 0] (fun vi vo wr => ∃ (i : Nat) (Si : Nat → Prop) (yi : List Value), vi = .int .i64 i ∧ i ≤ k.length ∧ OutN wr base Si vo (foldS p out (k.take i)) yi ∧ (∀ g, S g → Si g) ∧ (∀ g, Si g → S g ∨ w.heap.size ≤ g) ∧ (vo.ownBlock = v.ownBlock ∨ ∀ j, vo.ownBlock = some j → w.heap.size ≤ j) ∧ Only (fun j => v.ownBlock = some j) w wr) (fun vi _ _ => k.length - kOf vi)
  case atStart => exact ⟨0, S, ys, rfl, Nat.zero_le _, ho, fun _ h => h, fun _ h => .inl h, .inl rfl, Only.refl _ _⟩
  case round =>
    obtain ⟨i, Si, yi, rfl, hi, hoi, hSi, hSn, hv, hon⟩ := hrel
    by_cases hlt : i < k.length
    · have t0 : (i : Int) < (k.length : Int) := by omega
      have hkS := ho.keepOnly hon
      have hTr := hT.keepS hkS hon.size
      obtain ⟨ad, c1, y0, y1, y2, y3, hkv, hSb, hny, hcells⟩ := hTr.at_ i hlt
      obtain ⟨rfl, rfl⟩ : A0 = some ad ∧ c0 = c1 := by injection hkv with e1 _ e2; exact ⟨e1, e2⟩
      have hst : k.take (i + 1) = k.take i ++ [k[i]] := by rw [List.take_add_one, List.getElem?_eq_getElem hlt]; rfl
      have hf := foldS_app p (k.take i) out k[i]
      rw [← hst] at hf
      have hmem : nodW k[i] ≤ nodsW k := nodsW_mem (List.getElem_mem hlt)
      have hwt := foldS_w p out (k.take i)
      have hwa : nodsW (k.take i) + nodW k[i] ≤ nodsW k := by
        have h1 := take_w k (i + 1)
        rw [hst, nodsW_app] at h1
        simp [nodsW] at h1
        omega
      generalize k[i] = n at hny hf hmem hwa
      have hF := Lib.hid hf
      clear hf hst hkv
      generalize foldS p out (k.take i) = O at hoi hF hwt
      have hi1 : IntKind.i64.wrap ((i : Int) + 1) = ((i + 1 : Nat) : Int) := by rw [IntKind.wrap_i64]; omega
      have hone := hny.one_
      have o0 := hone y0 (by simp)
      have o1 := hone y1 (by simp)
      have o2 := hone y2 (by simp)
      have o3 := hone y3 (by simp)
      have hss := hs.keep hkS hon.size hSi
      have hbw := Nat.le_trans hbase hon.size
      have HX := Lib.hid (And.intro hoi (And.intro hss (And.intro (NodC.mono hSi _ _ hny) hv)))
      clear hoi hss hny hone hs hTr hT hv
      go_wp2_with (first
        | (with_reducible refine wpList_load_at rfl 61 (.tmp 13) rfl (ad.add (i * 4)) rfl [y0, y1, y2, y3] _ hcells Tryz.underlying61 rfl (by kernel_rfl) ?_)
        | ((with_reducible refine store_new rfl 61 (.tmp 8) (.tmp 14) rfl #[y0, y1, y2, y3] rfl rfl (by kernel_rfl) (by kernel_rfl) (by simp [o0, o1, o2, o3]) ?_); intro W3 hB3 hb3)
        | (with_reducible refine wpList_load_row rfl 61 (.tmp 8) rfl wr.heap.size rfl 61 #[y0, y1, y2, y3] (0, 0) _ hB3 Tryz.underlying61 rfl (by kernel_rfl) ?_))
      obtain ⟨hoi, hss, hny, hv⟩ := HX.out
      have hkS3 := KeepS.below hb3 hoi.lt
      have hsz3 := hb3.size
      have hsz0 := hon.size
      refine (H.out W3 base Si SP cs p m u0 O yi [y0, y1, y2, y3] n (hss.keep hkS3 hsz3 (fun _ h => h)) hp (hoi.below_ hb3) (by omega) (NodC.keep hkS3 _ _ hny) (by omega) (by omega) (by omega)).mono ?_
      rintro e4 W4 ⟨v', ys', S', rfl, g1, g2, g3, g4, g5⟩
      have hon3 : Only (fun j => v.ownBlock = some j) w W3 := hon.trans ⟨hb3.os, hb3.tape, hb3.output, hb3.size, fun j hj _ => hb3.block j hj⟩
      have hon4 : Only (fun j => v.ownBlock = some j) w W4 := hon3.next g5 (fun j hj e => by
        rcases hv with e1 | e1
        · rw [← e1]; exact e
        · have := e1 j e; omega)
      have hv4 : v'.ownBlock = v.ownBlock ∨ ∀ j, v'.ownBlock = some j → w.heap.size ≤ j := by
        rcases g4 with e1 | e1
        · rcases hv with e2 | e2
          · exact .inl (e1.trans e2)
          · exact .inr (fun j hj => e2 j (e1 ▸ hj))
        · exact .inr (fun j hj => by have := e1 j hj; omega)
      have hS4 : ∀ g, S' g → S g ∨ w.heap.size ≤ g := fun g hg => (g3 g hg).elim (fun h => hSn g h) (fun h => .inr (by omega))
      have HG := Lib.hid (And.intro g1 (And.intro (fun g hg => g2 g (hSi g hg)) (And.intro hS4 (And.intro hv4 hon4))))
      clear g1 g2 g3 g4 g5 hv4 hS4 hon4 hon3 hoi hss hny hv hkS3
      go_wp2_with fail
      go_roundw
      case rel => exact ⟨i + 1, S', ys', rfl, hlt, by rw [hF.out]; exact HG.out.1, HG.out.2.1, HG.out.2.2.1, HG.out.2.2.2.1, HG.out.2.2.2.2⟩
      case measure =>
        show k.length - kOf (.int .i64 ((i + 1 : Nat) : Int)) < k.length - kOf (.int .i64 (i : Int))
        simp only [kOf, Int.toNat_natCast]
        omega
    · have t0 : ¬ ((i : Int) < (k.length : Int)) := by omega
      have hkt : k.take i = k := List.take_of_length_le (by omega)
      rw [hkt] at hoi
      go_wp2_with fail
      go_ret
      exact ⟨_, yi, Si, rfl, hoi, hSi, hSn, hv, hon⟩
end Go.Proofs.YtlgaeeedkihfpaaGreatDoor.Uf
