/-
  Texts of the proof of Chain, one behind the other: DomP, DomQ, DomS.
-/
import Derived.Test.YtlgaeeedkihfpaaGreatDoorC13
import Derived.Test.YtlgaeeedkihfpaaGreatDoorC12
/-
  dom's builder: put, count, shut.
-/
namespace Go.Proofs.YtlgaeeedkihfpaaGreatDoor.Uf
open Go.RowKit
open Tz (B Atr Tok Nod El Bd)

theorem below_drew {B : Nat} {w W : World} (h : Below B w W) : Below B w W.drew := ⟨h.os, h.tape, h.output, h.size, h.block⟩
theorem info61 : (Tryz.prog.info? 61).map (fun i => (i.zero, i.size, i.bytes)) = some (some (.agg #[.string ⟨#[]⟩, .slice none 0 0, .string ⟨#[]⟩, .slice none 0 0]), 4, 80) := by kernel_rfl
/-- The innermost element's kids turn: its row is written, and the slice in its cell. -/
theorem BdX.put_ {w wb wc wd : World} {base b g cap n : Nat} {S : Nat → Prop} {xs0 : List Value} {X X0 : List Nat} {e : El} {r : List El} {many : Nat} {over : Bool} {A : Option Addr} {ca : Nat} {K : Option Addr} {ck : Nat} {kids : List Nod} {K2 : Option Addr} {ck2 : Nat} {ys zs : List Value}
    (h : BdX w base b S (.slice (some ⟨g, 0, none⟩) n cap) (xs0 ++ elCells e A ca K ck) X (e :: r) many over)
    (h1 : OpC w base S X0 r xs0) (h2 : RdS w S 2 A e.attrs.length (atrCells e.attrs)) (h3 : w.ownsRow base 61 4 (.slice K e.kids.length ck) e.kids.length ys)
    (h5 : ∀ g, (Value.slice K e.kids.length ck).ownBlock = some g → ¬ S g ∧ g ∉ X0)
    (hb : Below w.heap.size w wb) (hg : wb.grownBy wc (Value.slice K e.kids.length ck).ownBlock)
    (hat : (Value.slice K2 kids.length ck2).ownBlock = (Value.slice K e.kids.length ck).ownBlock ∨ (Value.slice K2 kids.length ck2).ownBlock = some wb.heap.size)
    (hd : wc.grownBy wd (Value.slice K2 kids.length ck2).ownBlock) (hown : wd.ownsRow base 61 4 (.slice K2 kids.length ck2) kids.length zs) (hz : ∀ W, KeepS S w W → NodsC W S kids zs) :
    BdX (wd.setCell ⟨g, r.length * 5 + 3, none⟩ (.slice K2 kids.length ck2)) base b S (.slice (some ⟨g, 0, none⟩) n cap) (xs0 ++ elCells { e with kids := kids } A ca K2 ck2) ((Value.slice K2 kids.length ck2).ownBlock.toList ++ X0) ({ e with kids := kids } :: r) many over ∧
    Below base w (wd.setCell ⟨g, r.length * 5 + 3, none⟩ (.slice K2 kids.length ck2)) := by
  obtain ⟨gcs, hgg⟩ : ∃ cs, w.heap[g]? = some (.cells cs 63 (0, 0)) := own_row h.row rfl
  have hgb : base ≤ g := (h.row.lt g rfl).1
  have hKlt : ∀ k, (Value.slice K e.kids.length ck).ownBlock = some k → base ≤ k ∧ k < w.heap.size := h3.lt
  -- blocks that are neither of the two rows are as they were
  have far : ∀ k, k < w.heap.size → (Value.slice K e.kids.length ck).ownBlock ≠ some k → k ≠ g → (wd.setCell ⟨g, r.length * 5 + 3, none⟩ (.slice K2 kids.length ck2)).heap[k]? = w.heap[k]? := by
    intro k hk hne hkg
    rw [Below.heap_setCell wd ⟨g, r.length * 5 + 3, none⟩ _ k hkg]
    have e1 := hb.block k hk
    have hk2 : k < wb.heap.size := Nat.lt_of_lt_of_le hk hb.size
    have e2 := hg.block k hk2 (fun e => hne e.symm)
    have e3 := hd.block k (Nat.lt_of_lt_of_le hk2 hg.size) (fun e => by
      rcases hat with ha | ha
      · exact hne (ha.symm.trans e.symm)
      · rw [ha] at e
        injection e with e
        have := hb.size
        omega)
    exact e3.trans (e2.trans e1)
  have hSk : ∀ k, S k → k < w.heap.size ∧ (Value.slice K e.kids.length ck).ownBlock ≠ some k ∧ k ≠ g := fun k hk => by
    obtain ⟨cs, t, ht, htt⟩ := h.st k hk
    refine ⟨heap_lt ht, fun e => (h5 k e).1 hk, ?_⟩
    rcases htt with rfl | rfl
    · exact type_ne ht hgg (by decide)
    · exact type_ne ht hgg (by decide)
  have hkS : KeepS S w (wd.setCell ⟨g, r.length * 5 + 3, none⟩ (.slice K2 kids.length ck2)) := fun k hk => by
    obtain ⟨a1, a2, a3⟩ := hSk k hk
    exact far k a1 a2 a3
  have hkX : ∀ k ∈ X0, (wd.setCell ⟨g, r.length * 5 + 3, none⟩ (.slice K2 kids.length ck2)).heap[k]? = w.heap[k]? := fun k hk => by
    obtain ⟨_, cs, ht⟩ := h1.x61 k hk
    exact far k (heap_lt ht) (fun e => (h5 k e).2 hk) (type_ne ht hgg (by decide))
  have hK2g : (Value.slice K2 kids.length ck2).ownBlock ≠ some g := fun e => by
    rcases hat with ha | ha
    · rw [ha] at e
      obtain ⟨cs, ht⟩ := own_row h3 e
      exact type_ne ht hgg (by decide) rfl
    · rw [ha] at e
      injection e with e
      have := heap_lt hgg
      have := hb.size
      omega
  have hKg : (Value.slice K e.kids.length ck).ownBlock ≠ some g := fun e => by
    obtain ⟨cs, ht⟩ := own_row h3 e
    exact type_ne ht hgg (by decide) rfl
  have hrow : wd.ownsRow base 63 5 (.slice (some ⟨g, 0, none⟩) n cap) (e :: r).length (xs0 ++ elCells e A ca K ck) := by
    have e1 := own_keepT h.row (KeepT.below hb)
    have e2 := e1.kept hg (.inr (fun e => hKg e.symm))
    exact e2.kept hd (.inr (fun e => hK2g e.symm))
  have hn : n = (e :: r).length := by
    rcases h.row.2 with ⟨hv, _⟩ | ⟨g', cap', cur, hv, _⟩
    · cases hv
    · injection hv
  subst hn
  have hst := (hrow.stored (r.length * 5 + 3) (.slice K2 kids.length ck2)).1
  have hset : (xs0 ++ elCells e A ca K ck).set (r.length * 5 + 3) (.slice K2 kids.length ck2) = xs0 ++ elCells { e with kids := kids } A ca K2 ck2 := by
    rw [List.set_append_right _ _ (by rw [h1.len]; omega), h1.len]
    rw [show r.length * 5 + 3 - r.length * 5 = 3 by omega]
    rfl
  rw [hset] at hst
  refine ⟨⟨?_, h.ge, hst, ?_, ?_⟩, ?_⟩
  · refine (far b (heap_lt h.blk) (fun e => ?_) (type_ne h.blk hgg (by decide))).trans h.blk
    obtain ⟨cs, ht⟩ := own_row h3 e
    exact type_ne ht h.blk (by decide) rfl
  · refine .cons { e with kids := kids } A ca K2 ck2 zs (OpC.keep hkS h1 hkX) (h2.keep hkS) (ownsRow_setCell_other hown (a := ⟨g, r.length * 5 + 3, none⟩) hK2g _) (hz _ hkS) (fun k hk => ?_)
    rcases hat with ha | ha
    · exact h5 k (ha ▸ hk)
    · have hkk : k = wb.heap.size := by
        have hk' : (Value.slice K2 kids.length ck2).ownBlock = some k := hk
        rw [ha] at hk'
        injection hk' with hk'
        exact hk'.symm
      have := hb.size
      refine ⟨fun hs => ?_, fun hx => ?_⟩
      · have := (hSk k hs).1
        omega
      · obtain ⟨_, cs, ht⟩ := h1.x61 k hx
        have := heap_lt ht
        omega
  · intro k hk
    obtain ⟨cs, t, ht, htt⟩ := h.st k hk
    exact ⟨cs, t, (hkS k hk).trans ht, htt⟩
  · have hK2b : ∀ k, (Value.slice K2 kids.length ck2).ownBlock = some k → base ≤ k := fun k hk => (hown.lt k hk).1
    have hszb : base ≤ w.heap.size := Nat.le_trans hgb (Nat.le_of_lt (heap_lt hgg))
    refine ⟨hd.os.trans (hg.os.trans hb.os), hd.tape.trans (hg.tape.trans hb.tape), hd.output.trans (hg.output.trans hb.output), ?_, fun k hk => ?_⟩
    · exact Nat.le_trans (Nat.le_trans hb.size (Nat.le_trans hg.size hd.size)) (by simp [World.setCell])
    · refine far k (by omega) (fun e => ?_) (by omega)
      have := (hKlt k e).1
      omega

set_option maxRecDepth 100000 in
set_option maxHeartbeats 4000000 in
theorem put_u {w : World} {base b : Nat} {S : Nat → Prop} {v : Value} {xs : List Value} {X : List Nat} {e : El} {r : List El} {many : Nat} {over : Bool} {n : Nod} {y : List Value} (h : BdX w base b S v xs X (e :: r) many over) (hn : NodC w S n y) (hl : r.length ≤ 60000000) (hk : e.kids.length ≤ 60000000) :
    Calls Tryz.prog 53 #[.pointer (some ⟨b, 0, none⟩), .agg y.toArray] w fun e' w' => e' = .returned (.tuple #[]) ∧ Below base w w' ∧ ∃ xs' X', BdX w' base b S v xs' X' ({ e with kids := e.kids ++ [n] } :: r) many over := by
  obtain ⟨i0, hi, hz0, hz1, hzb⟩ := info_parts info61
  obtain ⟨g, cap, rfl⟩ := h.slice
  obtain ⟨A, ca, K, ck, ys, xs0, X0, rfl, rfl, h1, h2, h3, h4, h5, hc⟩ := h.top
  have HN := Lib.hid hn
  have hy1 := hn.one_
  have hlen := hn.len
  obtain ⟨y0, y1, y2, y3, rfl⟩ : ∃ a b c d, y = [a, b, c, d] := by
    match y, hlen with
    | [a, b, c, d], _ => exact ⟨a, b, c, d, rfl⟩
  clear hlen hn
  have o0 := hy1 y0 (by simp)
  have o1 := hy1 y1 (by simp)
  have o2 := hy1 y2 (by simp)
  have o3 := hy1 y3 (by simp)
  go_enter Tryz.func53, Tryz.ntmps53
  go_wp2_with fail
  have hA : BdX (w.alloc (.cells #[y0, y1, y2, y3] 61)) base b S (.slice (some ⟨g, 0, none⟩) (r.length + 1) cap) _ _ (e :: r) many over := h.keepB ((Below.refl _ w).alloc (Nat.le_refl _) _)
  refine (last_u hA hl).mono ?_
  rintro e1 w1 ⟨rfl, n1, rfl⟩
  have hb1 : Below w.heap.size w ((w.alloc (.cells #[y0, y1, y2, y3] 61)).drewN n1) := ((Below.refl _ w).alloc (Nat.le_refl _) _).trans (drewN_below _ _ n1)
  have hB1 : Blk ((w.alloc (.cells #[y0, y1, y2, y3] 61)).drewN n1) w.heap.size 61 #[y0, y1, y2, y3] := Blk.new w 61 _
  have hgw : g < w.heap.size := (h.row.lt g rfl).2
  have hsz1 : w.heap.size < ((w.alloc (.cells #[y0, y1, y2, y3] 61)).drewN n1).heap.size := heap_lt hB1
  clear hA
  generalize (w.alloc (.cells #[y0, y1, y2, y3] 61)).drewN n1 = W1 at hb1 hB1 hsz1 ⊢
  have c3 : W1.cell? ⟨g, r.length * 5 + 3, none⟩ = some (.slice K e.kids.length ck) := (hb1.cell (p := ⟨g, r.length * 5 + 3, none⟩) hgw).trans (hc 3 (by omega))
  go_wp2_with fail
  obtain ⟨ι, hne, F, hF, hcov⟩ := class_of (fun Y => Y.cell? ⟨g, r.length * 5 + 3, none⟩ = some (.slice K e.kids.length ck) ∧ Blk Y w.heap.size 61 #[y0, y1, y2, y3]) W1.drew ⟨c3, hB1⟩
  have q3 : ∀ i, (F i).cell? ⟨g, r.length * 5 + 3, none⟩ = some (.slice K e.kids.length ck) := fun i => (hF i).1
  have p0 : ∀ i, (F i).cell? ⟨w.heap.size, 0, none⟩ = some y0 := fun i => Blk.cell (hF i).2 0
  have p1 : ∀ i, (F i).cell? ⟨w.heap.size, 1, none⟩ = some y1 := fun i => Blk.cell (hF i).2 1
  have p2 : ∀ i, (F i).cell? ⟨w.heap.size, 2, none⟩ = some y2 := fun i => Blk.cell (hF i).2 2
  have p3 : ∀ i, (F i).cell? ⟨w.heap.size, 3, none⟩ = some y3 := fun i => Blk.cell (hF i).2 3
  have hS0 := hcov W1.drew ⟨c3, hB1⟩
  refine wp_region_head 7 2 6 (S := fun Y => ∃ i, Y = F i) (by kernel_rfl) (by kernel_rfl) (fun _ _ _ _ _ h => h) hS0 ?_
  have c3d : W1.drew.cell? ⟨g, r.length * 5 + 3, none⟩ = some (.slice K e.kids.length ck) := c3
  have hB1d : Blk W1.drew w.heap.size 61 #[y0, y1, y2, y3] := hB1
  have hbd := below_drew hb1
  have hszd : w.heap.size < W1.drew.heap.size := hsz1
  generalize W1.drew = Wd at hS0 c3d hB1d hbd hszd ⊢
  clear c3 hB1 hb1 hsz1
  dsimp only [List.take, List.drop]
  repeat (go_big_quiet_step (fail))
  refine wpQuiet_nil ?_
  have c4 : (Wd.alloc (.cells #[.string ⟨#[]⟩, .slice none 0 0, .string ⟨#[]⟩, .slice none 0 0] 61)).cell? ⟨g, r.length * 5 + 3, none⟩ = some (.slice K e.kids.length ck) := (World.cell?_alloc_lt Wd _ ⟨g, r.length * 5 + 3, none⟩ (by show g < Wd.heap.size; omega)).trans c3d
  refine wpListC_step hS0 (fun Q hQ => ?_)
  go_simp
  refine hQ.out _ _ (hcov _ ⟨c4, Blk.alloc hB1d _⟩) ?_
  clear hQ Q
  try simp only [Act.put, List.setIfInBounds_toArray, List.set_cons_zero, List.set_cons_succ]
  have hb2 : Below w.heap.size w (Wd.alloc (.cells #[.string ⟨#[]⟩, .slice none 0 0, .string ⟨#[]⟩, .slice none 0 0] 61)) := hbd.alloc (Nat.le_of_lt hszd) _
  have hr2 := reads_row Wd 61 [.string ⟨#[]⟩, .slice none 0 0, .string ⟨#[]⟩, .slice none 0 0] 4 1 rfl
  have hsz2 : Wd.heap.size < (Wd.alloc (.cells #[.string ⟨#[]⟩, .slice none 0 0, .string ⟨#[]⟩, .slice none 0 0] 61)).heap.size := by simp
  have hB2 : Blk (Wd.alloc (.cells #[.string ⟨#[]⟩, .slice none 0 0, .string ⟨#[]⟩, .slice none 0 0] 61)) w.heap.size 61 #[y0, y1, y2, y3] := Blk.alloc hB1d _
  have hbase : base ≤ w.heap.size := Nat.le_trans h.ge (Nat.le_of_lt (heap_lt h.blk))
  have hown2 : (Wd.alloc (.cells #[.string ⟨#[]⟩, .slice none 0 0, .string ⟨#[]⟩, .slice none 0 0] 61)).ownsRow base 61 4 (.slice K e.kids.length ck) e.kids.length ys := own_keepT h3 (KeepT.below hb2)
  generalize Wd.alloc (.cells #[.string ⟨#[]⟩, .slice none 0 0, .string ⟨#[]⟩, .slice none 0 0] 61) = W2 at c4 hb2 hr2 hsz2 hB2 hown2 ⊢
  refine wpListC_step (hcov _ ⟨c4, hB2⟩) (fun Q hQ => ?_)
  refine step_append_any _ rfl (.tmp 11) (.tmp 14) 37 rfl base 61 i0 _ 4 80 Tryz.underlying37 hi hz0 hz1 hzb rfl (by omega) (.slice K e.kids.length ck) e.kids.length ys rfl hown2 _ _ 1 1 [.string ⟨#[]⟩, .slice none 0 0, .string ⟨#[]⟩, .slice none 0 0] rfl hr2 (by intro u hu; simp at hu; rcases hu with rfl | rfl | rfl | rfl <;> rfl) (by unfold maxLen; omega) (by omega) (Nat.le_trans hbase hb2.size) ?_
  intro v2 w3 hown3 hg3 hat3
  obtain ⟨g2, c2, rfl, hb2g, hg2⟩ := hown3.form (by omega)
  obtain ⟨cur, hcur, hcsz⟩ := own_cur hown3
  have hK2g : g2 ≠ g := by
    obtain ⟨cs, ht⟩ := own_row h.row rfl
    rcases hat3 with ha | ha
    · obtain ⟨cs', ht'⟩ := own_row h3 (ha.symm.trans rfl)
      exact type_ne ht' ht (by decide)
    · have ha' : some g2 = some W2.heap.size := ha
      injection ha' with ha'
      omega
  have hKg : (Value.slice K e.kids.length ck).ownBlock ≠ some g := fun e1 => by
    obtain ⟨cs, ht⟩ := own_row h.row rfl
    obtain ⟨cs', ht'⟩ := own_row h3 e1
    exact type_ne ht' ht (by decide) rfl
  have c5 : w3.cell? ⟨g, r.length * 5 + 3, none⟩ = some (.slice K e.kids.length ck) := (World.cell?_of_block (hg3.block g (by omega) (fun e1 => hKg e1.symm))).trans c4
  have f5 : w3.frozen? ⟨g, r.length * 5 + 3, none⟩ = false := by
    have hB0 := (h.keepB hb2)
    obtain ⟨cs, ht⟩ := own_row hB0.row rfl
    exact Blk.frozen (show Blk w3 g 63 cs from (hg3.block g (heap_lt ht) (fun e1 => hKg e1.symm)).trans ht) _
  refine hQ.out _ _ (hcov _ ⟨c5, ?_⟩) ?_
  · refine hB2.grown hg3 (fun e1 => ?_)
    have := (h3.lt _ e1.symm).2
    omega
  clear hQ Q
  try simp only [Act.put, List.setIfInBounds_toArray, List.set_cons_zero, List.set_cons_succ]
  refine wpListC_zero ?_
  have i1 : (e.kids.length : Int) < (e.kids.length : Int) + 1 := by omega
  have i2 : e.kids.length < e.kids.length + 1 := by omega
  refine wpAny_pure (i := 9) (F := 5) rfl (by kernel_rfl) (fun _ _ _ _ _ h => h) ?_
  go_big_quiet_step (fail)
  refine wpQuiet_nil ?_
  refine wpAny_pure (i := 11) (F := 4) rfl (by kernel_rfl) (fun _ _ _ _ _ h => h) ?_
  go_big_quiet_step (fail)
  refine wpQuiet_nil ?_
  refine wpAny_pure (i := 12) (F := 3) rfl (by kernel_rfl) (fun _ _ _ _ _ h => h) ?_
  go_big_quiet_step (fail)
  refine wpQuiet_nil ?_
  refine wpAny_pure (i := 13) (F := 2) rfl (by kernel_rfl) (fun _ _ _ _ _ h => h) ?_
  go_big_quiet_step (fail)
  refine wpQuiet_nil ?_
  have hlast := own_last (vs := [y0, y1, y2, y3]) hown3 h3.1 rfl hcur
  have hkn : (e.kids ++ [n]).length = e.kids.length + 1 := by simp
  have hcur2 : e.kids.length * 4 + 4 ≤ cur.size := by omega
  have hone : (#[y0, y1, y2, y3] : Array Value).all (·.oneCell') = true := by simp [o0, o1, o2, o3]
  obtain ⟨cs, hcs⟩ : ∃ cs, cs = (cur.toList.take (e.kids.length * 4) ++ [y0, y1, y2, y3] ++ cur.toList.drop (e.kids.length * 4 + [y0, y1, y2, y3].length)).toArray := ⟨_, rfl⟩
  rw [← hcs] at hlast
  have hP := BdX.put_ (kids := e.kids ++ [n]) (K2 := some ⟨g2, 0, none⟩) (ck2 := c2) (zs := ys ++ [y0, y1, y2, y3]) (wd := w3.setRow g2 cs) h h1 h2 h3 h5 hb2 hg3 hat3
    ⟨rfl, rfl, rfl, by rw [setRow_size]; exact Nat.le_refl _, fun k _ hne => setRow_other _ g2 k _ (fun e1 => hne (by rw [e1]; rfl))⟩ (by rw [hkn]; exact hlast) (fun W hk2 => (NodsC.keep hk2 _ _ h4).app (NodsC.one (NodC.keep hk2 _ _ HN.out)))
  rw [hkn] at hP
  have c6 : (w3.setRow g2 cs).cell? ⟨g, r.length * 5 + 3, none⟩ = some (.slice K e.kids.length ck) := (World.cell?_of_block (setRow_other _ g2 g _ (fun e1 => hK2g e1.symm))).trans c5
  have f6 : (w3.setRow g2 cs).frozen? ⟨g, r.length * 5 + 3, none⟩ = false := (World.frozen?_of_block (setRow_other _ g2 g _ (fun e1 => hK2g e1.symm))).trans f5
  have hcur3 : (w3.setCell ⟨g, r.length * 5 + 3, none⟩ (.slice (some ⟨g2, 0, none⟩) (e.kids.length + 1) c2)).heap[g2]? = some (.cells cur 61 (0, 0)) := (Below.heap_setCell w3 ⟨g, r.length * 5 + 3, none⟩ _ g2 hK2g).trans hcur
  have hcom := setRow_setCell w3 (g := g2) (p := ⟨g, r.length * 5 + 3, none⟩) cs (.slice (some ⟨g2, 0, none⟩) (e.kids.length + 1) c2) hK2g
  have HP := Lib.hid hP
  have HC := Lib.hid hcom
  have HCS := Lib.hid hcs
  clear hP hcom hcs hlast h h1 h2 h3 h4 h5 hc hF q3 p0 p1 p2 p3 hcov hS0 c3d hB1d hbd hb2 hr2 hown2 hg3 hown3 hat3 hB2 c4
  refine wpAny_two (i := 10) (j := 14) (F := 1) (by kernel_rfl) rfl rfl (fun K' hK => ?_) (fun K' hK => ?_)
  · rw [if_pos (by rfl)]
    refine wp_store_at 61 (.tmp 16) (.tmp 12) rfl g2 (e.kids.length * 4) #[y0, y1, y2, y3] rfl rfl 61 cur hcur (by kernel_rfl) hcur2 hone ?_
    refine hK.out _ _ ?_
    clear hK K'
    try simp only [Act.put]
    rw [show (cur.toList.take (e.kids.length * 4) ++ (#[y0, y1, y2, y3] : Array Value).toList ++ cur.toList.drop (e.kids.length * 4 + (#[y0, y1, y2, y3] : Array Value).size)).toArray = cs from HCS.out.symm]
    refine wpAny_one (i := 14) (F := 0) (by kernel_rfl) rfl (fun K' hK => ?_)
    go_simp
    refine hK.out _ _ ?_
    clear hK K'
    refine wpAny_end (by kernel_rfl) ?_
    go_wp2_with fail
    go_end0
    exact ⟨rfl, HP.out.2, _, _, HP.out.1⟩
  · go_simp
    refine hK.out _ _ ?_
    clear hK K'
    try simp only [Act.put, List.setIfInBounds_toArray, List.set_cons_zero, List.set_cons_succ]
    refine wpAny_one (i := 10) (F := 0) (by kernel_rfl) rfl (fun K' hK => ?_)
    rw [if_pos (by rfl)]
    refine wp_store_at 61 (.tmp 16) (.tmp 12) rfl g2 (e.kids.length * 4) #[y0, y1, y2, y3] rfl rfl 61 cur hcur3 (by kernel_rfl) hcur2 hone ?_
    refine hK.out _ _ ?_
    clear hK K'
    try simp only [Act.put]
    rw [show (cur.toList.take (e.kids.length * 4) ++ (#[y0, y1, y2, y3] : Array Value).toList ++ cur.toList.drop (e.kids.length * 4 + (#[y0, y1, y2, y3] : Array Value).size)).toArray = cs from HCS.out.symm]
    refine wpAny_end (by kernel_rfl) ?_
    rw [HC.out]
    go_wp2_with fail
    go_end0
    exact ⟨rfl, HP.out.2, _, _, HP.out.1⟩
end Go.Proofs.YtlgaeeedkihfpaaGreatDoor.Uf

/-
  dom's builder: count, shut.
-/
namespace Go.Proofs.YtlgaeeedkihfpaaGreatDoor.Uf
open Go.RowKit
open Tz (B Atr Tok Nod El Bd)

/-- A cell of the builder itself is written. -/
theorem BdX.own_ {w : World} {base b : Nat} {S : Nat → Prop} {v v' : Value} {xs xs' : List Value} {X X' : List Nat} {o o' : List El} {many many' : Nat} {over over' : Bool} (h : BdX w base b S v xs X o many over) (i : Nat) (u : Value)
    (hu : (#[v, .int .i64 (many : Nat), .bool over] : Array Value).setIfInBounds i u = #[v', .int .i64 (many' : Nat), .bool over']) (hr : w.ownsRow base 63 5 v' o'.length xs') (ho : OpC w base S X' o' xs') : BdX (w.setCell ⟨b, i, none⟩ u) base b S v' xs' X' o' many' over' ∧ Below base w (w.setCell ⟨b, i, none⟩ u) := by
  have hne : ∀ {k : Nat} {t : TypeId} {cs : Array Value}, w.heap[k]? = some (.cells cs t (0, 0)) → t ≠ 66 → k ≠ b := fun hk ht => type_ne hk h.blk ht
  have hk : ∀ k, k ≠ b → (w.setCell ⟨b, i, none⟩ u).heap[k]? = w.heap[k]? := fun k hk => Below.heap_setCell w ⟨b, i, none⟩ u k hk
  have hS : KeepS S w (w.setCell ⟨b, i, none⟩ u) := fun k hs => by
    obtain ⟨cs, t, h1, h2⟩ := h.st k hs
    exact hk k (hne h1 (by rcases h2 with rfl | rfl <;> decide))
  refine ⟨⟨?_, h.ge, ownsRow_setCell_other hr (a := ⟨b, i, none⟩) (own_blk_ne hr h.blk (by decide)) u, OpC.keep hS ho (fun g hg => ?_), fun g hg => ?_⟩, ?_⟩
  · have := Blk.set_ h.blk i u
    rw [hu] at this
    exact this
  · obtain ⟨_, cs, h1⟩ := ho.x61 g hg
    exact hk g (hne h1 (by decide))
  · obtain ⟨cs, t, h1, h2⟩ := h.st g hg
    exact ⟨cs, t, (hS g hg).trans h1, h2⟩
  · have := h.ge
    refine ⟨rfl, rfl, rfl, by simp [World.setCell], fun k hlt => hk k (by omega)⟩

set_option maxRecDepth 100000 in
set_option maxHeartbeats 4000000 in
theorem count_u {w : World} {base b : Nat} {S : Nat → Prop} {v : Value} {xs : List Value} {X : List Nat} {o : List El} {many : Nat} {over : Bool} (h : BdX w base b S v xs X o many over) (ho : o.length ≤ 60000000) (ho1 : 1 ≤ o.length) (hm : many ≤ 60000000) :
    Calls Tryz.prog 54 #[.pointer (some ⟨b, 0, none⟩)] w fun e' w' => e' = .returned (.tuple #[]) ∧ Below base w w' ∧ BdX w' base b S v xs X o (many + 1) (over || decide (64 < o.length - 1) || decide (2000 < many + 1)) := by
  obtain ⟨A, c, rfl⟩ := own_slice h.row
  have c1 := Blk.cell h.blk 1
  have f1 := Blk.frozen h.blk 1
  simp only [List.getElem?_toArray, List.getElem?_cons_zero, List.getElem?_cons_succ] at c1
  obtain ⟨M, hM⟩ : ∃ M, M = many + 1 := ⟨_, rfl⟩
  have hw : IntKind.i64.wrap ((many : Int) + 1) = (M : Int) := by rw [IntKind.wrap_i64]; omega
  obtain ⟨R, hR⟩ : ∃ R, R = o.length - 1 := ⟨_, rfl⟩
  have hw2 : IntKind.i64.wrap ((o.length : Int) - 1) = (R : Int) := by rw [IntKind.wrap_i64]; omega
  have hbase : base ≤ w.heap.size := Nat.le_trans h.ge (Nat.le_of_lt (heap_lt h.blk))
  have Hfin := Lib.hid (show ∀ W, BdX W base b S (.slice A o.length c) xs X o M (over || decide (64 < R) || decide (2000 < M)) → BdX W base b S (.slice A o.length c) xs X o (many + 1) (over || decide (64 < o.length - 1) || decide (2000 < many + 1)) from fun W hW => by rw [hM, hR] at hW; exact hW)
  have h64 : ((64 : Nat) : Int) = 64 := rfl
  clear ho1
  have HM := Lib.hid (And.intro hM hR)
  clear hM hR
  have hW1 := h.own_ (v' := .slice A o.length c) (many' := M) (over' := over) 1 (.int .i64 (M : Nat)) rfl h.row h.opn
  go_enter Tryz.func54, Tryz.ntmps54
  go_wp2_with fail
  obtain ⟨hX1, hb1⟩ := hW1
  generalize w.setCell ⟨b, 1, none⟩ (.int .i64 (M : Nat)) = W1 at hX1 hb1 ⊢
  have a0 : W1.cell? ⟨b, 0, none⟩ = some (.slice A o.length c) := Blk.cell hX1.blk 0
  have a1 : W1.cell? ⟨b, 1, none⟩ = some (.int .i64 (M : Nat)) := Blk.cell hX1.blk 1
  obtain ⟨ι, hne, F, hF, hcov⟩ := class_of (fun Y => Y.cell? ⟨b, 0, none⟩ = some (.slice A o.length c) ∧ Y.cell? ⟨b, 1, none⟩ = some (.int .i64 (M : Nat))) W1.drew ⟨a0, a1⟩
  have q0 : ∀ i, (F i).cell? ⟨b, 0, none⟩ = some (.slice A o.length c) := fun i => (hF i).1
  have q1 : ∀ i, (F i).cell? ⟨b, 1, none⟩ = some (.int .i64 (M : Nat)) := fun i => (hF i).2
  have hS0 := hcov W1.drew ⟨a0, a1⟩
  refine wp_region_tailS 11 1 (S := fun Y => ∃ i, Y = F i) (by kernel_rfl) (by kernel_rfl) (fun _ _ _ _ _ h => h) hS0 ?_
  have a0d : W1.drew.cell? ⟨b, 0, none⟩ = some (.slice A o.length c) := a0
  have a1d : W1.drew.cell? ⟨b, 1, none⟩ = some (.int .i64 (M : Nat)) := a1
  have hXd : BdX W1.drew base b S (.slice A o.length c) xs X o M over := hX1.drewN 1
  have hbd := below_drew hb1
  generalize W1.drew = W2 at hS0 a0d a1d hXd hbd ⊢
  clear a0 a1 hX1 hb1 c1 f1 h
  dsimp only [List.take, List.drop]
  repeat (go_big_quiet_step (fail))
  refine wpQuiet_nil ?_
  have hXe := hXd.keepB ((Below.refl _ W2).alloc (Nat.le_refl _) (.cells #[.int .i64 0, .int .i64 0] 123))
  refine wpListS_step hS0 (fun Q hQ => ?_)
  go_simp
  refine hQ.out _ _ (hcov _ ⟨Blk.cell hXe.blk 0, Blk.cell hXe.blk 1⟩) ?_
  clear hQ Q
  try simp only [Act.put, List.setIfInBounds_toArray, List.set_cons_zero, List.set_cons_succ]
  refine wpListS_zero ?_
  have hXf := hXd.keepB ((Below.refl _ W2).alloc (Nat.le_refl _) (.cells #[.int .i64 (R : Nat), .int .i64 (M : Nat)] 123))
  have hbf := hbd.alloc (Nat.le_trans hbase hbd.size) (.cells #[.int .i64 (R : Nat), .int .i64 (M : Nat)] 123)
  have hBf := Blk.new W2 123 #[.int .i64 (R : Nat), .int .i64 (M : Nat)]
  refine wpList_store_row rfl 123 (.tmp 2) (.tmp 20) rfl W2.heap.size #[.int .i64 (R : Nat), .int .i64 (M : Nat)] rfl rfl 123 _ (Blk.new W2 123 _) (by kernel_rfl) rfl (by simp [Value.oneCell']) ?_
  rw [World.setRow_alloc_new]
  generalize W2.alloc (.cells #[.int .i64 (R : Nat), .int .i64 (M : Nat)] 123) = W3 at hXf hbf hBf ⊢
  generalize W2.heap.size = g at hBf ⊢
  have b0 : W3.cell? ⟨g, 0, none⟩ = some (.int .i64 (R : Nat)) := Blk.cell hBf 0
  have b1 : W3.cell? ⟨g, 1, none⟩ = some (.int .i64 (M : Nat)) := Blk.cell hBf 1
  have b2 : W3.cell? ⟨b, 2, none⟩ = some (.bool over) := Blk.cell hXf.blk 2
  have f2 := Blk.frozen hXf.blk 2
  clear hBf hS0 a0d a1d hXd hbd hXe hF q0 q1 hcov F hne ι
  cases over with
  | true =>
    go_wp2_with fail
    go_end0
    have hE := hXf.own_ (v' := .slice A o.length c) (many' := M) (over' := true) 2 (.bool true) rfl hXf.row hXf.opn
    exact ⟨rfl, hbf.trans hE.2, Hfin.out _ (by simpa using hE.1)⟩
  | false =>
    by_cases h1 : R ≤ 64
    · have t1 : (R : Int) ≤ 64 := by omega
      by_cases h2 : M ≤ 2000
      · have t2 : (M : Int) ≤ 2000 := by omega
        have e1 : decide (64 < R) = false := by simp; omega
        have e2 : decide (2000 < M) = false := by simp; omega
        rw [e1, e2] at Hfin
        go_wp2_with fail
        go_end0
        have hE := hXf.own_ (v' := .slice A o.length c) (many' := M) (over' := false) 2 (.bool false) rfl hXf.row hXf.opn
        exact ⟨rfl, hbf.trans hE.2, Hfin.out _ (by simpa using hE.1)⟩
      · have t2 : (2000 : Int) < (M : Int) := by omega
        have t2' : min (M : Int) 2000 = 2000 := by omega
        have e1 : decide (64 < R) = false := by simp; omega
        have e2 : decide (2000 < M) = true := by simp; omega
        have e3 : ((M : Int) == 2000) = false := by simp; omega
        have e4 : ¬ M = 2000 := by omega
        rw [e1, e2] at Hfin
        go_wp2_with fail
        go_end0
        have hE := hXf.own_ (v' := .slice A o.length c) (many' := M) (over' := true) 2 (.bool true) rfl hXf.row hXf.opn
        exact ⟨rfl, hbf.trans hE.2, Hfin.out _ (by simpa using hE.1)⟩
    · have t1 : (64 : Int) < (R : Int) := by omega
      have t1' : min (R : Int) 64 = 64 := by omega
      have e1 : decide (64 < R) = true := by simp; omega
      have e3 : ((R : Int) == 64) = false := by simp; omega
      have e4 : ¬ R = 64 := by omega
      rw [e1] at Hfin
      have Hfin2 := Lib.hid (show ∀ W, BdX W base b S (.slice A o.length c) xs X o M true → BdX W base b S (.slice A o.length c) xs X o (many + 1) (false || decide (64 < o.length - 1) || decide (2000 < many + 1)) from fun W hW => Hfin.out W (by simpa using hW))
      go_wp2_with fail
      go_end0
      have hE := hXf.own_ (v' := .slice A o.length c) (many' := M) (over' := true) 2 (.bool true) rfl hXf.row hXf.opn
      exact ⟨rfl, hbf.trans hE.2, Hfin2.out _ (by simpa using hE.1)⟩
end Go.Proofs.YtlgaeeedkihfpaaGreatDoor.Uf

/-
  dom's builder: shut.
-/
namespace Go.Proofs.YtlgaeeedkihfpaaGreatDoor.Uf
open Go.RowKit
open Tz (B Atr Tok Nod El Bd)

theorem OpC.notS {w : World} {base : Nat} {S : Nat → Prop} : ∀ {X : List Nat} {o : List El} {xs : List Value}, OpC w base S X o xs → ∀ g ∈ X, ¬ S g
  | _, _, _, .nil, g, hg => by cases hg
  | _, _, _, .cons e A ca K ck ys h _ ho _ hx, g, hg => by
    rcases List.mem_append.1 hg with hg | hg
    · refine (hx g ?_).1
      cases hv : (Value.slice K e.kids.length ck).ownBlock with
      | none => rw [hv] at hg; cases hg
      | some k => rw [hv] at hg; simp at hg; rw [hg]
    · exact h.notS g hg
/-- More blocks are known not to turn. -/
theorem BdX.more {w : World} {base b : Nat} {S S' : Nat → Prop} {v : Value} {xs : List Value} {X : List Nat} {o : List El} {many : Nat} {over : Bool} (h : BdX w base b S v xs X o many over) (hS : ∀ g, S g → S' g) (hX : ∀ g ∈ X, ¬ S' g)
    (ht : ∀ g, S' g → ∃ cs t, w.heap[g]? = some (.cells cs t (0, 0)) ∧ (t = 57 ∨ t = 61)) : BdX w base b S' v xs X o many over := ⟨h.blk, h.ge, h.row, OpC.more hS h.opn hX, ht⟩

theorem own_le {w : World} {base size n c m : Nat} {e : TypeId} {a : Option Addr} {xs : List Value} (h : w.ownsRow base e size (.slice a n c) m xs) : n = m ∧ n ≤ c := by
  rcases h.2 with ⟨hv, h0⟩ | ⟨g, cap, cur, hv, _, _, hle, _⟩
  · injection hv with h1 h2 h3
    omega
  · injection hv with h1 h2 h3
    omega

set_option maxRecDepth 100000 in
set_option maxHeartbeats 4000000 in
theorem shut_u {w : World} {base b : Nat} {S : Nat → Prop} {v : Value} {xs : List Value} {X : List Nat} {e e2 : El} {r : List El} {many : Nat} {over : Bool} (h : BdX w base b S v xs X (e :: e2 :: r) many over) (hl : r.length ≤ 6000000) (hk : e2.kids.length ≤ 60000000) :
    Calls Tryz.prog 27 #[.pointer (some ⟨b, 0, none⟩)] w fun e' w' => e' = .returned (.tuple #[]) ∧ Below base w w' ∧ ∃ S' v' xs' X', BdX w' base b S' v' xs' X' (Tz.shutO (e :: e2 :: r)) many over := by
  obtain ⟨g, cap, rfl⟩ := h.slice
  obtain ⟨R, hR⟩ : ∃ R, R = (e2 :: r).length := ⟨_, rfl⟩
  have hRl : R ≤ 60000000 := by rw [hR, List.length_cons]; omega
  have HR := Lib.hid hR
  have hbase : base ≤ w.heap.size := Nat.le_trans h.ge (Nat.le_of_lt (heap_lt h.blk))
  go_enter Tryz.func27, Tryz.ntmps27
  go_wp2_with fail
  refine (last_u h (by rw [← hR]; exact hRl)).mono ?_
  rintro e1 w1 ⟨rfl, n1, rfl⟩
  rw [← hR] at h ⊢
  clear hR
  have h := h.drewN n1
  have hb1 : Below base w (w.drewN n1) := drewN_below _ w n1
  generalize w.drewN n1 = W1 at h hb1 ⊢
  obtain ⟨A, ca, K, ck, ys, xs0, X0, rfl, rfl, h1, h2, h3, h4, h5, hc⟩ := h.top
  rw [← HR.out] at hc
  have hcells : ∀ j v, ([.string (bs e.name), .slice A e.attrs.length ca, .string (bs []), .slice K e.kids.length ck] : List Value)[j]? = some v → W1.cell? ((⟨g, R * 5, none⟩ : Addr).add j) = some v := by
    intro j v hj
    have hj4 : j < 4 := by
      have := (List.getElem?_eq_some_iff.1 hj).1
      simpa using this
    have hadd : (⟨g, R * 5, none⟩ : Addr).add j = ⟨g, R * 5 + j, none⟩ := by unfold Addr.add; split <;> simp_all
    rw [hadd, hc j (by omega), ← hj]
    match j, hj4 with
    | 0, _ => rfl
    | 1, _ => rfl
    | 2, _ => rfl
    | 3, _ => rfl
  go_wp2_with (first
    | (with_reducible refine wpList_load_at rfl 61 (.tmp 6) rfl ⟨g, R * 5, none⟩ rfl [.string (bs e.name), .slice A e.attrs.length ca, .string (bs []), .slice K e.kids.length ck] _ hcells Tryz.underlying61 rfl (by kernel_rfl) ?_)
    | (with_reducible refine store_new rfl 61 (.tmp 2) (.tmp 7) rfl #[.string (bs e.name), .slice A e.attrs.length ca, .string (bs []), .slice K e.kids.length ck] rfl rfl (by kernel_rfl) (by kernel_rfl) (by simp [Value.oneCell']) ?_; intro W2 hB2 hb2))
  have hT1 : W1.heap.size < W2.heap.size := heap_lt hB2
  have hb13 : Below W1.heap.size W1 W2.drew := below_drew hb2
  have hd := h.keepB hb13
  have hSk : KeepS S W1 W2.drew := KeepS.below hb13 (fun k hs => by obtain ⟨cs, t, a1, _⟩ := h.st k hs; exact heap_lt a1)
  have h1d : OpC W2.drew base S X0 (e2 :: r) xs0 := OpC.keep hSk h1 (fun k hx => hb13.block k (by obtain ⟨_, cs, a1⟩ := h1.x61 k hx; exact heap_lt a1))
  have h2d := h2.keep hSk
  have h3d : W2.drew.ownsRow base 61 4 (.slice K e.kids.length ck) e.kids.length ys := own_keepT h3 (KeepT.below hb13)
  have h4d := NodsC.keep hSk _ _ h4
  have hB2d : W2.drew.heap[W1.heap.size]? = some (.cells #[.string (bs e.name), .slice A e.attrs.length ca, .string (bs []), .slice K e.kids.length ck] 61 (0, 0)) := hB2
  have hbW : Below base w W2.drew := hb1.trans ⟨hb13.os, hb13.tape, hb13.output, hb13.size, fun k hk => hb13.block k (by have := hb1.size; omega)⟩
  have a0 : W2.cell? ⟨b, 0, none⟩ = some (.slice (some ⟨g, 0, none⟩) (R + 1) cap) := Blk.cell hd.blk 0
  have f0 : W2.frozen? ⟨b, 0, none⟩ = false := Blk.frozen hd.blk 0
  have hcap : R + 1 ≤ cap := (own_le hd.row).2
  have hbb : W2.drew.heap[b]? = some (.cells #[.slice (some ⟨g, 0, none⟩) (R + 1) cap, .int .i64 (many : Nat), .bool over] 66 (0, 0)) := hd.blk
  have hcap1 : (R : Int) ≤ (cap : Int) := by omega
  have hcap2 : R ≤ cap := by omega
  have hR0 : (0 : Int) ≤ (R : Int) := by omega
  have hw : IntKind.i64.wrap ((R : Int) + 1 - 1) = (R : Int) := by rw [IntKind.wrap_i64]; omega
  have hw2 : IntKind.i64.wrap (R : Int) = (R : Int) := by rw [IntKind.wrap_i64]; omega
  -- the row without its last element
  have hrow : W2.drew.ownsRow base 63 5 (.slice (some ⟨g, 0, none⟩) R cap) (e2 :: r).length xs0 := by
    have hn : R + 1 = (e :: e2 :: r).length := by rw [HR.out]; rfl
    have hrw := hd.row
    rw [← hn] at hrw
    have := own_upto hrw (Nat.le_succ R)
    rw [HR.out] at this ⊢
    rw [List.take_left' h1.len] at this
    exact this
  have hown := hd.own_ (v' := .slice (some ⟨g, 0, none⟩) R cap) (many' := many) (over' := over) 0 (.slice (some ⟨g, 0, none⟩) R cap) rfl hrow h1d
  have hKb : (Value.slice K e.kids.length ck).ownBlock ≠ some b := own_blk_ne h3d hd.blk (by decide)
  clear h h1 h2 h3 h4 hc hcells hd hb2 hB2 hrow hb13 hSk hb1
  refine wp_region_tail 12 (by kernel_rfl) (by kernel_rfl) (fun _ _ _ _ _ h => h) ?_
  dsimp only [List.take, List.drop, Act.put]
  repeat (go_big_quiet_step (fail))
  refine wpQuiet_nil ?_
  obtain ⟨hX3, hb3⟩ := hown
  have g1 : W2.drew.cell? ⟨b, 0, none⟩ = some (.slice (some ⟨g, 0, none⟩) (R + 1) cap) := a0
  have g2 : W2.drew.frozen? ⟨b, 0, none⟩ = false := f0
  have hszd : W1.heap.size < W2.drew.heap.size := hT1
  generalize W2.drew = Wd at hX3 hb3 h1d h2d h3d h4d hB2d hbW g1 g2 hszd hbb ⊢
  clear a0 f0 hT1
  have hgb : W1.heap.size ≠ b := type_ne hB2d hbb (by decide)
  have hkeep : KeepS (fun k => k ≠ b) Wd (Wd.setCell ⟨b, 0, none⟩ (.slice (some ⟨g, 0, none⟩) R cap)) := fun k hk => Below.heap_setCell Wd ⟨b, 0, none⟩ _ k hk
  have hB3 : (Wd.setCell ⟨b, 0, none⟩ (.slice (some ⟨g, 0, none⟩) R cap)).heap[W1.heap.size]? = some (.cells #[.string (bs e.name), .slice A e.attrs.length ca, .string (bs []), .slice K e.kids.length ck] 61 (0, 0)) := (hkeep _ hgb).trans hB2d
  have hSb : ∀ k, S k → k ≠ b := fun k hs => by
    obtain ⟨cs, t, a1, a2⟩ := hX3.st k hs
    exact type_ne a1 hX3.blk (by rcases a2 with rfl | rfl <;> decide)
  have hk3 : KeepS S Wd (Wd.setCell ⟨b, 0, none⟩ (.slice (some ⟨g, 0, none⟩) R cap)) := fun k hs => hkeep k (hSb k hs)
  have h3e := ownsRow_setCell_other h3d (a := ⟨b, 0, none⟩) hKb (.slice (some ⟨g, 0, none⟩) R cap)
  have hX4 := hX3.more (S' := fun k => S k ∨ (Value.slice K e.kids.length ck).ownBlock = some k) (fun k hs => .inl hs) (fun k hx hs => by
    rcases hs with hs | hs
    · exact h1d.notS k hx hs
    · exact (h5 k hs).2 hx) (fun k hs => by
    rcases hs with hs | hs
    · exact hX3.st k hs
    · obtain ⟨cs, a1⟩ := own_row h3e hs
      exact ⟨cs, 61, a1, .inr rfl⟩)
  have hnod : NodC (Wd.setCell ⟨b, 0, none⟩ (.slice (some ⟨g, 0, none⟩) R cap)) (fun k => S k ∨ (Value.slice K e.kids.length ck).ownBlock = some k) e.nod [.string (bs e.name), .slice A e.attrs.length ca, .string (bs []), .slice K e.kids.length ck] := by
    show NodC _ _ (.mk e.name e.attrs [] e.kids) _
    unfold NodC
    exact ⟨A, ca, K, ck, ys, rfl, (h2d.keep hk3).mono (fun _ hs => .inl hs), (RdS.of_own h3e).mono (fun _ hs => .inr hs), NodsC.mono (fun _ hs => .inl hs) _ _ (NodsC.keep hk3 _ _ h4d)⟩
  have hbZ := hbW.trans hb3
  have hp := put_u hX4 hnod (by omega) hk
  clear hX3 h1d h2d h3d h4d hB2d hX4 hnod h3e hk3 hkeep
  generalize hWz : Wd.setCell ⟨b, 0, none⟩ (.slice (some ⟨g, 0, none⟩) R cap) = Wz at hB3 hbZ hp
  go_wp2_with (first
    | (with_reducible refine wpList_load_row rfl 61 (.tmp 2) rfl W1.heap.size rfl 61 #[.string (bs e.name), .slice A e.attrs.length ca, .string (bs []), .slice K e.kids.length ck] (0, 0) _ hB3 Tryz.underlying61 rfl (by kernel_rfl) ?_))
  refine hp.mono ?_
  rintro e3 w3 ⟨rfl, hb4, xs', X', hX'⟩
  go_wp2_with fail
  go_end0
  exact ⟨rfl, hbZ.trans hb4, _, _, xs', X', hX'⟩
end Go.Proofs.YtlgaeeedkihfpaaGreatDoor.Uf
