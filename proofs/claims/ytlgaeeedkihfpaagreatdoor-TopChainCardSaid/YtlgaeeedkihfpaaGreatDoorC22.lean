/-
  Texts of the proof of Chain, one behind the other: NxB, Toks, WtB.
-/
import Derived.Test.YtlgaeeedkihfpaaGreatDoorC21
import Derived.Test.YtlgaeeedkihfpaaGreatDoorC19
/-
  tok.reader's next: an end tag; tok.Tokens.
-/
namespace Go.Proofs.YtlgaeeedkihfpaaGreatDoor.Uf
open Go.RowKit
open Tz (B Atr Tok tagG tagL blankB attrC valC nameC addA resolveL plainL textN textT letterB nextL rawL rawN toksG toksL)

set_option maxRecDepth 100000 in
set_option maxHeartbeats 4000000 in
theorem next_end {w : World} {r base k : Nat} {s : B} {v : Value} {ts : List Tok} {m : Int} (hpl : plainL (s.drop k) = false) (hp : ([60, 33, 45, 45] : B).isPrefixOf (s.drop k) = false) (hp2 : ([60, 47, 62] : B).isPrefixOf (s.drop k) = false) {d c0 : UInt8} {u0 : B} (hd : s.drop k = 60 :: d :: c0 :: u0) (hl : letterB d = false) (h47 : d.toNat = 47) (hlc : letterB c0 = true) (h : Rdr w r s k v) (ht : Toks w base v ts) (hk : k < s.length) (hs : s.length ≤ 160000000) (hn : ts.length ≤ 1440000000) (hbase : base ≤ w.heap.size) (hm : w.cell? ⟨0, 0, none⟩ = some (.int .i64 m)) :
    Calls Tryz.prog 28 #[.pointer (some ⟨r, 0, none⟩)] w (NextP w r base v s k ts (nextL (s.drop k))) := by
  obtain ⟨i0, hi, hz0, hz1, hzb⟩ := info_parts info55
  have hk1 : k + 2 < s.length := by
    have := congrArg List.length hd
    simp at this
    omega
  have hx : nextL (s.drop k) = (match tagL (s.drop (k + 2)) with
      | none => none
      | some (t, x) => some ([⟨3, t.name, [], false, []⟩], x)) := by
    unfold nextL
    rw [if_neg (by rw [hpl]; simp), if_neg (by rw [hp]; simp), if_neg (by rw [hp2]; simp)]
    have hd1 : s.drop (k + 2) = c0 :: u0 := by
      have := congrArg (List.drop 2) hd
      rw [List.drop_drop] at this
      exact this
    rw [hd, hd1]
    simp only []
    rw [if_neg (by rw [hl]; simp)]
    exact (if_pos ⟨byte_is h47, hlc⟩).trans rfl
  obtain ⟨u, hu⟩ : ∃ u, u = c0 :: u0 := ⟨_, rfl⟩
  rw [← hu] at hd
  obtain ⟨K4, hK4⟩ : ∃ K4, K4 = k + 2 := ⟨_, rfl⟩
  rw [← hK4] at hx
  have HX := Lib.hid hx
  have HD := Lib.hid hd
  have hw4 : IntKind.i64.wrap ((k : Int) + 2) = (K4 : Int) := by rw [IntKind.wrap_i64]; omega
  have hK4l : K4 ≤ s.length := by omega
  have hkK : k < K4 := by omega
  have e47 : ((d.toNat : Int) == 47) = true := eqt h47
  have Hu := Lib.hid hu
  clear hx hK4 hk1 hd h47 hu
  go_enter Tryz.func28, Tryz.ntmps28
  go_wp2_with fail
  refine (left_u h (Nat.le_of_lt hk)).mono ?_
  rintro e w1 ⟨rfl, n1, rfl⟩
  go_wp2_with fail
  refine (plain_u (h.drewN n1) hk).mono ?_
  rintro e w2 ⟨rfl, n2, rfl⟩
  obtain ⟨q, hq⟩ := drewN_two w n1 n2
  rw [hq]
  clear hq
  have h2 : Rdr (w.drewN q) r s k v := h.drewN q
  have ht2 : Toks (w.drewN q) base v ts := ht.drewN q
  have hm2 : (w.drewN q).cell? ⟨0, 0, none⟩ = some (.int .i64 m) := hm
  have hb2 : base ≤ (w.drewN q).heap.size := hbase
  have ho2 : Only (fun b => b = r) w (w.drewN q) := (Only.refl _ w).drewN q
  generalize w.drewN q = W at h2 ht2 hm2 hb2 ho2 ⊢
  rw [hpl]
  have c1 := h2.c1
  have f1 := Blk.frozen h2.blk 1

  go_wp2_with fail
  refine (has_prefix (s.drop k) [60, 33, 45, 45]).mono ?_
  rintro e w2 ⟨rfl, hw2⟩
  rw [hw2, hp]
  clear hw2 w2
  go_wp2_with fail
  refine (has_prefix (s.drop k) [60, 47, 62]).mono ?_
  rintro e w2 ⟨rfl, hw2⟩
  rw [hw2, hp2]
  clear hw2 w2
  rw [HD.out]
  have g1 : ((bs (60 :: d :: u))[1]'(by rw [bs_size]; simp)).toNat = d.toNat := rfl
  have i1 : (1 : Int) < ((bs (60 :: d :: u)).size : Int) := by rw [bs_size, List.length_cons, List.length_cons]; omega
  have i1' : 1 < (bs (60 :: d :: u)).size := by rw [bs_size]; simp
  go_wp2_with fail
  refine (letter_u d _).mono ?_
  rintro e w2 ⟨rfl, hw2⟩
  rw [hw2, hl]
  clear hw2 w2

  obtain rfl := Hu.out
  have g2 : ((bs (60 :: d :: c0 :: u0))[2]'(by rw [bs_size]; simp)).toNat = c0.toNat := rfl
  have i2 : (2 : Int) < ((bs (60 :: d :: c0 :: u0)).size : Int) := by rw [bs_size, List.length_cons, List.length_cons, List.length_cons]; omega
  have i2' : 2 < (bs (60 :: d :: c0 :: u0)).size := by rw [bs_size]; simp
  go_wp2_with fail
  refine (letter_u c0 _).mono ?_
  rintro e w2 ⟨rfl, hw2⟩
  rw [hw2, hlc]
  clear hw2 w2
  go_wp2_with fail
  have h3 := h2.go K4
  have ho3 := only_set ho2 1 (.int .i64 (K4 : Nat))
  have hm3 : (W.setCell ⟨r, 1, none⟩ (.int .i64 (K4 : Nat))).cell? ⟨0, 0, none⟩ = some (.int .i64 m) := hm_pass hm2 h2 (only_set (Only.refl _ W) 1 _)
  have ht3 := Toks.keepOnly h2 ht2 (only_set (Only.refl _ W) 1 (.int .i64 (K4 : Nat)))
  clear hm2 c1 f1
  generalize W.setCell ⟨r, 1, none⟩ (.int .i64 (K4 : Nat)) = W3 at h3 ho3 hm3 ht3 ⊢
  refine (tag_u h3 hK4l hs hm3).mono ?_
  intro e w4 hT
  have HX2 := HX.out
  rw [tagL_eq] at HX2
  unfold TagPost at hT
  generalize Tz.lowL ((s.drop K4).takeWhile nameC) = nm at hT HX2
  cases hR : tagR ((s.drop K4).dropWhile nameC) false [] with
  | none =>
    rw [hR] at hT HX2
    obtain ⟨rfl, k4, hk4, hr4, ho4⟩ := hT
    have HX3 := Lib.hid HX2
    clear HX2 HX hR
    go_wp2_with (first
      | (with_reducible refine store_new rfl 55 (.tmp 8) (.tmp 110) rfl zero55 rfl rfl (by kernel_rfl) (by kernel_rfl) (by kernel_rfl) ?_; intro W5 hW5 hB5))
    go_ret
    rw [HX3.out]
    have hr5 : Rdr W5 r s k4 v := Blk.below hr4 hB5 (heap_lt hr4)
    have ho5 : Only (fun b => b = r) W3 W5 := only_below ho4 hB5
    exact ⟨rfl, k4, hk4, RdP.after ho3 (RdP.moved h3 ht3 hr5 ho5)⟩
  | some cx =>
    obtain ⟨cl, l, x⟩ := cx
    rw [hR] at hT HX2
    obtain ⟨A, c, rfl, hA, hr4, ho4⟩ := hT
    obtain ⟨hd4, hk4, hk4l⟩ := tag_rest hR hK4l
    obtain ⟨k4, hk4e⟩ : ∃ k4, k4 = s.length - x.length := ⟨_, rfl⟩
    rw [← hk4e] at hd4 hk4 hk4l hr4
    have HX3 := Lib.hid HX2
    have HD4 := Lib.hid hd4
    clear HX2 HX hR hk4e hd4
    go_wp2_with (first
      | (with_reducible refine store_new rfl 55 (.tmp 8) (.tmp 110) rfl (tokCells ⟨2, nm, l, cl, []⟩ A c).toArray rfl rfl (by kernel_rfl) (by kernel_rfl) (by kernel_rfl) ?_; intro W5 hW5 hB5))
    have hr5 : Rdr W5 r s k4 v := Blk.below hr4 hB5 (heap_lt hr4)
    have ho5 : Only (fun b => b = r) W3 W5 := only_below ho4 hB5
    have ht5 := Toks.keepOnly h3 ht3 ho5
    have ho5' := ho3.trans ho5
    have hvg : v.ownBlock ≠ some w4.heap.size := fun e => by
      obtain ⟨_, hown, _⟩ := ht3
      have h1 := (hown.lt _ e).2
      have := ho4.size
      omega
    clear hA hr4 hB5 ht3 h3 ho3 hm3 ho5 hm ho4
    generalize w4.heap.size = g at hW5 hvg ⊢
    obtain ⟨xs, hown, htc⟩ := ht5
    obtain ⟨ι, hne, F, hF, hcov⟩ := class_of (fun X => X.cell? ⟨r, 2, none⟩ = some v ∧ X.heap[g]? = some (.cells (tokCells ⟨2, nm, l, cl, []⟩ A c).toArray 55 (0, 0))) (W5.drew) (show _ ∧ _ from ⟨hr5.c2, hW5⟩)
    have q2 : ∀ i, (F i).cell? ⟨r, 2, none⟩ = some v := fun i => (hF i).1
    have q31 : ∀ i, (F i).cell? ⟨g, 1, none⟩ = some (.string (bs nm)) := fun i => Blk.cell (hF i).2 1
    have hS0 := hcov W5.drew (show _ ∧ _ from ⟨hr5.c2, hW5⟩)
    refine wp_region_tailS 8 2 (S := fun X => ∃ i, X = F i) (by kernel_rfl) (by kernel_rfl) (fun _ _ _ _ _ h => h) hS0 ?_
    dsimp only [List.take, List.drop]
    repeat (go_big_quiet_step (fail))
    refine wpQuiet_nil ?_
    refine wpListS_step (hS0) (fun K hK => ?_)
    go_simp
    have hr6 : Rdr (W5.alloc (.cells (tokCells ⟨3, nm, [], false, []⟩ none 0).toArray 55)) r s k4 v := Blk.alloc hr5 _
    have hg6' : (W5.alloc (.cells (tokCells ⟨3, nm, [], false, []⟩ none 0).toArray 55)).heap[g]? = some (.cells (tokCells ⟨2, nm, l, cl, []⟩ A c).toArray 55 (0, 0)) := Blk.alloc hW5 _
    refine hK.out _ _ (hcov _ ⟨hr6.c2, hg6'⟩) ?_
    clear hK K
    try simp only [Act.put, List.setIfInBounds_toArray, List.set_cons_zero, List.set_cons_succ]
    refine wpListS_step (hcov _ ⟨hr6.c2, hg6'⟩) (fun K hK => ?_)
    have ho5 : Only (fun b => b = r) W5 (W5.alloc (.cells (tokCells ⟨3, nm, [], false, []⟩ none 0).toArray 55)) := (Only.refl _ W5).alloc _
    have hk5 : KeepT 57 W5 (W5.alloc (.cells (tokCells ⟨3, nm, [], false, []⟩ none 0).toArray 55)) := KeepT.ofOnly (Rdr.blk hr5) (by decide) ho5
    have hown5 : World.ownsRow (W5.alloc (.cells (tokCells ⟨3, nm, [], false, []⟩ none 0).toArray 55)) base 55 5 v ts.length xs := own_only (S := fun b => b = r) hown ((Only.refl _ W5).alloc _) (fun k hk e => hr5.ne hown (e ▸ hk))
    have hz5 := ho5.size
    refine step_append_any _ rfl (.tmp 118) (.tmp 122) 40 rfl base 55 i0 _ 5 72 Tryz.underlying40 hi hz0 hz1 hzb rfl (by omega) v ts.length xs rfl hown5 _ _ 1 1 (tokCells ⟨3, nm, [], false, []⟩ none 0) rfl (reads_row W5 55 _ 5 1 rfl) (tokCells_one _ _ _) (by unfold maxLen; omega) (by omega) (Nat.le_trans (Nat.le_trans hbase ho5'.size) hz5) ?_
    intro v6 w6 hown6 hgr hat6
    have hgr : (W5.alloc (.cells (tokCells ⟨3, nm, [], false, []⟩ none 0).toArray 55)).grownBy w6 v.ownBlock := ⟨hgr.os, hgr.tape, hgr.output, hgr.size, hgr.block⟩
    have hr7 : Rdr w6 r s k4 v := Blk.grown hr6 hgr (fun e => Rdr.ne hr6 hown5 e.symm)
    have hg7' : w6.heap[g]? = some (.cells (tokCells ⟨2, nm, l, cl, []⟩ A c).toArray 55 (0, 0)) := Blk.grown hg6' hgr (fun e => hvg e.symm)
    refine hK.out _ _ (hcov _ ⟨hr7.c2, hg7'⟩) ?_
    clear hK K
    try simp only [Act.put, List.setIfInBounds_toArray, List.set_cons_zero, List.set_cons_succ]
    refine wpListS_zero ?_
    obtain ⟨a6, c6, rfl⟩ := own_slice hown6
    have f2 := Blk.frozen hr7 2
    have g2 := Rdr.c2 hr7
    have hP := tok_fin (t := ⟨3, nm, [], false, []⟩) hr7 ho5 htc hk5 hown5 hown6 hgr hat6 (World.ownsRow_nil _ _ _ _)
    have HX4 := Lib.hid (show nextL (s.drop k) = some ([⟨3, nm, [], false, []⟩], x) from HX3.out)
    go_wp2_with fail
    go_ret
    rw [HX4.out]
    exact ⟨rfl, k4, HD4.out, by omega, hk4l, RdP.after ho5' hP⟩

theorem plain_shape {x : B} (h : plainL x = false) : ∃ d u, x = 60 :: d :: u := by
  cases x with
  | nil => simp [plainL] at h
  | cons c t =>
    have hc : c = 60 := by
      refine Decidable.byContradiction fun hc => ?_
      simp only [plainL] at h
      rw [if_pos hc] at h
      cases h
    subst hc
    cases t with
    | nil => simp [plainL] at h
    | cons d u => exact ⟨d, u, rfl⟩
theorem next_u {w : World} {r base k : Nat} {s : B} {v : Value} {ts : List Tok} {m : Int} (h : Rdr w r s k v) (ht : Toks w base v ts) (hk : k < s.length) (hs : s.length ≤ 160000000) (hn : ts.length ≤ 1440000000) (hbase : base ≤ w.heap.size) (hm : w.cell? ⟨0, 0, none⟩ = some (.int .i64 m)) :
    Calls Tryz.prog 28 #[.pointer (some ⟨r, 0, none⟩)] w (NextP w r base v s k ts (nextL (s.drop k))) := by
  cases hpl : plainL (s.drop k) with
  | true => exact next_plain hpl h ht hk hs hn hbase hm
  | false =>
    cases hp : ([60, 33, 45, 45] : B).isPrefixOf (s.drop k) with
    | true => exact next_comment hpl hp h ht hk hs hn hbase hm
    | false =>
      cases hp2 : ([60, 47, 62] : B).isPrefixOf (s.drop k) with
      | true => exact next_empty hpl hp hp2 h ht hk hs hn hbase hm
      | false =>
        obtain ⟨d, u, hd⟩ := plain_shape hpl
        cases hl : letterB d with
        | true => exact next_start hpl hp hp2 hd hl h ht hk hs hn hbase hm
        | false =>
          by_cases hl2 : d = 47 ∧ hdLet u = true
          · cases u with
            | nil => exact absurd hl2.2 (by simp [hdLet])
            | cons c0 u0 => exact next_end hpl hp hp2 hd hl (by rw [hl2.1]; rfl) hl2.2 h ht hk hs hn hbase hm
          · exact next_other hpl hp hp2 hd hl hl2 h ht hk hs hn hbase hm
end Go.Proofs.YtlgaeeedkihfpaaGreatDoor.Uf

/-
  tok.Tokens: the tokens of a text, in memory.
-/
namespace Go.Proofs.YtlgaeeedkihfpaaGreatDoor.Uf
open Go.RowKit
open Tz (B Atr Tok tagG tagL blankB attrC valC nameC addA resolveL plainL textN textT letterB nextL rawL rawN toksG toksL)

theorem next_two {x y : B} {tk : List Tok} (h : nextL x = some (tk, y)) : tk.length ≤ 2 := by
  unfold nextL at h
  repeat' split at h
  all_goals first
    | contradiction
    | (simp only [Option.some.injEq, Prod.mk.injEq] at h; rw [← h.1]; simp; done)
    | (dsimp only at h; simp only [Option.some.injEq, Prod.mk.injEq] at h; rw [← h.1]; split <;> simp)
theorem toksG_nil (f : Nat) : toksG f [] = [] := by cases f <;> simp [toksG]
theorem hm_below {W W' : World} {m : Int} (hm : W.cell? ⟨0, 0, none⟩ = some (.int .i64 m)) (hb : Below W.heap.size W W') : W'.cell? ⟨0, 0, none⟩ = some (.int .i64 m) := by
  have h0 : (0 : Nat) < W.heap.size := World.block_lt_of_cell? W ⟨0, 0, none⟩ hm
  exact (hb.cell (p := ⟨0, 0, none⟩) h0).trans hm

set_option maxRecDepth 100000 in
set_option maxHeartbeats 4000000 in
theorem tokens_u {w : World} {s : B} {m : Int} (hs : s.length ≤ 160000000) (hm : w.cell? ⟨0, 0, none⟩ = some (.int .i64 m)) :
    Calls Tryz.prog 12 #[.string (bs s)] w fun e w' => ∃ v, e = .returned v ∧ Toks w' w.heap.size v (toksL s) ∧ Below w.heap.size w w' := by
  have hh0 : (0 : Nat) < w.heap.size := World.block_lt_of_cell? w ⟨0, 0, none⟩ hm
  go_enter Tryz.func12, Tryz.ntmps12
  go_wp2_with fail
  have hR0 : Rdr (w.alloc (.cells #[.string (bs s), .int .i64 0, .slice none 0 0] 71)) w.heap.size s 0 (.slice none 0 0) := Blk.new w 71 _
  have hB0 : Below w.heap.size w (w.alloc (.cells #[.string (bs s), .int .i64 0, .slice none 0 0] 71)) := (Below.refl _ w).alloc (Nat.le_refl _) _
  go_loopw [10] (fun _ wr => ∃ k v ts f, Rdr wr w.heap.size s k v ∧ Toks wr w.heap.size v ts ∧ Below w.heap.size w wr ∧ k ≤ s.length ∧ ts.length ≤ 2 * k ∧ Hid (s.length - k < f ∧ ts ++ toksG f (s.drop k) = toksL s)) (fun _ wr => s.length - atOf wr w.heap.size)
  case atStart => exact ⟨0, _, [], s.length + 1, hR0, ⟨[], World.ownsRow_nil _ _ _ _, .nil⟩, hB0, Nat.zero_le _, by simp, Lib.hid ⟨by omega, rfl⟩⟩
  case round =>
    obtain ⟨k, v, ts, f, hr, ht, hb, hk, hn, Hf⟩ := hrel
    have d1 := hr.c1
    by_cases hlt : k < s.length
    · have t1 : decide ((k : Int) < ((bs s).size : Int)) = true := by rw [bs_size]; simp; omega
      have t2 : decide (k < (bs s).size) = true := by rw [bs_size]; simp; omega
      go_wp2_with fail
      have hmr : wr.cell? ⟨0, 0, none⟩ = some (.int .i64 m) := (hb.cell (p := ⟨0, 0, none⟩) hh0).trans hm
      refine (next_u hr ht hlt hs (by omega) hb.size hmr).mono ?_
      intro e w2 hN
      unfold NextP at hN
      have hx0 : s.drop k ≠ [] := by
        intro h0
        have := congrArg List.length h0
        simp at this
        omega
      cases hnx : nextL (s.drop k) with
      | none =>
        rw [hnx] at hN
        obtain ⟨rfl, k2, hk2, v2, hr2, ht2, ho2, hv2⟩ := hN
        have Hd := Lib.hid (show ts = toksL s by
          rw [← Hf.out.2]
          obtain ⟨f', rfl⟩ : ∃ f', f = f' + 1 := ⟨f - 1, by have := Hf.out.1; omega⟩
          unfold toksG
          rw [if_neg hx0, hnx, List.append_nil])
        have hb2 : Below w.heap.size w w2 := by
          refine hb.trans (Only.belowOf ho2 hb.size ?_)
          rintro b (rfl | hb3)
          · exact Nat.le_refl _
          · obtain ⟨_, hown, _⟩ := ht
            exact (hown.lt b hb3).1
        have c2 := hr2.c2
        clear hnx hr ht hb d1 ho2
        go_wp2_with fail
        go_ret
        exact ⟨v2, rfl, by rw [← Hd.out]; exact ht2, hb2⟩
      | some ty =>
        obtain ⟨tk, y⟩ := ty
        rw [hnx] at hN
        obtain ⟨rfl, k2, hd2, hkk2, hk2, v2, hr2, ht2, ho2, hv2⟩ := hN
        have htk := next_two hnx
        have Hf2 := Lib.hid (show s.length - k2 < f - 1 ∧ (ts ++ tk) ++ toksG (f - 1) (s.drop k2) = toksL s by
          refine ⟨by have := Hf.out.1; omega, ?_⟩
          rw [← Hf.out.2]
          obtain ⟨f', rfl⟩ : ∃ f', f = f' + 1 := ⟨f - 1, by have := Hf.out.1; omega⟩
          conv => rhs; unfold toksG
          rw [if_neg hx0, hnx, hd2, List.append_assoc]
          rfl)
        have hb2 : Below w.heap.size w w2 := by
          refine hb.trans (Only.belowOf ho2 hb.size ?_)
          rintro b (rfl | hb3)
          · exact Nat.le_refl _
          · obtain ⟨_, hown, _⟩ := ht
            exact (hown.lt b hb3).1
        have ha := hr.at_
        clear hnx ht hb d1 ho2 hd2
        go_wp2_with fail
        go_roundw
        case rel => exact ⟨k2, v2, ts ++ tk, f - 1, hr2, ht2, hb2, hk2, by rw [List.length_append]; omega, Hf2⟩
        case measure =>
          rw [hr2.at_, ha]
          omega
    · have t1 : decide ((k : Int) < ((bs s).size : Int)) = false := by rw [bs_size]; simp; omega
      have t2 : decide (k < (bs s).size) = false := by rw [bs_size]; simp; omega
      have Hd := Lib.hid (show ts = toksL s by
        rw [← Hf.out.2, List.drop_of_length_le (by omega), toksG_nil, List.append_nil])
      have c2 := hr.c2
      go_wp2_with fail
      go_ret
      exact ⟨v, rfl, by rw [← Hd.out]; exact ht, hb⟩
end Go.Proofs.YtlgaeeedkihfpaaGreatDoor.Uf

/-
  Weights of tokens and trees (plain).
-/
namespace Go.Proofs.YtlgaeeedkihfpaaGreatDoor.Uf
open Go.RowKit
open Tz (B Atr Tok Nod El Bd innerO shutO shutN putO closeO addA tagG tagL nextL toksG toksL resolveL textT)

def aw (l : List Atr) : Nat := (l.map fun a => a.name.length + a.val.length + 1).sum
def tokW (t : Tok) : Nat := t.name.length + t.text.length + aw t.attrs
def toksW (l : List Tok) : Nat := (l.map tokW).sum
mutual
def nodW : Nod → Nat
  | .mk n a t k => n.length + t.length + aw a + nodsW k + 1
def nodsW : List Nod → Nat
  | [] => 0
  | n :: r => nodW n + nodsW r
end
def elW (e : El) : Nat := e.name.length + aw e.attrs + nodsW e.kids + 1
def bdW (o : List El) : Nat := (o.map elW).sum
theorem aw_app (l l' : List Atr) : aw (l ++ l') = aw l + aw l' := by simp [aw]
theorem aw_len (l : List Atr) : l.length ≤ aw l := by
  induction l with
  | nil => simp
  | cons a l ih => simp [aw] at ih ⊢; omega
theorem nodsW_app : ∀ (l l' : List Nod), nodsW (l ++ l') = nodsW l + nodsW l'
  | [], l' => by simp [nodsW]
  | n :: l, l' => by simp [nodsW, nodsW_app l l']; omega
theorem nodW_pos (n : Nod) : 1 ≤ nodW n := by cases n; simp [nodW]
theorem nodsW_len : ∀ (l : List Nod), l.length ≤ nodsW l
  | [] => by simp [nodsW]
  | n :: l => by have := nodsW_len l; have := nodW_pos n; simp [nodsW]; omega
theorem nodsW_mem : ∀ {l : List Nod} {n : Nod}, n ∈ l → nodW n ≤ nodsW l
  | x :: l, n, h => by
    rcases List.mem_cons.1 h with rfl | h
    · simp [nodsW]
    · have := nodsW_mem h; simp [nodsW]; omega
theorem nodW_text (n : Nod) : n.text.length ≤ nodW n := by cases n; simp [nodW, Nod.text]; omega
theorem nodW_el (e : El) : nodW e.nod = elW e := by simp [El.nod, nodW, elW]
theorem bdW_put (n : Nod) (o : List El) : bdW (putO n o) ≤ bdW o + nodW n := by
  cases o with
  | nil => simp [putO, bdW]
  | cons e r => simp [putO, bdW, elW, nodsW_app, nodsW]; omega
theorem bdW_shut (o : List El) : bdW (shutO o) ≤ bdW o := by
  cases o with
  | nil => simp [shutO]
  | cons e r =>
    have := bdW_put e.nod r
    rw [nodW_el] at this
    simp only [shutO]
    simp [bdW] at this ⊢
    omega
theorem bdW_shutN (m : Nat) (o : List El) : bdW (shutN m o) ≤ bdW o := by
  induction m with
  | zero => exact Nat.le_refl _
  | succ m ih => rw [shutN_succ]; exact Nat.le_trans (bdW_shut _) ih
theorem bdW_close (name : B) (o : List El) : bdW (closeO name o).1 ≤ bdW o := by
  unfold closeO
  cases innerO [name] o with
  | none => exact Nat.le_refl _
  | some kx => exact bdW_shutN _ _
theorem bdW_st1 (name : B) (o : List El) : bdW (st1 name o) ≤ bdW o := by
  unfold st1
  split
  · exact bdW_close _ _
  · exact Nat.le_refl _
theorem bdW_st2 (name : B) (o : List El) : bdW (st2 name o) ≤ bdW o := by
  unfold st2
  split
  · exact bdW_close _ _
  · exact Nat.le_refl _
theorem bdW_start (bd : Bd) (name : B) (l : List Atr) : bdW (bd.start name l).open_ ≤ bdW bd.open_ + (name.length + aw l + 1) := by
  rw [start_eq]
  have h1 := bdW_st1 name bd.open_
  have h2 := bdW_st2 name (st1 name bd.open_)
  simp only [Bd.count]
  split
  · have := bdW_put (.mk name l [] []) (st2 name (st1 name bd.open_))
    simp [nodW, nodsW] at this
    omega
  · simp [bdW, elW, nodsW] at h1 h2 ⊢
    omega
theorem bdW_end (bd : Bd) (name : B) : bdW (bd.end_ name).open_ ≤ bdW bd.open_ + 3 := by
  rw [end_eq]
  split
  · exact Nat.le_trans (bdW_close _ _) (by omega)
  · split
    · rename_i h
      have h1 := bdW_start bd name []
      have h2 := bdW_close name (bd.start name []).open_
      subst h
      simp [aw, Tz.pN] at h1 h2 ⊢
      omega
    · split
      · rename_i h
        have h1 := bdW_start bd name []
        subst h
        simp [aw, Tz.brN] at h1 ⊢
        omega
      · omega
theorem nodsW_join {s : B} {k k' : List Nod} (h : Tz.joinK s k = some k') : nodsW k' = nodsW k + s.length := by
  unfold Tz.joinK at h
  cases hl : k.getLast? with
  | none => rw [hl] at h; cases h
  | some n =>
    rw [hl] at h
    simp only at h
    split at h
    · injection h with h
      subst h
      have hk : k = k.dropLast ++ [n] := by
        have hne : k ≠ [] := by intro e; subst e; simp at hl
        have := List.dropLast_concat_getLast hne
        rw [List.getLast?_eq_some_getLast hne] at hl
        injection hl with hl
        rw [hl] at this
        exact this.symm
      conv => rhs; rw [hk]
      rw [nodsW_app, nodsW_app]
      cases n
      simp [nodsW, nodW, Nod.name, Nod.attrs, Nod.text, Nod.kids]
      omega
    · cases h
theorem bdW_text (bd : Bd) (s : B) : bdW (bd.text s).open_ ≤ bdW bd.open_ + (s.length + 1) := by
  unfold Bd.text
  split
  · omega
  · split
    · omega
    · rename_i e r ho
      split
      · rename_i k hk
        have := nodsW_join hk
        rw [ho]
        simp [bdW, elW, this]
        omega
      · have := bdW_put (Tz.txt s) bd.open_
        simp [Bd.count, Bd.put] at this ⊢
        simp [Tz.txt, nodW, nodsW, aw] at this ⊢
        omega
theorem bdW_take (bd : Bd) (t : Tok) : bdW (bd.take t).open_ ≤ bdW bd.open_ + (tokW t + 3) := by
  unfold Bd.take tokW
  split
  · have := bdW_text bd t.text; omega
  · split
    · have := bdW_start bd t.name t.attrs; omega
    · split
      · have := bdW_end bd t.name; omega
      · omega
theorem Wt_le_bdW (o : List El) : Wt o ≤ bdW o := by
  induction o with
  | nil => simp [Wt, bdW]
  | cons e r ih =>
    have := nodsW_len e.kids
    simp [Wt, bdW, elW] at ih ⊢
    omega
theorem bdW_texts {o : List El} : ∀ e ∈ o, ∀ n ∈ e.kids, n.text.length ≤ bdW o := by
  intro e he n hn
  have h1 := nodW_text n
  have h2 := nodsW_mem hn
  have h3 : elW e ≤ bdW o := by
    clear hn h1 h2
    induction o with
    | nil => cases he
    | cons x r ih =>
      rcases List.mem_cons.1 he with rfl | he
      · simp [bdW]
      · have := ih he; simp [bdW] at this ⊢; omega
  unfold elW at h3
  omega
theorem Wt_text (bd : Bd) (s : B) : Wt (bd.text s).open_ ≤ Wt bd.open_ + 1 := by
  unfold Bd.text
  split
  · omega
  · split
    · omega
    · rename_i e r ho
      split
      · rename_i k hk
        have : k.length = e.kids.length := by
          unfold Tz.joinK at hk
          split at hk
          · rename_i n hn
            split at hk
            · injection hk with hk
              subst hk
              have : e.kids ≠ [] := by intro e1; rw [e1] at hn; simp at hn
              have := List.length_pos_iff.2 this
              simp
              omega
            · cases hk
          · cases hk
        rw [ho]
        simp [Wt, this]
      · exact Wt_put _ _
theorem Wt_end (bd : Bd) (name : B) : Wt (bd.end_ name).open_ ≤ Wt bd.open_ + 1 := by
  rw [end_eq]
  split
  · exact Nat.le_trans (Wt_close _ _) (by omega)
  · split
    · exact Nat.le_trans (Wt_close _ _) (Wt_start _ _ _)
    · split
      · exact Wt_start _ _ _
      · omega
theorem Wt_take (bd : Bd) (t : Tok) : Wt (bd.take t).open_ ≤ Wt bd.open_ + 1 := by
  unfold Bd.take
  split
  · exact Wt_text _ _
  · split
    · exact Wt_start _ _ _
    · split
      · exact Wt_end _ _
      · omega
theorem many_start (bd : Bd) (name : B) (l : List Atr) : (bd.start name l).many = bd.many + 1 := by rw [start_eq]; rfl
theorem many_take (bd : Bd) (t : Tok) : (bd.take t).many ≤ bd.many + 1 := by
  unfold Bd.take
  split
  · unfold Bd.text
    split
    · omega
    · split
      · omega
      · split <;> simp [Bd.count, Bd.put]
  · split
    · rw [many_start]; omega
    · split
      · rw [end_eq]
        split
        · simp
        · split
          · simp [many_start]
          · split
            · rw [many_start]; omega
            · omega
      · omega
theorem take_len (bd : Bd) (t : Tok) (h : 1 ≤ bd.open_.length) : 1 ≤ (bd.take t).open_.length := by
  unfold Bd.take
  split
  · unfold Bd.text
    split
    · exact h
    · split
      · exact h
      · rename_i e r ho
        split
        · simp
        · simp [Bd.count, Bd.put, putO_len]; exact h
  · split
    · exact start_len _ _ _ h
    · split
      · rw [end_eq]
        split
        · exact closeO_len _ _ h
        · split
          · exact closeO_len _ _ (start_len _ _ _ h)
          · split
            · exact start_len _ _ _ h
            · exact h
      · exact h
/-! ### tokens -/
theorem aw_add (l : List Atr) (n v : B) : aw (addA l n v) ≤ aw l + (n.length + v.length + 1) := by
  unfold addA
  split
  · omega
  · rw [aw_app]; simp [aw]
theorem tw_dw (p : UInt8 → Bool) (s : B) : (s.takeWhile p).length + (s.dropWhile p).length = s.length := by
  rw [← List.length_append, List.takeWhile_append_dropWhile]
theorem tagG_w : ∀ (f : Nat) (s : B) (cl : Bool) (l : List Atr) (cl' : Bool) (l' : List Atr) (r : B), tagG f s cl l = some (cl', l', r) → aw l' + 4 * r.length ≤ aw l + 4 * s.length
  | 0, _, _, _, _, _, _, h => by simp [tagG] at h
  | f + 1, s, cl, l, cl', l', r, h => by
    unfold tagG at h
    have hs := dropW_le Tz.blankB s
    split at h
    · cases h
    · rename_i c t hct
      rw [hct] at hs
      simp only [List.length_cons] at hs
      split at h
      · have := tagG_w f _ _ _ _ _ _ h; omega
      · split at h
        · simp only [Option.some.injEq, Prod.mk.injEq] at h
          obtain ⟨_, rfl, rfl⟩ := h
          omega
        · have h1 := tw_dw Tz.attrC t
          have h2 := dropW_le Tz.blankB (t.dropWhile Tz.attrC)
          have hn : (Tz.lowL (c :: t.takeWhile Tz.attrC)).length = (t.takeWhile Tz.attrC).length + 1 := by rw [low_len]; rfl
          simp only at h
          split at h
          · have := tagG_w f _ _ _ _ _ _ h
            have h3 := aw_add l (Tz.lowL (c :: t.takeWhile Tz.attrC)) []
            rw [hn] at h3
            simp only [List.length_nil] at this h3
            omega
          · rename_i e u heu
            rw [heu] at h2
            simp only [List.length_cons] at h2
            split at h
            · have := tagG_w f _ _ _ _ _ _ h
              have h3 := aw_add l (Tz.lowL (c :: t.takeWhile Tz.attrC)) []
              rw [hn] at h3
              simp only [List.length_nil, List.length_cons] at this h3
              omega
            · have h4 := dropW_le Tz.blankB u
              split at h
              · have := tagG_w f _ _ _ _ _ _ h
                have h3 := aw_add l (Tz.lowL (c :: t.takeWhile Tz.attrC)) (resolveL [])
                have h5 := res_len []
                rw [hn] at h3
                simp only [List.length_nil] at this h3 h5
                omega
              · rename_i q v hqv
                rw [hqv] at h4
                simp only [List.length_cons] at h4
                split at h
                · split at h
                  · have := tagG_w f _ _ _ _ _ _ h
                    have h3 := aw_add l (Tz.lowL (c :: t.takeWhile Tz.attrC)) (resolveL (v.takeWhile (· != q)))
                    have h5 := res_len (v.takeWhile (· != q))
                    have h6 := tw_dw (· != q) v
                    rw [hn] at h3
                    simp only [List.length_drop] at this
                    omega
                  · cases h
                · have := tagG_w f _ _ _ _ _ _ h
                  have h3 := aw_add l (Tz.lowL (c :: t.takeWhile Tz.attrC)) (resolveL ((q :: v).takeWhile Tz.valC))
                  have h5 := res_len ((q :: v).takeWhile Tz.valC)
                  have h6 := tw_dw Tz.valC (q :: v)
                  rw [hn] at h3
                  simp only [List.length_cons] at h6
                  omega
theorem tagL_w {s r : B} {t : Tok} (h : tagL s = some (t, r)) : tokW t + 4 * r.length ≤ 4 * s.length := by
  unfold tagL at h
  cases hg : tagG (s.length + 1) (s.dropWhile Tz.nameC) false [] with
  | none => rw [hg] at h; cases h
  | some x =>
    obtain ⟨cl, l, r'⟩ := x
    rw [hg] at h
    simp only [Option.map_some, Option.some.injEq, Prod.mk.injEq] at h
    obtain ⟨rfl, rfl⟩ := h
    have h1 := tagG_w _ _ _ _ _ _ _ hg
    have h2 := tw_dw Tz.nameC s
    simp only [tokW, low_len, List.length_nil]
    simp [aw] at h1 ⊢
    omega
theorem nextL_w {s r : B} {ts : List Tok} (h : nextL s = some (ts, r)) : toksW ts + 4 * r.length ≤ 4 * s.length := by
  unfold nextL at h
  split at h
  · simp only [Option.some.injEq, Prod.mk.injEq] at h
    obtain ⟨rfl, rfl⟩ := h
    have h1 := res_len (s.take (Tz.textN s))
    have h2 := textN_le s
    simp [toksW, tokW, textT, aw] at h1 ⊢
    omega
  · split at h
    · split at h
      · simp only [Option.some.injEq, Prod.mk.injEq] at h
        obtain ⟨rfl, rfl⟩ := h
        rename_i i hi
        have := indexL_le hi
        simp [toksW, tokW, aw] at this ⊢
        omega
      · simp only [Option.some.injEq, Prod.mk.injEq] at h
        obtain ⟨rfl, rfl⟩ := h
        simp [toksW, tokW, aw]
        omega
    · split at h
      · simp only [Option.some.injEq, Prod.mk.injEq] at h
        obtain ⟨rfl, rfl⟩ := h
        simp [toksW]
        omega
      · split at h
        · rename_i a d u h1 h2 h3
          split at h
          · split at h
            · cases h
            · rename_i t r' htg
              have hw := tagL_w htg
              simp only [List.length_cons] at hw
              split at h
              · simp only [Option.some.injEq, Prod.mk.injEq] at h
                obtain ⟨rfl, rfl⟩ := h
                have h5 : (if (Tz.rawL t.name).2 = true then resolveL (r'.take (Tz.rawN t.name r')) else r'.take (Tz.rawN t.name r')).length ≤ 4 * (r'.take (Tz.rawN t.name r')).length := by
                  split
                  · exact res_len _
                  · omega
                have h6 : (r'.take (Tz.rawN t.name r')).length + (r'.drop (Tz.rawN t.name r')).length = r'.length := by simp; omega
                generalize (if (Tz.rawL t.name).2 = true then resolveL (r'.take (Tz.rawN t.name r')) else r'.take (Tz.rawN t.name r')) = y at h5 ⊢
                split
                · simp [toksW]; omega
                · simp only [toksW, List.map_cons, List.map_nil, List.sum_cons, List.sum_nil, List.length_cons]
                  have : tokW (textT y) = y.length := by simp [tokW, textT, aw]
                  omega
              · simp only [Option.some.injEq, Prod.mk.injEq] at h
                obtain ⟨rfl, rfl⟩ := h
                simp [toksW]
                omega
          · cases htg : tagL u with
            | none =>
              rw [htg] at h
              repeat' split at h
              all_goals first
                | (cases h; done)
                | (simp only [Option.some.injEq, Prod.mk.injEq] at h; obtain ⟨rfl, rfl⟩ := h; simp [toksW, tokW, aw]; done)
                | (simp only [Option.some.injEq, Prod.mk.injEq] at h; obtain ⟨rfl, rfl⟩ := h; simp [toksW, tokW, aw]; omega)
                | (rename_i hq; have hq2 : (none : Option (Tok × B)) = some _ := hq; cases hq2; done)
            | some x =>
              obtain ⟨t, r'⟩ := x
              have hw := tagL_w htg
              rw [htg] at h
              repeat' split at h
              all_goals first
                | (cases h; done)
                | (simp only [Option.some.injEq, Prod.mk.injEq] at h; obtain ⟨rfl, rfl⟩ := h; simp [toksW, tokW, aw]; done)
                | (simp only [Option.some.injEq, Prod.mk.injEq] at h; obtain ⟨rfl, rfl⟩ := h; simp [toksW, tokW, aw]; omega)
                | (simp only [Option.some.injEq, Prod.mk.injEq] at h; obtain ⟨rfl, rfl⟩ := h; rename_i hq; have hq2 : some (t, r') = some _ := hq; injection hq2 with hq3; injection hq3 with hq4 hq5; subst hq4 hq5; simp [toksW, tokW, aw] at hw ⊢; omega)
                | (exfalso; simp_all; done)
        · simp only [Option.some.injEq, Prod.mk.injEq] at h
          obtain ⟨rfl, rfl⟩ := h
          simp [toksW]
theorem toksG_w : ∀ (f : Nat) (s : B), toksW (toksG f s) ≤ 4 * s.length
  | 0, _ => by simp [toksG, toksW]
  | f + 1, s => by
    unfold toksG
    split
    · simp [toksW]
    · split
      · simp [toksW]
      · rename_i ts r h
        have h1 := nextL_w h
        have h2 := toksG_w f r
        simp [toksW] at h1 h2 ⊢
        omega
theorem toksL_w (s : B) : toksW (toksL s) ≤ 4 * s.length := toksG_w _ _
theorem toksG_n : ∀ (f : Nat) (s : B), (toksG f s).length ≤ 2 * f
  | 0, _ => by simp [toksG]
  | f + 1, s => by
    unfold toksG
    split
    · simp
    · split
      · simp
      · rename_i ts r h
        have h1 := next_two h
        have h2 := toksG_n f r
        simp
        omega
theorem toksL_n (s : B) : (toksL s).length ≤ 2 * s.length + 2 := by have := toksG_n (s.length + 1) s; unfold toksL; omega
end Go.Proofs.YtlgaeeedkihfpaaGreatDoor.Uf
