/-
  Texts of the proof of Chain, one behind the other: NxA.
-/
import Derived.Test.YtlgaeeedkihfpaaGreatDoorC20
import Derived.Test.YtlgaeeedkihfpaaGreatDoorC16
import Derived.Test.YtlgaeeedkihfpaaGreatDoorC11
/-
  tok.reader's next.
-/
namespace Go.Proofs.YtlgaeeedkihfpaaGreatDoor.Uf
open Go.RowKit
open Tz (B Atr Tok tagG tagL blankB attrC valC nameC addA resolveL plainL textN textT letterB nextL rawL rawN)

theorem Only.ofDrew {X : Nat → Prop} {w w' : World} {n : Nat} (h : Only X (w.drewN n) w') : Only X w w' := ⟨h.os, h.tape, h.output, h.size, h.block⟩
theorem RdP.ofDrew {w w' : World} {r base k n : Nat} {v : Value} {s : B} {ts : List Tok} (h : RdP (w.drewN n) r base v s k ts w') : RdP w r base v s k ts w' := by
  obtain ⟨v', h1, h2, h3, h4⟩ := h
  exact ⟨v', h1, h2, h3.ofDrew, h4⟩
/-- A step that moves the reader alone. -/
theorem RdP.moved {w w' : World} {r base k k' : Nat} {v : Value} {s : B} {ts : List Tok} (h : Rdr w r s k v) (ht : Toks w base v ts) (hr : Rdr w' r s k' v) (ho : Only (fun b => b = r) w w') : RdP w r base v s k' ts w' := by
  obtain ⟨xs, hown, htc⟩ := ht
  exact ⟨v, hr, ⟨xs, own_only hown ho (fun k hk e => h.ne hown (e ▸ hk)), htc.keep (KeepT.ofOnly (Rdr.blk h) (by decide) ho)⟩, ho.mono fun _ _ h => .inl h, .inl rfl⟩
/-- Two steps, the first moves the reader alone. -/
theorem RdP.after {w w1 w' : World} {r base k : Nat} {v : Value} {s : B} {ts : List Tok} (ho : Only (fun b => b = r) w w1) (h : RdP w1 r base v s k ts w') : RdP w r base v s k ts w' := by
  obtain ⟨v', h1, h2, h3, h4⟩ := h
  refine ⟨v', h1, h2, (ho.mono fun _ _ h => Or.inl h).trans h3, ?_⟩
  rcases h4 with h4 | h4
  · exact .inl h4
  · exact .inr fun b hb => Nat.le_trans ho.size (h4 b hb)
/-- Two steps. -/
theorem RdP.next {w w1 w' : World} {r base k : Nat} {v v1 : Value} {s : B} {ts : List Tok} (h0 : Only (fun b => b = r ∨ v.ownBlock = some b) w w1) (h1 : v1.ownBlock = v.ownBlock ∨ ∀ b, v1.ownBlock = some b → w.heap.size ≤ b) (h : RdP w1 r base v1 s k ts w') : RdP w r base v s k ts w' := by
  obtain ⟨v', a1, a2, a3, a4⟩ := h
  refine ⟨v', a1, a2, ?_, ?_⟩
  · refine Only.next h0 a3 (fun i hi hs => ?_)
    rcases hs with hs | hs
    · exact .inl hs
    · rcases h1 with h1 | h1
      · exact .inr (h1 ▸ hs)
      · exact absurd (h1 i hs) (by omega)
  · rcases a4 with a4 | a4
    · rcases h1 with h1 | h1
      · exact .inl (a4.trans h1)
      · exact .inr fun b hb => h1 b (a4 ▸ hb)
    · exact .inr fun b hb => Nat.le_trans h0.size (a4 b hb)
theorem Toks.keepOnly {w w' : World} {r base k : Nat} {v : Value} {s : B} {ts : List Tok} (h : Rdr w r s k v) (ht : Toks w base v ts) (ho : Only (fun b => b = r) w w') : Toks w' base v ts := by
  obtain ⟨xs, hown, htc⟩ := ht
  exact ⟨xs, own_only hown ho (fun k hk e => h.ne hown (e ▸ hk)), htc.keep (KeepT.ofOnly (Rdr.blk h) (by decide) ho)⟩
theorem Toks.drewN {w : World} {base : Nat} {v : Value} {ts : List Tok} (h : Toks w base v ts) (n : Nat) : Toks (w.drewN n) base v ts := by
  obtain ⟨xs, hown, htc⟩ := h
  exact ⟨xs, hown, htc.keep (show KeepT 57 w (w.drewN n) from fun _ _ x => x)⟩
def hdLet (u : B) : Bool := match u with | c :: _ => letterB c | [] => false
/-- What next leaves. -/
def NextP (w : World) (r base : Nat) (v : Value) (s : B) (k : Nat) (ts : List Tok) (R : Option (List Tok × B)) (e : Ending) (w' : World) : Prop :=
  match R with
  | some (tk, x) => e = .returned (.bool true) ∧ ∃ k', s.drop k' = x ∧ k < k' ∧ k' ≤ s.length ∧ RdP w r base v s k' (ts ++ tk) w'
  | none => e = .returned (.bool false) ∧ ∃ k', k' ≤ s.length ∧ RdP w r base v s k' ts w'
theorem tagG_suffix : ∀ (f : Nat) (s : B) (cl : Bool) (al : List Atr) (c' : Bool) (l' : List Atr) (x : B), tagG f s cl al = some (c', l', x) → x <:+ s
  | 0, _, _, _, _, _, _, h => by simp [tagG] at h
  | f + 1, s, cl, al, c', l', x, h => by
    unfold tagG at h
    have s0 : s.dropWhile blankB <:+ s := List.dropWhile_suffix _
    cases h0 : s.dropWhile blankB with
    | nil => rw [h0] at h; cases h
    | cons c t =>
      rw [h0] at h s0
      dsimp only at h
      have st : t <:+ s := (List.suffix_cons c t).trans s0
      split at h
      · exact (tagG_suffix f _ _ _ _ _ _ h).trans st
      split at h
      · injection h with h; injection h with h1 h2; injection h2 with h2 h3; rw [← h3]; exact st
      have s1 : (t.dropWhile attrC).dropWhile blankB <:+ s := ((List.dropWhile_suffix _).trans (List.dropWhile_suffix _)).trans st
      cases h1 : (t.dropWhile attrC).dropWhile blankB with
      | nil => rw [h1] at h; exact (tagG_suffix f _ _ _ _ _ _ h).trans (List.nil_suffix)
      | cons e u =>
        rw [h1] at h s1
        dsimp only at h
        split at h
        · exact (tagG_suffix f _ _ _ _ _ _ h).trans s1
        have s2 : u.dropWhile blankB <:+ s := (List.dropWhile_suffix _).trans ((List.suffix_cons e u).trans s1)
        cases h2 : u.dropWhile blankB with
        | nil => rw [h2] at h; exact (tagG_suffix f _ _ _ _ _ _ h).trans (List.nil_suffix)
        | cons q v =>
          rw [h2] at h s2
          dsimp only at h
          split at h
          · split at h
            · exact (tagG_suffix f _ _ _ _ _ _ h).trans (((List.drop_suffix _ _).trans (List.dropWhile_suffix _)).trans ((List.suffix_cons q v).trans s2))
            · cases h
          · exact (tagG_suffix f _ _ _ _ _ _ h).trans ((List.dropWhile_suffix _).trans s2)
theorem tag_rest {s x : B} {k : Nat} {p : UInt8 → Bool} {cl : Bool} {l : List Atr} (h : tagR ((s.drop k).dropWhile p) false [] = some (cl, l, x)) (hk : k ≤ s.length) : s.drop (s.length - x.length) = x ∧ k ≤ s.length - x.length ∧ s.length - x.length ≤ s.length := by
  have h1 : x <:+ s.drop k := (tagG_suffix _ _ _ _ _ _ _ h).trans (List.dropWhile_suffix _)
  have h2 := h1.length_le
  rw [List.length_drop] at h2
  exact ⟨(List.suffix_iff_eq_drop.1 (h1.trans (List.drop_suffix _ _))).symm, by omega, by omega⟩
theorem tagL_eq (s : B) : tagL s = (tagR (s.dropWhile nameC) false []).map fun x => (⟨2, Tz.lowL (s.takeWhile nameC), x.2.1, x.1, []⟩, x.2.2) := by
  unfold tagL
  rw [tagR_of (by have := dropW_le nameC s; omega)]

set_option maxRecDepth 100000 in
set_option maxHeartbeats 4000000 in
theorem next_plain {w : World} {r base k : Nat} {s : B} {v : Value} {ts : List Tok} {m : Int} (hpl : plainL (s.drop k) = true) (h : Rdr w r s k v) (ht : Toks w base v ts) (hk : k < s.length) (hs : s.length ≤ 160000000) (hn : ts.length ≤ 1440000000) (hbase : base ≤ w.heap.size) (hm : w.cell? ⟨0, 0, none⟩ = some (.int .i64 m)) :
    Calls Tryz.prog 28 #[.pointer (some ⟨r, 0, none⟩)] w (NextP w r base v s k ts (nextL (s.drop k))) := by
  have hx : nextL (s.drop k) = some ([textT (resolveL ((s.drop k).take (textN (s.drop k))))], (s.drop k).drop (textN (s.drop k))) := by unfold nextL; rw [if_pos hpl]
  have hpos : 0 < textN (s.drop k) := by rw [textN_step hk hpl]; omega
  have hle := textN_le (s.drop k)
  have HX := Lib.hid (And.intro hx (And.intro hpos hle))
  clear hx hpos hle
  go_enter Tryz.func28, Tryz.ntmps28
  go_wp2_with fail
  refine (left_u h (Nat.le_of_lt hk)).mono ?_
  rintro e w1 ⟨rfl, n1, rfl⟩
  go_wp2_with fail
  refine (plain_u (h.drewN n1) hk).mono ?_
  rintro e w2 ⟨rfl, n2, rfl⟩
  obtain ⟨q, hq⟩ := drewN_two w n1 n2
  rw [hq]
  clear hq
  have h2 : Rdr (w.drewN q) r s k v := h.drewN q
  have ht2 : Toks (w.drewN q) base v ts := ht.drewN q
  have hm2 : (w.drewN q).cell? ⟨0, 0, none⟩ = some (.int .i64 m) := hm
  have hb2 : base ≤ (w.drewN q).heap.size := hbase
  have ho2 : Only (fun b => b = r) w (w.drewN q) := (Only.refl _ w).drewN q
  generalize w.drewN q = W at h2 ht2 hm2 hb2 ho2 ⊢
  rw [hpl]
  go_wp2_with fail
  refine (text_u h2 ht2 (Nat.le_of_lt hk) hs (by omega) hb2).mono ?_
  rintro e w3 ⟨rfl, hp3⟩
  go_wp2_with fail
  go_ret
  rw [HX.out.1]
  have hle := HX.out.2.2
  rw [List.length_drop] at hle
  exact ⟨rfl, k + textN (s.drop k), by rw [List.drop_drop], by have := HX.out.2.1; omega, by omega, RdP.after ho2 hp3⟩

set_option maxRecDepth 100000 in
set_option maxHeartbeats 4000000 in
theorem next_comment {w : World} {r base k : Nat} {s : B} {v : Value} {ts : List Tok} {m : Int} (hpl : plainL (s.drop k) = false) (hp : ([60, 33, 45, 45] : B).isPrefixOf (s.drop k) = true) (h : Rdr w r s k v) (ht : Toks w base v ts) (hk : k < s.length) (hs : s.length ≤ 160000000) (hn : ts.length ≤ 1440000000) (hbase : base ≤ w.heap.size) (hm : w.cell? ⟨0, 0, none⟩ = some (.int .i64 m)) :
    Calls Tryz.prog 28 #[.pointer (some ⟨r, 0, none⟩)] w (NextP w r base v s k ts (nextL (s.drop k))) := by
  obtain ⟨i0, hi, hz0, hz1, hzb⟩ := info_parts info55
  have hlen : k + 4 ≤ s.length := by
    have := List.IsPrefix.length_le (List.isPrefixOf_iff_prefix.1 hp)
    simp at this
    omega
  obtain ⟨K4, hK4⟩ : ∃ K4, K4 = k + 4 := ⟨_, rfl⟩
  have hx : nextL (s.drop k) = some ([⟨4, [], [], false, overOf s K4 [45, 45, 62]⟩], s.drop (overTo s K4 [45, 45, 62])) := by
    unfold nextL
    rw [if_neg (by rw [hpl]; simp), if_pos hp, List.drop_drop, hK4]
    unfold overOf overTo
    cases Tz.indexL [45, 45, 62] (s.drop (k + 4)) with
    | none => simp
    | some i => simp [Nat.add_assoc]
  have hto : k < overTo s K4 [45, 45, 62] ∧ overTo s K4 [45, 45, 62] ≤ s.length := by
    unfold overTo
    cases hi2 : Tz.indexL [45, 45, 62] (s.drop K4) with
    | none => simp; omega
    | some i =>
      have h1 := indexL_le hi2
      rw [List.length_drop] at h1
      simp only [List.length_cons, List.length_nil] at h1 ⊢
      omega
  have HX := Lib.hid (And.intro hx hto)
  have hw4 : IntKind.i64.wrap ((k : Int) + 4) = (K4 : Int) := by rw [IntKind.wrap_i64]; omega
  have hK4l : K4 ≤ s.length := by omega
  clear hx hto hK4 hlen
  go_enter Tryz.func28, Tryz.ntmps28
  go_wp2_with fail
  refine (left_u h (Nat.le_of_lt hk)).mono ?_
  rintro e w1 ⟨rfl, n1, rfl⟩
  go_wp2_with fail
  refine (plain_u (h.drewN n1) hk).mono ?_
  rintro e w2 ⟨rfl, n2, rfl⟩
  obtain ⟨q, hq⟩ := drewN_two w n1 n2
  rw [hq]
  clear hq
  have h2 : Rdr (w.drewN q) r s k v := h.drewN q
  have ht2 : Toks (w.drewN q) base v ts := ht.drewN q
  have hm2 : (w.drewN q).cell? ⟨0, 0, none⟩ = some (.int .i64 m) := hm
  have hb2 : base ≤ (w.drewN q).heap.size := hbase
  have ho2 : Only (fun b => b = r) w (w.drewN q) := (Only.refl _ w).drewN q
  generalize w.drewN q = W at h2 ht2 hm2 hb2 ho2 ⊢
  rw [hpl]
  have c1 := h2.c1
  have f1 := Blk.frozen h2.blk 1
  go_wp2_with fail
  refine (has_prefix (s.drop k) [60, 33, 45, 45]).mono ?_
  rintro e w2 ⟨rfl, hw2⟩
  rw [hw2, hp]
  clear hw2 w2
  go_wp2_with fail
  have h3 := h2.go K4
  have ho3 := only_set ho2 1 (.int .i64 (K4 : Nat))
  have hm3 : (W.setCell ⟨r, 1, none⟩ (.int .i64 (K4 : Nat))).cell? ⟨0, 0, none⟩ = some (.int .i64 m) := hm_pass hm2 h2 (only_set (Only.refl _ W) 1 _)
  have ht3 := Toks.keepOnly h2 ht2 (only_set (Only.refl _ W) 1 (.int .i64 (K4 : Nat)))
  clear hm2 c1 f1
  generalize W.setCell ⟨r, 1, none⟩ (.int .i64 (K4 : Nat)) = W3 at h3 ho3 hm3 ht3 ⊢

  obtain ⟨xs, hown, htc⟩ := ht3
  obtain ⟨ι, hne, F, hF, hcov⟩ := class_of (fun X => X.cell? ⟨r, 2, none⟩ = some v) (W3.drew) (h3.c2)
  have q2 : ∀ i, (F i).cell? ⟨r, 2, none⟩ = some v := hF
  have hS0 := hcov W3.drew (h3.c2)
  refine wp_region_tailS 6 4 (S := fun X => ∃ i, X = F i) (by kernel_rfl) (by kernel_rfl) (fun _ _ _ _ _ h => h) hS0 ?_
  dsimp only [List.take, List.drop]
  repeat (go_big_quiet_step (fail))
  refine wpQuiet_nil ?_
  refine wpListS_step (hS0) (fun K hK => ?_)
  go_simp
  refine (over_u [45, 45, 62] (h3.drewN 1) hK4l (by omega) (by simp) hm3).mono ?_
  rintro e w4 ⟨rfl, hr4, ho4⟩
  refine hK.out _ _ (hcov _ hr4.c2) ?_
  clear hK K
  try simp only [Act.put, List.setIfInBounds_toArray, List.set_cons_zero, List.set_cons_succ]
  have ho4' : Only (fun b => b = r) W3 w4 := ho4.ofDrew
  generalize overOf s K4 [45, 45, 62] = X at HX
  generalize overTo s K4 [45, 45, 62] = KT at HX hr4
  refine wpListS_step (hcov _ hr4.c2) (fun K hK => ?_)
  go_simp
  refine hK.out _ _ (hcov _ hr4.c2) ?_
  clear hK K
  try simp only [Act.put, List.setIfInBounds_toArray, List.set_cons_zero, List.set_cons_succ]
  refine wpListS_step (hcov _ hr4.c2) (fun K hK => ?_)
  go_simp
  have hr5 : Rdr (w4.alloc (.cells (tokCells ⟨4, [], [], false, X⟩ none 0).toArray 55)) r s KT v := Blk.alloc hr4 _
  refine hK.out _ _ (hcov _ hr5.c2) ?_
  clear hK K
  try simp only [Act.put, List.setIfInBounds_toArray, List.set_cons_zero, List.set_cons_succ]
  refine wpListS_step (hcov _ hr5.c2) (fun K hK => ?_)
  have ho5 : Only (fun b => b = r) W3 (w4.alloc (.cells (tokCells ⟨4, [], [], false, X⟩ none 0).toArray 55)) := (ho4').alloc _
  have hk5 : KeepT 57 W3 (w4.alloc (.cells (tokCells ⟨4, [], [], false, X⟩ none 0).toArray 55)) := KeepT.ofOnly (Rdr.blk h3) (by decide) ho5
  have hown5 : World.ownsRow (w4.alloc (.cells (tokCells ⟨4, [], [], false, X⟩ none 0).toArray 55)) base 55 5 v ts.length xs := own_only (own_only (h := hown) (S := fun b => b = r) ho4.ofDrew (fun k hk e => h3.ne hown (e ▸ hk))) (S := fun b => b = r) ((Only.refl _ w4).alloc _) (fun k hk e => h3.ne hown (e ▸ hk))
  have hz5 := ho5.size
  refine step_append_any _ rfl (.tmp 33) (.tmp 37) 40 rfl base 55 i0 _ 5 72 Tryz.underlying40 hi hz0 hz1 hzb rfl (by omega) v ts.length xs rfl hown5 _ _ 1 1 (tokCells ⟨4, [], [], false, X⟩ none 0) rfl (reads_row w4 55 _ 5 1 rfl) (tokCells_one _ _ _) (by unfold maxLen; omega) (by omega) (Nat.le_trans (Nat.le_trans hbase ho3.size) hz5) ?_
  intro v6 w6 hown6 hg6 hat6
  have hr6 : Rdr w6 r s KT v := Blk.grown hr5 hg6 (fun e => Rdr.ne hr5 hown5 e.symm)
  refine hK.out _ _ (hcov _ hr6.c2) ?_
  clear hK K
  try simp only [Act.put, List.setIfInBounds_toArray, List.set_cons_zero, List.set_cons_succ]
  refine wpListS_zero ?_
  obtain ⟨a6, c6, rfl⟩ := own_slice hown6
  have f2 := Blk.frozen hr6 2
  have g2 := Rdr.c2 hr6
  go_wp2_with fail
  go_ret
  rw [HX.out.1]
  exact ⟨rfl, KT, rfl, HX.out.2.1, HX.out.2.2, RdP.after ho3 (tok_fin hr6 ho5 htc hk5 hown5 hown6 hg6 hat6 (World.ownsRow_nil _ _ _ _))⟩

set_option maxRecDepth 100000 in
set_option maxHeartbeats 4000000 in
theorem next_empty {w : World} {r base k : Nat} {s : B} {v : Value} {ts : List Tok} {m : Int} (hpl : plainL (s.drop k) = false) (hp : ([60, 33, 45, 45] : B).isPrefixOf (s.drop k) = false) (hp2 : ([60, 47, 62] : B).isPrefixOf (s.drop k) = true) (h : Rdr w r s k v) (ht : Toks w base v ts) (hk : k < s.length) (hs : s.length ≤ 160000000) (hn : ts.length ≤ 1440000000) (hbase : base ≤ w.heap.size) (hm : w.cell? ⟨0, 0, none⟩ = some (.int .i64 m)) :
    Calls Tryz.prog 28 #[.pointer (some ⟨r, 0, none⟩)] w (NextP w r base v s k ts (nextL (s.drop k))) := by
  have hlen : k + 3 ≤ s.length := by
    have := List.IsPrefix.length_le (List.isPrefixOf_iff_prefix.1 hp2)
    simp at this
    omega
  have hx : nextL (s.drop k) = some ([], s.drop (k + 3)) := by
    unfold nextL
    rw [if_neg (by rw [hpl]; simp), if_neg (by rw [hp]; simp), if_pos hp2, List.drop_drop]
  obtain ⟨K4, hK4⟩ : ∃ K4, K4 = k + 3 := ⟨_, rfl⟩
  rw [← hK4] at hx
  have HX := Lib.hid hx
  have hw4 : IntKind.i64.wrap ((k : Int) + 3) = (K4 : Int) := by rw [IntKind.wrap_i64]; omega
  have hK4l : K4 ≤ s.length := by omega
  have hkK : k < K4 := by omega
  clear hx hK4 hlen
  go_enter Tryz.func28, Tryz.ntmps28
  go_wp2_with fail
  refine (left_u h (Nat.le_of_lt hk)).mono ?_
  rintro e w1 ⟨rfl, n1, rfl⟩
  go_wp2_with fail
  refine (plain_u (h.drewN n1) hk).mono ?_
  rintro e w2 ⟨rfl, n2, rfl⟩
  obtain ⟨q, hq⟩ := drewN_two w n1 n2
  rw [hq]
  clear hq
  have h2 : Rdr (w.drewN q) r s k v := h.drewN q
  have ht2 : Toks (w.drewN q) base v ts := ht.drewN q
  have hm2 : (w.drewN q).cell? ⟨0, 0, none⟩ = some (.int .i64 m) := hm
  have hb2 : base ≤ (w.drewN q).heap.size := hbase
  have ho2 : Only (fun b => b = r) w (w.drewN q) := (Only.refl _ w).drewN q
  generalize w.drewN q = W at h2 ht2 hm2 hb2 ho2 ⊢
  rw [hpl]
  have c1 := h2.c1
  have f1 := Blk.frozen h2.blk 1
  go_wp2_with fail
  refine (has_prefix (s.drop k) [60, 33, 45, 45]).mono ?_
  rintro e w2 ⟨rfl, hw2⟩
  rw [hw2, hp]
  clear hw2 w2
  go_wp2_with fail
  refine (has_prefix (s.drop k) [60, 47, 62]).mono ?_
  rintro e w2 ⟨rfl, hw2⟩
  rw [hw2, hp2]
  clear hw2 w2
  go_wp2_with fail
  go_ret
  rw [HX.out]
  have h3 := h2.go K4
  have ho3 : Only (fun b => b = r) W (W.setCell ⟨r, 1, none⟩ (.int .i64 (K4 : Nat))) := only_set (Only.refl _ W) 1 _
  refine ⟨rfl, K4, rfl, hkK, hK4l, ?_⟩
  rw [List.append_nil]
  exact RdP.after ho2 (RdP.moved h2 ht2 h3 ho3)

set_option maxRecDepth 100000 in
set_option maxHeartbeats 4000000 in
theorem next_other {w : World} {r base k : Nat} {s : B} {v : Value} {ts : List Tok} {m : Int} (hpl : plainL (s.drop k) = false) (hp : ([60, 33, 45, 45] : B).isPrefixOf (s.drop k) = false) (hp2 : ([60, 47, 62] : B).isPrefixOf (s.drop k) = false) {d : UInt8} {u : B} (hd : s.drop k = 60 :: d :: u) (hl : letterB d = false) (hl2 : ¬ (d = 47 ∧ hdLet u = true)) (h : Rdr w r s k v) (ht : Toks w base v ts) (hk : k < s.length) (hs : s.length ≤ 160000000) (hn : ts.length ≤ 1440000000) (hbase : base ≤ w.heap.size) (hm : w.cell? ⟨0, 0, none⟩ = some (.int .i64 m)) :
    Calls Tryz.prog 28 #[.pointer (some ⟨r, 0, none⟩)] w (NextP w r base v s k ts (nextL (s.drop k))) := by
  have hx : nextL (s.drop k) = some ([], s.drop (overTo s k [62])) := by
    unfold nextL
    rw [if_neg (by rw [hpl]; simp), if_neg (by rw [hp]; simp), if_neg (by rw [hp2]; simp)]
    rw [hd]
    simp only []
    rw [if_neg (by rw [hl]; simp)]
    refine (if_neg hl2).trans ?_
    unfold overTo
    rw [← hd]
    cases Tz.indexL [62] (s.drop k) with
    | none => simp
    | some i => simp [List.drop_drop, Nat.add_assoc]
  have hto : k < overTo s k [62] ∧ overTo s k [62] ≤ s.length := by
    unfold overTo
    cases hi2 : Tz.indexL [62] (s.drop k) with
    | none => simp only []; omega
    | some i =>
      have h1 := indexL_le hi2
      rw [List.length_drop] at h1
      simp only [List.length_cons, List.length_nil] at h1 ⊢
      omega
  have HX := Lib.hid (And.intro hx hto)
  have HD := Lib.hid hd
  clear hx hto hd
  go_enter Tryz.func28, Tryz.ntmps28
  go_wp2_with fail
  refine (left_u h (Nat.le_of_lt hk)).mono ?_
  rintro e w1 ⟨rfl, n1, rfl⟩
  go_wp2_with fail
  refine (plain_u (h.drewN n1) hk).mono ?_
  rintro e w2 ⟨rfl, n2, rfl⟩
  obtain ⟨q, hq⟩ := drewN_two w n1 n2
  rw [hq]
  clear hq
  have h2 : Rdr (w.drewN q) r s k v := h.drewN q
  have ht2 : Toks (w.drewN q) base v ts := ht.drewN q
  have hm2 : (w.drewN q).cell? ⟨0, 0, none⟩ = some (.int .i64 m) := hm
  have hb2 : base ≤ (w.drewN q).heap.size := hbase
  have ho2 : Only (fun b => b = r) w (w.drewN q) := (Only.refl _ w).drewN q
  generalize w.drewN q = W at h2 ht2 hm2 hb2 ho2 ⊢
  rw [hpl]
  have fin : ∀ (W' : World), Only (fun b => b = r) W W' → Rdr W' r s k v → W'.cell? ⟨0, 0, none⟩ = some (.int .i64 m) → Toks W' base v ts → Calls Tryz.prog 64 #[.pointer (some ⟨r, 0, none⟩), .string (bs [62])] W' fun e w' => ∃ x, e = .returned (.string x) ∧ NextP w r base v s k ts (nextL (s.drop k)) (.returned (.bool true)) w' := by
    intro W' ho' hr' hm' ht'
    refine (over_u [62] hr' (Nat.le_of_lt hk) (by omega) (by simp) hm').mono ?_
    rintro e w4 ⟨rfl, hr4, ho4⟩
    refine ⟨_, rfl, ?_⟩
    rw [HX.out.1]
    refine ⟨rfl, overTo s k [62], rfl, HX.out.2.1, HX.out.2.2, ?_⟩
    rw [List.append_nil]
    exact RdP.after (ho2.trans ho') (RdP.moved hr' ht' hr4 ho4)
  have Fin := Lib.hid fin
  clear fin

  go_wp2_with fail
  refine (has_prefix (s.drop k) [60, 33, 45, 45]).mono ?_
  rintro e w2 ⟨rfl, hw2⟩
  rw [hw2, hp]
  clear hw2 w2
  go_wp2_with fail
  refine (has_prefix (s.drop k) [60, 47, 62]).mono ?_
  rintro e w2 ⟨rfl, hw2⟩
  rw [hw2, hp2]
  clear hw2 w2
  rw [HD.out]
  have g1 : ((bs (60 :: d :: u))[1]'(by rw [bs_size]; simp)).toNat = d.toNat := rfl
  have i1 : (1 : Int) < ((bs (60 :: d :: u)).size : Int) := by rw [bs_size, List.length_cons, List.length_cons]; omega
  have i1' : 1 < (bs (60 :: d :: u)).size := by rw [bs_size]; simp
  go_wp2_with fail
  refine (letter_u d _).mono ?_
  rintro e w2 ⟨rfl, hw2⟩
  rw [hw2, hl]
  clear hw2 w2

  by_cases h47 : d.toNat = 47
  · have e47 : ((d.toNat : Int) == 47) = true := eqt h47
    cases u with
    | nil =>
      exfalso
      have hq : plainL (s.drop k) = true := by rw [HD.out, byte_is h47]; rfl
      rw [hq] at hpl
      cases hpl
    | cons c u =>
      have hc : letterB c = false := by
        cases hc : letterB c with
        | false => rfl
        | true => exact absurd ⟨byte_is h47, hc⟩ hl2
      have g2 : ((bs (60 :: d :: c :: u))[2]'(by rw [bs_size]; simp)).toNat = c.toNat := rfl
      have i2 : (2 : Int) < ((bs (60 :: d :: c :: u)).size : Int) := by rw [bs_size, List.length_cons, List.length_cons, List.length_cons]; omega
      have i2' : 2 < (bs (60 :: d :: c :: u)).size := by rw [bs_size]; simp
      clear h47 hl2
      go_wp2_with fail
      refine (letter_u c _).mono ?_
      rintro e w2 ⟨rfl, hw2⟩
      rw [hw2, hc]
      clear hw2 w2
      go_wp2_with fail
      refine (Fin.out W (Only.refl _ _) h2 hm2 ht2).mono ?_
      rintro e w4 ⟨x, rfl, h4⟩
      go_wp2_with fail
      go_ret
      exact h4
  · have e47 : ((d.toNat : Int) == 47) = false := eqf h47
    clear hl2
    go_wp2_with fail
    refine (Fin.out W (Only.refl _ _) h2 hm2 ht2).mono ?_
    rintro e w4 ⟨x, rfl, h4⟩
    go_wp2_with fail
    go_ret
    exact h4

set_option maxRecDepth 100000 in
set_option maxHeartbeats 4000000 in
theorem next_start {w : World} {r base k : Nat} {s : B} {v : Value} {ts : List Tok} {m : Int} (hpl : plainL (s.drop k) = false) (hp : ([60, 33, 45, 45] : B).isPrefixOf (s.drop k) = false) (hp2 : ([60, 47, 62] : B).isPrefixOf (s.drop k) = false) {d : UInt8} {u : B} (hd : s.drop k = 60 :: d :: u) (hl : letterB d = true) (h : Rdr w r s k v) (ht : Toks w base v ts) (hk : k < s.length) (hs : s.length ≤ 160000000) (hn : ts.length ≤ 1440000000) (hbase : base ≤ w.heap.size) (hm : w.cell? ⟨0, 0, none⟩ = some (.int .i64 m)) :
    Calls Tryz.prog 28 #[.pointer (some ⟨r, 0, none⟩)] w (NextP w r base v s k ts (nextL (s.drop k))) := by
  obtain ⟨i0, hi, hz0, hz1, hzb⟩ := info_parts info55
  have hk1 : k + 1 < s.length := by
    have := congrArg List.length hd
    simp at this
    omega
  have hx : nextL (s.drop k) = (match tagL (s.drop (k + 1)) with
      | none => none
      | some (t, x) => some ([t] ++ (if (rawL t.name).1 then rawT (rawL t.name).2 (x.take (rawN t.name x)) else []), if (rawL t.name).1 then x.drop (rawN t.name x) else x)) := by
    unfold nextL
    rw [if_neg (by rw [hpl]; simp), if_neg (by rw [hp]; simp), if_neg (by rw [hp2]; simp)]
    have hd1 : s.drop (k + 1) = d :: u := by
      have := congrArg (List.drop 1) hd
      rw [List.drop_drop] at this
      exact this
    rw [hd, hd1]
    simp only []
    rw [if_pos hl]
    cases tagL (d :: u) with
    | none => rfl
    | some tx =>
      obtain ⟨t, x⟩ := tx
      simp only []
      cases (rawL t.name).1 with
      | false => rfl
      | true =>
        simp only [if_true]
        unfold rawT
        cases (rawL t.name).2 with
        | false =>
          simp only [Bool.false_eq_true, if_false]
          split <;> simp_all
        | true =>
          simp only [if_true]
          split <;> simp_all
  obtain ⟨K4, hK4⟩ : ∃ K4, K4 = k + 1 := ⟨_, rfl⟩
  rw [← hK4] at hx
  have HX := Lib.hid hx
  have HD := Lib.hid hd
  have hw4 : IntKind.i64.wrap ((k : Int) + 1) = (K4 : Int) := by rw [IntKind.wrap_i64]; omega
  have hK4l : K4 ≤ s.length := by omega
  have hkK : k < K4 := by omega
  clear hx hK4 hk1 hd
  go_enter Tryz.func28, Tryz.ntmps28
  go_wp2_with fail
  refine (left_u h (Nat.le_of_lt hk)).mono ?_
  rintro e w1 ⟨rfl, n1, rfl⟩
  go_wp2_with fail
  refine (plain_u (h.drewN n1) hk).mono ?_
  rintro e w2 ⟨rfl, n2, rfl⟩
  obtain ⟨q, hq⟩ := drewN_two w n1 n2
  rw [hq]
  clear hq
  have h2 : Rdr (w.drewN q) r s k v := h.drewN q
  have ht2 : Toks (w.drewN q) base v ts := ht.drewN q
  have hm2 : (w.drewN q).cell? ⟨0, 0, none⟩ = some (.int .i64 m) := hm
  have hb2 : base ≤ (w.drewN q).heap.size := hbase
  have ho2 : Only (fun b => b = r) w (w.drewN q) := (Only.refl _ w).drewN q
  generalize w.drewN q = W at h2 ht2 hm2 hb2 ho2 ⊢
  rw [hpl]
  have c1 := h2.c1
  have f1 := Blk.frozen h2.blk 1

  go_wp2_with fail
  refine (has_prefix (s.drop k) [60, 33, 45, 45]).mono ?_
  rintro e w2 ⟨rfl, hw2⟩
  rw [hw2, hp]
  clear hw2 w2
  go_wp2_with fail
  refine (has_prefix (s.drop k) [60, 47, 62]).mono ?_
  rintro e w2 ⟨rfl, hw2⟩
  rw [hw2, hp2]
  clear hw2 w2
  rw [HD.out]
  have g1 : ((bs (60 :: d :: u))[1]'(by rw [bs_size]; simp)).toNat = d.toNat := rfl
  have i1 : (1 : Int) < ((bs (60 :: d :: u)).size : Int) := by rw [bs_size, List.length_cons, List.length_cons]; omega
  have i1' : 1 < (bs (60 :: d :: u)).size := by rw [bs_size]; simp
  go_wp2_with fail
  refine (letter_u d _).mono ?_
  rintro e w2 ⟨rfl, hw2⟩
  rw [hw2, hl]
  clear hw2 w2

  go_wp2_with fail
  have h3 := h2.go K4
  have ho3 := only_set ho2 1 (.int .i64 (K4 : Nat))
  have hm3 : (W.setCell ⟨r, 1, none⟩ (.int .i64 (K4 : Nat))).cell? ⟨0, 0, none⟩ = some (.int .i64 m) := hm_pass hm2 h2 (only_set (Only.refl _ W) 1 _)
  have ht3 := Toks.keepOnly h2 ht2 (only_set (Only.refl _ W) 1 (.int .i64 (K4 : Nat)))
  clear hm2 c1 f1
  generalize W.setCell ⟨r, 1, none⟩ (.int .i64 (K4 : Nat)) = W3 at h3 ho3 hm3 ht3 ⊢
  refine (tag_u h3 hK4l hs hm3).mono ?_
  intro e w4 hT
  have HX2 := HX.out
  rw [tagL_eq] at HX2
  unfold TagPost at hT
  have hnm : (Tz.lowL ((s.drop K4).takeWhile nameC)).length ≤ 160000000 := by
    rw [low_len]
    refine Nat.le_trans (takeW_le _) ?_
    rw [List.length_drop]
    omega
  generalize Tz.lowL ((s.drop K4).takeWhile nameC) = nm at hT HX2 hnm
  cases hR : tagR ((s.drop K4).dropWhile nameC) false [] with
  | none =>
    rw [hR] at hT HX2
    obtain ⟨rfl, k4, hk4, hr4, ho4⟩ := hT
    have HX3 := Lib.hid HX2
    clear HX2 HX hR
    go_wp2_with (first
      | (with_reducible refine store_new rfl 55 (.tmp 4) (.tmp 65) rfl zero55 rfl rfl (by kernel_rfl) (by kernel_rfl) (by kernel_rfl) ?_; intro W5 hW5 hB5))
    go_ret
    rw [HX3.out]
    have hr5 : Rdr W5 r s k4 v := Blk.below hr4 hB5 (heap_lt hr4)
    have ho5 : Only (fun b => b = r) W3 W5 := only_below ho4 hB5
    exact ⟨rfl, k4, hk4, RdP.after ho3 (RdP.moved h3 ht3 hr5 ho5)⟩
  | some cx =>
    obtain ⟨cl, l, x⟩ := cx
    rw [hR] at hT HX2
    obtain ⟨A, c, rfl, hA, hr4, ho4⟩ := hT
    obtain ⟨hd4, hk4, hk4l⟩ := tag_rest hR hK4l
    obtain ⟨k4, hk4e⟩ : ∃ k4, k4 = s.length - x.length := ⟨_, rfl⟩
    rw [← hk4e] at hd4 hk4 hk4l hr4
    have HX3 := Lib.hid HX2
    have HD4 := Lib.hid hd4
    clear HX2 HX hR hk4e hd4
    go_wp2_with (first
      | (with_reducible refine store_new rfl 55 (.tmp 4) (.tmp 65) rfl (tokCells ⟨2, nm, l, cl, []⟩ A c).toArray rfl rfl (by kernel_rfl) (by kernel_rfl) (by kernel_rfl) ?_; intro W5 hW5 hB5))
    have hr5 : Rdr W5 r s k4 v := Blk.below hr4 hB5 (heap_lt hr4)
    have ho5 : Only (fun b => b = r) W3 W5 := only_below ho4 hB5
    have ht5 := Toks.keepOnly h3 ht3 ho5
    have hA5 : W5.ownsRow 0 57 2 (.slice A l.length c) l.length (atrCells l) := own_mono (own_keepT hA (KeepT.below hB5)) (Nat.zero_le _)
    have ho5' := ho3.trans ho5
    have hg : w4.heap.size < W5.heap.size := heap_lt hW5
    have hvg : v.ownBlock ≠ some w4.heap.size := fun e => by
      obtain ⟨_, hown, _⟩ := ht3
      have h1 := (hown.lt _ e).2
      have := ho4.size
      omega
    have hgr' : w4.heap.size ≠ r := fun e => by
      have := heap_lt hr4
      omega
    clear hA hr4 ho4 hB5 ht3 h3 ho3 hm3 ho5 hm
    generalize w4.heap.size = g at hW5 hg hvg hgr' ⊢
    obtain ⟨xs, hown, htc⟩ := ht5
    obtain ⟨ι, hne, F, hF, hcov⟩ := class_of (fun X => X.cell? ⟨r, 2, none⟩ = some v ∧ X.heap[g]? = some (.cells (tokCells ⟨2, nm, l, cl, []⟩ A c).toArray 55 (0, 0))) (W5.drew) (show _ ∧ _ from ⟨hr5.c2, hW5⟩)
    have q2 : ∀ i, (F i).cell? ⟨r, 2, none⟩ = some v := fun i => (hF i).1
    have q30 : ∀ i, (F i).cell? ⟨g, 0, none⟩ = some (.int .i64 2) := fun i => Blk.cell (hF i).2 0
    have q31 : ∀ i, (F i).cell? ⟨g, 1, none⟩ = some (.string (bs nm)) := fun i => Blk.cell (hF i).2 1
    have q32 : ∀ i, (F i).cell? ⟨g, 2, none⟩ = some (.slice A l.length c) := fun i => Blk.cell (hF i).2 2
    have q33 : ∀ i, (F i).cell? ⟨g, 3, none⟩ = some (.bool cl) := fun i => Blk.cell (hF i).2 3
    have q34 : ∀ i, (F i).cell? ⟨g, 4, none⟩ = some (.string (bs [])) := fun i => Blk.cell (hF i).2 4
    have hS0 := hcov W5.drew (show _ ∧ _ from ⟨hr5.c2, hW5⟩)
    refine wp_region_tailS 6 2 (S := fun X => ∃ i, X = F i) (by kernel_rfl) (by kernel_rfl) (fun _ _ _ _ _ h => h) hS0 ?_
    dsimp only [List.take, List.drop]
    repeat (go_big_quiet_step (fail))
    refine wpQuiet_nil ?_

    refine wpListS_step (hS0) (fun K hK => ?_)
    go_simp
    have hr6 : Rdr (W5.alloc (.cells (tokCells ⟨2, nm, l, cl, []⟩ A c).toArray 55)) r s k4 v := Blk.alloc hr5 _
    have hg6' : (W5.alloc (.cells (tokCells ⟨2, nm, l, cl, []⟩ A c).toArray 55)).heap[g]? = some (.cells (tokCells ⟨2, nm, l, cl, []⟩ A c).toArray 55 (0, 0)) := Blk.alloc hW5 _
    refine hK.out _ _ (hcov _ ⟨hr6.c2, hg6'⟩) ?_
    clear hK K
    try simp only [Act.put, List.setIfInBounds_toArray, List.set_cons_zero, List.set_cons_succ]
    refine wpListS_step (hcov _ ⟨hr6.c2, hg6'⟩) (fun K hK => ?_)
    have ho5 : Only (fun b => b = r) W5 (W5.alloc (.cells (tokCells ⟨2, nm, l, cl, []⟩ A c).toArray 55)) := (Only.refl _ W5).alloc _
    have hk5 : KeepT 57 W5 (W5.alloc (.cells (tokCells ⟨2, nm, l, cl, []⟩ A c).toArray 55)) := KeepT.ofOnly (Rdr.blk hr5) (by decide) ho5
    have hown5 : World.ownsRow (W5.alloc (.cells (tokCells ⟨2, nm, l, cl, []⟩ A c).toArray 55)) base 55 5 v ts.length xs := own_only (S := fun b => b = r) hown ((Only.refl _ W5).alloc _) (fun k hk e => hr5.ne hown (e ▸ hk))
    have hz5 := ho5.size
    refine step_append_any _ rfl (.tmp 73) (.tmp 75) 40 rfl base 55 i0 _ 5 72 Tryz.underlying40 hi hz0 hz1 hzb rfl (by omega) v ts.length xs rfl hown5 _ _ 1 1 (tokCells ⟨2, nm, l, cl, []⟩ A c) rfl (reads_row W5 55 _ 5 1 rfl) (tokCells_one _ _ _) (by unfold maxLen; omega) (by omega) (Nat.le_trans (Nat.le_trans hbase ho5'.size) hz5) ?_
    intro v6 w6 hown6 hgr hat6
    have hgr : (W5.alloc (.cells (tokCells ⟨2, nm, l, cl, []⟩ A c).toArray 55)).grownBy w6 v.ownBlock := ⟨hgr.os, hgr.tape, hgr.output, hgr.size, hgr.block⟩
    have hr7 : Rdr w6 r s k4 v := Blk.grown hr6 hgr (fun e => Rdr.ne hr6 hown5 e.symm)
    have hg7' : w6.heap[g]? = some (.cells (tokCells ⟨2, nm, l, cl, []⟩ A c).toArray 55 (0, 0)) := Blk.grown hg6' hgr (fun e => hvg e.symm)
    refine hK.out _ _ (hcov _ ⟨hr7.c2, hg7'⟩) ?_
    clear hK K
    try simp only [Act.put, List.setIfInBounds_toArray, List.set_cons_zero, List.set_cons_succ]
    refine wpListS_zero ?_
    obtain ⟨a6, c6, rfl⟩ := own_slice hown6
    have f2 := Blk.frozen hr7 2
    have g2 := Rdr.c2 hr7
    have hP := tok_fin (t := ⟨2, nm, l, cl, []⟩) hr7 ho5 htc hk5 hown5 hown6 hgr hat6 (own_keepT hA5 (KeepT.below ((Below.refl _ W5).alloc (Nat.le_refl _) _)))
    have hg8 : (w6.setCell ⟨r, 2, none⟩ (.slice a6 (ts.length + 1) c6)).heap[g]? = some (.cells (tokCells ⟨2, nm, l, cl, []⟩ A c).toArray 55 (0, 0)) := Blk.far hg7' hgr' _
    have q81 : (w6.setCell ⟨r, 2, none⟩ (.slice a6 (ts.length + 1) c6)).cell? ⟨g, 1, none⟩ = some (.string (bs nm)) := Blk.cell hg8 1
    obtain ⟨v8, hr8, ht8, ho8, hv8⟩ := hP
    go_wp2_with fail
    refine (raw_name nm).mono ?_
    rintro e w9 ⟨rfl, hw9⟩
    rw [hw9]
    clear hw9 w9
    have HX4 := Lib.hid (show nextL (s.drop k) = some ([⟨2, nm, l, cl, []⟩] ++ (if (rawL nm).1 = true then rawT (rawL nm).2 (x.take (rawN nm x)) else []), if (rawL nm).1 = true then x.drop (rawN nm x) else x) from HX3.out)
    cases hraw : (rawL nm).1 with
    | false =>
      rw [hraw] at HX4
      go_wp2_with fail
      go_ret
      rw [HX4.out]
      refine ⟨rfl, k4, HD4.out, by omega, hk4l, ?_⟩
      rw [if_neg (by simp), List.append_nil]
      exact RdP.after ho5' ⟨v8, hr8, ht8, ho8, hv8⟩
    | true =>
      rw [hraw] at HX4
      generalize (rawL nm).2 = rc at HX4 ⊢
      go_wp2_with fail
      have hb8 : base ≤ (w6.setCell ⟨r, 2, none⟩ (.slice a6 (ts.length + 1) c6)).heap.size := Nat.le_trans hbase (Nat.le_trans ho5'.size ho8.size)
      refine (raw_u hr8 ht8 hk4l hs (by rw [List.length_append, List.length_singleton]; omega) (by omega) hb8).mono ?_
      rintro e w9 ⟨rfl, hp9⟩
      go_wp2_with fail
      go_ret
      rw [HX4.out]
      have hrl := rawN_le nm x
      have hxl : x.length = s.length - k4 := by rw [← HD4.out, List.length_drop]
      refine ⟨rfl, k4 + rawN nm x, by rw [if_pos trivial, ← HD4.out, List.drop_drop], by omega, by omega, ?_⟩
      rw [if_pos trivial, ← List.append_assoc]
      rw [HD4.out] at hp9
      exact RdP.after ho5' (RdP.next ho8 hv8 hp9)
end Go.Proofs.YtlgaeeedkihfpaaGreatDoor.Uf
