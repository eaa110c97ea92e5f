/-
  Texts of the proof of Chain, one behind the other: TagB, TagW.
-/
import Derived.Test.YtlgaeeedkihfpaaGreatDoorC19
/-
  tok.reader's tag: what stands behind the label 'between'.
-/
namespace Go.Proofs.YtlgaeeedkihfpaaGreatDoor.Uf
open Go.RowKit
open Tz (B Atr Tok tagG tagL blankB attrC valC nameC addA resolveL)

theorem only_row {S : Nat → Prop} {w W : World} {g : Nat} (h : Only S w W) (hg : w.heap.size ≤ g) (cs : Array Value) : Only S w (W.setRow g cs) :=
  ⟨h.os, h.tape, h.output, by rw [setRow_size]; exact h.size, fun k hk hn => (setRow_other W g k cs (by omega)).trans (h.block k hk hn)⟩

/-- The whole attribute is written. -/
theorem TagS.row_ {w w1 : World} {r k R2 T4 M5 A6 : Nat} {s nm an av : B} {v va : Value} {cl : Bool} {l : List Atr} (h : TagS w r s k v R2 T4 M5 A6 nm cl l va an av w1) (an' av' : B) : TagS w r s k v R2 T4 M5 A6 nm cl l va an' av' (w1.setRow A6 #[.string (bs an'), .string (bs av')]) where
  rd := (setRow_other _ A6 r _ (fun e => Blk.ne_ h.cur h.rd.blk (by decide) e.symm)).trans h.rd
  on := only_row h.on h.ge.2.2.2 _
  res := (setRow_other _ A6 R2 _ (Blk.ne_ h.res h.cur (by decide))).trans h.res
  tok := (setRow_other _ A6 T4 _ (Blk.ne_ h.tok h.cur (by decide))).trans h.tok
  own := own_only h.own (S := fun b => b = A6) ⟨rfl, rfl, rfl, by rw [setRow_size]; exact Nat.le_refl _, fun k _ hn => setRow_other _ A6 k _ hn⟩ (fun k hk e => h.ovn (by rw [hk, e]))
  ovn := h.ovn
  seen := seen_kept h.seen (setRow_other _ A6 M5 _ (seen_ne h.seen h.cur))
  cur := setRow_heap _ A6 _ _ 57 (0, 0) h.cur
  ge := h.ge
  ne := h.ne
  len := h.len
  names := h.names

set_option maxRecDepth 100000 in
set_option maxHeartbeats 8000000 in
theorem between_w : ∃ N, tagB = some N ∧ ∀ {w W : World} {r k R2 T4 M5 A6 : Nat} {s nm an av : B} {v va : Value} {cl : Bool} {l : List Atr} {RR : Option (Bool × List Atr × B)} {J' : Nat → Act → World → Prop} {t : Array Value} {m : Int}
    (_ : ∀ lb a w1, TagJ w r s v nm RR lb a w1 → k < atOf w1 r → J' lb a w1) (_ : TagF r R2 T4 M5 A6 t) (_ : TagS w r s k v R2 T4 M5 A6 nm cl l va an av W) (_ : k ≤ s.length) (_ : s.length ≤ 160000000)
    (_ : tagR (s.drop k) cl l = RR) (_ : w.cell? ⟨0, 0, none⟩ = some (.int .i64 m)) (_ : ∃ k', Rdr w r s k' v), N.wp Tryz.prog (exJumps J' (bodyPost Tryz.prog Tryz.f66 (TagPost w r s v nm RR))) ⟨t, []⟩ W := by
  refine ⟨_, rfl, ?_⟩
  intro w W r k R2 T4 M5 A6 s nm an av v va cl l RR J' t m hJ hF hS hk hs hT hm hr0
  obtain ⟨hz, f0, f1, f2, f3, f4, f5, f6⟩ := hF
  obtain ⟨f, hf, ht⟩ := litf hz
  have g0 := (hf 0).trans f0
  have g1 := (hf 1).trans f1
  have g2 := (hf 2).trans f2
  have g3 := (hf 3).trans f3
  have g4 := (hf 4).trans f4
  have g5 := (hf 5).trans f5
  have g6 := (hf 6).trans f6
  rw [g0, g1, g2, g3, g4, g5, g6] at ht
  subst ht
  clear hf f0 f1 f2 f3 f4 f5 f6 g0 g1 g2 g3 g4 g5 g6
  clear hz
  have HT := Lib.hid hT
  have HJ := Lib.hid hJ
  have Hm := Lib.hid (And.intro hm hr0)
  clear hT hJ hm hr0
  go_wp2_with fail
  refine (pass_u ent85 fun85 hS.rd hk (by omega)).mono ?_
  rintro e w1 ⟨rfl, hr1, ho1⟩
  have hk1 := pass_le (p := blankB) hk
  have hd1 := drop_pass (p := blankB) (s := s) k
  have hS1 := hS.pass ho1 hr1 (Nat.le_add_right _ _)
  obtain ⟨k1, hk1e⟩ : ∃ k1, k1 = k + ((s.drop k).takeWhile blankB).length := ⟨_, rfl⟩
  rw [← hk1e] at hk1 hd1 hS1 hr1
  have hkk : k ≤ k1 := by omega
  clear hk1e
  have c0 := hr1.c0
  have c1 := hr1.c1
  cases hd : (s.drop k).dropWhile blankB with
  | nil =>
    rw [hd] at hd1
    have hke : k1 = s.length := by
      have := congrArg List.length hd1
      simp at this
      omega
    have HR := Lib.hid (show RR = none by rw [← HT.out, tag_end hd])
    have e1 : ((k1 : Int) == ((bs s).size : Int)) = true := by rw [bs_size, hke]; simp
    have e2 : (k1 == (bs s).size) = true := by rw [bs_size, hke]; simp
    clear hd1 hke hd
    go_wp2_with fail
    go_quiet (fail)
    have hR2 : (w1.drewN nq).heap[R2]? = some (.cells zero55 55 (0, 0)) := hS1.res
    go_wp2_with (first
      | (with_reducible refine wpList_store_row rfl 55 (.tmp 2) (.tmp 26) rfl R2 zero55 rfl rfl 55 _ hR2 (by kernel_rfl) (by kernel_rfl) (by kernel_rfl) ?_
         rw [setRow_self _ R2 zero55 55 (0, 0) hR2]))
    rw [exJumps_ret]
    refine bodyPost_ret (tag_ret (g := R2) (cs := zero55) rfl hR2 (by kernel_rfl)) rfl ?_
    rw [HR.out]
    exact ⟨rfl, k1, hk1, hr1, hS1.on.drewN nq⟩
  | cons c x =>
    rw [hd] at hd1
    have hlt : k1 < s.length := by
      have := congrArg List.length hd1
      simp at this
      omega
    have hx : s.drop (k1 + 1) = x := by
      rw [List.drop_eq_getElem_cons hlt] at hd1
      injection hd1
    have hc : s[k1] = c := by
      rw [List.drop_eq_getElem_cons hlt] at hd1
      injection hd1
    have e1 : ((k1 : Int) == ((bs s).size : Int)) = false := by rw [bs_size]; simp; omega
    have e2 : (k1 == (bs s).size) = false := by rw [bs_size]; simp; omega
    have hix : (k1 : Int) < ((bs s).size : Int) := by rw [bs_size]; omega
    have hb0 : ((bs s)[k1]'(by rw [bs_size]; omega)).toNat = c.toNat := by rw [← hc]; rfl
    have Hx := Lib.hid (And.intro hx hd1)
    have hw1 : IntKind.i64.wrap ((k1 : Int) + 1) = ((k1 + 1 : Nat) : Int) := by rw [IntKind.wrap_i64]; omega
    have hw1b : (k1 + 1 : Nat) ≤ s.length := hlt
    clear hx hd1 hc
    by_cases h47 : c.toNat = 47
    · obtain rfl : c = 47 := byte_is h47
      have HT2 := Lib.hid (show tagR (s.drop (k1 + 1)) (cl || x.head? == some 62) l = RR by rw [← HT.out, tag_slash hd, Hx.out.1])
      have q1 : (((47 : UInt8).toNat : Int) == 47) = true := rfl
      have hpf : ([47, 62] : B).isPrefixOf (47 :: x) = (x.head? == some 62) := by
        cases x with
        | nil => rfl
        | cons y z => simp [List.isPrefixOf]; rw [Bool.beq_comm]
      clear h47 hd
      go_wp2_with fail
      go_quiet (fail)
      have hS2 := hS1.drewN nq
      generalize w1.drewN nq = W2 at hS2 ⊢
      have c0 := hS2.rd.c0
      have c1 := hS2.rd.c1
      go_wp2_with fail
      go_quiet (fail)
      have hS3 := hS2.drewN nq
      generalize W2.drewN nq = W3 at hS3 ⊢
      have c1 := hS3.rd.c1
      have f1 := Blk.frozen hS3.rd.blk 1
      have tk3 := Blk.cell hS3.tok 3
      have tf3 := Blk.frozen hS3.tok 3
      have hL : Calls Tryz.prog 60 #[.pointer (some ⟨r, 0, none⟩)] W3 fun e w' => e = .returned (.string (bs (47 :: x))) ∧ ∃ m, w' = W3.drewN m := by rw [← Hx.out.2]; exact left_u hS3.rd hk1
      have fin : ∀ (W4 : World) (cl' : Bool) (a : Act), TagS w r s k1 v R2 T4 M5 A6 nm cl' l va an av W4 → tagR (s.drop (k1 + 1)) cl' l = RR → a.defers = [] → TagF r R2 T4 M5 A6 a.tmps → J' 0 a (W4.setCell ⟨r, 1, none⟩ (.int .i64 ((k1 + 1 : Nat) : Int))) := by
        intro W4 cl' a h4 hT4 ha hF4
        have h5 := h4.go (k1 + 1) (Nat.le_succ _)
        exact HJ.out 0 a _ ⟨R2, T4, M5, A6, cl', l, va, an, av, k1 + 1, ha, hF4, h5, hw1b, .inl ⟨rfl, hT4⟩⟩ (by rw [h5.rd.at_]; omega)
      have Fin := Lib.hid fin
      clear fin
      cases cl with
      | true =>
        go_wp2_with fail
        go_step3
        show J' 0 _ _
        exact Fin.out _ _ _ (hS3.tok_ true) (by simpa using HT2.out) rfl ⟨rfl, rfl, rfl, rfl, rfl, rfl, rfl, rfl⟩
      | false =>
        go_wp2_with fail
        refine hL.mono ?_
        rintro e w4 ⟨rfl, n4, rfl⟩
        go_wp2_with fail
        refine (has_prefix (47 :: x) [47, 62]).mono ?_
        rintro e w5 ⟨rfl, hw5⟩
        rw [hw5, hpf]
        clear hw5 w5
        go_wp2_with fail
        go_step3
        show J' 0 _ _
        exact Fin.out _ _ _ ((hS3.drewN n4).tok_ _) (by simpa using HT2.out) rfl ⟨rfl, rfl, rfl, rfl, rfl, rfl, rfl, rfl⟩
    · have n47 : ((c.toNat : Int) == 47) = false := eqf h47
      by_cases h62 : c.toNat = 62
      · obtain rfl : c = 62 := byte_is h62
        have HR := Lib.hid (show RR = some (cl, l, x) by rw [← HT.out, tag_gt hd])
        have hxl := Lib.hid (show s.length - x.length = k1 + 1 by rw [← Hx.out.1]; simp; omega)
        clear h62 h47 hd
        obtain ⟨a0, c0', rfl⟩ := own_slice hS1.own
        go_wp2_with fail
        go_quiet (fail)
        have hS2 := hS1.drewN nq
        generalize w1.drewN nq = W2 at hS2 ⊢
        have c0 := hS2.rd.c0
        have c1 := hS2.rd.c1
        go_wp2_with fail
        go_quiet (fail)
        have hS3 := hS2.drewN nq
        generalize W2.drewN nq = W3 at hS3 ⊢
        have c1 := hS3.rd.c1
        have f1 := Blk.frozen hS3.rd.blk 1
        have hS4 : TagS w r s (k1 + 1) v R2 T4 M5 A6 nm cl l (.slice a0 l.length c0') an av (W3.setCell ⟨r, 1, none⟩ (.int .i64 ((k1 : Int) + 1))) := hS3.go (k1 + 1) (Nat.le_succ _)
        have hT4 : (W3.setCell ⟨r, 1, none⟩ (.int .i64 ((k1 : Int) + 1))).heap[T4]? = some (.cells #[.int .i64 2, .string (bs nm), .slice a0 l.length c0', .bool cl, .string ⟨#[]⟩] 55 (0, 0)) := hS4.tok
        have hz5 : zero55.size = (#[.int .i64 2, .string (bs nm), .slice a0 l.length c0', .bool cl, .string ⟨#[]⟩] : Array Value).size := rfl
        have ho5 : (#[.int .i64 2, .string (bs nm), .slice a0 l.length c0', .bool cl, .string ⟨#[]⟩] : Array Value).all (·.oneCell') = true := by simp [Value.oneCell']
        have hi5 : (Tryz.prog.info? 55).map (·.size) = some (#[.int .i64 2, .string (bs nm), .slice a0 l.length c0', .bool cl, .string ⟨#[]⟩] : Array Value).size := by kernel_rfl
        have hR4 : (W3.setCell ⟨r, 1, none⟩ (.int .i64 ((k1 : Int) + 1))).heap[R2]? = some (.cells zero55 55 (0, 0)) := hS4.res
        go_wp2_with (first
          | (with_reducible refine wpList_load_row rfl 55 (.tmp 4) rfl T4 rfl 55 #[.int .i64 2, .string (bs nm), .slice a0 l.length c0', .bool cl, .string ⟨#[]⟩] (0, 0) _ hT4 Tryz.underlying55 rfl (by kernel_rfl) ?_)
          | (with_reducible refine wpList_store_row rfl 55 (.tmp 2) (.tmp 62) rfl R2 #[.int .i64 2, .string (bs nm), .slice a0 l.length c0', .bool cl, .string ⟨#[]⟩] rfl rfl 55 _ hR4 hi5 hz5 ho5 ?_))
        rw [exJumps_ret]
        refine bodyPost_ret (tag_ret (g := R2) rfl (setRow_heap _ R2 zero55 _ 55 (0, 0) hR4) (by kernel_rfl)) rfl ?_
        rw [HR.out]
        refine ⟨a0, c0', rfl, ?_, ?_, only_row hS4.on hS4.ge.1 _⟩
        · exact own_keepT hS4.own (fun g cur y => (setRow_other _ R2 g _ (fun e => by
            subst e
            rw [hR4] at y
            injection y with y
            injection y with _ y _
            cases y)).trans y)
        · rw [hxl.out]
          exact (setRow_other _ R2 r _ (fun e => Blk.ne_ hS4.res hS4.rd.blk (by decide) e.symm)).trans hS4.rd
      · have n62 : ((c.toNat : Int) == 62) = false := eqf h62
        have hne47 : c ≠ 47 := fun e => h47 (by rw [e]; rfl)
        have hne62 : c ≠ 62 := fun e => h62 (by rw [e]; rfl)
        have HR := Lib.hid (show tagR (s.drop k) cl l = _ from tag_name hd hne47 hne62)
        clear h62 h47 hd hne47 hne62
        go_wp2_with fail
        go_quiet (fail)
        have hS2 := hS1.drewN nq
        generalize w1.drewN nq = W2 at hS2 ⊢
        have c0 := hS2.rd.c0
        have c1 := hS2.rd.c1
        go_wp2_with fail
        go_quiet (fail)
        have hS3 := hS2.drewN nq
        generalize W2.drewN nq = W3 at hS3 ⊢
        have c1 := hS3.rd.c1
        have f1 := Blk.frozen hS3.rd.blk 1
        go_wp2_with fail
        obtain ⟨K2, hK2⟩ : ∃ K2, K2 = k1 + 1 := ⟨_, rfl⟩
        have hw2 : IntKind.i64.wrap ((k1 : Int) + 1) = (K2 : Int) := by rw [hK2]; exact hw1
        have hex1 : (bs s).extract k1 K2 = bs [c] := by rw [bs_extract, Hx.out.2, hK2]; simp
        have hle1 : (k1 : Int) ≤ (K2 : Int) := by omega
        have hle2 : (K2 : Int) ≤ ((bs s).size : Int) := by rw [bs_size]; omega
        have hle0 : (0 : Int) ≤ (k1 : Int) := by omega
        have HK2 := Lib.hid hK2
        clear hK2 hw1
        have hA6 : W3.drew.heap[A6]? = some (.cells #[.string (bs an), .string (bs av)] 57 (0, 0)) := hS3.cur
        have ho2 : (#[.string (bs [c]), .string (bs [])] : Array Value).all (·.oneCell') = true := by simp [Value.oneCell']
        have hS4 := (hS3.drewN 1).row_ [c] []
        have c0 := hS3.rd.c0
        refine wp_region_tail 15 (by kernel_rfl) (by kernel_rfl) (fun _ _ _ _ _ h => h) ?_
        dsimp only [List.take, List.drop]
        repeat (go_big_quiet_step (fail))
        refine wpQuiet_nil ?_
        refine wpList_store_row rfl 57 (.tmp 6) (.tmp 77) rfl A6 #[.string (bs [c]), .string (bs [])] rfl rfl 57 _ hA6 hz57 rfl ho2 ?_
        have hS4 : TagS w r s k1 v R2 T4 M5 A6 nm cl l va [c] [] (W3.drew.setRow A6 #[.string (bs [c]), .string (bs [])]) := hS4
        generalize W3.drew.setRow A6 #[.string (bs [c]), .string (bs [])] = W4 at hS4 ⊢
        have c1 := hS4.rd.c1
        have f1 := Blk.frozen hS4.rd.blk 1
        have hS5 := hS4.go K2 (by have := HK2.out; omega)
        go_wp2_with fail
        generalize W4.setCell ⟨r, 1, none⟩ (.int .i64 (K2 : Nat)) = W5 at hS5 ⊢
        rename_i hK
        obtain ⟨R, N, hN, hnw⟩ := name_w
        have hm5 : W5.cell? ⟨0, 0, none⟩ = some (.int .i64 m) := hS5.hm Hm.out.1 (.inr Hm.out.2)
        have hlk5 : l.length + 1 ≤ K2 := by have := HK2.out; have := hS1.len; omega
        refine wp_cast2 hN rfl hK (hnw (w := w) (RR := RR) (m := m) (fun lb a w1 h1 h2 => HJ.out lb a w1 h1 (by have := HK2.out; omega)) (show TagF r R2 T4 M5 A6 _ from ⟨rfl, rfl, rfl, rfl, rfl, rfl, rfl, rfl⟩) hS5 (by have := HK2.out; omega) hs ?_ hlk5 hm5)
        rw [HK2.out, Hx.out.1, ← HT.out, HR.out]
        rfl
end Go.Proofs.YtlgaeeedkihfpaaGreatDoor.Uf

/-
  tok.reader's tag: what it computes.
-/
namespace Go.Proofs.YtlgaeeedkihfpaaGreatDoor.Uf
open Go.RowKit
open Tz (B Atr Tok tagG tagL blankB attrC valC nameC addA resolveL)

set_option maxRecDepth 100000 in
set_option maxHeartbeats 8000000 in
theorem tag_u {w : World} {r k0 : Nat} {s : B} {v : Value} {m : Int} (h : Rdr w r s k0 v) (hk0 : k0 ≤ s.length) (hs : s.length ≤ 160000000) (hm : w.cell? ⟨0, 0, none⟩ = some (.int .i64 m)) :
    Calls Tryz.prog 66 #[.pointer (some ⟨r, 0, none⟩)] w (TagPost w r s v (Tz.lowL ((s.drop k0).takeWhile nameC)) (tagR ((s.drop k0).dropWhile nameC) false [])) := by
  obtain ⟨nm, hnm⟩ : ∃ nm, nm = Tz.lowL ((s.drop k0).takeWhile nameC) := ⟨_, rfl⟩
  obtain ⟨RR, hRR⟩ : ∃ RR, RR = tagR ((s.drop k0).dropWhile nameC) false [] := ⟨_, rfl⟩
  rw [← hnm, ← hRR]
  have HN := Lib.hid (And.intro hnm hRR)
  clear hnm hRR
  have hmm := @run_makeMap Tryz.prog
  go_enter Tryz.func66, Tryz.ntmps66
  obtain ⟨w0, hw0⟩ : ∃ w0, w0 = w.alloc (.cells zero55 55) := ⟨_, rfl⟩
  have hs0 : w0.heap.size = w.heap.size + 1 := by rw [hw0]; simp
  have hr0 : Rdr w0 r s k0 v := by rw [hw0]; exact Blk.alloc h _
  have hR0 : Blk w0 w.heap.size 55 zero55 := by rw [hw0]; exact Blk.new _ _ _
  have ho0 : Only (fun b => b = r) w w0 := by rw [hw0]; exact (Only.refl _ w).alloc _
  go_wp2_with fail
  have e0 : w.alloc (Obj.cells #[Value.int IntKind.i64 0, Value.string { data := #[] }, Value.slice none 0 0, Value.bool false, Value.string { data := #[] }] 55) = w0 := by rw [hw0]; rfl
  rw [e0]
  clear e0 hw0
  refine scope_many (TagJ w r s v nm RR) (fun lb _ w1 => 2 * (s.length - atOf w1 r) + lb) ?_ ?_
  · go_wp2_with fail
    have hT1 : Blk (w0.alloc (.cells #[.int .i64 2, .string ⟨#[]⟩, .slice none 0 0, .bool false, .string ⟨#[]⟩] 55)) (w.heap.size + 1) 55 #[.int .i64 2, .string ⟨#[]⟩, .slice none 0 0, .bool false, .string ⟨#[]⟩] := by
      have := Blk.new w0 55 #[.int .i64 2, .string ⟨#[]⟩, .slice none 0 0, .bool false, .string ⟨#[]⟩]
      rw [hs0] at this
      exact this
    have hR1 : Blk (w0.alloc (.cells #[.int .i64 2, .string ⟨#[]⟩, .slice none 0 0, .bool false, .string ⟨#[]⟩] 55)) w.heap.size 55 zero55 := Blk.alloc hR0 _
    have hr1 : Rdr (w0.alloc (.cells #[.int .i64 2, .string ⟨#[]⟩, .slice none 0 0, .bool false, .string ⟨#[]⟩] 55)) r s k0 v := Blk.alloc hr0 _
    have ho1 : Only (fun b => b = r) w (w0.alloc (.cells #[.int .i64 2, .string ⟨#[]⟩, .slice none 0 0, .bool false, .string ⟨#[]⟩] 55)) := ho0.alloc _
    generalize w0.alloc (.cells #[.int .i64 2, .string ⟨#[]⟩, .slice none 0 0, .bool false, .string ⟨#[]⟩] 55) = W1 at hT1 hR1 hr1 ho1 ⊢
    clear hR0 hr0 ho0 hs0
    refine (pass_u ent83 fun83 hr1 hk0 (by omega)).mono ?_
    rintro e w2 ⟨rfl, hr2, ho2⟩
    have hT2 := hT1.only ho2 (Blk.ne_ hT1 hr1 (by decide))
    have hR2 := hR1.only ho2 (Blk.ne_ hR1 hr1 (by decide))
    have hrl : (s.drop k0).length ≤ 160000000 := by simp; omega
    go_wp2_with fail
    refine (lower_b ((s.drop k0).takeWhile nameC) (Nat.le_trans (takeW_le _) (by omega))).mono ?_
    rintro e w3 ⟨rfl, hb3⟩
    have hT3 := hT2.below hb3 (heap_lt hT2)
    have hR3 := hR2.below hb3 (heap_lt hR2)
    have hr3 : Rdr w3 r s _ v := Blk.below hr2 hb3 (heap_lt hr2)
    have ho3 := only_below (ho1.trans ho2) hb3
    rw [← HN.out.1]
    have f1 := Blk.frozen hT3 1
    have c1 := Blk.cell hT3 1
    have hs3 := heap_lt hT3
    obtain ⟨W3, hW3⟩ : ∃ W3, W3 = w3.setCell ⟨w.heap.size + 1, 1, none⟩ (.string (bs nm)) := ⟨_, rfl⟩
    obtain ⟨W4, hW4⟩ : ∃ W4, W4 = W3.alloc (.map #[] 0) := ⟨_, rfl⟩
    have hS : TagS w r s (k0 + ((s.drop k0).takeWhile nameC).length) v w.heap.size (w.heap.size + 1) W3.heap.size W4.heap.size nm false [] (.slice none 0 0) [] [] (W4.alloc (.cells #[.string ⟨#[]⟩, .string ⟨#[]⟩] 57)) := by
      have hz3 : W3.heap.size = w3.heap.size := by rw [hW3]; simp
      have hz4 : W4.heap.size = W3.heap.size + 1 := by rw [hW4]; simp
      have a1 : Rdr W3 r s (k0 + ((s.drop k0).takeWhile nameC).length) v := by rw [hW3]; exact Blk.far hr3 (Ne.symm (Blk.ne_ hT3 hr3 (by decide))) _
      have a2 : Blk W3 w.heap.size 55 zero55 := by rw [hW3]; exact Blk.far hR3 (by simp) _
      have a3 := Blk.set_ hT3 1 (.string (bs nm))
      rw [← hW3] at a3
      have a4 : Only (fun b => b = r) w W3 := by rw [hW3]; exact ho3.setCell (p := ⟨w.heap.size + 1, 1, none⟩) (fun hlt => absurd hlt (by simp)) _
      have s1 : Seen W4 W3.heap.size 0 [] := by rw [hW4]; exact seen_new W3
      exact {
        rd := Blk.alloc (by rw [hW4]; exact Blk.alloc a1 _) _
        on := by rw [hW4]; exact (a4.alloc _).alloc _
        res := Blk.alloc (by rw [hW4]; exact Blk.alloc a2 _) _
        tok := Blk.alloc (by rw [hW4]; exact Blk.alloc a3 _) _
        own := World.ownsRow_nil _ _ _ _
        ovn := by simp [Value.ownBlock]
        seen := seen_kept s1 (by rw [Below.heap_alloc]; omega)
        cur := Blk.new _ _ _
        ge := by omega
        ne := by omega
        len := Nat.zero_le _
        names := by simp }
    go_wp2_with fail
    go_step3
    rename_i hK
    refine hK _ _ ?_
    clear hK
    have hq3 : w3.heap.size = W3.heap.size := by rw [hW3]; simp
    have hq4 : W3.heap.size + 1 = W4.heap.size := by rw [hW4]; simp
    rw [← hW3, ← hW4, hq3, hq4]
    have HT : tagR (s.drop (k0 + ((s.drop k0).takeWhile nameC).length)) false [] = RR := by rw [drop_pass]; exact HN.out.2.symm
    have hk : k0 + ((s.drop k0).takeWhile nameC).length ≤ s.length := pass_le hk0
    clear hq3 hq4 hb3 hr3 hT3 hR3 ho3 f1 c1 hs3 hT2 hR2 hr2 ho2 hT1 hR1 hr1 ho1
    generalize W4.alloc (.cells #[.string ⟨#[]⟩, .string ⟨#[]⟩] 57) = W at hS ⊢
    generalize W4.heap.size = A6 at hS ⊢
    generalize W3.heap.size = M5 at hS ⊢
    generalize w.heap.size + 1 = T4 at hS ⊢
    obtain ⟨R2, hR2⟩ : ∃ R2, R2 = w.heap.size := ⟨_, rfl⟩
    rw [← hR2] at hS ⊢
    generalize k0 + ((s.drop k0).takeWhile nameC).length = k at hS HT hk
    clear hW3 hW4 hR2 W3 W4 w3 hk0
    obtain ⟨N, hN, hbw⟩ := between_w
    exact wp_cast hN rfl (hbw (w := w) (J' := TagJ w r s v nm RR) (fun lb a w1 h1 _ => h1) (show TagF r R2 T4 M5 A6 _ from ⟨rfl, rfl, rfl, rfl, rfl, rfl, rfl, rfl⟩) hS hk hs HT hm ⟨k0, h⟩)
  · rintro lb ⟨tmps, defers⟩ w1 ⟨R2, T4, M5, A6, cl, l, va, an, av, k, hde, hF, hS, hk, hcase⟩
    obtain rfl : defers = [] := hde
    rcases hcase with ⟨rfl, hT⟩ | ⟨rfl, hT, hlk, han⟩
    · refine ⟨_, rfl, ?_⟩
      apply wp_seq_k
      intro K hK
      apply wp_skip
      refine hK _ _ ?_
      obtain ⟨N, hN, hbw⟩ := between_w
      refine wp_cast hN rfl (hbw (w := w) (m := m) (fun lb a w2 h1 h2 => ⟨h1, ?_⟩) hF hS hk hs hT hm ⟨k0, h⟩)
      obtain ⟨_, _, _, _, _, _, _, _, _, k2, _, _, hS2, hk2, hc2⟩ := h1
      rw [hS2.rd.at_] at h2 ⊢
      rw [hS.rd.at_]
      rcases hc2 with ⟨rfl, _⟩ | ⟨rfl, _⟩ <;> omega
    · refine ⟨_, rfl, ?_⟩
      apply wp_seq_k
      intro K hK
      apply wp_skip
      refine hK _ _ ?_
      obtain ⟨N, hN, hnw⟩ := named_w
      refine wp_cast hN rfl (hnw (w := w) (fun a w2 h1 h2 => ⟨h1, ?_⟩) hF hS hk hs hT hlk han)
      rw [h2, hS.rd.at_]
      omega
end Go.Proofs.YtlgaeeedkihfpaaGreatDoor.Uf
