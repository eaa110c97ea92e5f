/-
  Texts of the proof of Harm, one behind the other: StyG, UrlA, UrlB.
-/
import Derived.Test.YtlgaeeedkihfpaaGreatDoorH24
import Derived.Test.YtlgaeeedkihfpaaGreatDoorH07
/-
  style.Filter, whole.
-/
namespace Go.Proofs.YtlgaeeedkihfpaaGreatDoor.Uf
open Go.RowKit Go.WideMaps Go.Maps
open Tz (B styleV pairsL filterS lastsL joinL)

set_option maxRecDepth 100000 in
set_option maxHeartbeats 4000000 in
theorem filter_u {w : World} {S : Nat → Prop} {A : Option Addr} {c : Nat} {props : List B} {m : Int} (s : B) (h : StrsAt w S A props.length props) (hS : ∀ j, S j → j < w.heap.size) (hl : props.length ≤ 1000000) (hs : s.length ≤ 500000) (hm : w.cell? ⟨0, 0, none⟩ = some (.int .i64 m)) :
    Calls Tryz.prog 91 #[.string (bs s), .slice A props.length c] w fun e w' => e = .returned (.string (bs (filterS s props))) ∧ Below w.heap.size w w' := by
  have hmm := @run_makeMap Tryz.prog
  have h0 : (0 : Nat) < w.heap.size := World.block_lt_of_cell? w ⟨0, 0, none⟩ hm
  have hst := store_fn ((((w.alloc (.cells #[.slice A props.length c] 22)).alloc (.map #[] 0)).alloc (.cells #[.map (some (w.heap.size + 1))] 139)).alloc (.cells #[.int .i64 0] 3)) (w.heap.size + 1 + 1 + 1 + 1) (by simp only [alloc_size]) 107 (.func 103) #[.pointer (some ⟨w.heap.size, 0, none⟩)]
  have G1 : Below w.heap.size w (((((w.alloc (.cells #[.slice A props.length c] 22)).alloc (.map #[] 0)).alloc (.cells #[.map (some (w.heap.size + 1))] 139)).alloc (.cells #[.int .i64 0] 3)).alloc (.cells #[(.func (.func 103) #[] #[.pointer (some ⟨w.heap.size, 0, none⟩)])] 107)) := (((((Below.refl _ w).alloc (Nat.le_refl _) _).alloc (by simp only [alloc_size]; omega) _).alloc (by simp only [alloc_size]; omega) _).alloc (by simp only [alloc_size]; omega) _).alloc (by simp only [alloc_size]; omega) _
  have P3 : Blk (((((w.alloc (.cells #[.slice A props.length c] 22)).alloc (.map #[] 0)).alloc (.cells #[.map (some (w.heap.size + 1))] 139)).alloc (.cells #[.int .i64 0] 3)).alloc (.cells #[(.func (.func 103) #[] #[.pointer (some ⟨w.heap.size, 0, none⟩)])] 107)) w.heap.size 22 #[.slice A props.length c] := Blk.alloc (Blk.alloc (Blk.alloc (Blk.alloc (Blk.new w 22 _) _) _) _) _
  have P5 : Blk (((((w.alloc (.cells #[.slice A props.length c] 22)).alloc (.map #[] 0)).alloc (.cells #[.map (some (w.heap.size + 1))] 139)).alloc (.cells #[.int .i64 0] 3)).alloc (.cells #[(.func (.func 103) #[] #[.pointer (some ⟨w.heap.size, 0, none⟩)])] 107)) (w.heap.size + 1 + 1) 139 #[.map (some (w.heap.size + 1))] := Blk.alloc (Blk.alloc (by have := Blk.new ((w.alloc (.cells #[.slice A props.length c] 22)).alloc (.map #[] 0)) 139 #[.map (some (w.heap.size + 1))]; simp only [alloc_size] at this; exact this) _) _
  have P6 : Blk (((((w.alloc (.cells #[.slice A props.length c] 22)).alloc (.map #[] 0)).alloc (.cells #[.map (some (w.heap.size + 1))] 139)).alloc (.cells #[.int .i64 0] 3)).alloc (.cells #[(.func (.func 103) #[] #[.pointer (some ⟨w.heap.size, 0, none⟩)])] 107)) (w.heap.size + 1 + 1 + 1) 3 #[.int .i64 ((0 : Nat) : Int)] := Blk.alloc (by have := Blk.new (((w.alloc (.cells #[.slice A props.length c] 22)).alloc (.map #[] 0)).alloc (.cells #[.map (some (w.heap.size + 1))] 139)) 3 #[.int .i64 0]; simp only [alloc_size] at this; exact this) _
  have P7 : Blk (((((w.alloc (.cells #[.slice A props.length c] 22)).alloc (.map #[] 0)).alloc (.cells #[.map (some (w.heap.size + 1))] 139)).alloc (.cells #[.int .i64 0] 3)).alloc (.cells #[(.func (.func 103) #[] #[.pointer (some ⟨w.heap.size, 0, none⟩)])] 107)) (w.heap.size + 1 + 1 + 1 + 1) 107 #[(.func (.func 103) #[] #[.pointer (some ⟨w.heap.size, 0, none⟩)])] := by have := Blk.new ((((w.alloc (.cells #[.slice A props.length c] 22)).alloc (.map #[] 0)).alloc (.cells #[.map (some (w.heap.size + 1))] 139)).alloc (.cells #[.int .i64 0] 3)) 107 #[(.func (.func 103) #[] #[.pointer (some ⟨w.heap.size, 0, none⟩)])]; simp only [alloc_size] at this; exact this
  have PM : Cnt (((((w.alloc (.cells #[.slice A props.length c] 22)).alloc (.map #[] 0)).alloc (.cells #[.map (some (w.heap.size + 1))] 139)).alloc (.cells #[.int .i64 0] 3)).alloc (.cells #[(.func (.func 103) #[] #[.pointer (some ⟨w.heap.size, 0, none⟩)])] 107)) (w.heap.size + 1) 0 (fun _ => 0) := by
    have h1 := cnt_new (w.alloc (.cells #[.slice A props.length c] 22))
    simp only [alloc_size] at h1
    refine cnt_kept h1 ?_
    have hb : Below (w.heap.size + 1 + 1) ((w.alloc (.cells #[.slice A props.length c] 22)).alloc (.map #[] 0)) (((((w.alloc (.cells #[.slice A props.length c] 22)).alloc (.map #[] 0)).alloc (.cells #[.map (some (w.heap.size + 1))] 139)).alloc (.cells #[.int .i64 0] 3)).alloc (.cells #[(.func (.func 103) #[] #[.pointer (some ⟨w.heap.size, 0, none⟩)])] 107)) := (((Below.refl _ _).alloc (by simp only [alloc_size]; omega) _).alloc (by simp only [alloc_size]; omega) _).alloc (by simp only [alloc_size]; omega) _
    exact hb.block _ (by omega)
  have F0 : FilF (((((w.alloc (.cells #[.slice A props.length c] 22)).alloc (.map #[] 0)).alloc (.cells #[.map (some (w.heap.size + 1))] 139)).alloc (.cells #[.int .i64 0] 3)).alloc (.cells #[(.func (.func 103) #[] #[.pointer (some ⟨w.heap.size, 0, none⟩)])] 107)) S w.heap.size (w.heap.size + 1 + 1) (w.heap.size + 1 + 1 + 1) (w.heap.size + 1 + 1 + 1 + 1) (w.heap.size + 1) A c props 0 0 (fun _ => 0) :=
    ⟨P3, h.keep (KeepS.below G1 hS), P7, P5, P6, PM⟩
  clear P3 P5 P6 P7 PM h
  go_enter Tryz.func91, Tryz.ntmps91
  go_wp2_with fail
  generalize ((((w.alloc (.cells #[.slice A props.length c] 22)).alloc (.map #[] 0)).alloc (.cells #[.map (some (w.heap.size + 1))] 139)).alloc (.cells #[.int .i64 0] 3)).alloc (.cells #[(.func (.func 103) #[] #[.pointer (some ⟨w.heap.size, 0, none⟩)])] 107) = V at G1 F0 ⊢
  clear hst hmm
  obtain ⟨B5, h5⟩ : ∃ x, x = w.heap.size + 1 + 1 := ⟨_, rfl⟩
  obtain ⟨B6, h6⟩ : ∃ x, x = w.heap.size + 1 + 1 + 1 := ⟨_, rfl⟩
  obtain ⟨B7, h7⟩ : ∃ x, x = w.heap.size + 1 + 1 + 1 + 1 := ⟨_, rfl⟩
  obtain ⟨M, hM⟩ : ∃ x, x = w.heap.size + 1 := ⟨_, rfl⟩
  rw [← h7, ← h6, ← h5, ← hM] at F0 ⊢
  have q1 : B6 ≠ B5 := by omega
  have q2 : w.heap.size ≠ B6 := by omega
  have q3 : B7 ≠ B6 := by omega
  have q4 : M ≠ B6 := by omega
  have q5 : w.heap.size ≤ B6 := by omega
  have q6 : w.heap.size ≤ M := by omega
  have q7 : B5 ≠ B6 := by omega
  have q8 : w.heap.size ≠ B5 := by omega
  clear h5 h6 h7 hM
  have hmV : V.cell? ⟨0, 0, none⟩ = some (.int .i64 m) := (G1.cell (p := ⟨0, 0, none⟩) h0).trans hm
  have hS1 : ∀ j, S j → j < B6 ∧ j < M := fun j hj => by have := hS j hj; omega
  have hJ0 : J1 S w.heap.size B5 B6 B7 M A c props [] (fun j => j = B6 ∨ j = M) V := ⟨rfl, _, F0, fun y => .inl ⟨rfl, fun x hx => by simp at hx⟩⟩
  have hlt : ∀ k, (k = B6 ∨ k = M) → k < V.heap.size := fun k hk => by
    rcases hk with rfl | rfl
    · exact heap_lt F0.b6
    · exact cnt_lt F0.cn
  refine (each_u (J := J1 S w.heap.size B5 B6 B7 M A c props) (s := s) ent106 hJ0 hlt (by omega) hmV (by omega) ?_ ?_).mono ?_
  · rintro done X w1 w2 ⟨rfl, g, hF, hG⟩ hb
    exact ⟨rfl, g, hF.below hb (fun j hj => (hS1 j hj).1), hG⟩
  · intro done X w1 a b hJ hab hd hpre
    exact J1_step hJ hS1 hl (by omega) (by omega)
  rintro e1 w1 ⟨rfl, X1, ⟨rfl, g, hF1, hG1⟩, _, hO1⟩
  have hb1 : Below w.heap.size w w1 := G1.trans (hO1.belowOf G1.size (fun k hk => by omega))
  clear hJ0 hlt hO1 F0 hmV G1
  have c6 : w1.cell? ⟨B6, 0, none⟩ = some (.int .i64 (((pairsL s).filter (okP props)).length : Nat)) := Blk.cell hF1.b6 0
  have f6 := Blk.frozen hF1.b6 0
  have keep : ∀ j, j ≠ B6 → (w1.setCell ⟨B6, 0, none⟩ (.int .i64 0)).heap[j]? = w1.heap[j]? := fun j hj => Below.heap_setCell w1 ⟨B6, 0, none⟩ _ j hj
  have F2 : FilF (w1.setCell ⟨B6, 0, none⟩ (.int .i64 0)) S w.heap.size B5 B6 B7 M A c props 0 ((pairsL s).filter (okP props)).length g :=
    ⟨(keep _ q2).trans hF1.b3, hF1.st.keep (fun j hj => keep j (fun e => by have := (hS1 j hj).1; omega)), (keep _ q3).trans hF1.b7, (keep _ q7).trans hF1.b5, Blk.set_ hF1.b6 0 _, cnt_kept hF1.cn (keep _ q4)⟩
  have hb2 : Below w.heap.size w (w1.setCell ⟨B6, 0, none⟩ (.int .i64 0)) := hb1.setCell (by show w.heap.size ≤ B6; omega) _
  clear keep hF1
  have hsz2 := heap_lt F2.b6
  have hb3 : Below w.heap.size w ((w1.setCell ⟨B6, 0, none⟩ (.int .i64 0)).alloc (.cells #[.slice none 0 0] 22)) := hb2.alloc (by omega) _
  have F3 := F2.below ((Below.refl _ _).alloc (Nat.le_refl _) (.cells #[.slice none 0 0] 22)) (fun j hj => (hS1 j hj).1)
  have hszE : (w1.setCell ⟨B6, 0, none⟩ (.int .i64 0)).heap.size = w1.heap.size := by simp [World.setCell]
  have B8b : Blk ((w1.setCell ⟨B6, 0, none⟩ (.int .i64 0)).alloc (.cells #[.slice none 0 0] 22)) w1.heap.size 22 #[.slice none 0 0] := by
    have := Blk.new (w1.setCell ⟨B6, 0, none⟩ (.int .i64 0)) 22 #[.slice none 0 0]
    rw [hszE] at this
    exact this
  rw [hszE] at hsz2
  clear F2 hb2
  have HH := Lib.hid hszE
  clear hszE
  go_wp2_with fail
  have hmV2 : ((w1.setCell ⟨B6, 0, none⟩ (.int .i64 0)).alloc (.cells #[.slice none 0 0] 22)).cell? ⟨0, 0, none⟩ = some (.int .i64 m) := (hb3.cell (p := ⟨0, 0, none⟩) h0).trans hm
  have hB8lt := heap_lt B8b
  obtain ⟨B8, h8⟩ : ∃ x, x = w1.heap.size := ⟨_, rfl⟩
  rw [← h8] at hsz2 B8b hB8lt ⊢
  clear HH c6 f6 h8
  generalize ((w1.setCell ⟨B6, 0, none⟩ (.int .i64 0)).alloc (.cells #[.slice none 0 0] 22)) = V2 at hb3 F3 B8b hmV2 hB8lt ⊢
  have hS2 : ∀ j, S j → j < B6 ∧ j < M ∧ j < w.heap.size ∧ j < B8 := fun j hj => ⟨(hS1 j hj).1, (hS1 j hj).2, hS j hj, by have := (hS1 j hj).1; omega⟩
  have hJ2 : J2 S w.heap.size w.heap.size B5 B6 B7 B8 M A c props s g [] (fun j => j = B6 ∨ j = B8 ∨ (Value.slice none 0 0).ownBlock = some j) V2 :=
    ⟨.slice none 0 0, [], pairsL s, rfl, F3, ⟨B8b, World.ownsRow_nil _ _ _ _⟩, rfl, rfl⟩
  have hlt2 : ∀ k, (k = B6 ∨ k = B8 ∨ (Value.slice none 0 0).ownBlock = some k) → k < V2.heap.size := fun k hk => by
    rcases hk with rfl | rfl | hk
    · exact heap_lt F3.b6
    · exact hB8lt
    · cases hk
  have h08 : ¬ (0 = B6 ∨ 0 = B8 ∨ (Value.slice none 0 0).ownBlock = some 0) := fun hk => by
    rcases hk with hk | hk | hk
    · omega
    · omega
    · cases hk
  refine (each_u (J := J2 S w.heap.size w.heap.size B5 B6 B7 B8 M A c props s g) (s := s) ent107 hJ2 hlt2 h08 hmV2 (by omega) ?_ ?_).mono ?_
  · rintro done X w1 w2 ⟨v, sel, rest, hX, hF, hO, hp, hsel⟩ hb
    exact ⟨v, sel, rest, hX, hF.below hb (fun j hj => (hS1 j hj).1), hO.below hb, hp, hsel⟩
  · intro done X w1 a b hJ hab hd hpre
    exact J2_step hJ hG1 hS2 hl (by omega) (by omega) (by omega) hpre q5 (by omega)
  rintro e3 w3 ⟨rfl, X3, ⟨v, sel, rest, _, _, hO, hp, hsel⟩, _, hOn⟩
  obtain rfl : rest = [] := by
    have := congrArg List.length hp
    rw [List.length_append] at this
    exact List.eq_nil_of_length_eq_zero (by omega)
  have hb4 : Below w.heap.size w w3 := hb3.trans (hOn.belowOf hb3.size (fun k hk => by
    rcases hk with rfl | rfl | hk
    · exact q5
    · omega
    · cases hk))
  have hsel : sel = lastsL ((pairsL s).filter (okP props)) := by
    rw [← hsel]
    simp [lastsL]
  clear hp hJ2 hlt2 h08 hmV2 F3 B8b hb3 hOn
  have hF := Lib.hid (show filterS s props = joinL [59, 32] (sel.map fun x => lineOf x.1 x.2) by
    unfold filterS
    rw [hsel]
    congr 1
    refine List.map_congr_left (fun x _ => ?_)
    simp [lineOf])
  have hn : (sel.map fun x => lineOf x.1 x.2).length ≤ s.length + 1 := by
    rw [List.length_map, hsel]
    have h2 := lasts_len ((pairsL s).filter (okP props))
    have h3 := List.length_filter_le (okP props) (pairsL s)
    have h4 := pairs_len s
    omega
  have hx : ∀ x ∈ (sel.map fun x => lineOf x.1 x.2), x.length ≤ s.length + 2 := by
    intro x hx
    obtain ⟨y, hy, rfl⟩ := List.mem_map.1 hx
    rw [hsel] at hy
    have := pairs_mem (List.mem_filter.1 (lasts_mem _ _ hy)).1
    unfold lineOf
    simp
    omega
  have hjl := joinL_len [59, 32] (s.length + 2) _ hx
  clear hsel hx
  generalize (sel.map fun x => lineOf x.1 x.2) = outs at hO hF hn hjl
  obtain ⟨A9, c9, rfl⟩ := own_slice hO.own
  have d8 : w3.cell? ⟨B8, 0, none⟩ = some (.slice A9 outs.length c9) := Blk.cell hO.b8 0
  have hstr := strs_of_own hO.own
  have hcap := (own_le hO.own).2
  have hlt9 : ∀ k, (Value.slice A9 outs.length c9).ownBlock = some k → k < w3.heap.size := fun k hk => (hO.own.lt k hk).2
  have hjb : (joinL [59, 32] outs).length ≤ 140737488355328 := by
    have h1 : outs.length * (s.length + 2 + [59, 32].length) ≤ 500001 * 500004 := Nat.mul_le_mul (by omega) (by simp; omega)
    have h2 : 500001 * 500004 ≤ 140737488355328 := by decide
    omega
  clear hO hjl
  go_wp2_with fail
  refine (join_u [59, 32] hstr hlt9 (by omega) hcap hjb).mono ?_
  rintro e5 w5 ⟨rfl, hb5⟩
  go_wp2_with fail
  go_ret
  exact ⟨by rw [hF.out]; rfl, hb4.trans (hb5.mono hb4.size)⟩
end Go.Proofs.YtlgaeeedkihfpaaGreatDoor.Uf

/-
  url.Bare.
-/
namespace Go.Proofs.YtlgaeeedkihfpaaGreatDoor.Uf
open Go.RowKit
open Tz (B lowSp bareU)

theorem rtrim_snoc (p : UInt8 → Bool) (l : B) (c : UInt8) : rtrim p (l ++ [c]) = if p c = true then rtrim p l else l ++ [c] := by
  unfold rtrim
  rw [List.reverse_append]
  simp only [List.reverse_cons, List.reverse_nil, List.nil_append, List.singleton_append, List.dropWhile_cons]
  by_cases h : p c = true
  · simp [h]
  · simp [h]
def keepU (c : UInt8) : Bool := c != 9 && c != 10 && c != 13
theorem bareU_eq (s : B) : bareU s = (rtrim lowSp (s.dropWhile lowSp)).filter keepU := rfl
theorem keepU_x {c : UInt8} {x : Nat} (h : x = c.toNat) : keepU c = (decide (x ≠ 9) && decide (x ≠ 10) && decide (x ≠ 13)) := by
  have e : ∀ n : UInt8, (c != n) = decide (x ≠ n.toNat) := fun n => by
    by_cases hc : c = n
    · subst hc; simp [h]
    · have : x ≠ n.toNat := fun e => hc (UInt8.toNat_inj.1 (by rw [← h, e]))
      simp [hc, this]
  unfold keepU
  rw [e 9, e 10, e 13]
  rfl
theorem low32 {c : UInt8} {x : Nat} (h : x = c.toNat) : lowSp c = decide (x ≤ 32) := by rw [h]; rfl

set_option maxRecDepth 100000 in
set_option maxHeartbeats 4000000 in
theorem bareu_u {w : World} (l : B) (hl : l.length ≤ 10000000) : Calls Tryz.prog 111 #[.string (bs l)] w fun e w' => e = .returned (.string (bs (bareU l))) ∧ Below w.heap.size w w' := by
  obtain ⟨R, hR⟩ : ∃ R, R = bareU l := ⟨_, rfl⟩
  rw [← hR]
  rw [bareU_eq] at hR
  go_enter Tryz.func111, Tryz.ntmps111
  go_wp2_with fail
  go_step3
  apply wp_seq_k
  intro K1 hK1
  have hmid1 : ∀ (u5 u6 u7 u8 u9 u10 u11 u12 u13 : Value) (t : B), R = (rtrim lowSp t).filter keepU → t.length ≤ l.length → K1 ⟨#[.string (bs t), undef, .string ⟨#[]⟩, undef, undef, u5, u6, u7, u8, u9, u10, u11, u12, u13, undef, undef, undef, undef, undef, undef, undef, undef, undef, undef, undef, undef, undef, undef, undef, undef, undef, undef, undef, undef, undef, undef, undef, undef, undef, undef, undef, undef, undef, undef, undef, undef, undef], []⟩ w := by
    intro u5 u6 u7 u8 u9 u10 u11 u12 u13 t hR1 htl1
    refine hK1 _ _ ?_
    clear hK1 K1 hR
    apply wp_seq_k
    intro K2 hK2
    have hmid2 : ∀ (u5 u6 u7 u8 u9 u10 u11 u12 u13 u14 u15 u16 u17 u18 u19 u20 u21 u22 u23 u24 u25 u26 u27 u28 : Value) (t : B), R = t.filter keepU → t.length ≤ l.length → K2 ⟨#[.string (bs t), undef, .string ⟨#[]⟩, undef, undef, u5, u6, u7, u8, u9, u10, u11, u12, u13, u14, u15, u16, u17, u18, u19, u20, u21, u22, u23, u24, u25, u26, u27, u28, undef, undef, undef, undef, undef, undef, undef, undef, undef, undef, undef, undef, undef, undef, undef, undef, undef, undef], []⟩ w := by
      intro u5 u6 u7 u8 u9 u10 u11 u12 u13 u14 u15 u16 u17 u18 u19 u20 u21 u22 u23 u24 u25 u26 u27 u28 t hR2 htl2
      refine hK2 _ _ ?_
      clear hK2 K2 hR1 htl1
      obtain ⟨hI0, hb0⟩ : Bw w.heap.size w.heap.size [] (w.alloc (.cells #[.pointer none, .slice none 0 0] 84)) ∧ Below w.heap.size w (w.alloc (.cells #[.pointer none, .slice none 0 0] 84)) := ⟨bw_new w, (Below.refl _ w).alloc (Nat.le_refl _) _⟩
      have hs0 : w.heap.size < (w.alloc (.cells #[.pointer none, .slice none 0 0] 84)).heap.size := by rw [alloc_size]; omega
      go_wp2_with fail
      go_step3
      go_wp2_with fail
      go_loopw [31] (fun vi wr => ∃ k : Nat, vi = .int .i64 k ∧ Bw w.heap.size w.heap.size ((t.take k).filter keepU) wr ∧ Below w.heap.size w wr ∧ w.heap.size < wr.heap.size ∧ k ≤ t.length) (fun vi _ => t.length - kOf vi)
      case atStart => exact ⟨0, rfl, hI0, hb0, hs0, Nat.zero_le _⟩
      case round =>
        obtain ⟨k, rfl, hI, hbw, hsz, hk⟩ := hrel
        by_cases hlt : k < t.length
        · have t0 : (k : Int) < ((bs t).size : Int) := by rw [bs_size]; omega
          have t1 : k < (bs t).size := by rw [bs_size]; omega
          obtain ⟨c, hc⟩ : ∃ c, c = t[k] := ⟨_, rfl⟩
          have hb0 : ((bs t)[k]'t1).toNat = c.toNat := by rw [hc]; rfl
          have hst : t.take (k + 1) = t.take k ++ [c] := by rw [List.take_add_one, List.getElem?_eq_getElem hlt, hc]; rfl
          have hx256 : c.toNat < 256 := c.toNat_lt
          obtain ⟨x, hx⟩ : ∃ x, x = c.toNat := ⟨_, rfl⟩
          rw [← hx] at hb0 hx256
          have Hx := Lib.hid hx
          have hi1 : IntKind.i64.wrap ((k : Int) + 1) = ((k + 1 : Nat) : Int) := by rw [IntKind.wrap_i64]; omega
          clear hx hc
          by_cases hx9 : x = 9
          · skip
            have e9 : ((x : Int) == 9) = true := by simp; omega
            have Hst := Lib.hid (show (t.take (k + 1)).filter keepU = (t.take k).filter keepU by rw [hst, List.filter_append]; simp [keepU_x Hx.out, hx9])
            clear hst
            go_wp2_with fail
            go_roundw
            case rel => exact ⟨k + 1, rfl, by rw [Hst.out]; exact hI, hbw, hsz, hlt⟩
            case measure =>
              show t.length - kOf (.int .i64 ((k + 1 : Nat) : Int)) < t.length - kOf (.int .i64 (k : Int))
              simp only [kOf, Int.toNat_natCast]
              omega
          by_cases hx10 : x = 10
          · have f9 : ((x : Int) == 9) = false := by simp; omega
            have e9 : ((x : Int) == 10) = true := by simp; omega
            have Hst := Lib.hid (show (t.take (k + 1)).filter keepU = (t.take k).filter keepU by rw [hst, List.filter_append]; simp [keepU_x Hx.out, hx10])
            clear hst
            go_wp2_with fail
            go_roundw
            case rel => exact ⟨k + 1, rfl, by rw [Hst.out]; exact hI, hbw, hsz, hlt⟩
            case measure =>
              show t.length - kOf (.int .i64 ((k + 1 : Nat) : Int)) < t.length - kOf (.int .i64 (k : Int))
              simp only [kOf, Int.toNat_natCast]
              omega
          by_cases hx13 : x = 13
          · have f9 : ((x : Int) == 9) = false := by simp; omega
            have f10 : ((x : Int) == 10) = false := by simp; omega
            have e9 : ((x : Int) == 13) = true := by simp; omega
            have Hst := Lib.hid (show (t.take (k + 1)).filter keepU = (t.take k).filter keepU by rw [hst, List.filter_append]; simp [keepU_x Hx.out, hx13])
            clear hst
            go_wp2_with fail
            go_roundw
            case rel => exact ⟨k + 1, rfl, by rw [Hst.out]; exact hI, hbw, hsz, hlt⟩
            case measure =>
              show t.length - kOf (.int .i64 ((k + 1 : Nat) : Int)) < t.length - kOf (.int .i64 (k : Int))
              simp only [kOf, Int.toNat_natCast]
              omega
          have f9 : ((x : Int) == 9) = false := by simp; omega
          have f10 : ((x : Int) == 10) = false := by simp; omega
          have f13 : ((x : Int) == 13) = false := by simp; omega
          have hof : UInt8.ofNat x = c := by rw [Hx.out]; simp
          have hfl : ((t.take k).filter keepU).length ≤ t.length := Nat.le_trans (List.length_filter_le _ _) (by rw [List.length_take]; omega)
          have Hst := Lib.hid (show (t.take (k + 1)).filter keepU = (t.take k).filter keepU ++ [UInt8.ofNat x] by rw [hst, List.filter_append, hof]; simp [keepU_x Hx.out, hx9, hx10, hx13])
          clear hst
          go_wp2_with fail
          refine (wr_byte x hx256 hI (by omega) (by omega)).mono ?_
          rintro e5 w5 ⟨rfl, hI5, hb5, _⟩
          have hz5 := hb5.size
          go_wp2_with fail
          go_roundw
          case rel => exact ⟨k + 1, rfl, by rw [Hst.out]; exact hI5, hbw.trans hb5, by omega, hlt⟩
          case measure =>
            show t.length - kOf (.int .i64 ((k + 1 : Nat) : Int)) < t.length - kOf (.int .i64 (k : Int))
            simp only [kOf, Int.toNat_natCast]
            omega
        · have t0 : ¬ ((k : Int) < ((bs t).size : Int)) := by rw [bs_size]; omega
          have ht : t.take k = t := List.take_of_length_le (by omega)
          rw [ht, ← hR2] at hI
          go_wp2_with fail
          refine (bw_str hI (by omega)).mono ?_
          rintro e6 w6 ⟨rfl, _, hb6, _⟩
          go_wp2_with fail
          rw [Exit.noGoto_ret]
          go_ret
          exact ⟨by rw [hR2]; rfl, hbw.trans hb6⟩
    clear hK2
    go_wp2_with fail
    go_loopw [0] (fun v wr => ∃ t : B, v = .string (bs t) ∧ wr = w ∧ Hid (R = (rtrim lowSp t).filter keepU) ∧ t.length ≤ l.length) (fun v _ => (strOf v).length)
    case atStart => exact ⟨t, rfl, rfl, Lib.hid hR1, htl1⟩
    case round =>
      clear hR1 htl1 t
      obtain ⟨t, rfl, rfl, Ht, htl⟩ := hrel
      by_cases h0 : t = []
      · subst h0
        have e0 : (([] : B) == ([] : B)) = true := rfl
        go_wp2_with fail
        exact hmid2 _ _ _ _ _ _ _ _ _ _ _ _ _ _ _ _ _ _ _ _ _ _ _ _ [] (by rw [Ht.out]; rfl) htl
      · obtain ⟨r, c, rfl⟩ : ∃ r c, t = r ++ [c] := ⟨t.dropLast, t.getLast h0, (List.dropLast_concat_getLast h0).symm⟩
        have e0 : (r ++ [c] == ([] : B)) = false := by simp
        have q4 : (r.length : Int) < ((bs (r ++ [c])).size : Int) := by rw [bs_size]; simp; omega
        have q5 : r.length < (bs (r ++ [c])).size := by rw [bs_size]; simp
        have hwz : IntKind.i64.wrap (((bs (r ++ [c])).size : Int) - 1) = (r.length : Int) := by rw [IntKind.wrap_i64, bs_size]; simp at htl ⊢; omega
        obtain ⟨x, hx⟩ : ∃ x, x = c.toNat := ⟨_, rfl⟩
        have y0 : ((bs (r ++ [c]))[r.length]'q5).toNat = x := by
          rw [hx]
          have : (r ++ [c])[r.length]'(by simp) = c := by simp
          exact congrArg UInt8.toNat this
        by_cases h32 : x ≤ 32
        · have z0 : (x : Int) ≤ 32 := by omega
          have ex4 : (bs (r ++ [c])).extract 0 r.length = bs r := by rw [bs_upto]; simp
          have q6 : (r.length : Int) ≤ ((bs (r ++ [c])).size : Int) := by omega
          have Hn := Lib.hid (show R = (rtrim lowSp r).filter keepU by rw [Ht.out, rtrim_snoc, low32 hx]; simp [h32])
          clear hx Ht
          go_wp2_with fail
          go_roundw
          case rel => exact ⟨r, rfl, trivial, Hn, by simp at htl; omega⟩
          case measure => simp [strOf]
        · have z0 : ¬ ((x : Int) ≤ 32) := by omega
          have Hn := Lib.hid (show R = (r ++ [c]).filter keepU by rw [Ht.out, rtrim_snoc, low32 hx]; simp [h32])
          clear hx Ht
          go_wp2_with fail
          exact hmid2 _ _ _ _ _ _ _ _ _ _ _ _ _ _ _ _ _ _ _ _ _ _ _ _ (r ++ [c]) Hn.out htl
  clear hK1
  go_wp2_with fail
  go_loopw [0] (fun v wr => ∃ t : B, v = .string (bs t) ∧ wr = w ∧ Hid (t.dropWhile lowSp = l.dropWhile lowSp) ∧ t.length ≤ l.length) (fun v _ => (strOf v).length)
  case atStart => exact ⟨l, rfl, rfl, Lib.hid rfl, Nat.le_refl _⟩
  case round =>
    obtain ⟨t, rfl, rfl, Ht, htl⟩ := hrel
    cases t with
    | nil =>
      have e0 : (([] : B) == ([] : B)) = true := rfl
      have HR2 := Lib.hid (show R = (rtrim lowSp []).filter keepU by rw [hR, ← Ht.out]; rfl)
      clear Ht hR
      go_wp2_with fail
      exact hmid1 _ _ _ _ _ _ _ _ _ [] HR2.out htl
    | cons c r =>
      have e0 : (c :: r == ([] : B)) = false := rfl
      have q2 : (0 : Int) < ((bs (c :: r)).size : Int) := by rw [bs_size]; simp only [List.length_cons]; omega
      have q3 : 0 < (bs (c :: r)).size := by rw [bs_size]; simp
      obtain ⟨x, hx⟩ : ∃ x, x = c.toNat := ⟨_, rfl⟩
      have y0 : ((bs (c :: r))[0]'q3).toNat = x := by rw [hx]; rfl
      by_cases h32 : x ≤ 32
      · have z0 : (x : Int) ≤ 32 := by omega
        have ex4 : (bs (c :: r)).extract 1 (bs (c :: r)).size = bs r := by rw [bs_from]; rfl
        have q4 : (1 : Int) ≤ ((bs (c :: r)).size : Int) := by rw [bs_size]; simp only [List.length_cons]; omega
        have Hn := Lib.hid (show r.dropWhile lowSp = l.dropWhile lowSp by rw [← Ht.out, List.dropWhile_cons, low32 hx]; simp [h32])
        clear hx Ht
        go_wp2_with fail
        go_roundw
        case rel => exact ⟨r, rfl, trivial, Hn, by simp at htl; omega⟩
        case measure => simp [strOf]
      · have z0 : ¬ ((x : Int) ≤ 32) := by omega
        have Hn := Lib.hid (show R = (rtrim lowSp (c :: r)).filter keepU by rw [hR, ← Ht.out, List.dropWhile_cons, low32 hx]; simp [h32])
        clear hx Ht hR
        go_wp2_with fail
        exact hmid1 _ _ _ _ _ _ _ _ _ (c :: r) Hn.out htl
end Go.Proofs.YtlgaeeedkihfpaaGreatDoor.Uf

/-
  url.Scheme.
-/
namespace Go.Proofs.YtlgaeeedkihfpaaGreatDoor.Uf
open Go.RowKit
open Tz (B bareU schemeG schemeU smallB)

def midU (c : UInt8) : Bool := (decide (48 ≤ c.toNat) && decide (c.toNat ≤ 57)) || c == 43 || c == 45 || c == 46
theorem schemeG_cons (c : UInt8) (s acc : B) : schemeG (c :: s) acc = if smallB c = true then schemeG s (acc ++ [c]) else if acc = [] then none else if c = 58 then some acc else if midU c = true then schemeG s (acc ++ [c]) else none := rfl
theorem ceq {c : UInt8} {x : Nat} (h : x = c.toNat) (n : UInt8) : (c == n) = decide (x = n.toNat) := by
  by_cases hc : c = n
  · subst hc; simp [h]
  · have : x ≠ n.toNat := fun e => hc (UInt8.toNat_inj.1 (by rw [← h, e]))
    simp [hc, this]
theorem midU_x {c : UInt8} {x : Nat} (h : x = c.toNat) : midU c = ((decide (48 ≤ x) && decide (x ≤ 57)) || decide (x = 43) || decide (x = 45) || decide (x = 46)) := by
  unfold midU
  rw [ceq h 43, ceq h 45, ceq h 46, h]
  rfl
theorem small_x {c : UInt8} {x : Nat} (h : x = c.toNat) (h1 : 97 ≤ x) (h2 : x ≤ 122) : smallB c = true := by unfold smallB; rw [← h]; simp [h1, h2]
theorem small_not {c : UInt8} {x : Nat} (h : x = c.toNat) (h1 : ¬ (97 ≤ x ∧ x ≤ 122)) : smallB c = false := by unfold smallB; rw [← h]; simp; omega
theorem mid_yes {c : UInt8} {x : Nat} (h : x = c.toNat) (h1 : (48 ≤ x ∧ x ≤ 57) ∨ x = 43 ∨ x = 45 ∨ x = 46) : midU c = true := by rw [midU_x h]; simp; omega
theorem mid_no {c : UInt8} {x : Nat} (h : x = c.toNat) (h1 : ¬ ((48 ≤ x ∧ x ≤ 57) ∨ x = 43 ∨ x = 45 ∨ x = 46)) : midU c = false := by rw [midU_x h]; simp; omega
theorem h58x {c : UInt8} {x : Nat} (h : x = c.toNat) (h1 : x ≠ 58) : c ≠ 58 := fun e => h1 (by rw [h, e]; rfl)
theorem mid_not {c : UInt8} {x : Nat} (h : x = c.toNat) (h1 : ¬ ((48 ≤ x ∧ x ≤ 58) ∨ x = 43 ∨ x = 45 ∨ x = 46)) : c ≠ 58 ∧ midU c = false := ⟨h58x h (by omega), mid_no h (by omega)⟩
theorem scheme_go {c : UInt8} {s acc : B} (h : smallB c = true ∨ (acc ≠ [] ∧ c ≠ 58 ∧ midU c = true)) : schemeG (c :: s) acc = schemeG s (acc ++ [c]) := by
  rw [schemeG_cons]
  rcases h with h | ⟨h1, h2, h3⟩
  · rw [if_pos h]
  · by_cases hs : smallB c = true
    · rw [if_pos hs]
    · rw [if_neg hs, if_neg h1, if_neg h2, if_pos h3]
theorem scheme_no {c : UInt8} {s acc : B} (h : smallB c = false) (h1 : acc = [] ∨ (c ≠ 58 ∧ midU c = false)) : schemeG (c :: s) acc = none := by
  rw [schemeG_cons, if_neg (by rw [h]; simp)]
  by_cases ha : acc = []
  · rw [if_pos ha]
  · rcases h1 with h1 | ⟨h2, h3⟩
    · exact absurd h1 ha
    · rw [if_neg ha, if_neg h2, if_neg (by rw [h3]; simp)]
theorem scheme_yes {c : UInt8} {s acc : B} (h : smallB c = false) (h1 : acc ≠ []) (h2 : c = 58) : schemeG (c :: s) acc = some acc := by
  rw [schemeG_cons, if_neg (by rw [h]; simp), if_neg h1, if_pos h2]
def SchR (w : World) (r : Option B) (e : Ending) (w' : World) : Prop := (match r with | some x => e = .returned (.tuple #[.string (bs x), .bool true]) | none => e = .returned (.tuple #[.string (bs []), .bool false])) ∧ Below w.heap.size w w'
theorem take_ne {t : B} {k : Nat} (h : k ≠ 0) (hlt : k < t.length) : t.take k ≠ [] := by
  intro e
  have := congrArg List.length e
  rw [List.length_take, List.length_nil] at this
  omega
theorem bareU_len (l : B) : (bareU l).length ≤ l.length := by
  rw [bareU_eq]
  refine Nat.le_trans (List.length_filter_le _ _) ?_
  unfold rtrim
  have h1 := dropW_le Tz.lowSp l
  have h2 := dropW_le Tz.lowSp ((l.dropWhile Tz.lowSp).reverse)
  simp only [List.length_reverse] at h2 ⊢
  omega

set_option maxRecDepth 100000 in
set_option maxHeartbeats 4000000 in
theorem scheme_u {w : World} (l : B) (hl : l.length ≤ 10000000) : Calls Tryz.prog 110 #[.string (bs l)] w (SchR w (schemeU l)) := by
  obtain ⟨R, hR⟩ : ∃ R, R = schemeU l := ⟨_, rfl⟩
  rw [← hR]
  have hbl := bareU_len l
  go_enter Tryz.func110, Tryz.ntmps110
  go_wp2_with fail
  refine (bareu_u l hl).mono ?_
  rintro e1 w1 ⟨rfl, hb1⟩
  go_wp2_with fail
  refine (lower_b (bareU l) (by omega)).mono ?_
  rintro e2 w2 ⟨rfl, hb2⟩
  have hb := hb1.trans (hb2.mono hb1.size)
  have htl : (Tz.lowL (bareU l)).length ≤ 10000000 := by rw [low_len]; omega
  have HR : Hid (R = schemeG (Tz.lowL (bareU l)) []) := Lib.hid hR
  clear hb1 hb2 hR hbl
  generalize Tz.lowL (bareU l) = t at HR htl ⊢
  go_wp2_with fail
  go_loopw [12] (fun vi wr => ∃ k : Nat, vi = .int .i64 k ∧ k ≤ t.length ∧ wr = w2 ∧ Hid (schemeG (t.drop k) (t.take k) = schemeG t [])) (fun vi _ => t.length - kOf vi)
  case atStart => exact ⟨0, rfl, Nat.zero_le _, rfl, Lib.hid rfl⟩
  case round =>
    obtain ⟨k, rfl, hk, rfl, Hk⟩ := hrel
    by_cases hlt : k < t.length
    · have t0 : (k : Int) < ((bs t).size : Int) := by rw [bs_size]; omega
      have t1 : k < (bs t).size := by rw [bs_size]; omega
      obtain ⟨c, hc⟩ : ∃ c, c = t[k] := ⟨_, rfl⟩
      have hdc : t.drop k = c :: t.drop (k + 1) := hc ▸ List.drop_eq_getElem_cons hlt
      have hst : t.take (k + 1) = t.take k ++ [c] := by rw [List.take_add_one, List.getElem?_eq_getElem hlt, hc]; rfl
      have hb0 : ((bs t)[k]'t1).toNat = c.toNat := by rw [hc]; rfl
      obtain ⟨x, hx⟩ : ∃ x, x = c.toNat := ⟨_, rfl⟩
      rw [← hx] at hb0
      have Hx := Lib.hid hx
      have Hdc := Lib.hid (And.intro hdc hst)
      have hi1 : IntKind.i64.wrap ((k : Int) + 1) = ((k + 1 : Nat) : Int) := by rw [IntKind.wrap_i64]; omega
      clear hx hdc hc hst
      · skip
        by_cases a1 : (97 : Int) ≤ (x : Int)
        · by_cases a2 : (x : Int) ≤ 122
          · skip
            have Hst := Lib.hid (show schemeG (t.drop (k + 1)) (t.take (k + 1)) = schemeG t [] by rw [← Hk.out, Hdc.out.1, Hdc.out.2]; exact (scheme_go (.inl (small_x Hx.out (by omega) (by omega)))).symm)
            go_wp2_with fail
            go_roundw
            case rel => exact ⟨k + 1, rfl, hlt, trivial, Hst⟩
            case measure =>
              show t.length - kOf (.int .i64 ((k + 1 : Nat) : Int)) < t.length - kOf (.int .i64 (k : Int))
              simp only [kOf, Int.toNat_natCast]
              omega
          · by_cases hk0 : k = 0
            · skip
              subst hk0
              have t0 : (0 : Int) < ((bs t).size : Int) := by rw [bs_size]; omega
              have Hst := Lib.hid (show R = none by rw [HR.out, ← Hk.out, Hdc.out.1]; exact scheme_no (small_not Hx.out (by omega)) (.inl rfl))
              go_wp2_with fail
              first | rw [Exit.noGoto_ret] | skip
              refine bodyPost_ret (results_tmp2 rfl _ _ _) rfl ?_
              unfold SchR
              rw [Hst.out]
              exact ⟨rfl, hb⟩
            · skip
              have kz : ((k : Int) == 0) = false := by simp; omega
              have g58 : ((x : Int) == 58) = false := by simp; omega
              have g43 : ((x : Int) == 43) = false := by simp; omega
              have g45 : ((x : Int) == 45) = false := by simp; omega
              have g46 : ((x : Int) == 46) = false := by simp; omega
              have b2 : (48 : Int) ≤ (x : Int) := by omega
              have b1 : ¬ ((x : Int) ≤ 57) := by omega
              have Hst := Lib.hid (show R = none by rw [HR.out, ← Hk.out, Hdc.out.1]; exact scheme_no (small_not Hx.out (by omega)) (.inr (mid_not Hx.out (by omega))))
              go_wp2_with fail
              first | rw [Exit.noGoto_ret] | skip
              refine bodyPost_ret (results_tmp2 rfl _ _ _) rfl ?_
              unfold SchR
              rw [Hst.out]
              exact ⟨rfl, hb⟩
        · by_cases hk0 : k = 0
          · skip
            subst hk0
            have t0 : (0 : Int) < ((bs t).size : Int) := by rw [bs_size]; omega
            have Hst := Lib.hid (show R = none by rw [HR.out, ← Hk.out, Hdc.out.1]; exact scheme_no (small_not Hx.out (by omega)) (.inl rfl))
            go_wp2_with fail
            first | rw [Exit.noGoto_ret] | skip
            refine bodyPost_ret (results_tmp2 rfl _ _ _) rfl ?_
            unfold SchR
            rw [Hst.out]
            exact ⟨rfl, hb⟩
          by_cases h58 : x = 58
          · skip
            have kz : ((k : Int) == 0) = false := by simp; omega
            have g58 : ((x : Int) == 58) = true := by simp; omega
            have Hst := Lib.hid (show R = some (t.take k) by rw [HR.out, ← Hk.out, Hdc.out.1]; exact scheme_yes (small_not Hx.out (by omega)) (take_ne hk0 hlt) (by apply UInt8.toNat_inj.1; rw [← Hx.out, h58]; rfl))
            have ex1 : (bs t).extract 0 k = bs (t.take k) := bs_upto _ _
            have q6 : (k : Int) ≤ ((bs t).size : Int) := by omega
            go_wp2_with fail
            first | rw [Exit.noGoto_ret] | skip
            refine bodyPost_ret (results_tmp2 rfl _ _ _) rfl ?_
            unfold SchR
            rw [Hst.out]
            exact ⟨rfl, hb⟩
          · skip
            have kz : ((k : Int) == 0) = false := by simp; omega
            have g58 : ((x : Int) == 58) = false := by simp; omega
            by_cases b2 : (48 : Int) ≤ (x : Int)
            · by_cases b1 : (x : Int) ≤ 57
              · skip
                have Hst := Lib.hid (show schemeG (t.drop (k + 1)) (t.take (k + 1)) = schemeG t [] by rw [← Hk.out, Hdc.out.1, Hdc.out.2]; exact (scheme_go (.inr ⟨take_ne hk0 hlt, h58x Hx.out h58, mid_yes Hx.out (by omega)⟩)).symm)
                go_wp2_with fail
                go_roundw
                case rel => exact ⟨k + 1, rfl, hlt, trivial, Hst⟩
                case measure =>
                  show t.length - kOf (.int .i64 ((k + 1 : Nat) : Int)) < t.length - kOf (.int .i64 (k : Int))
                  simp only [kOf, Int.toNat_natCast]
                  omega
              · skip
                have g43 : ((x : Int) == 43) = false := by simp; omega
                have g45 : ((x : Int) == 45) = false := by simp; omega
                have g46 : ((x : Int) == 46) = false := by simp; omega
                have Hst := Lib.hid (show R = none by rw [HR.out, ← Hk.out, Hdc.out.1]; exact scheme_no (small_not Hx.out (by omega)) (.inr (mid_not Hx.out (by omega))))
                go_wp2_with fail
                first | rw [Exit.noGoto_ret] | skip
                refine bodyPost_ret (results_tmp2 rfl _ _ _) rfl ?_
                unfold SchR
                rw [Hst.out]
                exact ⟨rfl, hb⟩
            · by_cases h43 : x = 43
              · have g43 : ((x : Int) == 43) = true := by simp; omega
                have Hst := Lib.hid (show schemeG (t.drop (k + 1)) (t.take (k + 1)) = schemeG t [] by rw [← Hk.out, Hdc.out.1, Hdc.out.2]; exact (scheme_go (.inr ⟨take_ne hk0 hlt, h58x Hx.out h58, mid_yes Hx.out (by omega)⟩)).symm)
                go_wp2_with fail
                go_roundw
                case rel => exact ⟨k + 1, rfl, hlt, trivial, Hst⟩
                case measure =>
                  show t.length - kOf (.int .i64 ((k + 1 : Nat) : Int)) < t.length - kOf (.int .i64 (k : Int))
                  simp only [kOf, Int.toNat_natCast]
                  omega
              by_cases h45 : x = 45
              · have g45 : ((x : Int) == 45) = true := by simp; omega
                have g43 : ((x : Int) == 43) = false := by simp; omega
                have Hst := Lib.hid (show schemeG (t.drop (k + 1)) (t.take (k + 1)) = schemeG t [] by rw [← Hk.out, Hdc.out.1, Hdc.out.2]; exact (scheme_go (.inr ⟨take_ne hk0 hlt, h58x Hx.out h58, mid_yes Hx.out (by omega)⟩)).symm)
                go_wp2_with fail
                go_roundw
                case rel => exact ⟨k + 1, rfl, hlt, trivial, Hst⟩
                case measure =>
                  show t.length - kOf (.int .i64 ((k + 1 : Nat) : Int)) < t.length - kOf (.int .i64 (k : Int))
                  simp only [kOf, Int.toNat_natCast]
                  omega
              by_cases h46 : x = 46
              · have g46 : ((x : Int) == 46) = true := by simp; omega
                have g43 : ((x : Int) == 43) = false := by simp; omega
                have g45 : ((x : Int) == 45) = false := by simp; omega
                have Hst := Lib.hid (show schemeG (t.drop (k + 1)) (t.take (k + 1)) = schemeG t [] by rw [← Hk.out, Hdc.out.1, Hdc.out.2]; exact (scheme_go (.inr ⟨take_ne hk0 hlt, h58x Hx.out h58, mid_yes Hx.out (by omega)⟩)).symm)
                go_wp2_with fail
                go_roundw
                case rel => exact ⟨k + 1, rfl, hlt, trivial, Hst⟩
                case measure =>
                  show t.length - kOf (.int .i64 ((k + 1 : Nat) : Int)) < t.length - kOf (.int .i64 (k : Int))
                  simp only [kOf, Int.toNat_natCast]
                  omega
              skip
              have g43 : ((x : Int) == 43) = false := by simp; omega
              have g45 : ((x : Int) == 45) = false := by simp; omega
              have g46 : ((x : Int) == 46) = false := by simp; omega
              have Hst := Lib.hid (show R = none by rw [HR.out, ← Hk.out, Hdc.out.1]; exact scheme_no (small_not Hx.out (by omega)) (.inr (mid_not Hx.out (by omega))))
              go_wp2_with fail
              first | rw [Exit.noGoto_ret] | skip
              refine bodyPost_ret (results_tmp2 rfl _ _ _) rfl ?_
              unfold SchR
              rw [Hst.out]
              exact ⟨rfl, hb⟩
    · have t0 : ¬ ((k : Int) < ((bs t).size : Int)) := by rw [bs_size]; omega
      have Hst := Lib.hid (show R = none by rw [HR.out, ← Hk.out, List.drop_of_length_le (by omega)]; rfl)
      go_wp2_with fail
      refine bodyPost_ret (results_tmp2 rfl _ _ _) rfl ?_
      unfold SchR
      rw [Hst.out]
      exact ⟨rfl, hb⟩
end Go.Proofs.YtlgaeeedkihfpaaGreatDoor.Uf
