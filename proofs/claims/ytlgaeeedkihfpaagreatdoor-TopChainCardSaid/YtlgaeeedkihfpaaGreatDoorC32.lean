/-
  Texts of the proof of Chain, one behind the other: SanH, SanT.
-/
import Derived.Test.YtlgaeeedkihfpaaGreatDoorC31
/-
  san.node, san.fold.
-/
namespace Go.Proofs.YtlgaeeedkihfpaaGreatDoor.Uf
open Go.RowKit
open Tz (B Atr Nod Pol putS nodeS foldS)

theorem nodeS_eq (p : Pol) (out : List Nod) (nm : B) (at_ : List Atr) (tx : B) (kd : List Nod) : nodeS p out (.mk nm at_ tx kd) = if nm = [] then putS out (.mk nm at_ tx kd) else if Tz.dropL nm = true then out else if Tz.elemP p nm = true then putS out (.mk nm (Tz.attrsS p nm at_) [] (foldS p [] kd)) else foldS p out kd := by
  conv => lhs; unfold nodeS
theorem aw_mem {l : List Atr} {a : Atr} (h : a ∈ l) : a.name.length + a.val.length + 1 ≤ aw l := by
  induction l with
  | nil => cases h
  | cons x l ih =>
    rcases List.mem_cons.1 h with rfl | h
    · simp [aw]
    · have := ih h
      simp [aw] at this ⊢
      omega
theorem Only.ofB {X : Nat → Prop} {w V : World} (hb : Below w.heap.size w V) : Only X w V := ⟨hb.os, hb.tape, hb.output, hb.size, fun k hk _ => hb.block k hk⟩
theorem OutP.of {w V w' : World} {base : Nat} {S S' : Nat → Prop} {v v' : Value} {out' : List Nod} {ys' : List Value} (hb : Below w.heap.size w V) (h1 : OutN w' base S' v' out' ys') (h2 : ∀ g, S g → S' g) (h3 : ∀ g, S' g → S g ∨ w.heap.size ≤ g) (h4 : v'.ownBlock = v.ownBlock ∨ ∀ j, v'.ownBlock = some j → V.heap.size ≤ j) (h5 : Only (fun j => v.ownBlock = some j) V w') : OutP w base S v out' (.returned v') w' :=
  ⟨v', ys', S', rfl, h1, h2, h3, h4.imp id (fun h j hj => Nat.le_trans hb.size (h j hj)), (Only.ofB hb).trans h5⟩
theorem OutP.below {w V w' : World} {base : Nat} {S : Nat → Prop} {v : Value} {out' : List Nod} {e : Ending} (hb : Below w.heap.size w V) (h : OutP V base S v out' e w') : OutP w base S v out' e w' := by
  obtain ⟨v', ys', S', rfl, h1, h2, h3, h4, h5⟩ := h
  exact OutP.of hb h1 h2 (fun g hg => (h3 g hg).imp id (fun h => Nat.le_trans hb.size h)) h4 h5
theorem OutP.ret {w w' : World} {base : Nat} {S : Nat → Prop} {v : Value} {out' : List Nod} {e : Ending} (h : OutP w base S v out' e w') : ∃ v', e = .returned v' ∧ OutP w base S v out' (.returned v') w' := by
  obtain ⟨v', ys', S', rfl, h1⟩ := id h
  exact ⟨v', rfl, h⟩
theorem NodC.made {w : World} {S : Nat → Prop} {nm : B} {A K : Option Addr} {a : List Atr} {k : List Nod} {ca ck : Nat} {ys : List Value} (hA : RdS w S 2 A a.length (atrCells a)) (hK : RdS w S 4 K k.length ys) (hn : NodsC w S k ys) : NodC w S (.mk nm a [] k) [.string (bs nm), .slice A a.length ca, .string (bs []), .slice K k.length ck] := by
  unfold NodC
  exact ⟨A, ca, K, ck, ys, rfl, hA, hK, hn⟩
section
variable {P : Program} {md : Region.Mode} {Q : Exit → Act → World → Prop} {S : World → Prop} {l : List Oper}
theorem wpAnyZ_yield {i F : Nat} {o : Oper} {rest : List Oper} {listed : Array Bool} {a : Act} {w : World} (v : Value) (hS : S w) (ho : l.drop i = o :: rest) (hB : (Region.noSelect l.toArray && (Region.ready md l.toArray listed).contains i && Region.free md l.toArray listed i) = true) (hsh : shutdB md l.toArray listed = true) (hQ : panicsOk Q) (hg : o.guard = none)
    (hv : ∀ w, S w → (execOp a.eval o).run P w = .ok (.value v) w) (h : wpAnyZ P md l.toArray Q S (fun _ => false) F (listed.setIfInBounds i true) (a.put o.dst v) w) : wpAnyZ P md l.toArray Q S (fun _ => false) (F + 1) listed a w := by
  simp only [Bool.and_eq_true] at hB
  obtain ⟨⟨hs, hr⟩, hf⟩ := hB
  have h0 : l.toArray[i]? = some o := by
    rw [List.getElem?_toArray]
    have := congrArg (·[0]?) ho
    simpa using this
  exact wpAnyZ_first (f := 0) h0 (Region.noSelect_spec hs) (fun c a w => hQ.at_ c a _ _ w) F listed a w (Region.free_spec h0 hf) (fun j _ hz => by cases hz) (shutd_of hsh) (by simpa using hr) (.inl ⟨by unfold Region.wanted; rw [hg], hv⟩) hS h
end
/-- The region that makes an element: its attributes, its children, the node put. -/
theorem elem_more {w V : World} {S : Nat → Prop} {A : Option Addr} {n c : Nat} {xs : List Value} {base : Nat} {sz : Nat} {t : TypeId} (hlt : ∀ g, S g → g < w.heap.size) (hb : Below w.heap.size w V) (h : V.ownsRow base t sz (.slice A n c) n xs) : (∀ g, (S g ∨ (Value.slice A n c).ownBlock = some g) → g < V.heap.size) := fun g hg => hg.elim (fun h => Nat.lt_of_lt_of_le (hlt g h) hb.size) (fun e => (h.lt g e).2)

set_option maxRecDepth 100000 in
set_option maxHeartbeats 8000000 in
theorem node_step {N : Nat} (HN : NodeAll N) : NodeAll (N + 1) := by
  intro w base S SP cs p m v out ys y n hs hp ho hbase hn hnN hn9 hw
  obtain ⟨nm, at_, tx, kd⟩ := n
  have hn0 := hn
  unfold NodC at hn0
  obtain ⟨A, ca, K, ck, zs, rfl, hA, hK1, hK2⟩ := hn0
  have hwk : nodsW kd + aw at_ + nm.length + tx.length + 1 = nodW (.mk nm at_ tx kd) := by simp [nodW]; omega
  have hcs := pol_cells hs.pol
  have hsz : cs.size = 9 := by
    obtain ⟨_, _, _, _, _, _, _, _, _, _, rfl, _⟩ := hs.pol
    rfl
  have hi24 : (Tryz.prog.info? 24).map (·.size) = some cs.size := by rw [hsz]; kernel_rfl
  have hi94 : (Tryz.prog.info? 94).map (·.size) = some cs.size := by rw [hsz]; kernel_rfl
  have hb : Below w.heap.size w ((w.alloc (.cells cs 94)).alloc (.cells #[.string (bs nm), .slice A at_.length ca, .string (bs tx), .slice K kd.length ck] 61)) := ((Below.refl _ w).alloc (Nat.le_refl _) _).alloc (by rw [alloc_size]; omega) _
  have hP : Blk ((w.alloc (.cells cs 94)).alloc (.cells #[.string (bs nm), .slice A at_.length ca, .string (bs tx), .slice K kd.length ck] 61)) w.heap.size 94 cs := Blk.alloc (Blk.new w 94 cs) _
  have hQ : Blk ((w.alloc (.cells cs 94)).alloc (.cells #[.string (bs nm), .slice A at_.length ca, .string (bs tx), .slice K kd.length ck] 61)) (w.heap.size + 1) 61 #[.string (bs nm), .slice A at_.length ca, .string (bs tx), .slice K kd.length ck] := by
    have := Blk.new (w.alloc (.cells cs 94)) 61 #[.string (bs nm), .slice A at_.length ca, .string (bs tx), .slice K kd.length ck]
    rw [alloc_size] at this
    exact this
  have hval : ∀ V, Below w.heap.size w V → SanS V S SP cs p m ∧ OutN V base S v out ys ∧ NodC V S (.mk nm at_ tx kd) #[.string (bs nm), .slice A at_.length ca, .string (bs tx), .slice K kd.length ck].toList ∧ RdS V S 2 A at_.length (atrCells at_) ∧ TreeV V S (.slice K kd.length ck) kd := fun V hV => by
    have hk := KeepS.below hV ho.lt
    exact ⟨hs.keep hk hV.size (fun _ h => h), ho.below_ hV, NodC.keep hk _ _ hn, hA.keep hk, ⟨K, ck, zs, rfl, hK1.keep hk, NodsC.keep hk _ _ hK2, fun g hg => Nat.lt_of_lt_of_le (ho.lt g hg) hV.size⟩⟩
  have hlt := ho.lt
  have hvo : ∀ j, v.ownBlock = some j → j < w.heap.size := fun j hj => (ho.own.lt j hj).2
  have hnS := ho.nS
  have hol := nodsW_len out
  have htxt : ∀ x ∈ out, x.text.length ≤ 180000000 := fun x hx => by have := nodsW_mem hx; have := nodW_text x; omega
  have HV := Lib.hid hval
  have H := Lib.hid HN
  have HW := Lib.hid (And.intro hnS (And.intro hlt hvo))
  have hR := nodeS_eq p out nm at_ tx kd
  generalize nodeS p out (.mk nm at_ tx kd) = R at hR ⊢
  have HR := Lib.hid hR
  clear hR
  clear hval HN hs ho hn hA hK1 hK2 hnS hlt hvo
  go_enter Tryz.func48, Tryz.ntmps48
  apply wp_seq_k
  intro K' hK
  have HK := Lib.hid hK
  clear hK
  go_wp2_with fail
  refine HK.out _ _ ?_
  clear HK K' hcs
  generalize ((w.alloc (.cells cs 94)).alloc (.cells #[.string (bs nm), .slice A at_.length ca, .string (bs tx), .slice K kd.length ck] 61)) = V at hb hP hQ ⊢
  have hbs := hb.size
  by_cases hnm : nm = []
  · subst hnm
    have q0 : V.cell? ⟨w.heap.size + 1, 0, none⟩ = some (.string (bs [])) := Blk.cell hQ 0
    have hQ1 : V.heap[w.heap.size + 1]? = some (.cells #[.string (bs []), .slice A at_.length ca, .string (bs tx), .slice K kd.length ck] 61 (0, 0)) := hQ
    have en : (([] : B) == ([] : B)) = true := rfl
    go_wp2_with (first
      | (with_reducible refine wpList_load_row rfl 61 (.tmp 5) rfl (w.heap.size + 1) rfl 61 #[.string (bs []), .slice A at_.length ca, .string (bs tx), .slice K kd.length ck] (0, 0) _ hQ1 Tryz.underlying61 rfl (by kernel_rfl) ?_))
    obtain ⟨_, g2, g3, _, _⟩ := HV.out V hb
    refine (putn_u g2 g3 (by omega) (by omega) (fun x hx => by have := htxt x hx; show x.text.length + tx.length ≤ _; omega)).mono ?_
    rintro e2 w2 ⟨v', ys', rfl, g4, g5, g6⟩
    go_wp2_with fail
    go_ret
    rw [show R = putS out (.mk [] at_ tx kd) by simpa using HR.out]
    exact OutP.of hb g4 (fun _ h => h) (fun _ h => .inl h) g5 g6
  have en : (nm == ([] : B)) = false := by simpa using hnm
  have hR := HR.out
  rw [if_neg hnm] at hR
  have HR := Lib.hid hR
  clear hR
  have q0 : V.cell? ⟨w.heap.size + 1, 0, none⟩ = some (.string (bs nm)) := Blk.cell hQ 0
  go_wp2_with fail
  refine (dropped_u nm).mono ?_
  generalize Tz.dropL nm = z1 at HR
  rintro e1 V1 ⟨rfl, hV1⟩
  have hb1 : Below w.heap.size w V1 := by rw [hV1]; exact ⟨hb.os, hb.tape, hb.output, hb.size, hb.block⟩
  have hP1 : Blk V1 w.heap.size 94 cs := by rw [hV1]; exact hP
  have hQ1 : Blk V1 (w.heap.size + 1) 61 #[.string (bs nm), .slice A at_.length ca, .string (bs tx), .slice K kd.length ck] := by rw [hV1]; exact hQ
  have hbs1 : w.heap.size ≤ V1.heap.size := hb1.size
  clear hV1 hb hP hQ q0 hbs
  cases z1 with
  | true =>
    go_wp2_with fail
    go_ret
    rw [show R = out by simpa using HR.out]
    obtain ⟨_, g2, _⟩ := HV.out V1 hb1
    exact OutP.of hb1 g2 (fun _ h => h) (fun _ h => .inl h) (.inl rfl) (Only.refl _ _)
  | false =>
    have hR := HR.out
    rw [if_neg (by simp)] at hR
    have HR := Lib.hid hR
    clear hR
    have q0 : V1.cell? ⟨w.heap.size + 1, 0, none⟩ = some (.string (bs nm)) := Blk.cell hQ1 0
    have hP2 : V1.heap[w.heap.size]? = some (.cells cs 94 (0, 0)) := hP1
    go_wp2_with (first
      | (with_reducible refine wpList_load_row rfl 24 (.tmp 20) rfl w.heap.size rfl 94 cs (0, 0) _ hP2 Tryz.underlying24 rfl hi24 ?_))
    obtain ⟨g1, _⟩ := HV.out V1 hb1
    refine (elem_u nm g1.pol hp).mono ?_
    generalize Tz.elemP p nm = z2 at HR
    rintro e2 V2 ⟨rfl, hb2⟩
    have hb3 := hb1.trans (hb2.mono hb1.size)
    have hP3 : Blk V2 w.heap.size 94 cs := hP1.below hb2 hP1.lt
    have hQ3 : Blk V2 (w.heap.size + 1) 61 #[.string (bs nm), .slice A at_.length ca, .string (bs tx), .slice K kd.length ck] := hQ1.below hb2 hQ1.lt
    clear hb1 hb2 hP1 hQ1 hP2 q0 hbs1
    cases z2 with
    | false =>
      have q3 : V2.cell? ⟨w.heap.size + 1, 3, none⟩ = some (.slice K kd.length ck) := Blk.cell hQ3 3
      have hP2 : V2.heap[w.heap.size]? = some (.cells cs 94 (0, 0)) := hP3
      have hbs := hb3.size
      go_wp2_with (first
        | (with_reducible refine wpList_load_row rfl 94 (.tmp 3) rfl w.heap.size rfl 94 cs (0, 0) _ hP2 Tryz.underlying94 rfl hi94 ?_))
      obtain ⟨g1, g2, _, _, g5⟩ := HV.out V2 hb3
      refine (fold_of H.out g1 hp g2 (by omega) g5 (by omega) (by omega) (by omega)).mono ?_
      intro e3 V3 g6
      obtain ⟨v', rfl, g7⟩ := g6.ret
      go_wp2_with fail
      go_ret
      rw [show R = foldS p out kd by simpa using HR.out]
      exact OutP.below hb3 g7
    | true =>
      go_wp2_with fail
      obtain ⟨ι, hne, F, hF, hcov⟩ := class_of (fun X => X.heap[w.heap.size]? = some (.cells cs 94 (0, 0)) ∧ X.heap[w.heap.size + 1]? = some (.cells #[.string (bs nm), .slice A at_.length ca, .string (bs tx), .slice K kd.length ck] 61 (0, 0))) V2.drew ⟨hP3, hQ3⟩
      have rP : ∀ i, (F i).heap[w.heap.size]? = some (.cells cs 94 (0, 0)) := fun i => (hF i).1
      have r0 : ∀ i, (F i).cell? ⟨w.heap.size + 1, 0, none⟩ = some (.string (bs nm)) := fun i => Blk.cell (hF i).2 0
      have r1 : ∀ i, (F i).cell? ⟨w.heap.size + 1, 1, none⟩ = some (.slice A at_.length ca) := fun i => Blk.cell (hF i).2 1
      have r3 : ∀ i, (F i).cell? ⟨w.heap.size + 1, 3, none⟩ = some (.slice K kd.length ck) := fun i => Blk.cell (hF i).2 3
      have hS0 := hcov V2.drew ⟨hP3, hQ3⟩
      have hb4 : Below w.heap.size w V2.drew := hb3.drew
      refine wp_region_every 8 9 (S := fun X => ∃ i, X = F i) (by kernel_rfl) (by kernel_rfl) (fun _ _ _ _ _ h => h) hS0 ?_
      clear hb3
      have hP4 : Blk V2.drew w.heap.size 94 cs := hP3
      have hQ4 : Blk V2.drew (w.heap.size + 1) 61 #[.string (bs nm), .slice A at_.length ca, .string (bs tx), .slice K kd.length ck] := hQ3
      clear hP3 hQ3
      generalize V2.drew = Vd at hb4 hP4 hQ4 hS0 ⊢
      dsimp only [List.take, List.drop]
      have hrow : ∀ X, (∃ i, X = F i) → X.heap[w.heap.size]? = some (.cells cs 94 (0, 0)) := fun X hX => by
        obtain ⟨i, rfl⟩ := hX
        exact rP i
      repeat (go_big_quiet_step (fail))
      with_reducible refine wpQuiet_load_row rfl 94 (.tmp 3) rfl w.heap.size rfl 94 cs _ hrow Tryz.underlying94 rfl hi94 ?_
      try simp only [Act.put, List.setIfInBounds_toArray, List.set_cons_zero, List.set_cons_succ]
      repeat (go_big_quiet_step (fail))
      refine wpQuiet_nil ?_
      refine wpAnyZ_pure (i := 9) (F := 8) hS0 rfl (by kernel_rfl) (by kernel_rfl) (fun _ _ _ _ _ h => h) ?_
      go_big_quiet_step (fail)
      refine wpQuiet_nil ?_
      refine wpAnyZ_pure (i := 10) (F := 7) hS0 rfl (by kernel_rfl) (by kernel_rfl) (fun _ _ _ _ _ h => h) ?_
      go_big_quiet_step (fail)
      refine wpQuiet_nil ?_
      refine wpAnyZ_pure (i := 11) (F := 6) hS0 rfl (by kernel_rfl) (by kernel_rfl) (fun _ _ _ _ _ h => h) ?_
      with_reducible refine wpQuiet_load_row rfl 94 (.tmp 3) rfl w.heap.size rfl 94 cs _ hrow Tryz.underlying94 rfl hi94 ?_
      refine wpQuiet_nil ?_
      try simp only [Act.put, List.setIfInBounds_toArray, List.set_cons_zero, List.set_cons_succ]
      refine wpAnyZ_yield (i := 12) (F := 5) (.func (.func 48) #[.agg cs] #[]) hS0 rfl (by kernel_rfl) (by kernel_rfl) (fun _ _ _ _ _ h => h) rfl (fun X _ => by simp [execOp, Instr.makeFunc, Act.eval, Sem.run_pure]) ?_
      try simp only [Act.put, List.setIfInBounds_toArray, List.set_cons_zero, List.set_cons_succ]
      obtain ⟨g1, g2, g3, g4, g5⟩ := HV.out Vd hb4
      obtain ⟨hnS, hlt, hvo⟩ := HW.out
      have hbs := hb4.size
      have haw : ∀ a ∈ at_, nm.length + a.name.length + a.val.length ≤ 900000 := fun a ha => by
        have := aw_mem ha
        omega
      refine wpAnyZ_one (i := 8) (F := 4) hS0 (by kernel_rfl) rfl (fun Kx hK => ?_)
      go_simp
      refine (cattrs_u (n := 0) nm g1.pol hp g1.hm g4 (fun g hg => Nat.lt_of_lt_of_le (hlt g hg) hbs) (by have := aw_len at_; omega) haw).mono ?_
      rintro e3 V3 ⟨v3, rfl, hown, hb5⟩
      obtain ⟨A3, c3, rfl⟩ := own_slice hown
      have hb6 := hb4.trans (hb5.mono hbs)
      have hP5 : Blk V3 w.heap.size 94 cs := hP4.below hb5 hP4.lt
      have hQ5 : Blk V3 (w.heap.size + 1) 61 #[.string (bs nm), .slice A at_.length ca, .string (bs tx), .slice K kd.length ck] := hQ4.below hb5 hQ4.lt
      have hS3 := hcov V3 ⟨hP5, hQ5⟩
      refine hK.out _ _ hS3 ?_
      clear hK Kx
      try simp only [Act.put, List.setIfInBounds_toArray, List.set_cons_zero, List.set_cons_succ]
      obtain ⟨f1, f2, _, _, f5⟩ := HV.out V3 hb6
      have hsz6 := hb6.size
      have hsz5 := hb5.size
      obtain ⟨S1, hS1⟩ : ∃ S1 : Nat → Prop, S1 = fun g => S g ∨ (Value.slice A3 (Tz.attrsS p nm at_).length c3).ownBlock = some g := ⟨_, rfl⟩
      have hS1a : ∀ g, S g → S1 g := fun g hg => by rw [hS1]; exact .inl hg
      have hS1l : ∀ g, S1 g → g < V3.heap.size := fun g hg => by
        rw [hS1] at hg
        exact hg.elim (fun h => Nat.lt_of_lt_of_le (hlt g h) hsz6) (fun e => (hown.lt g e).2)
      have hS1n : ∀ g, S1 g → S g ∨ w.heap.size ≤ g := fun g hg => by
        rw [hS1] at hg
        exact hg.imp id (fun e => Nat.le_trans hbs (hown.lt g e).1)
      have hRA : RdS V3 S1 2 A3 (Tz.attrsS p nm at_).length (atrCells (Tz.attrsS p nm at_)) := (RdS.of_own hown).mono (fun g hg => by rw [hS1]; exact .inr hg)
      have h0 := foldS_w p [] kd
      have HF := Lib.hid (fold_of (base := V3.heap.size) (v := .slice none 0 0) (out := []) (k := kd) (ys := []) H.out (f1.keep (KeepS.refl _ _) (Nat.le_refl _) hS1a) hp (OutN.nil hS1l) (Nat.le_refl _) (f5.mono hS1a hS1l) (by omega) (by omega) (by simp [nodsW]; omega))
      have HX := Lib.hid (And.intro f2 (And.intro hRA (And.intro hS1a (And.intro hS1n hS1l))))
      generalize Tz.attrsS p nm at_ = AT at hown hRA HX HR hS1
      clear hown hRA hS1a hS1n hS1l f1 f2 f5 g1 g2 g3 g4 g5 hb5 hP4 hQ4 hS1 haw
      refine wpAnyZ_one (i := 13) (F := 3) hS3 (by kernel_rfl) rfl (fun Kx hK => ?_)
      go_simp
      refine HF.out.mono ?_
      rintro e4 V4 ⟨v4, ys4, S4, rfl, k1, k2, k3, k4, k5⟩
      generalize foldS p [] kd = FK at HR k1
      obtain ⟨A4, c4, rfl⟩ := own_slice k1.own
      have hb7 : Below V3.heap.size V3 V4 := k5.below (fun k h => by cases h)
      have hP6 : Blk V4 w.heap.size 94 cs := hP5.below hb7 hP5.lt
      have hQ6 : Blk V4 (w.heap.size + 1) 61 #[.string (bs nm), .slice A at_.length ca, .string (bs tx), .slice K kd.length ck] := hQ5.below hb7 hQ5.lt
      have hS4 := hcov V4 ⟨hP6, hQ6⟩
      refine hK.out _ _ hS4 ?_
      clear hK Kx
      try simp only [Act.put, List.setIfInBounds_toArray, List.set_cons_zero, List.set_cons_succ]
      refine wpAnyZ_one (i := 14) (F := 2) hS4 (by kernel_rfl) rfl (fun Kx hK => ?_)
      go_simp
      refine hK.out _ _ hS4 ?_
      clear hK Kx
      try simp only [Act.put, List.setIfInBounds_toArray, List.set_cons_zero, List.set_cons_succ]
      refine wpAnyZ_one (i := 15) (F := 1) hS4 (by kernel_rfl) rfl (fun Kx hK => ?_)
      go_simp
      obtain ⟨f2, hRA, hS1a, hS1n, hS1l⟩ := HX.out
      obtain ⟨S5, hS5⟩ : ∃ S5 : Nat → Prop, S5 = fun g => S4 g ∨ (Value.slice A4 FK.length c4).ownBlock = some g := ⟨_, rfl⟩
      have hS5a : ∀ g, S4 g → S5 g := fun g hg => by rw [hS5]; exact .inl hg
      have hS5l : ∀ g, S5 g → g < V4.heap.size := fun g hg => by
        rw [hS5] at hg
        exact hg.elim (k1.lt g) (fun e => (k1.own.lt g e).2)
      have hS5n : ∀ g, S5 g → S g ∨ w.heap.size ≤ g := fun g hg => by
        rw [hS5] at hg
        rcases hg with h | e
        · exact (k3 g h).elim (fun h => hS1n g h) (fun h => .inr (by omega))
        · have := (k1.own.lt g e).1
          exact .inr (by omega)
      have hS5b : ∀ g, S g → S5 g := fun g hg => hS5a g (k2 g (hS1a g hg))
      have hno : ∀ g, v.ownBlock = some g → ¬ S5 g := fun g hg h => (hS5n g h).elim (hnS g hg) (fun h => by have := hvo g hg; omega)
      have hf2 := (f2.below_ hb7).more hS5b hS5l hno
      have hb8 := hb6.trans (hb7.mono hsz6)
      have hnew : NodC V4 S5 (.mk nm AT [] FK) [.string (bs nm), .slice A3 AT.length c3, .string (bs []), .slice A4 FK.length c4] := NodC.made ((hRA.keep (KeepS.below hb7 hS1l)).mono (fun g hg => hS5a g (k2 g hg))) ((RdS.of_own k1.own).mono (fun g hg => by rw [hS5]; exact .inr hg)) (NodsC.mono hS5a _ _ k1.nod)
      have hsz7 := hb8.size
      refine (putn_u hf2 hnew (by omega) (by omega) (fun x hx => by have := htxt x hx; show x.text.length + ([] : B).length ≤ _; simp; omega)).mono ?_
      rintro e5 V5 ⟨v5, ys5, rfl, m1, m2, m3⟩
      have hP7 : Blk V5 w.heap.size 94 cs := hP6.only m3 (fun h => by have := hvo _ h; omega)
      have hQ7 : Blk V5 (w.heap.size + 1) 61 #[.string (bs nm), .slice A at_.length ca, .string (bs tx), .slice K kd.length ck] := hQ6.only m3 (fun h => by have := hvo _ h; omega)
      have hS6 := hcov V5 ⟨hP7, hQ7⟩
      refine hK.out _ _ hS6 ?_
      clear hK Kx
      try simp only [Act.put, List.setIfInBounds_toArray, List.set_cons_zero, List.set_cons_succ]
      refine wpAnyZ_one (i := 16) (F := 0) hS6 (by kernel_rfl) rfl (fun Kx hK => ?_)
      go_simp
      refine hK.out _ _ hS6 ?_
      clear hK Kx
      try simp only [Act.put, List.setIfInBounds_toArray, List.set_cons_zero, List.set_cons_succ]
      refine wpAnyZ_end (by kernel_rfl) ?_
      go_wp2_with fail
      go_ret
      rw [show R = putS out (.mk nm AT [] FK) by simpa using HR.out]
      exact OutP.of hb8 m1 hS5b hS5n m2 m3

theorem node_all : ∀ N, NodeAll N
  | 0 => fun _ _ _ _ _ _ _ _ _ _ _ _ _ _ _ _ _ h => absurd h (by omega)
  | N + 1 => node_step (node_all N)
/-- fold: the list made so far, and what the nodes leave. -/
theorem fold_u {w : World} {base : Nat} {S SP : Nat → Prop} {cs : Array Value} {p : Pol} {m : Int} {v kv : Value} {out k : List Nod} {ys : List Value} (hs : SanS w S SP cs p m) (hp : PolSmall p) (ho : OutN w base S v out ys) (hbase : base ≤ w.heap.size) (hT : TreeV w S kv k) (hk9 : nodsW k ≤ 900000) (hw : nodsW out + 25 * nodsW k ≤ 180000000) :
    Calls Tryz.prog 49 #[v, kv, .func (.func 48) #[.agg cs] #[]] w (OutP w base S v (foldS p out k)) :=
  fold_of (node_all (nodsW k + 1)) hs hp ho hbase hT (by omega) hk9 hw
end Go.Proofs.YtlgaeeedkihfpaaGreatDoor.Uf

/-
  san.Tree.
-/
namespace Go.Proofs.YtlgaeeedkihfpaaGreatDoor.Uf
open Go.RowKit
open Tz (B Atr Nod Pol putS nodeS foldS)

set_option maxRecDepth 100000 in
set_option maxHeartbeats 4000000 in
theorem tree_u {w : World} {SP S2 : Nat → Prop} {cs : Array Value} {p : Pol} {m : Int} {kv : Value} {k : List Nod} (h : PolV w SP cs p) (hp : PolSmall p) (hm : w.cell? ⟨0, 0, none⟩ = some (.int .i64 m)) (hT : TreeV w S2 kv k) (hk : nodsW k ≤ 900000) :
    Calls Tryz.prog 18 #[.agg cs, kv] w fun e w' => ∃ v S', e = .returned v ∧ TreeV w' S' v (foldS p [] k) ∧ Below w.heap.size w w' := by
  have hcs := pol_cells h
  have hsz : cs.size = 9 := by
    obtain ⟨_, _, _, _, _, _, _, _, _, _, rfl, _⟩ := h
    rfl
  have hi24 : (Tryz.prog.info? 24).map (·.size) = some cs.size := by rw [hsz]; kernel_rfl
  have hz : (0 : Nat) < w.heap.size := World.block_lt_of_cell? w ⟨0, 0, none⟩ hm
  have hb : Below w.heap.size w (w.alloc (.cells cs 24)) := (Below.refl _ w).alloc (Nat.le_refl _) _
  have hP : Blk (w.alloc (.cells cs 24)) w.heap.size 24 cs := Blk.new w 24 cs
  have hs : ∀ V, Below w.heap.size w V → SanS V (fun g => g < w.heap.size) SP cs p m ∧ TreeV V (fun g => g < w.heap.size) kv k := fun V hV => by
    have hk := KeepS.below (S := fun g => g < w.heap.size) hV (fun _ h => h)
    have h6 : ∀ g, SP g → g < w.heap.size := by
      obtain ⟨_, _, _, _, _, _, _, _, _, _, _, _, _, _, _, _, h6⟩ := h
      exact h6
    obtain ⟨A, c, ys, e, g1, g2, g3⟩ := id hT
    exact ⟨⟨h.keepS (fun g hg => hk g (h6 g hg)) hV.size, h6, hz, (cell_heap (p := ⟨0, 0, none⟩) (hk 0 hz)).trans hm⟩, (hT.mono g3 (fun _ h => h)).keepS hk hV.size⟩
  have hfold : Array.foldl (fun (cs : Array Value) (x : Value × Nat) => cs.setIfInBounds x.snd x.fst) #[Value.int IntKind.i64 0, Value.slice none 0 0, Value.slice none 0 0, Value.slice none 0 0, Value.slice none 0 0, Value.slice none 0 0, Value.int IntKind.i64 0, Value.int IntKind.i64 0, Value.int IntKind.i64 0] cs.zipIdx 0 9 = cs := by
    obtain ⟨_, _, _, _, _, _, _, _, _, _, rfl, _⟩ := h
    simp
  have HF := Lib.hid hfold
  clear hfold
  have HS := Lib.hid hs
  clear hs h hT hm hcs
  go_enter Tryz.func18, Tryz.ntmps18
  have hP1 : (w.alloc (.cells cs 24)).heap[w.heap.size]? = some (.cells cs 24 (0, 0)) := hP
  apply wp_seq_k
  intro K' hK
  have HK := Lib.hid hK
  clear hK
  go_wp2_with fail
  refine HK.out _ _ ?_
  clear HK K'
  generalize (w.alloc (.cells cs 24)) = V at hb hP hP1 ⊢
  go_wp2_with (first
    | (with_reducible refine wpList_load_row rfl 24 (.tmp 2) rfl w.heap.size rfl 24 cs (0, 0) _ hP1 Tryz.underlying24 rfl hi24 ?_))
  rw [HF.out]
  obtain ⟨g1, g2⟩ := HS.out V hb
  have hbs := hb.size
  refine (fold_u g1 hp (OutN.nil (base := V.heap.size) (fun g hg => Nat.lt_of_lt_of_le hg hbs)) (Nat.le_refl _) g2 hk (by simp [nodsW]; omega)).mono ?_
  rintro e4 V4 ⟨v4, ys4, S4, rfl, k1, k2, k3, k4, k5⟩
  obtain ⟨A4, c4, rfl⟩ := own_slice k1.own
  have hb7 : Below V.heap.size V V4 := k5.below (fun k h => by cases h)
  go_wp2_with fail
  go_ret
  exact ⟨_, fun g => S4 g ∨ (Value.slice A4 (foldS p [] k).length c4).ownBlock = some g, rfl, ⟨A4, c4, ys4, rfl, (RdS.of_own k1.own).mono (fun g hg => .inr hg), NodsC.mono (fun g hg => .inl hg) _ _ k1.nod, fun g hg => hg.elim (k1.lt g) (fun e => (k1.own.lt g e).2)⟩, hb.trans (hb7.mono hbs)⟩
end Go.Proofs.YtlgaeeedkihfpaaGreatDoor.Uf
