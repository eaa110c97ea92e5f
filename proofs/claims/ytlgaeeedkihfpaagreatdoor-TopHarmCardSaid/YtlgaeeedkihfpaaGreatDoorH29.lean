/-
  Texts of the proof of Harm, one behind the other: SanG, SanH, SanT.
-/
import Derived.Test.YtlgaeeedkihfpaaGreatDoorH28
/-
  san.fold, its function given.
-/
namespace Go.Proofs.YtlgaeeedkihfpaaGreatDoor.Uf
open Go.RowKit
open Tz (B Atr Nod Pol putS nodeS foldS)

theorem ent48 : Ent 48 := ent_of Tryz.func48 (by kernel_rfl) (by kernel_rfl)
def NodeAll (N : Nat) : Prop := ∀ (w : World) (base : Nat) (S SP : Nat → Prop) (cs : Array Value) (p : Pol) (m : Int) (v : Value) (out : List Nod) (ys y : List Value) (n : Nod), SanS w S SP cs p m → PolSmall p → OutN w base S v out ys → base ≤ w.heap.size → NodC w S n y → nodW n < N → nodW n ≤ 95000 → nodsW out + 25 * nodW n ≤ 3000000 →
  Calls Tryz.prog 48 #[.agg cs, v, .agg y.toArray] w (OutP w base S v (nodeS p out n))
theorem foldS_app (p : Pol) : ∀ (k : List Nod) (out : List Nod) (n : Nod), foldS p out (k ++ [n]) = nodeS p (foldS p out k) n
  | [], out, n => by simp [foldS]
  | x :: k, out, n => by simp [foldS, foldS_app p k]
theorem TreeV.at_ {w : World} {S : Nat → Prop} {v : Value} {k : List Nod} (h : TreeV w S v k) (i : Nat) (hi : i < k.length) :
    ∃ ad c y0 y1 y2 y3, v = .slice (some ad) k.length c ∧ S ad.block ∧ NodC w S k[i] [y0, y1, y2, y3] ∧ (∀ j u, ([y0, y1, y2, y3] : List Value)[j]? = some u → w.cell? ((ad.add (i * 4)).add j) = some u) := by
  obtain ⟨A0, c, ys, rfl, h1, h2, h3⟩ := h
  obtain ⟨ad, rfl, hS, hc⟩ := h1.2 (by omega)
  obtain ⟨y, hy, hj⟩ := h2.at_ i hi
  have hl := hy.len
  obtain ⟨y0, y1, y2, y3, rfl⟩ : ∃ a b c d, y = [a, b, c, d] := by
    match y, hl with
    | [a, b, c, d], _ => exact ⟨a, b, c, d, rfl⟩
  refine ⟨ad, c, y0, y1, y2, y3, rfl, hS, hy, fun j u hu => ?_⟩
  have hj4 : j < 4 := by
    have := (List.getElem?_eq_some_iff.1 hu).1
    simpa using this
  rw [add_add]
  exact hc _ _ ((hj j hj4).trans hu)

set_option maxRecDepth 100000 in
set_option maxHeartbeats 8000000 in
theorem fold_of {N : Nat} (HN : NodeAll N) {w : World} {base : Nat} {S SP : Nat → Prop} {cs : Array Value} {p : Pol} {m : Int} {v kv : Value} {out k : List Nod} {ys : List Value} (hs : SanS w S SP cs p m) (hp : PolSmall p) (ho : OutN w base S v out ys) (hbase : base ≤ w.heap.size) (hT : TreeV w S kv k) (hN : nodsW k < N) (hk9 : nodsW k ≤ 95000) (hw : nodsW out + 25 * nodsW k ≤ 3000000) :
    Calls Tryz.prog 49 #[v, kv, .func (.func 48) #[.agg cs] #[]] w (OutP w base S v (foldS p out k)) := by
  obtain ⟨A0, c0, _, hkv, _⟩ := id hT
  have hkl := nodsW_len k
  have H := Lib.hid HN
  have hEf : ∀ (args : Array Value) (w : World), (callFunc 48 args).run Tryz.prog w = .ok (.enter 48 args) w := ent48
  clear HN
  subst hkv
  go_enter Tryz.func49, Tryz.ntmps49
  go_wp2_with fail
  go_loopw [11, 0] (fun vi vo wr => ∃ (i : Nat) (Si : Nat → Prop) (yi : List Value), vi = .int .i64 i ∧ i ≤ k.length ∧ OutN wr base Si vo (foldS p out (k.take i)) yi ∧ (∀ g, S g → Si g) ∧ (∀ g, Si g → S g ∨ w.heap.size ≤ g) ∧ (vo.ownBlock = v.ownBlock ∨ ∀ j, vo.ownBlock = some j → w.heap.size ≤ j) ∧ Only (fun j => v.ownBlock = some j) w wr) (fun vi _ _ => k.length - kOf vi)
  case atStart => exact ⟨0, S, ys, rfl, Nat.zero_le _, ho, fun _ h => h, fun _ h => .inl h, .inl rfl, Only.refl _ _⟩
  case round =>
    obtain ⟨i, Si, yi, rfl, hi, hoi, hSi, hSn, hv, hon⟩ := hrel
    by_cases hlt : i < k.length
    · have t0 : (i : Int) < (k.length : Int) := by omega
      have hkS := ho.keepOnly hon
      have hTr := hT.keepS hkS hon.size
      obtain ⟨ad, c1, y0, y1, y2, y3, hkv, hSb, hny, hcells⟩ := hTr.at_ i hlt
      obtain ⟨rfl, rfl⟩ : A0 = some ad ∧ c0 = c1 := by injection hkv with e1 _ e2; exact ⟨e1, e2⟩
      have hst : k.take (i + 1) = k.take i ++ [k[i]] := by rw [List.take_add_one, List.getElem?_eq_getElem hlt]; rfl
      have hf := foldS_app p (k.take i) out k[i]
      rw [← hst] at hf
      have hmem : nodW k[i] ≤ nodsW k := nodsW_mem (List.getElem_mem hlt)
      have hwt := foldS_w p out (k.take i)
      have hwa : nodsW (k.take i) + nodW k[i] ≤ nodsW k := by
        have h1 := take_w k (i + 1)
        rw [hst, nodsW_app] at h1
        simp [nodsW] at h1
        omega
      generalize k[i] = n at hny hf hmem hwa
      have hF := Lib.hid hf
      clear hf hst hkv
      generalize foldS p out (k.take i) = O at hoi hF hwt
      have hi1 : IntKind.i64.wrap ((i : Int) + 1) = ((i + 1 : Nat) : Int) := by rw [IntKind.wrap_i64]; omega
      have hone := hny.one_
      have o0 := hone y0 (by simp)
      have o1 := hone y1 (by simp)
      have o2 := hone y2 (by simp)
      have o3 := hone y3 (by simp)
      have hss := hs.keep hkS hon.size hSi
      have hbw := Nat.le_trans hbase hon.size
      have HX := Lib.hid (And.intro hoi (And.intro hss (And.intro (NodC.mono hSi _ _ hny) hv)))
      clear hoi hss hny hone hs hTr hT hv
      go_wp2_with (first
        | (with_reducible refine wpList_load_at rfl 61 (.tmp 13) rfl (ad.add (i * 4)) rfl [y0, y1, y2, y3] _ hcells Tryz.underlying61 rfl (by kernel_rfl) ?_)
        | ((with_reducible refine store_new rfl 61 (.tmp 8) (.tmp 14) rfl #[y0, y1, y2, y3] rfl rfl (by kernel_rfl) (by kernel_rfl) (by simp [o0, o1, o2, o3]) ?_); intro W3 hB3 hb3)
        | (with_reducible refine wpList_load_row rfl 61 (.tmp 8) rfl wr.heap.size rfl 61 #[y0, y1, y2, y3] (0, 0) _ hB3 Tryz.underlying61 rfl (by kernel_rfl) ?_))
      obtain ⟨hoi, hss, hny, hv⟩ := HX.out
      have hkS3 := KeepS.below hb3 hoi.lt
      have hsz3 := hb3.size
      have hsz0 := hon.size
      refine (H.out W3 base Si SP cs p m u0 O yi [y0, y1, y2, y3] n (hss.keep hkS3 hsz3 (fun _ h => h)) hp (hoi.below_ hb3) (by omega) (NodC.keep hkS3 _ _ hny) (by omega) (by omega) (by omega)).mono ?_
      rintro e4 W4 ⟨v', ys', S', rfl, g1, g2, g3, g4, g5⟩
      have hon3 : Only (fun j => v.ownBlock = some j) w W3 := hon.trans ⟨hb3.os, hb3.tape, hb3.output, hb3.size, fun j hj _ => hb3.block j hj⟩
      have hon4 : Only (fun j => v.ownBlock = some j) w W4 := hon3.next g5 (fun j hj e => by
        rcases hv with e1 | e1
        · rw [← e1]; exact e
        · have := e1 j e; omega)
      have hv4 : v'.ownBlock = v.ownBlock ∨ ∀ j, v'.ownBlock = some j → w.heap.size ≤ j := by
        rcases g4 with e1 | e1
        · rcases hv with e2 | e2
          · exact .inl (e1.trans e2)
          · exact .inr (fun j hj => e2 j (e1 ▸ hj))
        · exact .inr (fun j hj => by have := e1 j hj; omega)
      have hS4 : ∀ g, S' g → S g ∨ w.heap.size ≤ g := fun g hg => (g3 g hg).elim (fun h => hSn g h) (fun h => .inr (by omega))
      have HG := Lib.hid (And.intro g1 (And.intro (fun g hg => g2 g (hSi g hg)) (And.intro hS4 (And.intro hv4 hon4))))
      clear g1 g2 g3 g4 g5 hv4 hS4 hon4 hon3 hoi hss hny hv hkS3
      go_wp2_with fail
      go_roundw
      case rel => exact ⟨i + 1, S', ys', rfl, hlt, by rw [hF.out]; exact HG.out.1, HG.out.2.1, HG.out.2.2.1, HG.out.2.2.2.1, HG.out.2.2.2.2⟩
      case measure =>
        show k.length - kOf (.int .i64 ((i + 1 : Nat) : Int)) < k.length - kOf (.int .i64 (i : Int))
        simp only [kOf, Int.toNat_natCast]
        omega
    · have t0 : ¬ ((i : Int) < (k.length : Int)) := by omega
      have hkt : k.take i = k := List.take_of_length_le (by omega)
      rw [hkt] at hoi
      go_wp2_with fail
      go_ret
      exact ⟨_, yi, Si, rfl, hoi, hSi, hSn, hv, hon⟩
end Go.Proofs.YtlgaeeedkihfpaaGreatDoor.Uf

/-
  san.node, san.fold.
-/
namespace Go.Proofs.YtlgaeeedkihfpaaGreatDoor.Uf
open Go.RowKit
open Tz (B Atr Nod Pol putS nodeS foldS)

theorem nodeS_eq (p : Pol) (out : List Nod) (nm : B) (at_ : List Atr) (tx : B) (kd : List Nod) : nodeS p out (.mk nm at_ tx kd) = if nm = [] then putS out (.mk nm at_ tx kd) else if Tz.dropL nm = true then out else if Tz.elemP p nm = true then putS out (.mk nm (Tz.attrsS p nm at_) [] (foldS p [] kd)) else foldS p out kd := by
  conv => lhs; unfold nodeS
theorem aw_mem {l : List Atr} {a : Atr} (h : a ∈ l) : a.name.length + a.val.length + 1 ≤ aw l := by
  induction l with
  | nil => cases h
  | cons x l ih =>
    rcases List.mem_cons.1 h with rfl | h
    · simp [aw]
    · have := ih h
      simp [aw] at this ⊢
      omega
theorem Only.ofB {X : Nat → Prop} {w V : World} (hb : Below w.heap.size w V) : Only X w V := ⟨hb.os, hb.tape, hb.output, hb.size, fun k hk _ => hb.block k hk⟩
theorem OutP.of {w V w' : World} {base : Nat} {S S' : Nat → Prop} {v v' : Value} {out' : List Nod} {ys' : List Value} (hb : Below w.heap.size w V) (h1 : OutN w' base S' v' out' ys') (h2 : ∀ g, S g → S' g) (h3 : ∀ g, S' g → S g ∨ w.heap.size ≤ g) (h4 : v'.ownBlock = v.ownBlock ∨ ∀ j, v'.ownBlock = some j → V.heap.size ≤ j) (h5 : Only (fun j => v.ownBlock = some j) V w') : OutP w base S v out' (.returned v') w' :=
  ⟨v', ys', S', rfl, h1, h2, h3, h4.imp id (fun h j hj => Nat.le_trans hb.size (h j hj)), (Only.ofB hb).trans h5⟩
theorem OutP.below {w V w' : World} {base : Nat} {S : Nat → Prop} {v : Value} {out' : List Nod} {e : Ending} (hb : Below w.heap.size w V) (h : OutP V base S v out' e w') : OutP w base S v out' e w' := by
  obtain ⟨v', ys', S', rfl, h1, h2, h3, h4, h5⟩ := h
  exact OutP.of hb h1 h2 (fun g hg => (h3 g hg).imp id (fun h => Nat.le_trans hb.size h)) h4 h5
theorem OutP.ret {w w' : World} {base : Nat} {S : Nat → Prop} {v : Value} {out' : List Nod} {e : Ending} (h : OutP w base S v out' e w') : ∃ v', e = .returned v' ∧ OutP w base S v out' (.returned v') w' := by
  obtain ⟨v', ys', S', rfl, h1⟩ := id h
  exact ⟨v', rfl, h⟩
theorem NodC.made {w : World} {S : Nat → Prop} {nm : B} {A K : Option Addr} {a : List Atr} {k : List Nod} {ca ck : Nat} {ys : List Value} (hA : RdS w S 2 A a.length (atrCells a)) (hK : RdS w S 4 K k.length ys) (hn : NodsC w S k ys) : NodC w S (.mk nm a [] k) [.string (bs nm), .slice A a.length ca, .string (bs []), .slice K k.length ck] := by
  unfold NodC
  exact ⟨A, ca, K, ck, ys, rfl, hA, hK, hn⟩
section
variable {P : Program} {md : Region.Mode} {Q : Exit → Act → World → Prop} {S : World → Prop} {l : List Oper}
theorem wpAnyZ_yield {i F : Nat} {o : Oper} {rest : List Oper} {listed : Array Bool} {a : Act} {w : World} (v : Value) (hS : S w) (ho : l.drop i = o :: rest) (hB : (Region.noSelect l.toArray && (Region.ready md l.toArray listed).contains i && Region.free md l.toArray listed i) = true) (hsh : shutdB md l.toArray listed = true) (hQ : panicsOk Q) (hg : o.guard = none)
    (hv : ∀ w, S w → (execOp a.eval o).run P w = .ok (.value v) w) (h : wpAnyZ P md l.toArray Q S (fun _ => false) F (listed.setIfInBounds i true) (a.put o.dst v) w) : wpAnyZ P md l.toArray Q S (fun _ => false) (F + 1) listed a w := by
  simp only [Bool.and_eq_true] at hB
  obtain ⟨⟨hs, hr⟩, hf⟩ := hB
  have h0 : l.toArray[i]? = some o := by
    rw [List.getElem?_toArray]
    have := congrArg (·[0]?) ho
    simpa using this
  exact wpAnyZ_first (f := 0) h0 (Region.noSelect_spec hs) (fun c a w => hQ.at_ c a _ _ w) F listed a w (Region.free_spec h0 hf) (fun j _ hz => by cases hz) (shutd_of hsh) (by simpa using hr) (.inl ⟨by unfold Region.wanted; rw [hg], hv⟩) hS h
end
/-- The region that makes an element: its attributes, its children, the node put. -/
theorem elem_more {w V : World} {S : Nat → Prop} {A : Option Addr} {n c : Nat} {xs : List Value} {base : Nat} {sz : Nat} {t : TypeId} (hlt : ∀ g, S g → g < w.heap.size) (hb : Below w.heap.size w V) (h : V.ownsRow base t sz (.slice A n c) n xs) : (∀ g, (S g ∨ (Value.slice A n c).ownBlock = some g) → g < V.heap.size) := fun g hg => hg.elim (fun h => Nat.lt_of_lt_of_le (hlt g h) hb.size) (fun e => (h.lt g e).2)

set_option maxRecDepth 100000 in
set_option maxHeartbeats 8000000 in
theorem node_step {N : Nat} (HN : NodeAll N) : NodeAll (N + 1) := by
  intro w base S SP cs p m v out ys y n hs hp ho hbase hn hnN hn9 hw
  obtain ⟨nm, at_, tx, kd⟩ := n
  have hn0 := hn
  unfold NodC at hn0
  obtain ⟨A, ca, K, ck, zs, rfl, hA, hK1, hK2⟩ := hn0
  have hwk : nodsW kd + aw at_ + nm.length + tx.length + 1 = nodW (.mk nm at_ tx kd) := by simp [nodW]; omega
  have hcs := pol_cells hs.pol
  have hsz : cs.size = 9 := by
    obtain ⟨_, _, _, _, _, _, _, _, _, _, rfl, _⟩ := hs.pol
    rfl
  have hi24 : (Tryz.prog.info? 24).map (·.size) = some cs.size := by rw [hsz]; kernel_rfl
  have hi94 : (Tryz.prog.info? 94).map (·.size) = some cs.size := by rw [hsz]; kernel_rfl
  have hb : Below w.heap.size w ((w.alloc (.cells cs 94)).alloc (.cells #[.string (bs nm), .slice A at_.length ca, .string (bs tx), .slice K kd.length ck] 61)) := ((Below.refl _ w).alloc (Nat.le_refl _) _).alloc (by rw [alloc_size]; omega) _
  have hP : Blk ((w.alloc (.cells cs 94)).alloc (.cells #[.string (bs nm), .slice A at_.length ca, .string (bs tx), .slice K kd.length ck] 61)) w.heap.size 94 cs := Blk.alloc (Blk.new w 94 cs) _
  have hQ : Blk ((w.alloc (.cells cs 94)).alloc (.cells #[.string (bs nm), .slice A at_.length ca, .string (bs tx), .slice K kd.length ck] 61)) (w.heap.size + 1) 61 #[.string (bs nm), .slice A at_.length ca, .string (bs tx), .slice K kd.length ck] := by
    have := Blk.new (w.alloc (.cells cs 94)) 61 #[.string (bs nm), .slice A at_.length ca, .string (bs tx), .slice K kd.length ck]
    rw [alloc_size] at this
    exact this
  have hval : ∀ V, Below w.heap.size w V → SanS V S SP cs p m ∧ OutN V base S v out ys ∧ NodC V S (.mk nm at_ tx kd) #[.string (bs nm), .slice A at_.length ca, .string (bs tx), .slice K kd.length ck].toList ∧ RdS V S 2 A at_.length (atrCells at_) ∧ TreeV V S (.slice K kd.length ck) kd := fun V hV => by
    have hk := KeepS.below hV ho.lt
    exact ⟨hs.keep hk hV.size (fun _ h => h), ho.below_ hV, NodC.keep hk _ _ hn, hA.keep hk, ⟨K, ck, zs, rfl, hK1.keep hk, NodsC.keep hk _ _ hK2, fun g hg => Nat.lt_of_lt_of_le (ho.lt g hg) hV.size⟩⟩
  have hlt := ho.lt
  have hvo : ∀ j, v.ownBlock = some j → j < w.heap.size := fun j hj => (ho.own.lt j hj).2
  have hnS := ho.nS
  have hol := nodsW_len out
  have htxt : ∀ x ∈ out, x.text.length ≤ 3000000 := fun x hx => by have := nodsW_mem hx; have := nodW_text x; omega
  have HV := Lib.hid hval
  have H := Lib.hid HN
  have HW := Lib.hid (And.intro hnS (And.intro hlt hvo))
  have hR := nodeS_eq p out nm at_ tx kd
  generalize nodeS p out (.mk nm at_ tx kd) = R at hR ⊢
  have HR := Lib.hid hR
  clear hR
  clear hval HN hs ho hn hA hK1 hK2 hnS hlt hvo
  go_enter Tryz.func48, Tryz.ntmps48
  apply wp_seq_k
  intro K' hK
  have HK := Lib.hid hK
  clear hK
  go_wp2_with fail
  refine HK.out _ _ ?_
  clear HK K' hcs
  generalize ((w.alloc (.cells cs 94)).alloc (.cells #[.string (bs nm), .slice A at_.length ca, .string (bs tx), .slice K kd.length ck] 61)) = V at hb hP hQ ⊢
  have hbs := hb.size
  by_cases hnm : nm = []
  · subst hnm
    have q0 : V.cell? ⟨w.heap.size + 1, 0, none⟩ = some (.string (bs [])) := Blk.cell hQ 0
    have hQ1 : V.heap[w.heap.size + 1]? = some (.cells #[.string (bs []), .slice A at_.length ca, .string (bs tx), .slice K kd.length ck] 61 (0, 0)) := hQ
    have en : (([] : B) == ([] : B)) = true := rfl
    go_wp2_with (first
      | (with_reducible refine wpList_load_row rfl 61 (.tmp 5) rfl (w.heap.size + 1) rfl 61 #[.string (bs []), .slice A at_.length ca, .string (bs tx), .slice K kd.length ck] (0, 0) _ hQ1 Tryz.underlying61 rfl (by kernel_rfl) ?_))
    obtain ⟨_, g2, g3, _, _⟩ := HV.out V hb
    refine (putn_u g2 g3 (by omega) (by omega) (fun x hx => by have := htxt x hx; show x.text.length + tx.length ≤ _; omega)).mono ?_
    rintro e2 w2 ⟨v', ys', rfl, g4, g5, g6⟩
    go_wp2_with fail
    go_ret
    rw [show R = putS out (.mk [] at_ tx kd) by simpa using HR.out]
    exact OutP.of hb g4 (fun _ h => h) (fun _ h => .inl h) g5 g6
  have en : (nm == ([] : B)) = false := by simpa using hnm
  have hR := HR.out
  rw [if_neg hnm] at hR
  have HR := Lib.hid hR
  clear hR
  have q0 : V.cell? ⟨w.heap.size + 1, 0, none⟩ = some (.string (bs nm)) := Blk.cell hQ 0
  go_wp2_with fail
  refine (dropped_u nm).mono ?_
  generalize Tz.dropL nm = z1 at HR
  rintro e1 V1 ⟨rfl, hV1⟩
  have hb1 : Below w.heap.size w V1 := by rw [hV1]; exact ⟨hb.os, hb.tape, hb.output, hb.size, hb.block⟩
  have hP1 : Blk V1 w.heap.size 94 cs := by rw [hV1]; exact hP
  have hQ1 : Blk V1 (w.heap.size + 1) 61 #[.string (bs nm), .slice A at_.length ca, .string (bs tx), .slice K kd.length ck] := by rw [hV1]; exact hQ
  have hbs1 : w.heap.size ≤ V1.heap.size := hb1.size
  clear hV1 hb hP hQ q0 hbs
  cases z1 with
  | true =>
    go_wp2_with fail
    go_ret
    rw [show R = out by simpa using HR.out]
    obtain ⟨_, g2, _⟩ := HV.out V1 hb1
    exact OutP.of hb1 g2 (fun _ h => h) (fun _ h => .inl h) (.inl rfl) (Only.refl _ _)
  | false =>
    have hR := HR.out
    rw [if_neg (by simp)] at hR
    have HR := Lib.hid hR
    clear hR
    have q0 : V1.cell? ⟨w.heap.size + 1, 0, none⟩ = some (.string (bs nm)) := Blk.cell hQ1 0
    have hP2 : V1.heap[w.heap.size]? = some (.cells cs 94 (0, 0)) := hP1
    go_wp2_with (first
      | (with_reducible refine wpList_load_row rfl 24 (.tmp 20) rfl w.heap.size rfl 94 cs (0, 0) _ hP2 Tryz.underlying24 rfl hi24 ?_))
    obtain ⟨g1, _⟩ := HV.out V1 hb1
    refine (elem_u nm g1.pol hp).mono ?_
    generalize Tz.elemP p nm = z2 at HR
    rintro e2 V2 ⟨rfl, hb2⟩
    have hb3 := hb1.trans (hb2.mono hb1.size)
    have hP3 : Blk V2 w.heap.size 94 cs := hP1.below hb2 hP1.lt
    have hQ3 : Blk V2 (w.heap.size + 1) 61 #[.string (bs nm), .slice A at_.length ca, .string (bs tx), .slice K kd.length ck] := hQ1.below hb2 hQ1.lt
    clear hb1 hb2 hP1 hQ1 hP2 q0 hbs1
    cases z2 with
    | false =>
      have q3 : V2.cell? ⟨w.heap.size + 1, 3, none⟩ = some (.slice K kd.length ck) := Blk.cell hQ3 3
      have hP2 : V2.heap[w.heap.size]? = some (.cells cs 94 (0, 0)) := hP3
      have hbs := hb3.size
      go_wp2_with (first
        | (with_reducible refine wpList_load_row rfl 94 (.tmp 3) rfl w.heap.size rfl 94 cs (0, 0) _ hP2 Tryz.underlying94 rfl hi94 ?_))
      obtain ⟨g1, g2, _, _, g5⟩ := HV.out V2 hb3
      refine (fold_of H.out g1 hp g2 (by omega) g5 (by omega) (by omega) (by omega)).mono ?_
      intro e3 V3 g6
      obtain ⟨v', rfl, g7⟩ := g6.ret
      go_wp2_with fail
      go_ret
      rw [show R = foldS p out kd by simpa using HR.out]
      exact OutP.below hb3 g7
    | true =>
      go_wp2_with fail
      obtain ⟨ι, hne, F, hF, hcov⟩ := class_of (fun X => X.heap[w.heap.size]? = some (.cells cs 94 (0, 0)) ∧ X.heap[w.heap.size + 1]? = some (.cells #[.string (bs nm), .slice A at_.length ca, .string (bs tx), .slice K kd.length ck] 61 (0, 0))) V2.drew ⟨hP3, hQ3⟩
      have rP : ∀ i, (F i).heap[w.heap.size]? = some (.cells cs 94 (0, 0)) := fun i => (hF i).1
      have r0 : ∀ i, (F i).cell? ⟨w.heap.size + 1, 0, none⟩ = some (.string (bs nm)) := fun i => Blk.cell (hF i).2 0
      have r1 : ∀ i, (F i).cell? ⟨w.heap.size + 1, 1, none⟩ = some (.slice A at_.length ca) := fun i => Blk.cell (hF i).2 1
      have r3 : ∀ i, (F i).cell? ⟨w.heap.size + 1, 3, none⟩ = some (.slice K kd.length ck) := fun i => Blk.cell (hF i).2 3
      have hS0 := hcov V2.drew ⟨hP3, hQ3⟩
      have hb4 : Below w.heap.size w V2.drew := hb3.drew
      refine wp_region_every 8 9 (S := fun X => ∃ i, X = F i) (by kernel_rfl) (by kernel_rfl) (fun _ _ _ _ _ h => h) hS0 ?_
      clear hb3
      have hP4 : Blk V2.drew w.heap.size 94 cs := hP3
      have hQ4 : Blk V2.drew (w.heap.size + 1) 61 #[.string (bs nm), .slice A at_.length ca, .string (bs tx), .slice K kd.length ck] := hQ3
      clear hP3 hQ3
      generalize V2.drew = Vd at hb4 hP4 hQ4 hS0 ⊢
      dsimp only [List.take, List.drop]
      have hrow : ∀ X, (∃ i, X = F i) → X.heap[w.heap.size]? = some (.cells cs 94 (0, 0)) := fun X hX => by
        obtain ⟨i, rfl⟩ := hX
        exact rP i
      repeat (go_big_quiet_step (fail))
      with_reducible refine wpQuiet_load_row rfl 94 (.tmp 3) rfl w.heap.size rfl 94 cs _ hrow Tryz.underlying94 rfl hi94 ?_
      try simp only [Act.put, List.setIfInBounds_toArray, List.set_cons_zero, List.set_cons_succ]
      repeat (go_big_quiet_step (fail))
      refine wpQuiet_nil ?_
      refine wpAnyZ_pure (i := 9) (F := 8) hS0 rfl (by kernel_rfl) (by kernel_rfl) (fun _ _ _ _ _ h => h) ?_
      go_big_quiet_step (fail)
      refine wpQuiet_nil ?_
      refine wpAnyZ_pure (i := 10) (F := 7) hS0 rfl (by kernel_rfl) (by kernel_rfl) (fun _ _ _ _ _ h => h) ?_
      go_big_quiet_step (fail)
      refine wpQuiet_nil ?_
      refine wpAnyZ_pure (i := 11) (F := 6) hS0 rfl (by kernel_rfl) (by kernel_rfl) (fun _ _ _ _ _ h => h) ?_
      with_reducible refine wpQuiet_load_row rfl 94 (.tmp 3) rfl w.heap.size rfl 94 cs _ hrow Tryz.underlying94 rfl hi94 ?_
      refine wpQuiet_nil ?_
      try simp only [Act.put, List.setIfInBounds_toArray, List.set_cons_zero, List.set_cons_succ]
      refine wpAnyZ_yield (i := 12) (F := 5) (.func (.func 48) #[.agg cs] #[]) hS0 rfl (by kernel_rfl) (by kernel_rfl) (fun _ _ _ _ _ h => h) rfl (fun X _ => by simp [execOp, Instr.makeFunc, Act.eval, Sem.run_pure]) ?_
      try simp only [Act.put, List.setIfInBounds_toArray, List.set_cons_zero, List.set_cons_succ]
      obtain ⟨g1, g2, g3, g4, g5⟩ := HV.out Vd hb4
      obtain ⟨hnS, hlt, hvo⟩ := HW.out
      have hbs := hb4.size
      have haw : ∀ a ∈ at_, nm.length + a.name.length + a.val.length ≤ 95000 := fun a ha => by
        have := aw_mem ha
        omega
      refine wpAnyZ_one (i := 8) (F := 4) hS0 (by kernel_rfl) rfl (fun Kx hK => ?_)
      go_simp
      refine (cattrs_u (n := 0) nm g1.pol hp g1.hm g4 (fun g hg => Nat.lt_of_lt_of_le (hlt g hg) hbs) (by have := aw_len at_; omega) haw).mono ?_
      rintro e3 V3 ⟨v3, rfl, hown, hb5⟩
      obtain ⟨A3, c3, rfl⟩ := own_slice hown
      have hb6 := hb4.trans (hb5.mono hbs)
      have hP5 : Blk V3 w.heap.size 94 cs := hP4.below hb5 hP4.lt
      have hQ5 : Blk V3 (w.heap.size + 1) 61 #[.string (bs nm), .slice A at_.length ca, .string (bs tx), .slice K kd.length ck] := hQ4.below hb5 hQ4.lt
      have hS3 := hcov V3 ⟨hP5, hQ5⟩
      refine hK.out _ _ hS3 ?_
      clear hK Kx
      try simp only [Act.put, List.setIfInBounds_toArray, List.set_cons_zero, List.set_cons_succ]
      obtain ⟨f1, f2, _, _, f5⟩ := HV.out V3 hb6
      have hsz6 := hb6.size
      have hsz5 := hb5.size
      obtain ⟨S1, hS1⟩ : ∃ S1 : Nat → Prop, S1 = fun g => S g ∨ (Value.slice A3 (Tz.attrsS p nm at_).length c3).ownBlock = some g := ⟨_, rfl⟩
      have hS1a : ∀ g, S g → S1 g := fun g hg => by rw [hS1]; exact .inl hg
      have hS1l : ∀ g, S1 g → g < V3.heap.size := fun g hg => by
        rw [hS1] at hg
        exact hg.elim (fun h => Nat.lt_of_lt_of_le (hlt g h) hsz6) (fun e => (hown.lt g e).2)
      have hS1n : ∀ g, S1 g → S g ∨ w.heap.size ≤ g := fun g hg => by
        rw [hS1] at hg
        exact hg.imp id (fun e => Nat.le_trans hbs (hown.lt g e).1)
      have hRA : RdS V3 S1 2 A3 (Tz.attrsS p nm at_).length (atrCells (Tz.attrsS p nm at_)) := (RdS.of_own hown).mono (fun g hg => by rw [hS1]; exact .inr hg)
      have h0 := foldS_w p [] kd
      have HF := Lib.hid (fold_of (base := V3.heap.size) (v := .slice none 0 0) (out := []) (k := kd) (ys := []) H.out (f1.keep (KeepS.refl _ _) (Nat.le_refl _) hS1a) hp (OutN.nil hS1l) (Nat.le_refl _) (f5.mono hS1a hS1l) (by omega) (by omega) (by simp [nodsW]; omega))
      have HX := Lib.hid (And.intro f2 (And.intro hRA (And.intro hS1a (And.intro hS1n hS1l))))
      generalize Tz.attrsS p nm at_ = AT at hown hRA HX HR hS1
      clear hown hRA hS1a hS1n hS1l f1 f2 f5 g1 g2 g3 g4 g5 hb5 hP4 hQ4 hS1 haw
      refine wpAnyZ_one (i := 13) (F := 3) hS3 (by kernel_rfl) rfl (fun Kx hK => ?_)
      go_simp
      refine HF.out.mono ?_
      rintro e4 V4 ⟨v4, ys4, S4, rfl, k1, k2, k3, k4, k5⟩
      generalize foldS p [] kd = FK at HR k1
      obtain ⟨A4, c4, rfl⟩ := own_slice k1.own
      have hb7 : Below V3.heap.size V3 V4 := k5.below (fun k h => by cases h)
      have hP6 : Blk V4 w.heap.size 94 cs := hP5.below hb7 hP5.lt
      have hQ6 : Blk V4 (w.heap.size + 1) 61 #[.string (bs nm), .slice A at_.length ca, .string (bs tx), .slice K kd.length ck] := hQ5.below hb7 hQ5.lt
      have hS4 := hcov V4 ⟨hP6, hQ6⟩
      refine hK.out _ _ hS4 ?_
      clear hK Kx
      try simp only [Act.put, List.setIfInBounds_toArray, List.set_cons_zero, List.set_cons_succ]
      refine wpAnyZ_one (i := 14) (F := 2) hS4 (by kernel_rfl) rfl (fun Kx hK => ?_)
      go_simp
      refine hK.out _ _ hS4 ?_
      clear hK Kx
      try simp only [Act.put, List.setIfInBounds_toArray, List.set_cons_zero, List.set_cons_succ]
      refine wpAnyZ_one (i := 15) (F := 1) hS4 (by kernel_rfl) rfl (fun Kx hK => ?_)
      go_simp
      obtain ⟨f2, hRA, hS1a, hS1n, hS1l⟩ := HX.out
      obtain ⟨S5, hS5⟩ : ∃ S5 : Nat → Prop, S5 = fun g => S4 g ∨ (Value.slice A4 FK.length c4).ownBlock = some g := ⟨_, rfl⟩
      have hS5a : ∀ g, S4 g → S5 g := fun g hg => by rw [hS5]; exact .inl hg
      have hS5l : ∀ g, S5 g → g < V4.heap.size := fun g hg => by
        rw [hS5] at hg
        exact hg.elim (k1.lt g) (fun e => (k1.own.lt g e).2)
      have hS5n : ∀ g, S5 g → S g ∨ w.heap.size ≤ g := fun g hg => by
        rw [hS5] at hg
        rcases hg with h | e
        · exact (k3 g h).elim (fun h => hS1n g h) (fun h => .inr (by omega))
        · have := (k1.own.lt g e).1
          exact .inr (by omega)
      have hS5b : ∀ g, S g → S5 g := fun g hg => hS5a g (k2 g (hS1a g hg))
      have hno : ∀ g, v.ownBlock = some g → ¬ S5 g := fun g hg h => (hS5n g h).elim (hnS g hg) (fun h => by have := hvo g hg; omega)
      have hf2 := (f2.below_ hb7).more hS5b hS5l hno
      have hb8 := hb6.trans (hb7.mono hsz6)
      have hnew : NodC V4 S5 (.mk nm AT [] FK) [.string (bs nm), .slice A3 AT.length c3, .string (bs []), .slice A4 FK.length c4] := NodC.made ((hRA.keep (KeepS.below hb7 hS1l)).mono (fun g hg => hS5a g (k2 g hg))) ((RdS.of_own k1.own).mono (fun g hg => by rw [hS5]; exact .inr hg)) (NodsC.mono hS5a _ _ k1.nod)
      have hsz7 := hb8.size
      refine (putn_u hf2 hnew (by omega) (by omega) (fun x hx => by have := htxt x hx; show x.text.length + ([] : B).length ≤ _; simp; omega)).mono ?_
      rintro e5 V5 ⟨v5, ys5, rfl, m1, m2, m3⟩
      have hP7 : Blk V5 w.heap.size 94 cs := hP6.only m3 (fun h => by have := hvo _ h; omega)
      have hQ7 : Blk V5 (w.heap.size + 1) 61 #[.string (bs nm), .slice A at_.length ca, .string (bs tx), .slice K kd.length ck] := hQ6.only m3 (fun h => by have := hvo _ h; omega)
      have hS6 := hcov V5 ⟨hP7, hQ7⟩
      refine hK.out _ _ hS6 ?_
      clear hK Kx
      try simp only [Act.put, List.setIfInBounds_toArray, List.set_cons_zero, List.set_cons_succ]
      refine wpAnyZ_one (i := 16) (F := 0) hS6 (by kernel_rfl) rfl (fun Kx hK => ?_)
      go_simp
      refine hK.out _ _ hS6 ?_
      clear hK Kx
      try simp only [Act.put, List.setIfInBounds_toArray, List.set_cons_zero, List.set_cons_succ]
      refine wpAnyZ_end (by kernel_rfl) ?_
      go_wp2_with fail
      go_ret
      rw [show R = putS out (.mk nm AT [] FK) by simpa using HR.out]
      exact OutP.of hb8 m1 hS5b hS5n m2 m3

theorem node_all : ∀ N, NodeAll N
  | 0 => fun _ _ _ _ _ _ _ _ _ _ _ _ _ _ _ _ _ h => absurd h (by omega)
  | N + 1 => node_step (node_all N)
/-- fold: the list made so far, and what the nodes leave. -/
theorem fold_u {w : World} {base : Nat} {S SP : Nat → Prop} {cs : Array Value} {p : Pol} {m : Int} {v kv : Value} {out k : List Nod} {ys : List Value} (hs : SanS w S SP cs p m) (hp : PolSmall p) (ho : OutN w base S v out ys) (hbase : base ≤ w.heap.size) (hT : TreeV w S kv k) (hk9 : nodsW k ≤ 95000) (hw : nodsW out + 25 * nodsW k ≤ 3000000) :
    Calls Tryz.prog 49 #[v, kv, .func (.func 48) #[.agg cs] #[]] w (OutP w base S v (foldS p out k)) :=
  fold_of (node_all (nodsW k + 1)) hs hp ho hbase hT (by omega) hk9 hw
end Go.Proofs.YtlgaeeedkihfpaaGreatDoor.Uf

/-
  san.Tree.
-/
namespace Go.Proofs.YtlgaeeedkihfpaaGreatDoor.Uf
open Go.RowKit
open Tz (B Atr Nod Pol putS nodeS foldS)

set_option maxRecDepth 100000 in
set_option maxHeartbeats 4000000 in
theorem tree_u {w : World} {SP S2 : Nat → Prop} {cs : Array Value} {p : Pol} {m : Int} {kv : Value} {k : List Nod} (h : PolV w SP cs p) (hp : PolSmall p) (hm : w.cell? ⟨0, 0, none⟩ = some (.int .i64 m)) (hT : TreeV w S2 kv k) (hk : nodsW k ≤ 95000) :
    Calls Tryz.prog 18 #[.agg cs, kv] w fun e w' => ∃ v S', e = .returned v ∧ TreeV w' S' v (foldS p [] k) ∧ Below w.heap.size w w' := by
  have hcs := pol_cells h
  have hsz : cs.size = 9 := by
    obtain ⟨_, _, _, _, _, _, _, _, _, _, rfl, _⟩ := h
    rfl
  have hi24 : (Tryz.prog.info? 24).map (·.size) = some cs.size := by rw [hsz]; kernel_rfl
  have hz : (0 : Nat) < w.heap.size := World.block_lt_of_cell? w ⟨0, 0, none⟩ hm
  have hb : Below w.heap.size w (w.alloc (.cells cs 24)) := (Below.refl _ w).alloc (Nat.le_refl _) _
  have hP : Blk (w.alloc (.cells cs 24)) w.heap.size 24 cs := Blk.new w 24 cs
  have hs : ∀ V, Below w.heap.size w V → SanS V (fun g => g < w.heap.size) SP cs p m ∧ TreeV V (fun g => g < w.heap.size) kv k := fun V hV => by
    have hk := KeepS.below (S := fun g => g < w.heap.size) hV (fun _ h => h)
    have h6 : ∀ g, SP g → g < w.heap.size := by
      obtain ⟨_, _, _, _, _, _, _, _, _, _, _, _, _, _, _, _, h6⟩ := h
      exact h6
    obtain ⟨A, c, ys, e, g1, g2, g3⟩ := id hT
    exact ⟨⟨h.keepS (fun g hg => hk g (h6 g hg)) hV.size, h6, hz, (cell_heap (p := ⟨0, 0, none⟩) (hk 0 hz)).trans hm⟩, (hT.mono g3 (fun _ h => h)).keepS hk hV.size⟩
  have hfold : Array.foldl (fun (cs : Array Value) (x : Value × Nat) => cs.setIfInBounds x.snd x.fst) #[Value.int IntKind.i64 0, Value.slice none 0 0, Value.slice none 0 0, Value.slice none 0 0, Value.slice none 0 0, Value.slice none 0 0, Value.int IntKind.i64 0, Value.int IntKind.i64 0, Value.int IntKind.i64 0] cs.zipIdx 0 9 = cs := by
    obtain ⟨_, _, _, _, _, _, _, _, _, _, rfl, _⟩ := h
    simp
  have HF := Lib.hid hfold
  clear hfold
  have HS := Lib.hid hs
  clear hs h hT hm hcs
  go_enter Tryz.func18, Tryz.ntmps18
  have hP1 : (w.alloc (.cells cs 24)).heap[w.heap.size]? = some (.cells cs 24 (0, 0)) := hP
  apply wp_seq_k
  intro K' hK
  have HK := Lib.hid hK
  clear hK
  go_wp2_with fail
  refine HK.out _ _ ?_
  clear HK K'
  generalize (w.alloc (.cells cs 24)) = V at hb hP hP1 ⊢
  go_wp2_with (first
    | (with_reducible refine wpList_load_row rfl 24 (.tmp 2) rfl w.heap.size rfl 24 cs (0, 0) _ hP1 Tryz.underlying24 rfl hi24 ?_))
  rw [HF.out]
  obtain ⟨g1, g2⟩ := HS.out V hb
  have hbs := hb.size
  refine (fold_u g1 hp (OutN.nil (base := V.heap.size) (fun g hg => Nat.lt_of_lt_of_le hg hbs)) (Nat.le_refl _) g2 hk (by simp [nodsW]; omega)).mono ?_
  rintro e4 V4 ⟨v4, ys4, S4, rfl, k1, k2, k3, k4, k5⟩
  obtain ⟨A4, c4, rfl⟩ := own_slice k1.own
  have hb7 : Below V.heap.size V V4 := k5.below (fun k h => by cases h)
  go_wp2_with fail
  go_ret
  exact ⟨_, fun g => S4 g ∨ (Value.slice A4 (foldS p [] k).length c4).ownBlock = some g, rfl, ⟨A4, c4, ys4, rfl, (RdS.of_own k1.own).mono (fun g hg => .inr hg), NodsC.mono (fun g hg => .inl hg) _ _ k1.nod, fun g hg => hg.elim (k1.lt g) (fun e => (k1.own.lt g e).2)⟩, hb.trans (hb7.mono hbs)⟩
end Go.Proofs.YtlgaeeedkihfpaaGreatDoor.Uf
