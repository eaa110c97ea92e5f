/-
  Texts of the proof of Chain, one behind the other: SegC, SafB, SanA, Sums.
-/
import Derived.Test.YtlgaeeedkihfpaaGreatDoorC13
import Derived.Test.YtlgaeeedkihfpaaGreatDoorC28
/-
  Regions no operation of which leaves a condition on the world.
-/
namespace Go.Proofs.YtlgaeeedkihfpaaGreatDoor.Uf
open Go.RowKit
section
variable {P : Program} {md : Region.Mode} {Q : Exit → Act → World → Prop} {S : World → Prop} {l : List Oper}
def everyB (ops : Array Oper) (n F : Nat) : Bool :=
  Region.noSelect ops && decide (n + F = ops.size) && segB .any ops (fun _ => false) n 0 (Array.replicate ops.size false)
theorem wp_region_every {id : Nat} {a : Act} {w : World} (n F : Nat) (hm : P.follows .mixedOrders = true) (hB : everyB l.toArray n F = true) (hQ : panicsOk Q) (hS : S w.drew)
    (h : wpQuiet P l.toArray S (fun a' => wpAnyZ P .any l.toArray Q S (fun _ => false) F (markF (Array.replicate l.length false) 0 n) a' w.drew) (l.take n) a) : (Code.region id l.toArray true).wp P Q a w := by
  simp only [everyB, Bool.and_eq_true, decide_eq_true_eq] at hB
  obtain ⟨⟨hs, hn⟩, hseg⟩ := hB
  have hn' : n ≤ l.length := by simp at hn; omega
  have hlen : (l.take n).length = n := by simp [hn']
  refine wp_region_any hm ?_
  refine wpAny_of_z (S := S) (z := fun _ => false) _ _ _ _ ?_
  have key := wpAnyZ_seg (P := P) (Q := Q) (md := .any) (S := S) (z := fun _ => false) (fuel := F) (w := w.drew) hs hQ hS
    (fun j hj => rfl) (l.take n) 0 (Array.replicate l.toArray.size false) a (fun j hj => by
      have : j < n := by omega
      simp [this]) (by rw [hlen]; exact hseg) (shutd_none _)
  rw [hlen, hn] at key
  refine key ?_
  simpa using h
theorem wpAnyZ_one {i F : Nat} {o : Oper} {rest : List Oper} {listed : Array Bool} {a : Act} {w : World} (_hS : S w) (hr : Region.ready md l.toArray listed = [i]) (ho : l.drop i = o :: rest)
    (h : ∀ K : Act → World → Prop, Shut (∀ a w, S w → wpAnyZ P md l.toArray Q S (fun _ => false) F (listed.setIfInBounds i true) a w → K a w) → if Region.wanted o (yielded l.toArray a.tmps) = true then Oper.wp P o a w K Q else K (a.put o.dst undef) w) :
    wpAnyZ P md l.toArray Q S (fun _ => false) (F + 1) listed a w := by
  have h0 : l.toArray[i]? = some o := by
    rw [List.getElem?_toArray]
    have := congrArg (·[0]?) ho
    simpa using this
  have h := h (fun a w => S w ∧ wpAnyZ P md l.toArray Q S (fun _ => false) F (listed.setIfInBounds i true) a w) (fun _ _ h1 h2 => ⟨h1, h2⟩)
  refine ⟨fun h1 => (by rw [hr] at h1; cases h1), fun j hj => ?_⟩
  rw [hr] at hj
  rcases List.mem_cons.1 hj with rfl | hj
  · unfold wpOp
    rw [h0]
    by_cases hwt : Region.wanted o (yielded l.toArray a.tmps) = true
    · rw [if_pos hwt] at h
      simp only [hwt, if_true]
      exact .inl (Oper.wp_mono (fun a w hh => ⟨fun _ => hh.1, hh.2⟩) h)
    · rw [if_neg hwt] at h
      simp only [hwt]
      exact ⟨fun _ => h.1, h.2⟩
  · cases hj
theorem wpAnyZ_end {F : Nat} {listed : Array Bool} {a : Act} {w : World} (hr : Region.ready md l.toArray listed = []) (h : Q .normal a w) : wpAnyZ P md l.toArray Q S (fun _ => false) F listed a w := by
  cases F with
  | zero => exact ⟨hr, h⟩
  | succ F => exact ⟨fun _ => h, by rw [hr]; simp⟩
def shutdB (md : Region.Mode) (ops : Array Oper) (listed : Array Bool) : Bool := (List.range ops.size).all fun j => match ops[j]? with
  | some o => !listed.getD j false || o.after.all fun e => !Region.binds md e || listed.getD e.on false
  | none => true
theorem shutd_of {ops : Array Oper} {listed : Array Bool} (h : shutdB md ops listed = true) : Shutd md ops listed := by
  intro j o ho hl e he hb
  have hj : j < ops.size := by
    rcases Nat.lt_or_ge j ops.size with h' | h'
    · exact h'
    · rw [Array.getElem?_eq_none h'] at ho; cases ho
  have := List.all_eq_true.1 h j (List.mem_range.2 hj)
  rw [ho] at this
  simp only [hl, Bool.not_true, Bool.false_or] at this
  have := (Array.all_eq_true_iff_forall_mem.1 this) e he
  simpa [hb] using this
theorem wpAnyZ_pure {i F : Nat} {o : Oper} {rest : List Oper} {listed : Array Bool} {a : Act} {w : World} (hS : S w) (ho : l.drop i = o :: rest) (hB : (Region.noSelect l.toArray && (Region.ready md l.toArray listed).contains i && Region.free md l.toArray listed i && plainK o) = true) (hsh : shutdB md l.toArray listed = true) (hQ : panicsOk Q)
    (h : wpQuiet P l.toArray S (fun a' => wpAnyZ P md l.toArray Q S (fun _ => false) F (listed.setIfInBounds i true) a' w) [o] a) : wpAnyZ P md l.toArray Q S (fun _ => false) (F + 1) listed a w := by
  simp only [Bool.and_eq_true] at hB
  obtain ⟨⟨⟨hs, hr⟩, hf⟩, hk⟩ := hB
  have h0 : l.toArray[i]? = some o := by
    rw [List.getElem?_toArray]
    have := congrArg (·[0]?) ho
    simpa using this
  simp only [wpQuiet] at h
  by_cases hwt : Region.wanted o (yielded l.toArray a.tmps) = true
  · rw [if_pos hwt] at h
    obtain ⟨v, hv, hK⟩ := h
    exact wpAnyZ_first (f := 0) h0 (Region.noSelect_spec hs) (fun c a w => hQ.at_ c a _ _ w) F listed a w (Region.free_spec h0 hf) (fun j _ hz => by cases hz) (shutd_of hsh) (by simpa using hr) (yieldsIf_of hk hwt hv) hS hK
  · rw [if_neg hwt] at h
    exact wpAnyZ_first (f := 0) h0 (Region.noSelect_spec hs) (fun c a w => hQ.at_ c a _ _ w) F listed a w (Region.free_spec h0 hf) (fun j _ hz => by cases hz) (shutd_of hsh) (by simpa using hr) (.inr ⟨by simpa using hwt, rfl⟩) hS h
end
end Go.Proofs.YtlgaeeedkihfpaaGreatDoor.Uf

/-
  safe.Value.
-/
namespace Go.Proofs.YtlgaeeedkihfpaaGreatDoor.Uf
open Go.RowKit
open Tz (B Atr Pol valueP elemP attrP filterS)

/-- What safe.Value finds in memory: the policy in block P, the attribute in block Q. -/
structure VaS (w V : World) (S : Nat → Prop) (P Q : Nat) (cs : Array Value) (p : Pol) (a : Atr) (A3 A4 A5 : Option Addr) (c3 c4 c5 : Nat) (m : Int) : Prop where
  hP : Blk V P 24 cs
  hQ : Blk V Q 57 #[.string (bs a.name), .string (bs a.val)]
  a3 : cs[3]? = some (.slice A3 p.schemes.length c3)
  a4 : cs[4]? = some (.slice A4 p.classes.length c4)
  a5 : cs[5]? = some (.slice A5 p.props.length c5)
  s3 : StrsAt V S A3 p.schemes.length p.schemes
  s4 : StrsAt V S A4 p.classes.length p.classes
  s5 : StrsAt V S A5 p.props.length p.props
  pol : PolV V S cs p
  hm : V.cell? ⟨0, 0, none⟩ = some (.int .i64 m)
  on : Below w.heap.size w V
  lt : ∀ j, S j → j < w.heap.size
section
variable {w V V' : World} {S : Nat → Prop} {P Q : Nat} {cs : Array Value} {p : Pol} {a : Atr} {A3 A4 A5 : Option Addr} {c3 c4 c5 : Nat} {m : Int}
theorem VaS.below (h : VaS w V S P Q cs p a A3 A4 A5 c3 c4 c5 m) (hb : Below V.heap.size V V') : VaS w V' S P Q cs p a A3 A4 A5 c3 c4 c5 m := by
  have hk := KeepS.below hb (fun j hj => Nat.lt_of_lt_of_le (h.lt j hj) h.on.size)
  exact ⟨h.hP.below hb (heap_lt h.hP), h.hQ.below hb (heap_lt h.hQ), h.a3, h.a4, h.a5, h.s3.keep hk, h.s4.keep hk, h.s5.keep hk, h.pol.keep hb, hm_below h.hm hb, h.on.trans (hb.mono h.on.size), h.lt⟩
theorem VaS.drew (h : VaS w V S P Q cs p a A3 A4 A5 c3 c4 c5 m) : VaS w V.drew S P Q cs p a A3 A4 A5 c3 c4 c5 m := h.below (below_drew (Below.refl _ _))
end
def atrV (a : Atr) : Value := .agg #[.string (bs a.name), .string (bs a.val)]

set_option maxRecDepth 100000 in
set_option maxHeartbeats 8000000 in
theorem value_u {w : World} {S : Nat → Prop} {cs : Array Value} {p : Pol} {m : Int} (e : B) (a : Atr) (h : PolV w S cs p) (hp : PolSmall p) (hm : w.cell? ⟨0, 0, none⟩ = some (.int .i64 m)) (hl : e.length + a.name.length + a.val.length ≤ 5000000) :
    Calls Tryz.prog 69 #[.agg cs, .string (bs e), atrV a] w fun e' w' => e' = .returned (.bool (valueP p e a)) ∧ Below w.heap.size w w' := by
  have hcs := pol_cells h
  obtain ⟨A1, c1, A2, c2, A3, c3, A4, c4, A5, c5, ⟨k0, k1, k2, k3, k4, k5, k6, k7, k8⟩, h1, h2, h3, h4, h5, h6⟩ := h.cells
  have hsz : cs.size = 9 := by
    obtain ⟨_, _, _, _, _, _, _, _, _, _, rfl, _⟩ := h
    rfl
  have hi24 : (Tryz.prog.info? 24).map (·.size) = some cs.size := by rw [hsz]; kernel_rfl
  have hb : Below w.heap.size w ((w.alloc (.cells cs 24)).alloc (.cells #[.string (bs a.name), .string (bs a.val)] 57)) := ((Below.refl _ w).alloc (Nat.le_refl _) _).alloc (by rw [alloc_size]; omega) _
  have hk := KeepS.below hb h6
  have hQ0 : Blk ((w.alloc (.cells cs 24)).alloc (.cells #[.string (bs a.name), .string (bs a.val)] 57)) (w.heap.size + 1) 57 #[.string (bs a.name), .string (bs a.val)] := by
    have := Blk.new (w.alloc (.cells cs 24)) 57 #[.string (bs a.name), .string (bs a.val)]
    rw [alloc_size] at this
    exact this
  have hV : VaS w ((w.alloc (.cells cs 24)).alloc (.cells #[.string (bs a.name), .string (bs a.val)] 57)) S w.heap.size (w.heap.size + 1) cs p a A3 A4 A5 c3 c4 c5 m :=
    ⟨Blk.alloc (Blk.new w 24 cs) _, hQ0, k3, k4, k5, h3.keep hk, h4.keep hk, h5.keep hk, h.keep hb, hm_below hm hb, hb, h6⟩
  clear k0 k1 k2 k3 k4 k5 k6 k7 k8 h1 h2 h3 h4 h5 hb hk hQ0 hsz
  unfold atrV
  go_enter Tryz.func69, Tryz.ntmps69
  apply wp_seq_k
  intro K hK
  have HK := Lib.hid hK
  clear hK
  go_wp2_with fail
  refine HK.out _ _ ?_
  clear HK K hcs
  generalize ((w.alloc (.cells cs 24)).alloc (.cells #[.string (bs a.name), .string (bs a.val)] 57)) = V at hV ⊢
  generalize w.heap.size + 1 = Q at hV ⊢
  obtain ⟨P, hPe⟩ : ∃ x, x = w.heap.size := ⟨_, rfl⟩
  rw [← hPe] at hV
  rw [show (Value.pointer (some ⟨w.heap.size, 0, none⟩)) = Value.pointer (some ⟨P, 0, none⟩) by rw [hPe]]
  have HPe := Lib.hid hPe
  clear hPe
  have hP1 : V.heap[P]? = some (.cells cs 24 (0, 0)) := hV.hP
  have hP0 : P < V.heap.size := heap_lt hP1
  go_wp2_with (first
    | (with_reducible refine wpList_load_row rfl 24 (.tmp 3) rfl P rfl 24 cs (0, 0) _ hP1 Tryz.underlying24 rfl hi24 ?_))
  refine (elem_u e hV.pol hp).mono ?_
  rintro e1 V1 ⟨rfl, hb1⟩
  have hV1 := hV.below hb1
  clear hV hb1 hP1 hP0
  cases hel : elemP p e with
  | false =>
    have HR := Lib.hid (show valueP p e a = false by unfold valueP; rw [hel]; rfl)
    clear hel
    have hon := hV1.on
    clear hV1
    go_wp2_with fail
    go_ret
    exact ⟨by rw [HR.out]; rfl, hon⟩
  | true =>
  have HE := Lib.hid hel
  clear hel
  have q0 : V1.cell? ⟨Q, 0, none⟩ = some (.string (bs a.name)) := Blk.cell hV1.hQ 0
  have q1 : V1.cell? ⟨Q, 1, none⟩ = some (.string (bs a.val)) := Blk.cell hV1.hQ 1
  obtain ⟨nm, vl⟩ := a
  simp only at q0 q1 hl
  by_cases hrel : nm = [114, 101, 108]
  · subst hrel
    have HR := Lib.hid (show valueP p e ⟨[114, 101, 108], vl⟩ = (e == [97] && vl == Tz.forced) by unfold valueP; rw [HE.out]; rfl)
    have HV := Lib.hid hV1
    clear hV1
    by_cases he : e = [97]
    · subst he
      by_cases hf : vl = Tz.forced
      · subst hf
        go_wp2_with fail
        go_ret
        exact ⟨by rw [HR.out]; rfl, HV.out.on⟩
      · have hf1 : (vl == [110, 111, 102, 111, 108, 108, 111, 119, 32, 110, 111, 111, 112, 101, 110, 101, 114]) = false := by simpa [Tz.forced] using hf
        go_wp2_with fail
        go_ret
        exact ⟨by rw [HR.out, show (vl == Tz.forced) = false from hf1]; rfl, HV.out.on⟩
    · have he1 : (e == [97]) = false := by simpa using he
      go_wp2_with fail
      go_ret
      exact ⟨by rw [HR.out, he1]; rfl, HV.out.on⟩
  have g1 : (nm == [114, 101, 108]) = false := by simpa using hrel
  by_cases hsty : nm = [115, 116, 121, 108, 101]
  · subst hsty
    have HR := Lib.hid (show valueP p e ⟨[115, 116, 121, 108, 101], vl⟩ = (!vl.isEmpty && filterS vl p.props == vl) by unfold valueP; rw [HE.out]; rfl)
    have q5 : V1.cell? ⟨P, 5, none⟩ = some (.slice A5 p.props.length c5) := (Blk.cell hV1.hP 5).trans hV1.a5
    have hf := fun (V : World) (hV : VaS w V S P Q cs p ⟨[115, 116, 121, 108, 101], vl⟩ A3 A4 A5 c3 c4 c5 m) => filter_u (w := V) (c := c5) vl hV.s5 (fun j hj => Nat.lt_of_lt_of_le (hV.lt j hj) hV.on.size) (by have := hp.2.2.2.2.1; omega) (by omega) hV.hm
    have HF := Lib.hid hf
    clear hf
    by_cases hv : vl = []
    · subst hv
      have e0 : (([] : B) == ([] : B)) = true := rfl
      go_wp2_with fail
      obtain ⟨ι, hne, F, hF, hcov⟩ := class_of (fun Y => Y.cell? ⟨Q, 1, none⟩ = some (.string (bs [])) ∧ Y.cell? ⟨P, 5, none⟩ = some (.slice A5 p.props.length c5)) V1.drew ⟨q1, q5⟩
      have r1 : ∀ i, (F i).cell? ⟨Q, 1, none⟩ = some (.string (bs [])) := fun i => (hF i).1
      have r5 : ∀ i, (F i).cell? ⟨P, 5, none⟩ = some (.slice A5 p.props.length c5) := fun i => (hF i).2
      have hS0 := hcov V1.drew ⟨q1, q5⟩
      have hVd := hV1.drew
      refine wp_region_every 8 6 (S := fun X => ∃ i, X = F i) (by kernel_rfl) (by kernel_rfl) (fun _ _ _ _ _ h => h) hS0 ?_
      clear hV1 q0 q1 q5
      generalize V1.drew = Vd at hVd hS0 ⊢
      dsimp only [List.take, List.drop]
      repeat (go_big_quiet_step (fail))
      refine wpQuiet_nil ?_
      refine wpAnyZ_pure (i := 9) (F := 5) hS0 rfl (by kernel_rfl) (by kernel_rfl) (fun _ _ _ _ _ h => h) ?_
      go_big_quiet_step (fail)
      refine wpQuiet_nil ?_
      refine wpAnyZ_pure (i := 10) (F := 4) hS0 rfl (by kernel_rfl) (by kernel_rfl) (fun _ _ _ _ _ h => h) ?_
      go_big_quiet_step (fail)
      refine wpQuiet_nil ?_
      have HV3 := Lib.hid hVd
      refine wpAnyZ_one (i := 8) (F := 3) hS0 (by kernel_rfl) rfl (fun K hK => ?_)
      go_simp
      refine hK.out _ _ hS0 ?_
      clear hK K
      try simp only [Act.put, List.setIfInBounds_toArray, List.set_cons_zero, List.set_cons_succ]
      refine wpAnyZ_one (i := 11) (F := 2) hS0 (by kernel_rfl) rfl (fun K hK => ?_)
      go_simp
      refine hK.out _ _ hS0 ?_
      clear hK K
      try simp only [Act.put, List.setIfInBounds_toArray, List.set_cons_zero, List.set_cons_succ]
      refine wpAnyZ_one (i := 12) (F := 1) hS0 (by kernel_rfl) rfl (fun K hK => ?_)
      go_simp
      refine hK.out _ _ hS0 ?_
      clear hK K
      try simp only [Act.put, List.setIfInBounds_toArray, List.set_cons_zero, List.set_cons_succ]
      refine wpAnyZ_one (i := 13) (F := 0) hS0 (by kernel_rfl) rfl (fun K hK => ?_)
      go_simp
      refine hK.out _ _ hS0 ?_
      clear hK K
      try simp only [Act.put, List.setIfInBounds_toArray, List.set_cons_zero, List.set_cons_succ]
      refine wpAnyZ_end (by kernel_rfl) ?_
      go_wp2_with fail
      go_ret
      exact ⟨by rw [HR.out]; rfl, HV3.out.on⟩
    · have e0 : (vl == ([] : B)) = false := by simpa using hv
      have e1 : vl.isEmpty = false := by simpa using hv
      go_wp2_with fail
      obtain ⟨ι, hne, F, hF, hcov⟩ := class_of (fun Y => Y.cell? ⟨Q, 1, none⟩ = some (.string (bs vl)) ∧ Y.cell? ⟨P, 5, none⟩ = some (.slice A5 p.props.length c5)) V1.drew ⟨q1, q5⟩
      have r1 : ∀ i, (F i).cell? ⟨Q, 1, none⟩ = some (.string (bs vl)) := fun i => (hF i).1
      have r5 : ∀ i, (F i).cell? ⟨P, 5, none⟩ = some (.slice A5 p.props.length c5) := fun i => (hF i).2
      have hS0 := hcov V1.drew ⟨q1, q5⟩
      have hVd := hV1.drew
      refine wp_region_every 8 6 (S := fun X => ∃ i, X = F i) (by kernel_rfl) (by kernel_rfl) (fun _ _ _ _ _ h => h) hS0 ?_
      clear hV1 q0 q1 q5
      generalize V1.drew = Vd at hVd hS0 ⊢
      dsimp only [List.take, List.drop]
      repeat (go_big_quiet_step (fail))
      refine wpQuiet_nil ?_
      refine wpAnyZ_pure (i := 9) (F := 5) hS0 rfl (by kernel_rfl) (by kernel_rfl) (fun _ _ _ _ _ h => h) ?_
      go_big_quiet_step (fail)
      refine wpQuiet_nil ?_
      refine wpAnyZ_pure (i := 10) (F := 4) hS0 rfl (by kernel_rfl) (by kernel_rfl) (fun _ _ _ _ _ h => h) ?_
      go_big_quiet_step (fail)
      refine wpQuiet_nil ?_
      refine wpAnyZ_one (i := 8) (F := 3) hS0 (by kernel_rfl) rfl (fun K hK => ?_)
      go_simp
      refine (HF.out Vd hVd).mono ?_
      rintro e3 V3 ⟨rfl, hb3⟩
      have hV3 := hVd.below hb3
      have hS3 := hcov V3 ⟨Blk.cell hV3.hQ 1, (Blk.cell hV3.hP 5).trans hV3.a5⟩
      refine hK.out _ _ hS3 ?_
      clear hK K
      try simp only [Act.put, List.setIfInBounds_toArray, List.set_cons_zero, List.set_cons_succ]
      generalize hfz : filterS vl p.props = fz at HR
      clear hfz
      have HV3 := Lib.hid hV3
      clear hV3 hVd
      by_cases hq : fz = vl
      · subst hq
        refine wpAnyZ_one (i := 11) (F := 2) hS3 (by kernel_rfl) rfl (fun K hK => ?_)
        go_simp
        refine hK.out _ _ hS3 ?_
        clear hK K
        try simp only [Act.put, List.setIfInBounds_toArray, List.set_cons_zero, List.set_cons_succ]
        refine wpAnyZ_one (i := 12) (F := 1) hS3 (by kernel_rfl) rfl (fun K hK => ?_)
        go_simp
        refine hK.out _ _ hS3 ?_
        clear hK K
        try simp only [Act.put, List.setIfInBounds_toArray, List.set_cons_zero, List.set_cons_succ]
        refine wpAnyZ_one (i := 13) (F := 0) hS3 (by kernel_rfl) rfl (fun K hK => ?_)
        go_simp
        refine hK.out _ _ hS3 ?_
        clear hK K
        try simp only [Act.put, List.setIfInBounds_toArray, List.set_cons_zero, List.set_cons_succ]
        refine wpAnyZ_end (by kernel_rfl) ?_
        go_wp2_with fail
        go_ret
        exact ⟨by rw [HR.out, e1]; simp, HV3.out.on⟩
      · have g9 : (fz == vl) = false := by simpa using hq
        refine wpAnyZ_one (i := 11) (F := 2) hS3 (by kernel_rfl) rfl (fun K hK => ?_)
        go_simp
        refine hK.out _ _ hS3 ?_
        clear hK K
        try simp only [Act.put, List.setIfInBounds_toArray, List.set_cons_zero, List.set_cons_succ]
        refine wpAnyZ_one (i := 12) (F := 1) hS3 (by kernel_rfl) rfl (fun K hK => ?_)
        go_simp
        refine hK.out _ _ hS3 ?_
        clear hK K
        try simp only [Act.put, List.setIfInBounds_toArray, List.set_cons_zero, List.set_cons_succ]
        refine wpAnyZ_one (i := 13) (F := 0) hS3 (by kernel_rfl) rfl (fun K hK => ?_)
        go_simp
        refine hK.out _ _ hS3 ?_
        clear hK K
        try simp only [Act.put, List.setIfInBounds_toArray, List.set_cons_zero, List.set_cons_succ]
        refine wpAnyZ_end (by kernel_rfl) ?_
        go_wp2_with fail
        go_ret
        exact ⟨by rw [HR.out, e1, g9]; rfl, HV3.out.on⟩
  have g2 : (nm == [115, 116, 121, 108, 101]) = false := by simpa using hsty
  by_cases hcls : nm = [99, 108, 97, 115, 115]
  · subst hcls
    have HR := Lib.hid (show valueP p e ⟨[99, 108, 97, 115, 115], vl⟩ = (attrP p e [99, 108, 97, 115, 115] && !vl.isEmpty && Tz.classesOk vl p.classes) by unfold valueP; rw [HE.out]; rfl)
    have hP1 : V1.heap[P]? = some (.cells cs 24 (0, 0)) := hV1.hP
    go_wp2_with (first
      | (with_reducible refine wpList_load_row rfl 24 (.tmp 3) rfl P rfl 24 cs (0, 0) _ hP1 Tryz.underlying24 rfl hi24 ?_))
    refine (attr_u e [99, 108, 97, 115, 115] hV1.pol hp (by simp at hl ⊢; omega)).mono ?_
    rintro e2 V2 ⟨rfl, hb2⟩
    have hV2 := hV1.below hb2
    clear hV1 hb2 hP1 q0 q1
    have q1 : V2.cell? ⟨Q, 1, none⟩ = some (.string (bs vl)) := Blk.cell hV2.hQ 1
    have q4 : V2.cell? ⟨P, 4, none⟩ = some (.slice A4 p.classes.length c4) := (Blk.cell hV2.hP 4).trans hV2.a4
    have HV := Lib.hid hV2
    clear hV2
    generalize attrP p e [99, 108, 97, 115, 115] = z at HR
    cases z with
    | false =>
      go_wp2_with fail
      go_ret
      exact ⟨by rw [HR.out]; rfl, HV.out.on⟩
    | true =>
      by_cases hv : vl = []
      · subst hv
        have e0 : (([] : B) == ([] : B)) = true := rfl
        go_wp2_with fail
        go_ret
        exact ⟨by rw [HR.out]; rfl, HV.out.on⟩
      · have e0 : (vl == ([] : B)) = false := by simpa using hv
        have e1 : vl.isEmpty = false := by simpa using hv
        go_wp2_with fail
        refine (classes_u vl HV.out.s4 (fun j hj => Nat.lt_of_lt_of_le (HV.out.lt j hj) HV.out.on.size) (by have := hp.2.2.2.1.1; omega) (by omega) HV.out.hm).mono ?_
        generalize Tz.classesOk vl p.classes = z2 at HR
        rintro e3 V3 ⟨rfl, hb3⟩
        go_wp2_with fail
        go_ret
        exact ⟨by rw [HR.out, e1]; rfl, (HV.out.below hb3).on⟩
  have g3 : (nm == [99, 108, 97, 115, 115]) = false := by simpa using hcls
  have HR := Lib.hid (show valueP p e ⟨nm, vl⟩ = (attrP p e nm && (!Tz.places.contains nm || Tz.allowedU vl p.schemes)) by
    unfold valueP
    rw [HE.out]
    show (true && if nm = [114, 101, 108] then _ else if nm = [115, 116, 121, 108, 101] then _ else if nm = [99, 108, 97, 115, 115] then _ else _) = _
    rw [if_neg hrel, if_neg hsty, if_neg hcls]
    rfl)
  have hP1 : V1.heap[P]? = some (.cells cs 24 (0, 0)) := hV1.hP
  clear hrel hsty hcls
  go_wp2_with (first
    | (with_reducible refine wpList_load_row rfl 24 (.tmp 3) rfl P rfl 24 cs (0, 0) _ hP1 Tryz.underlying24 rfl hi24 ?_))
  refine (attr_u e nm hV1.pol hp (by omega)).mono ?_
  rintro e2 V2 ⟨rfl, hb2⟩
  have hV2 := hV1.below hb2
  clear hV1 hb2 hP1 q0 q1
  have q0 : V2.cell? ⟨Q, 0, none⟩ = some (.string (bs nm)) := Blk.cell hV2.hQ 0
  have HV := Lib.hid hV2
  clear hV2
  generalize attrP p e nm = z at HR
  cases z with
  | false =>
    go_wp2_with fail
    go_ret
    exact ⟨by rw [HR.out]; rfl, HV.out.on⟩
  | true =>
    go_wp2_with fail
    refine (places_u nm).mono ?_
    generalize Tz.places.contains nm = z2 at HR
    rintro e3 V3 ⟨rfl, hb3⟩
    have HV3 := Lib.hid (HV.out.below hb3)
    clear q0 hb3 HV
    cases z2 with
    | false =>
      go_wp2_with fail
      go_ret
      exact ⟨by rw [HR.out]; rfl, HV3.out.on⟩
    | true =>
      have q1 : V3.cell? ⟨Q, 1, none⟩ = some (.string (bs vl)) := Blk.cell HV3.out.hQ 1
      have q3 : V3.cell? ⟨P, 3, none⟩ = some (.slice A3 p.schemes.length c3) := (Blk.cell HV3.out.hP 3).trans HV3.out.a3
      go_wp2_with fail
      refine (allowed_u vl HV3.out.s3 (fun j hj => Nat.lt_of_lt_of_le (HV3.out.lt j hj) HV3.out.on.size) (by have := hp.2.2.1.1; omega) (by omega)).mono ?_
      generalize Tz.allowedU vl p.schemes = z3 at HR
      rintro e4 V4 ⟨rfl, hb4⟩
      go_wp2_with fail
      go_ret
      exact ⟨by rw [HR.out]; rfl, (HV3.out.below hb4).on⟩
end Go.Proofs.YtlgaeeedkihfpaaGreatDoor.Uf

/-
  san.classes.
-/
namespace Go.Proofs.YtlgaeeedkihfpaaGreatDoor.Uf
open Go.RowKit Go.WideMaps Go.Maps
open Tz (B splitL firstsG classesS joinL)

theorem firsts_len (l : List B) : ∀ (r out : List B), (firstsG l r out).length ≤ out.length + r.length
  | [], out => by simp [firstsG]
  | c :: r, out => by
    unfold firstsG
    split
    · have := firsts_len l r (out ++ [c]); simp at this ⊢; omega
    · have := firsts_len l r out; simp; omega
theorem firsts_mem (l : List B) : ∀ (r out : List B) (x : B), x ∈ firstsG l r out → x ∈ out ∨ x ∈ r
  | [], out, x, h => .inl (by simpa [firstsG] using h)
  | c :: r, out, x, h => by
    unfold firstsG at h
    split at h
    · rcases firsts_mem l r _ x h with h | h
      · rcases List.mem_append.1 h with h | h
        · exact .inl h
        · exact .inr (by simp at h; simp [h])
      · exact .inr (List.mem_cons_of_mem _ h)
    · rcases firsts_mem l r _ x h with h | h
      · exact .inl h
      · exact .inr (List.mem_cons_of_mem _ h)
theorem firsts_step (l : List B) (c : B) (r out : List B) : firstsG l (c :: r) out = if (!out.contains c && l.contains c) = true then firstsG l r (out ++ [c]) else firstsG l r out := rfl

set_option maxRecDepth 100000 in
set_option maxHeartbeats 4000000 in
theorem sclasses_u {w : World} {S : Nat → Prop} {A : Option Addr} {n c : Nat} {cl : List B} {m : Int} (v : B) (h : StrsAt w S A n cl) (hS : ∀ j, S j → j < w.heap.size) (hl : cl.length ≤ 60000000) (hv : v.length ≤ 5000000) (hm : w.cell? ⟨0, 0, none⟩ = some (.int .i64 m)) :
    Calls Tryz.prog 115 #[.string (bs v), .slice A n c] w fun e w' => e = .returned (.string (bs (classesS v cl))) ∧ Below w.heap.size w w' := by
  have hmm := @run_makeMap Tryz.prog
  have h0 : (0 : Nat) < w.heap.size := World.block_lt_of_cell? w ⟨0, 0, none⟩ hm
  have hm1 : (w.alloc (.map #[] 0)).cell? ⟨0, 0, none⟩ = some (.int .i64 m) := (World.cell?_alloc_lt w _ ⟨0, 0, none⟩ h0).trans hm
  have hll := split_len 32 v
  have hlm := split_mem 32 v
  have HC := Lib.hid (show classesS v cl = joinL [32] (firstsG cl (splitL 32 v) []) from rfl)
  have HFL := Lib.hid (firsts_len cl (splitL 32 v) [])
  have HFM := Lib.hid (firsts_mem cl (splitL 32 v) [])
  obtain ⟨i0, hi, hz0, hz1, hzb⟩ := info_parts info9
  go_enter Tryz.func115, Tryz.ntmps115
  go_wp2_with fail
  refine (split_u v 32 (by omega) hm1).mono ?_
  generalize splitL 32 v = l at hll hlm HC HFL HFM ⊢
  rintro e1 w1 ⟨rfl, hw1⟩
  simp only [alloc_size] at hw1 ⊢
  have hB1 : Below w.heap.size w w1 := by rw [hw1]; exact ((Below.refl _ w).alloc (Nat.le_refl _) _).alloc (by rw [alloc_size]; omega) _
  have hR1 : Blk w1 (w.heap.size + 1) 9 (strCells l).toArray := by
    rw [hw1]
    have := Blk.new (w.alloc (.map #[] 0)) 9 (strCells l).toArray
    rw [alloc_size] at this
    exact this
  have hS1 : Seen w1 w.heap.size 0 [] := by
    rw [hw1]
    refine seen_kept (seen_new w) ?_
    exact ((Below.refl (w.heap.size + 1) (w.alloc (.map #[] 0))).alloc (by rw [alloc_size]; omega) _).block _ (by omega)
  have h1 := h.keep (KeepS.below hB1 hS)
  have hbase : w.heap.size + 1 < w1.heap.size := heap_lt hR1
  clear hw1 hm1 hmm h
  go_wp2_with fail
  go_loopw [13, 6] (fun vi vo wr => ∃ (k : Nat) (out : List B), vi = .int .i64 k ∧ k ≤ l.length ∧ Seen wr w.heap.size out.length out ∧ wr.ownsRow w1.heap.size 9 1 vo out.length (strCells out) ∧ Blk wr (w.heap.size + 1) 9 (strCells l).toArray ∧ StrsAt wr S A n cl ∧ Below w.heap.size w wr ∧ w1.heap.size ≤ wr.heap.size ∧ out.length ≤ k ∧ Hid (firstsG cl (l.drop k) out = firstsG cl l [])) (fun vi _ _ => l.length - kOf vi)
  case atStart => exact ⟨0, [], rfl, Nat.zero_le _, hS1, World.ownsRow_nil _ _ _ _, hR1, h1, hB1, Nat.le_refl _, Nat.le_refl _, Lib.hid rfl⟩
  case round =>
    obtain ⟨k, out, rfl, hk, hsn, hown, hR, hst, hb, hsz, hok, Hk⟩ := hrel
    by_cases hlt : k < l.length
    · have t0 : (k : Int) < (l.length : Int) := by omega
      obtain ⟨x, hx⟩ : ∃ x, x = l[k] := ⟨_, rfl⟩
      have hc : wr.cell? ⟨w.heap.size + 1, k, none⟩ = some (.string (bs x)) := by
        have := Blk.cell hR k
        rw [this, List.getElem?_toArray, List.getElem?_eq_getElem (by simpa using hlt), hx]
        simp [strCells]
      have hxl : x.length ≤ v.length := hlm x (by rw [hx]; exact List.getElem_mem _)
      have hdc : l.drop k = x :: l.drop (k + 1) := hx ▸ List.drop_eq_getElem_cons hlt
      have hstep := firsts_step cl x (l.drop (k + 1)) out
      rw [← hdc, Hk.out] at hstep
      have Hst := Lib.hid hstep
      clear hx hdc hstep
      have hi1 : IntKind.i64.wrap ((k : Int) + 1) = ((k + 1 : Nat) : Int) := by rw [IntKind.wrap_i64]; omega
      have hlook := seen_look (x := x) hsn (by omega)
      cases hsc : out.contains x with
      | true =>
        rw [hsc] at hlook Hst
        have Hst2 := Lib.hid (show firstsG cl (l.drop (k + 1)) out = firstsG cl l [] by rw [Hst.out]; rfl)
        clear hsc
        go_wp2_with fail
        go_roundw
        case rel => exact ⟨k + 1, out, rfl, hlt, hsn, hown, hR, hst, hb, hsz, by omega, Hst2⟩
        case measure =>
          show l.length - kOf (.int .i64 ((k + 1 : Nat) : Int)) < l.length - kOf (.int .i64 (k : Int))
          simp only [kOf, Int.toNat_natCast]
          omega
      | false =>
        rw [hsc] at hlook Hst
        clear hsc
        go_wp2_with fail
        refine (contains_u x hst hl).mono ?_
        generalize cl.contains x = z at Hst
        rintro e2 w2 ⟨rfl, hw2⟩
        rw [hw2]
        clear hw2 w2
        cases z with
        | false =>
          have Hst2 := Lib.hid (show firstsG cl (l.drop (k + 1)) out = firstsG cl l [] by rw [Hst.out]; rfl)
          go_wp2_with fail
          go_roundw
          case rel => exact ⟨k + 1, out, rfl, hlt, hsn, hown, hR, hst, hb, hsz, by omega, Hst2⟩
          case measure =>
            show l.length - kOf (.int .i64 ((k + 1 : Nat) : Int)) < l.length - kOf (.int .i64 (k : Int))
            simp only [kOf, Int.toNat_natCast]
            omega
        | true =>
          obtain ⟨w3, hput, hs3, hg3⟩ := seen_put hsn (x := x) (by omega) (by omega)
          have hne : ∀ {j : Nat} {t : TypeId} {cs : Array Value}, Blk wr j t cs → some j ≠ some w.heap.size := fun hx e => by injection e with e; exact seen_ne hsn hx e.symm
          have hR3 := hR.grown hg3 (hne hR)
          have hst3 := hst.keep (w' := w3) (fun j hj => hg3.block j (Nat.lt_of_lt_of_le (hS j hj) hb.size) (fun e => by injection e with e; have := hS j hj; omega))
          have hb3 : Below w.heap.size w w3 := hb.grown hg3 hb.size (fun k hk => by injection hk with hk; omega)
          have hown3 := own_keepT hown (w' := w3) (fun g cur hx => (hg3.block g (heap_lt hx) (hne hx)).trans hx)
          have hsz3 : w1.heap.size ≤ w3.heap.size := Nat.le_trans hsz hg3.size
          have own2 : (w3.alloc (.cells #[.string (bs x)] 9)).ownsRow w1.heap.size 9 1 u6 out.length (strCells out) := own_keepT hown3 (KeepT.below ((Below.refl _ _).alloc (Nat.le_refl _) _))
          have Hst2 := Lib.hid (show firstsG cl (l.drop (k + 1)) (out ++ [x]) = firstsG cl l [] by rw [Hst.out]; rfl)
          clear hg3 hne hlook hown hown3 hsn hR hst hb
          go_wp2_with (first
            | (at_builtin; refine wpList_append_any _ rfl (.tmp 28) (.tmp 30) 22 rfl w1.heap.size 9 i0 _ 1 16 Tryz.underlying22 hi hz0 hz1 hzb rfl (by omega) u6 out.length (strCells out) rfl own2 _ _ 1 1 [.string (bs x)] rfl (reads_row w3 9 [.string (bs x)] 1 1 rfl) (by simp [Value.oneCell']) (by unfold maxLen; omega) (by omega) (by rw [alloc_size]; omega) ?_; intro v4 w4 hown4 hg4 hat4))
          have hgv : ∀ j, j < w1.heap.size → u6.ownBlock ≠ some j := fun j hj e => by have := (own2.lt j e).1; omega
          have hb4 : Below w1.heap.size w3 w4 := (((Below.refl _ w3).mono hsz3).alloc hsz3 _).grown hg4 (by rw [alloc_size]; omega) (fun k hk => by
            rcases Nat.lt_or_ge k w1.heap.size with h | h
            · exact absurd hk (hgv k h)
            · exact h)
          go_roundw
          case rel =>
            refine ⟨k + 1, out ++ [x], rfl, hlt, ?_, ?_, hR3.below hb4 hbase, hst3.keep (fun j hj => hb4.block j (by have := hS j hj; omega)), hb3.trans (hb4.mono (by omega)), Nat.le_trans hsz3 hb4.size, by simp; omega, Hst2⟩
            · rw [List.length_append, List.length_singleton]
              exact seen_kept hs3 (hb4.block _ (by omega))
            · rw [List.length_append, List.length_singleton, show strCells (out ++ [x]) = strCells out ++ [.string (bs x)] by simp [strCells]]
              exact hown4
          case measure =>
            show l.length - kOf (.int .i64 ((k + 1 : Nat) : Int)) < l.length - kOf (.int .i64 (k : Int))
            simp only [kOf, Int.toNat_natCast]
            omega
    · have t0 : ¬ ((k : Int) < (l.length : Int)) := by omega
      have Hst := Lib.hid (show out = firstsG cl l [] by rw [← Hk.out, List.drop_of_length_le (by omega)]; rfl)
      obtain ⟨A9, c9, rfl⟩ := own_slice hown
      have hstr := strs_of_own hown
      have hcap := (own_le hown).2
      have hlt9 : ∀ k, (Value.slice A9 out.length c9).ownBlock = some k → k < wr.heap.size := fun k hk => (hown.lt k hk).2
      have hjl := joinL_len [32] v.length out (fun x hx => by
        rw [Hst.out] at hx
        rcases HFM.out x hx with h | h
        · simp at h
        · exact hlm x h)
      have hjb : (joinL [32] out).length ≤ 140737488355328 := by
        have h1 : out.length * (v.length + [32].length) ≤ 5000001 * 5000001 := Nat.mul_le_mul (by omega) (by simp; omega)
        have h2 : 5000001 * 5000001 ≤ 140737488355328 := by decide
        omega
      clear hown hjl
      go_wp2_with fail
      refine (join_u [32] hstr hlt9 (by omega) hcap hjb).mono ?_
      rintro e5 w5 ⟨rfl, hb5⟩
      go_wp2_with fail
      go_ret
      exact ⟨by rw [HC.out, ← Hst.out]; rfl, hb.trans (hb5.mono hb.size)⟩
end Go.Proofs.YtlgaeeedkihfpaaGreatDoor.Uf

/-
  How long filtered styles and classes are (plain).
-/
namespace Go.Proofs.YtlgaeeedkihfpaaGreatDoor.Uf
open Go.RowKit
open Tz (B splitL cutL joinL lastsL pairsL filterS firstsG classesS)

theorem joinL_sum (sep : B) : ∀ l : List B, (joinL sep l).length ≤ (l.map List.length).sum + l.length * sep.length
  | [] => by simp [joinL]
  | [x] => by simp [joinL]
  | x :: y :: r => by
    have h := joinL_sum sep (y :: r)
    have e : joinL sep (x :: y :: r) = x ++ sep ++ joinL sep (y :: r) := rfl
    rw [e, List.length_append, List.length_append, List.map_cons, List.sum_cons, List.length_cons, Nat.succ_mul]
    omega
theorem split_sum (c : UInt8) : ∀ s : B, ((splitL c s).map List.length).sum ≤ s.length
  | [] => by simp [splitL]
  | x :: s => by
    have ih := split_sum c s
    unfold splitL
    split
    · simp; omega
    · cases h : splitL c s with
      | nil => simp
      | cons a t => rw [h] at ih; simp at ih ⊢; omega
def pW (x : B × B) : Nat := x.1.length + x.2.length
theorem pairsG_sum : ∀ l : List B, ((pairsG l).map pW).sum ≤ (l.map List.length).sum
  | [] => by simp [pairsG]
  | x :: l => by
    have ih := pairsG_sum l
    have e : pairsG (x :: l) = (match cutL 58 x with | some (a, b) => [(Tz.bareL a, Tz.bareL b)] | none => []) ++ pairsG l := by
      rw [show x :: l = [x] ++ l from rfl, pairsG_app]
      congr 1
      unfold pairsG
      cases h : cutL 58 x <;> simp [h]
    rw [e]
    cases h : cutL 58 x with
    | none => simp; omega
    | some ab =>
      obtain ⟨a, b⟩ := ab
      have h1 := cut_len h
      have h2 := bare_len a
      have h3 := bare_len b
      simp [pW]
      omega
theorem lasts_sum : ∀ l : List (B × B), ((lastsL l).map pW).sum ≤ (l.map pW).sum
  | [] => by simp [lastsL]
  | x :: r => by
    have ih := lasts_sum r
    unfold lastsL
    split <;> simp <;> omega
theorem filter_sum (p : B × B → Bool) : ∀ l : List (B × B), ((l.filter p).map pW).sum ≤ (l.map pW).sum
  | [] => by simp
  | x :: r => by
    have ih := filter_sum p r
    rw [List.filter_cons]
    split <;> simp <;> omega
theorem line_sum : ∀ l : List (B × B), ((l.map fun x => x.1 ++ [58, 32] ++ x.2).map List.length).sum = (l.map pW).sum + 2 * l.length
  | [] => by simp
  | x :: r => by
    have ih := line_sum r
    simp only [List.map_cons, List.sum_cons, List.length_cons, ih]
    simp [pW]
    omega
theorem filterS_len (s : B) (props : List B) : (filterS s props).length ≤ 5 * s.length + 4 := by
  unfold filterS
  refine Nat.le_trans (joinL_sum _ _) ?_
  rw [line_sum, List.length_map]
  have h1 := lasts_sum ((pairsL s).filter fun x => props.contains x.1 && Tz.styleV x.2)
  have h2 := filter_sum (fun x => props.contains x.1 && Tz.styleV x.2) (pairsL s)
  have h3 : ((pairsL s).map pW).sum ≤ s.length := Nat.le_trans (pairsG_sum _) (split_sum 59 s)
  have h4 := lasts_len ((pairsL s).filter fun x => props.contains x.1 && Tz.styleV x.2)
  have h5 := List.length_filter_le (fun x => props.contains x.1 && Tz.styleV x.2) (pairsL s)
  have h6 := pairs_len s
  have h7 : ([59, 32] : B).length = 2 := rfl
  rw [h7]
  omega
theorem firsts_sum (l : List B) : ∀ r out : List B, ((firstsG l r out).map List.length).sum ≤ (out.map List.length).sum + (r.map List.length).sum
  | [], out => by simp [firstsG]
  | c :: r, out => by
    unfold firstsG
    split
    · have := firsts_sum l r (out ++ [c]); simp at this ⊢; omega
    · have := firsts_sum l r out; simp; omega
theorem classesS_len (v : B) (l : List B) : (classesS v l).length ≤ 2 * v.length + 1 := by
  unfold classesS
  refine Nat.le_trans (joinL_sum _ _) ?_
  have h1 := firsts_sum l (splitL 32 v) []
  have h2 := split_sum 32 v
  have h3 := firsts_len l (splitL 32 v) []
  have h4 := split_len 32 v
  have h7 : ([32] : B).length = 1 := rfl
  rw [h7]
  simp only [List.map_nil, List.sum_nil, List.length_nil] at h1 h3
  omega
end Go.Proofs.YtlgaeeedkihfpaaGreatDoor.Uf
