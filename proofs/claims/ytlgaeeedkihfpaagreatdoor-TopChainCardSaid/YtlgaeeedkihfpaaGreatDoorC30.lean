/-
  Texts of the proof of Chain, one behind the other: SanB, SanC.
-/
import Derived.Test.YtlgaeeedkihfpaaGreatDoorC29
/-
  san's cleaner: attr.
-/
namespace Go.Proofs.YtlgaeeedkihfpaaGreatDoor.Uf
open Go.RowKit
open Tz (B Atr Pol attrS)

theorem cattr_ret {tmps : Array Value} {w1 : World} {g : Nat} {cs : Array Value} (hp : tmps.getD 6 undef = .pointer (some ⟨g, 0, none⟩)) (hg : w1.heap[g]? = some (.cells cs 57 (0, 0))) (hi : (Tryz.prog.info? 57).map (·.size) = some cs.size) :
    (results Tryz.f100 tmps).run Tryz.prog w1 = .ok (.tuple #[.agg cs, tmps.getD 7 undef]) w1 := by
  rw [results_cell_tmp (show Tryz.f100.results = #[.cell 6 57, .tmp 7] from rfl), hp]
  simp [asAddr, run_loadVar_row w1 g 57 57 cs (0, 0) _ hg Tryz.underlying57 rfl hi]
set_option maxRecDepth 100000 in
set_option maxHeartbeats 8000000 in
theorem cattr_u {w : World} {S : Nat → Prop} {cs : Array Value} {p : Pol} {m : Int} (e : B) (a : Atr) (h : PolV w S cs p) (hp : PolSmall p) (hm : w.cell? ⟨0, 0, none⟩ = some (.int .i64 m)) (hl : e.length + a.name.length + a.val.length ≤ 900000) :
    Calls Tryz.prog 100 #[.agg cs, .string (bs e), atrV a] w fun e' w' => ∃ b ok, e' = .returned (.tuple #[atrV b, .bool ok]) ∧ attrS p e a = (if ok = true then some b else none) ∧ Below w.heap.size w w' := by
  have hcs := pol_cells h
  obtain ⟨A1, c1, A2, c2, A3, c3, A4, c4, A5, c5, ⟨k0, k1, k2, k3, k4, k5, k6, k7, k8⟩, h1, h2, h3, h4, h5, h6⟩ := h.cells
  have hsz : cs.size = 9 := by
    obtain ⟨_, _, _, _, _, _, _, _, _, _, rfl, _⟩ := h
    rfl
  have hi24 : (Tryz.prog.info? 24).map (·.size) = some cs.toList.length := by simp only [Array.length_toList]; rw [hsz]; kernel_rfl
  have hb : Below w.heap.size w (((w.alloc (.cells cs 94)).alloc (.cells #[.string (bs a.name), .string (bs a.val)] 57)).alloc (.cells #[.string ⟨#[]⟩, .string ⟨#[]⟩] 57)) := (((Below.refl _ w).alloc (Nat.le_refl _) _).alloc (by rw [alloc_size]; omega) _).alloc (by simp only [alloc_size]; omega) _
  have hP : Blk (((w.alloc (.cells cs 94)).alloc (.cells #[.string (bs a.name), .string (bs a.val)] 57)).alloc (.cells #[.string ⟨#[]⟩, .string ⟨#[]⟩] 57)) w.heap.size 94 cs := Blk.alloc (Blk.alloc (Blk.new w 94 cs) _) _
  have hQ : Blk (((w.alloc (.cells cs 94)).alloc (.cells #[.string (bs a.name), .string (bs a.val)] 57)).alloc (.cells #[.string ⟨#[]⟩, .string ⟨#[]⟩] 57)) (w.heap.size + 1) 57 #[.string (bs a.name), .string (bs a.val)] := by
    have := Blk.new (w.alloc (.cells cs 94)) 57 #[.string (bs a.name), .string (bs a.val)]
    rw [alloc_size] at this
    exact Blk.alloc this _
  have hT : Blk (((w.alloc (.cells cs 94)).alloc (.cells #[.string (bs a.name), .string (bs a.val)] 57)).alloc (.cells #[.string ⟨#[]⟩, .string ⟨#[]⟩] 57)) (w.heap.size + 1 + 1) 57 #[.string (bs []), .string (bs [])] := by
    have := Blk.new ((w.alloc (.cells cs 94)).alloc (.cells #[.string (bs a.name), .string (bs a.val)] 57)) 57 #[.string (bs []), .string (bs [])]
    simp only [alloc_size] at this
    exact this
  have hV := h.keep hb
  have hmV := hm_below hm hb
  clear k0 k1 k2 k3 k6 k7 k8 h1 h2 h3
  unfold atrV
  go_enter Tryz.func100, Tryz.ntmps100
  apply wp_seq_k
  intro K hK
  have HK := Lib.hid hK
  clear hK
  go_wp2_with fail
  refine HK.out _ _ ?_
  clear HK K hcs
  generalize (((w.alloc (.cells cs 94)).alloc (.cells #[.string (bs a.name), .string (bs a.val)] 57)).alloc (.cells #[.string ⟨#[]⟩, .string ⟨#[]⟩] 57)) = V at hb hP hQ hT hV hmV ⊢
  apply wp_seq_k
  intro K hK
  have hmid : ∀ (u8 u9 u10 u11 u12 u13 u14 u15 u16 u17 u18 u19 u20 u21 u22 u23 u24 u25 u26 u27 u28 u29 u30 : Value) (b : Atr) (V2 : World), Blk V2 w.heap.size 94 cs → Blk V2 (w.heap.size + 1) 57 #[.string (bs b.name), .string (bs b.val)] → Blk V2 (w.heap.size + 1 + 1) 57 #[.string (bs []), .string (bs [])] → Below w.heap.size w V2 →
      attrS p e a = (if Tz.valueP p e b = true then some b else none) → e.length + b.name.length + b.val.length ≤ 5000000 → K ⟨#[.agg cs, .string (bs e), .agg #[.string (bs a.name), .string (bs a.val)], .pointer (some ⟨w.heap.size, 0, none⟩), undef, .pointer (some ⟨w.heap.size + 1, 0, none⟩), .pointer (some ⟨w.heap.size + 1 + 1, 0, none⟩), .bool false, u8, u9, u10, u11, u12, u13, u14, u15, u16, u17, u18, u19, u20, u21, u22, u23, u24, u25, u26, u27, u28, u29, u30, undef, undef, undef, undef, undef, undef], []⟩ V2 := by
    intro u8 u9 u10 u11 u12 u13 u14 u15 u16 u17 u18 u19 u20 u21 u22 u23 u24 u25 u26 u27 u28 u29 u30 b V2 hP hQ hT hb hab hbl
    have hV := h.keep hb
    have hmV := hm_below hm hb
    refine hK _ _ ?_
    clear hK K
    go_wp2_with fail
    have hbd := below_drew hb
    obtain ⟨ι, hne, F, hF, hcov⟩ := class_of (fun Y => Blk Y w.heap.size 94 cs ∧ Blk Y (w.heap.size + 1) 57 #[.string (bs b.name), .string (bs b.val)]) V2.drew ⟨hP, hQ⟩
    have r0 : ∀ i, (F i).cell? ⟨w.heap.size + 1, 0, none⟩ = some (.string (bs b.name)) := fun i => Blk.cell (hF i).2 0
    have r1 : ∀ i, (F i).cell? ⟨w.heap.size + 1, 1, none⟩ = some (.string (bs b.val)) := fun i => Blk.cell (hF i).2 1
    have hS0 := hcov V2.drew ⟨hP, hQ⟩
    refine wp_region_every 2 6 (S := fun X => ∃ i, X = F i) (by kernel_rfl) (by kernel_rfl) (fun _ _ _ _ _ h => h) hS0 ?_
    have hPd : Blk V2.drew w.heap.size 94 cs := hP
    have hQd : Blk V2.drew (w.heap.size + 1) 57 #[.string (bs b.name), .string (bs b.val)] := hQ
    have hTd : Blk V2.drew (w.heap.size + 1 + 1) 57 #[.string (bs []), .string (bs [])] := hT
    have hVd : PolV V2.drew S cs p := hV.keep (below_drew (Below.refl _ _))
    have hmd : V2.drew.cell? ⟨0, 0, none⟩ = some (.int .i64 m) := hmV
    clear hP hQ hT hV hmV hb
    generalize V2.drew = Vd at hPd hQd hTd hVd hmd hbd hS0 ⊢
    dsimp only [List.take, List.drop]
    repeat (go_big_quiet_step (fail))
    refine wpQuiet_nil ?_
    refine wpAnyZ_pure (i := 3) (F := 5) hS0 rfl (by kernel_rfl) (by kernel_rfl) (fun _ _ _ _ _ h => h) ?_
    go_big_quiet_step (fail)
    refine wpQuiet_nil ?_
    refine wpAnyZ_pure (i := 4) (F := 4) hS0 rfl (by kernel_rfl) (by kernel_rfl) (fun _ _ _ _ _ h => h) ?_
    go_big_quiet_step (fail)
    refine wpQuiet_nil ?_
    refine wpAnyZ_one (i := 2) (F := 3) hS0 (by kernel_rfl) rfl (fun K hK => ?_)
    rw [if_pos (by rfl)]
    refine wp_load_at 24 (.tmp 32) rfl ⟨w.heap.size, 0, none⟩ rfl cs.toList _ (fun j u hj => by rw [add_mid, Nat.zero_add]; exact (Blk.cell hPd j).trans (by simpa using hj)) Tryz.underlying24 rfl hi24 ?_
    refine hK.out _ _ hS0 ?_
    clear hK K
    try simp only [Act.put, List.setIfInBounds_toArray, List.set_cons_zero, List.set_cons_succ, Array.toArray_toList]
    refine wpAnyZ_one (i := 5) (F := 2) hS0 (by kernel_rfl) rfl (fun K hK => ?_)
    go_simp
    refine (value_u (w := Vd) e b hVd hp hmd hbl).mono ?_
    rintro e3 V3 ⟨rfl, hb3⟩
    have hP3 := hPd.below hb3 (heap_lt hPd)
    have hQ3 := hQd.below hb3 (heap_lt hQd)
    have hT3 := hTd.below hb3 (heap_lt hTd)
    have hS3 := hcov V3 ⟨hP3, hQ3⟩
    have hbw3 := hbd.trans (hb3.mono hbd.size)
    refine hK.out _ _ hS3 ?_
    clear hK K
    try simp only [Act.put, List.setIfInBounds_toArray, List.set_cons_zero, List.set_cons_succ]
    have hnPT : w.heap.size ≠ w.heap.size + 1 + 1 := by omega
    have hnQT : w.heap.size + 1 ≠ w.heap.size + 1 + 1 := by omega
    have hP4 : Blk (V3.setRow (w.heap.size + 1 + 1) #[.string (bs b.name), .string (bs b.val)]) w.heap.size 94 cs := (setRow_other _ _ _ _ hnPT).trans hP3
    have hQ4 : Blk (V3.setRow (w.heap.size + 1 + 1) #[.string (bs b.name), .string (bs b.val)]) (w.heap.size + 1) 57 #[.string (bs b.name), .string (bs b.val)] := (setRow_other _ _ _ _ hnQT).trans hQ3
    have hT4 := setRow_heap V3 (w.heap.size + 1 + 1) _ #[.string (bs b.name), .string (bs b.val)] 57 (0, 0) hT3
    have hb4 : Below w.heap.size w (V3.setRow (w.heap.size + 1 + 1) #[.string (bs b.name), .string (bs b.val)]) := below_setRow hbw3 (by omega) _
    have hS4 := hcov _ ⟨hP4, hQ4⟩
    refine wpAnyZ_one (i := 6) (F := 1) hS3 (by kernel_rfl) rfl (fun K hK => ?_)
    rw [if_pos (by rfl)]
    refine wp_store_at 57 (.tmp 6) (.tmp 31) rfl (w.heap.size + 1 + 1) 0 #[.string (bs b.name), .string (bs b.val)] rfl rfl 57 _ hT3 (by kernel_rfl) (by simp) (by simp [Value.oneCell']) ?_
    refine hK.out _ _ hS4 ?_
    clear hK K
    try simp only [Act.put, List.setIfInBounds_toArray, List.set_cons_zero, List.set_cons_succ]
    refine wpAnyZ_one (i := 7) (F := 0) hS4 (by kernel_rfl) rfl (fun K hK => ?_)
    go_simp
    refine hK.out _ _ hS4 ?_
    clear hK K
    try simp only [Act.put, List.setIfInBounds_toArray, List.set_cons_zero, List.set_cons_succ]
    refine wpAnyZ_end (by kernel_rfl) ?_
    go_wp2_with fail
    refine bodyPost_ret (cattr_ret (g := w.heap.size + 1 + 1) (cs := #[.string (bs b.name), .string (bs b.val)]) rfl hT4 (by kernel_rfl)) rfl ?_
    exact ⟨b, Tz.valueP p e b, rfl, hab, hb4⟩
  have q0 : V.cell? ⟨w.heap.size + 1, 0, none⟩ = some (.string (bs a.name)) := Blk.cell hQ 0
  have q1 : V.cell? ⟨w.heap.size + 1, 1, none⟩ = some (.string (bs a.val)) := Blk.cell hQ 1
  clear hK
  have q3 : V.cell? ⟨w.heap.size, 5, none⟩ = some (.slice A5 p.props.length c5) := (Blk.cell hP 5).trans k5
  have q4 : V.cell? ⟨w.heap.size, 4, none⟩ = some (.slice A4 p.classes.length c4) := (Blk.cell hP 4).trans k4
  obtain ⟨nm, vl⟩ := a
  simp only at q0 q1 hl
  by_cases hrel : nm = [114, 101, 108]
  · subst hrel
    clear hmid
    have hQ1 : V.heap[w.heap.size + 1]? = some (.cells #[.string (bs [114, 101, 108]), .string (bs vl)] 57 (0, 0)) := hQ
    have hT1 : V.heap[w.heap.size + 1 + 1]? = some (.cells #[.string (bs []), .string (bs [])] 57 (0, 0)) := hT
    have hT4 := setRow_heap V (w.heap.size + 1 + 1) _ #[.string (bs [114, 101, 108]), .string (bs vl)] 57 (0, 0) hT1
    have hb4 : Below w.heap.size w (V.setRow (w.heap.size + 1 + 1) #[.string (bs [114, 101, 108]), .string (bs vl)]) := below_setRow hb (by omega) _
    go_wp2_with (first
      | (with_reducible refine wpList_load_row rfl 57 (.tmp 5) rfl (w.heap.size + 1) rfl 57 #[.string (bs [114, 101, 108]), .string (bs vl)] (0, 0) _ hQ1 Tryz.underlying57 rfl (by kernel_rfl) ?_)
      | (with_reducible refine wpList_store_row rfl 57 (.tmp 6) (.tmp 12) rfl (w.heap.size + 1 + 1) #[.string (bs [114, 101, 108]), .string (bs vl)] rfl rfl 57 _ hT1 (by kernel_rfl) rfl (by simp [Value.oneCell']) ?_))
    refine bodyPost_ret (cattr_ret (g := w.heap.size + 1 + 1) (cs := #[.string (bs [114, 101, 108]), .string (bs vl)]) rfl hT4 (by kernel_rfl)) rfl ?_
    exact ⟨⟨[114, 101, 108], vl⟩, .inl ⟨rfl, rfl, hb4⟩⟩
  have grel : (nm == [114, 101, 108]) = false := by simpa using hrel
  by_cases hsty : nm = [115, 116, 121, 108, 101]
  · subst hsty
    have s1 := h5.keep (KeepS.below hb h6)
    go_wp2_with fail
    refine (filter_u (c := c5) vl s1 (fun j hj => Nat.lt_of_lt_of_le (h6 j hj) hb.size) (by have := hp.2.2.2.2.1; omega) (by omega) hmV).mono ?_
    have hlen := filterS_len vl p.props
    generalize hfz : Tz.filterS vl p.props = fz at hlen
    rintro e1 V1 ⟨rfl, hb1⟩
    have hP1 := hP.below hb1 (heap_lt hP)
    have hQ1 := hQ.below hb1 (heap_lt hQ)
    have hT1 := hT.below hb1 (heap_lt hT)
    have c1' : V1.cell? ⟨w.heap.size + 1, 1, none⟩ = some (.string (bs vl)) := Blk.cell hQ1 1
    have f1' := Blk.frozen hQ1 1
    have hb2 : Below w.heap.size w (V1.setCell ⟨w.heap.size + 1, 1, none⟩ (.string (bs fz))) := (hb.trans (hb1.mono hb.size)).setCell (by show w.heap.size ≤ w.heap.size + 1; omega) _
    have keep : ∀ j, j ≠ w.heap.size + 1 → (V1.setCell ⟨w.heap.size + 1, 1, none⟩ (.string (bs fz))).heap[j]? = V1.heap[j]? := fun j hj => Below.heap_setCell V1 ⟨w.heap.size + 1, 1, none⟩ _ j hj
    have HM := Lib.hid (hmid)
    have hQ2 : Blk (V1.setCell ⟨w.heap.size + 1, 1, none⟩ (.string (bs fz))) (w.heap.size + 1) 57 #[.string (bs [115, 116, 121, 108, 101]), .string (bs fz)] := Blk.set_ hQ1 1 _
    have hP2 := (keep w.heap.size (by omega)).trans hP1
    have hT2 := (keep (w.heap.size + 1 + 1) (by omega)).trans hT1
    have hat : attrS p e ⟨[115, 116, 121, 108, 101], vl⟩ = (if Tz.valueP p e ⟨[115, 116, 121, 108, 101], fz⟩ = true then some ⟨[115, 116, 121, 108, 101], fz⟩ else none) := by rw [← hfz]; rfl
    have HG := Lib.hid (And.intro hP2 (And.intro hQ2 (And.intro hT2 (And.intro hb2 hat))))
    clear keep hmid hP2 hQ2 hT2 hb2 hat hfz
    go_wp2_with fail
    exact HM.out _ _ _ _ _ _ _ _ _ _ _ _ _ _ _ _ _ _ _ _ _ _ _ ⟨[115, 116, 121, 108, 101], fz⟩ _ HG.out.1 HG.out.2.1 HG.out.2.2.1 HG.out.2.2.2.1 HG.out.2.2.2.2 (by simp at hl ⊢; omega)
  have gsty : (nm == [115, 116, 121, 108, 101]) = false := by simpa using hsty
  by_cases hcls : nm = [99, 108, 97, 115, 115]
  · subst hcls
    have s1 := h4.keep (KeepS.below hb h6)
    go_wp2_with fail
    refine (sclasses_u (c := c4) vl s1 (fun j hj => Nat.lt_of_lt_of_le (h6 j hj) hb.size) (by have := hp.2.2.2.1.1; omega) (by omega) hmV).mono ?_
    have hlen := classesS_len vl p.classes
    generalize hfz : Tz.classesS vl p.classes = fz at hlen
    rintro e1 V1 ⟨rfl, hb1⟩
    have hP1 := hP.below hb1 (heap_lt hP)
    have hQ1 := hQ.below hb1 (heap_lt hQ)
    have hT1 := hT.below hb1 (heap_lt hT)
    have c1' : V1.cell? ⟨w.heap.size + 1, 1, none⟩ = some (.string (bs vl)) := Blk.cell hQ1 1
    have f1' := Blk.frozen hQ1 1
    have hb2 : Below w.heap.size w (V1.setCell ⟨w.heap.size + 1, 1, none⟩ (.string (bs fz))) := (hb.trans (hb1.mono hb.size)).setCell (by show w.heap.size ≤ w.heap.size + 1; omega) _
    have keep : ∀ j, j ≠ w.heap.size + 1 → (V1.setCell ⟨w.heap.size + 1, 1, none⟩ (.string (bs fz))).heap[j]? = V1.heap[j]? := fun j hj => Below.heap_setCell V1 ⟨w.heap.size + 1, 1, none⟩ _ j hj
    have HM := Lib.hid (hmid)
    have hQ2 : Blk (V1.setCell ⟨w.heap.size + 1, 1, none⟩ (.string (bs fz))) (w.heap.size + 1) 57 #[.string (bs [99, 108, 97, 115, 115]), .string (bs fz)] := Blk.set_ hQ1 1 _
    have hP2 := (keep w.heap.size (by omega)).trans hP1
    have hT2 := (keep (w.heap.size + 1 + 1) (by omega)).trans hT1
    have hat : attrS p e ⟨[99, 108, 97, 115, 115], vl⟩ = (if Tz.valueP p e ⟨[99, 108, 97, 115, 115], fz⟩ = true then some ⟨[99, 108, 97, 115, 115], fz⟩ else none) := by rw [← hfz]; rfl
    have HG := Lib.hid (And.intro hP2 (And.intro hQ2 (And.intro hT2 (And.intro hb2 hat))))
    clear keep hmid hP2 hQ2 hT2 hb2 hat hfz
    go_wp2_with fail
    exact HM.out _ _ _ _ _ _ _ _ _ _ _ _ _ _ _ _ _ _ _ _ _ _ _ ⟨[99, 108, 97, 115, 115], fz⟩ _ HG.out.1 HG.out.2.1 HG.out.2.2.1 HG.out.2.2.2.1 HG.out.2.2.2.2 (by simp at hl ⊢; omega)
  have gcls : (nm == [99, 108, 97, 115, 115]) = false := by simpa using hcls
  have hat : attrS p e ⟨nm, vl⟩ = (if Tz.valueP p e ⟨nm, vl⟩ = true then some ⟨nm, vl⟩ else none) := by
    unfold attrS
    show (if nm = [114, 101, 108] then none else _) = _
    rw [if_neg hrel]
    show (if Tz.valueP p e (if nm = [115, 116, 121, 108, 101] then _ else if nm = [99, 108, 97, 115, 115] then _ else _) = true then some (if nm = [115, 116, 121, 108, 101] then _ else if nm = [99, 108, 97, 115, 115] then _ else _) else none) = _
    rw [if_neg hsty, if_neg hcls]
  have HM := Lib.hid (hmid)
  have HG := Lib.hid (And.intro hP (And.intro hQ (And.intro hT (And.intro hb hat))))
  clear hmid hat hrel hsty hcls hP hQ hT hb
  go_wp2_with fail
  exact HM.out _ _ _ _ _ _ _ _ _ _ _ _ _ _ _ _ _ _ _ _ _ _ _ ⟨nm, vl⟩ _ HG.out.1 HG.out.2.1 HG.out.2.2.1 HG.out.2.2.2.1 HG.out.2.2.2.2 (by simp; omega)
end Go.Proofs.YtlgaeeedkihfpaaGreatDoor.Uf

/-
  san's cleaner: attrs.
-/
namespace Go.Proofs.YtlgaeeedkihfpaaGreatDoor.Uf
open Go.RowKit
open Tz (B Atr Pol attrS attrsS)

def outA (p : Pol) (e : B) (l : List Atr) : List Atr := l.filterMap (attrS p e)
def hasHref (l : List Atr) : Bool := l.any (fun a => a.name == Tz.hrefN)
theorem outA_snoc (p : Pol) (e : B) (l : List Atr) (a : Atr) : outA p e (l ++ [a]) = (match attrS p e a with | some b => outA p e l ++ [b] | none => outA p e l) := by
  unfold outA
  rw [List.filterMap_append]
  cases h : attrS p e a <;> simp [h]
theorem hasHref_snoc (l : List Atr) (a : Atr) : hasHref (l ++ [a]) = (hasHref l || a.name == Tz.hrefN) := by simp [hasHref]
theorem attrsS_eq (p : Pol) (e : B) (l : List Atr) : attrsS p e l = if e = Tz.aN ∧ hasHref (outA p e l) = true then outA p e l ++ [⟨Tz.relN, Tz.forced⟩] else outA p e l := rfl
theorem outA_len (p : Pol) (e : B) (l : List Atr) : (outA p e l).length ≤ l.length := List.length_filterMap_le _ _

theorem own_base {w : World} {base size n : Nat} {t : TypeId} {v : Value} {xs : List Value} (h : w.ownsRow (base + 1) t size v n xs) : w.ownsRow base t size v n xs := by
  refine ⟨h.1, ?_⟩
  rcases h.2 with h2 | ⟨g, cap, cur, hv, hb, h3⟩
  · exact .inl h2
  · exact .inr ⟨g, cap, cur, hv, by omega, h3⟩
theorem atrCells_get : ∀ (l : List Atr) (k : Nat) (h : k < l.length) (j : Nat) (u : Value), ([Value.string (bs l[k].name), .string (bs l[k].val)] : List Value)[j]? = some u → (atrCells l)[k * 2 + j]? = some u
  | [], k, h, _, _, _ => by simp at h
  | a :: l, 0, _, j, u, hu => by
    rw [atrCells_cons, Nat.zero_mul, Nat.zero_add]
    have hj : j < 2 := by
      have := (List.getElem?_eq_some_iff.1 hu).1
      simpa using this
    rw [List.getElem?_append_left (by simpa using hj)]
    exact hu
  | a :: l, k + 1, h, j, u, hu => by
    rw [atrCells_cons, List.getElem?_append_right (by simp; omega)]
    have := atrCells_get l k (by simpa using h) j u hu
    rw [show (k + 1) * 2 + j - ([Value.string (bs a.name), .string (bs a.val)] : List Value).length = k * 2 + j by simp; omega]
    exact this
set_option maxRecDepth 100000 in
set_option maxHeartbeats 8000000 in
theorem cattrs_u {w : World} {S S2 : Nat → Prop} {cs : Array Value} {p : Pol} {m : Int} {A : Option Addr} {n c : Nat} {l : List Atr} (e : B) (h : PolV w S cs p) (hp : PolSmall p) (hm : w.cell? ⟨0, 0, none⟩ = some (.int .i64 m))
    (hA : RdS w S2 2 A l.length (atrCells l)) (hS2 : ∀ j, S2 j → j < w.heap.size) (hl : l.length ≤ 6000000) (hb : ∀ a ∈ l, e.length + a.name.length + a.val.length ≤ 900000) :
    Calls Tryz.prog 77 #[.agg cs, .string (bs e), .slice A l.length c] w fun e' w' => ∃ v, e' = .returned v ∧ w'.ownsRow w.heap.size 57 2 v (attrsS p e l).length (atrCells (attrsS p e l)) ∧ Below w.heap.size w w' := by
  have hcs := pol_cells h
  have hsz : cs.size = 9 := by
    obtain ⟨_, _, _, _, _, _, _, _, _, _, rfl, _⟩ := h
    rfl
  have hi94 : (Tryz.prog.info? 94).map (·.size) = some cs.size := by rw [hsz]; kernel_rfl
  have hb0 : Below w.heap.size w (w.alloc (.cells cs 94)) := (Below.refl _ w).alloc (Nat.le_refl _) _
  have hP : Blk (w.alloc (.cells cs 94)) w.heap.size 94 cs := Blk.new w 94 cs
  go_enter Tryz.func77, Tryz.ntmps77
  go_wp2_with fail
  generalize w.alloc (.cells cs 94) = V at hb0 hP ⊢
  have hsV : w.heap.size < V.heap.size := heap_lt hP
  clear hcs
  go_loopw [15, 7, 8] (fun vi vo vh wr => ∃ k : Nat, vi = .int .i64 k ∧ k ≤ l.length ∧ wr.ownsRow (w.heap.size + 1) 57 2 vo (outA p e (l.take k)).length (atrCells (outA p e (l.take k))) ∧ vh = .bool (hasHref (outA p e (l.take k))) ∧ Blk wr w.heap.size 94 cs ∧ Below w.heap.size w wr) (fun vi _ _ _ => l.length - kOf vi)
  case atStart => exact ⟨0, rfl, Nat.zero_le _, World.ownsRow_nil _ _ _ _, rfl, hP, hb0⟩
  case round =>
    obtain ⟨k, rfl, hk, hown, rfl, hPr, hbr⟩ := hrel
    by_cases hlt : k < l.length
    · have t0 : (k : Int) < (l.length : Int) := by omega
      obtain ⟨ad, rfl, hSb, hc⟩ := hA.2 (by omega)
      have hcells0 : ∀ j u, ([.string (bs l[k].name), .string (bs l[k].val)] : List Value)[j]? = some u → wr.cell? ((ad.add (k * 2)).add j) = some u := fun j u hu => by
        rw [add_add]
        refine (hbr.cell (by rw [block_of_add]; exact hS2 _ hSb)).trans ?_
        exact hc _ _ (atrCells_get l k hlt j u hu)
      have hba := hb l[k] (List.getElem_mem hlt)
      have hst : l.take (k + 1) = l.take k ++ [l[k]] := by rw [List.take_add_one, List.getElem?_eq_getElem hlt]; rfl
      have hsn := outA_snoc p e (l.take k) l[k]
      rw [← hst] at hsn
      clear hst
      generalize l[k] = a at hcells0 hba hsn
      obtain ⟨nm, vl⟩ := a
      have hcells : ∀ j u, ([.string (bs nm), .string (bs vl)] : List Value)[j]? = some u → wr.cell? ((ad.add (k * 2)).add j) = some u := hcells0
      simp only at hba
      have hol := outA_len p e (l.take k)
      rw [List.length_take] at hol
      have hi1 : IntKind.i64.wrap ((k : Int) + 1) = ((k + 1 : Nat) : Int) := by rw [IntKind.wrap_i64]; omega
      obtain ⟨O, hO⟩ : ∃ O, O = outA p e (l.take k) := ⟨_, rfl⟩
      rw [← hO] at hown hsn hol
      rw [← hO]
      have HO := Lib.hid hO
      clear hO hcells0
      have hP1 : wr.heap[w.heap.size]? = some (.cells cs 94 (0, 0)) := hPr
      go_wp2_with (first
        | (with_reducible refine wpList_load_at rfl 57 (.tmp 17) rfl (ad.add (k * 2)) rfl [.string (bs nm), .string (bs vl)] _ hcells Tryz.underlying57 rfl (by kernel_rfl) ?_)
        | ((with_reducible refine store_new rfl 57 (.tmp 10) (.tmp 18) rfl #[.string (bs nm), .string (bs vl)] rfl rfl (by kernel_rfl) (by kernel_rfl) (by simp [Value.oneCell']) ?_); intro W3 hB3 hb3; have hP3 : W3.heap[w.heap.size]? = some (.cells cs 94 (0, 0)) := (hb3.block _ (heap_lt hP1)).trans hP1)
        | (with_reducible refine wpList_load_row rfl 94 (.tmp 3) rfl w.heap.size rfl 94 cs (0, 0) _ hP3 Tryz.underlying94 rfl hi94 ?_)
        | (with_reducible refine wpList_load_row rfl 57 (.tmp 10) rfl wr.heap.size rfl 57 #[.string (bs nm), .string (bs vl)] (0, 0) _ hB3 Tryz.underlying57 rfl (by kernel_rfl) ?_))
      have hbW3 := hbr.trans (hb3.mono hbr.size)
      refine (cattr_u (w := W3) e ⟨nm, vl⟩ (h.keep hbW3) hp (hm_below hm hbW3) hba).mono ?_
      rintro e4 W4 ⟨⟨bn, bv⟩, ok, rfl, hok, hb4⟩
      have hbw4 := hb3.trans (hb4.mono hb3.size)
      have hsz4 := hbw4.size
      clear hB3 hcells hP3 hP1
      simp only [atrV]
      have STORE : True := trivial
      cases ok with
      | false =>
        rw [hok, if_neg (by simp)] at hsn
        have HS := Lib.hid hsn
        clear hsn hok
        go_wp2_with (first
          | ((with_reducible refine store_new rfl 57 (.tmp 11) (.tmp 24) rfl #[.string (bs bn), .string (bs bv)] rfl rfl (by kernel_rfl) (by kernel_rfl) (by simp [Value.oneCell']) ?_); intro W5 hB5 hb5))
        have hbw5 := hbw4.trans (hb5.mono hsz4)
        go_roundw
        case rel => exact ⟨k + 1, rfl, hlt, by rw [HS.out]; exact own_keepT hown (KeepT.below hbw5), by rw [HS.out], hPr.below hbw5 (heap_lt hPr), hbr.trans (hbw5.mono hbr.size)⟩
        case measure =>
          show l.length - kOf (.int .i64 ((k + 1 : Nat) : Int)) < l.length - kOf (.int .i64 (k : Int))
          simp only [kOf, Int.toNat_natCast]
          omega
      | true =>
        rw [hok, if_pos rfl] at hsn
        have HS := Lib.hid (show outA p e (l.take (k + 1)) = O ++ [⟨bn, bv⟩] from hsn)
        clear hsn hok
        obtain ⟨i0, hi, hz0, hz1, hzb⟩ := info_parts info57
        have hvl : ∀ j, u7.ownBlock = some j → j < wr.heap.size := fun j hj => (hown.lt j hj).2
        have hvg : ∀ j, u7.ownBlock = some j → w.heap.size + 1 ≤ j := fun j hj => (hown.lt j hj).1
        have hbs := hbr.size
        have hlt0 := heap_lt hPr
        have FIN : ∀ (w6 : World) (v6 : Value), Below wr.heap.size wr w6 ∨ True → True := fun _ _ _ => trivial
        clear FIN
        generalize hhr : hasHref O = hh
        have HH := Lib.hid hhr
        clear hhr
        go_wp2_with (first
          | ((with_reducible refine store_new rfl 57 (.tmp 11) (.tmp 24) rfl #[.string (bs bn), .string (bs bv)] rfl rfl (by kernel_rfl) (by kernel_rfl) (by simp [Value.oneCell']) ?_); intro W5 hB5 hb5; have hbw5 := hbw4.trans (hb5.mono hsz4); have hsz5 := hbw5.size; have own5 := own_keepT hown (KeepT.below hbw5); have own2 : (W5.alloc (.cells #[.string (bs bn), .string (bs bv)] 57)).ownsRow (w.heap.size + 1) 57 2 u7 O.length (atrCells O) := own_keepT own5 (KeepT.below ((Below.refl _ _).alloc (Nat.le_refl _) _)))
          | (with_reducible refine wpList_load_row rfl 57 (.tmp 11) rfl W4.heap.size rfl 57 #[.string (bs bn), .string (bs bv)] (0, 0) _ hB5 Tryz.underlying57 rfl (by kernel_rfl) ?_)
          | (at_builtin; refine wpList_append_any _ rfl (.tmp 27) (.tmp 29) 53 rfl (w.heap.size + 1) 57 i0 _ 2 32 Tryz.underlying53 hi hz0 hz1 hzb rfl (by omega) u7 O.length (atrCells O) rfl own2 _ _ 1 1 [.string (bs bn), .string (bs bv)] rfl (reads_row W5 57 [.string (bs bn), .string (bs bv)] 2 1 rfl) (by simp [Value.oneCell']) (by unfold maxLen; omega) (by omega) (by rw [alloc_size]; omega) ?_; intro v6 w6 hown6 hg6 hat6; have hB6 : Blk w6 W4.heap.size 57 #[.string (bs bn), .string (bs bv)] := Blk.grown (Blk.alloc hB5 _) hg6 (fun e => by have := hvl _ e.symm; omega); have q6 : w6.cell? ⟨W4.heap.size, 0, none⟩ = some (.string (bs bn)) := Blk.cell hB6 0))
        all_goals (
          have hb6 : Below (w.heap.size + 1) wr w6 := ((hbw5.mono (by omega)).alloc (by omega) _).grown hg6 (by rw [alloc_size]; omega) hvg
          have hown7 : w6.ownsRow (w.heap.size + 1) 57 2 v6 (outA p e (l.take (k + 1))).length (atrCells (outA p e (l.take (k + 1)))) := by
            rw [HS.out, List.length_append, List.length_singleton, atrCells_append]
            exact hown6
          have hP6 : Blk w6 w.heap.size 94 cs := (hb6.block _ (by omega)).trans hPr
          have hbe : Below w.heap.size w w6 := hbr.trans (hb6.mono (by omega))
          go_roundw)
        case rel =>
          refine ⟨k + 1, rfl, hlt, hown7, ?_, hP6, hbe⟩
          rw [HS.out, hasHref_snoc, HH.out]
          show _ = Value.bool (hh || (bn == [104, 114, 101, 102]))
          simp_all
        case measure =>
          show l.length - kOf (.int .i64 ((k + 1 : Nat) : Int)) < l.length - kOf (.int .i64 (k : Int))
          simp only [kOf, Int.toNat_natCast]
          omega
        case rel =>
          refine ⟨k + 1, rfl, hlt, hown7, ?_, hP6, hbe⟩
          rw [HS.out, hasHref_snoc, HH.out]
          show _ = Value.bool (hh || (bn == [104, 114, 101, 102]))
          simp_all
        case measure =>
          show l.length - kOf (.int .i64 ((k + 1 : Nat) : Int)) < l.length - kOf (.int .i64 (k : Int))
          simp only [kOf, Int.toNat_natCast]
          omega
    · have t0 : ¬ ((k : Int) < (l.length : Int)) := by omega
      have hlk : l.take k = l := List.take_of_length_le (by omega)
      rw [hlk] at hown ⊢
      have HA := Lib.hid (attrsS_eq p e l)
      have hol := outA_len p e l
      generalize outA p e l = O at hown HA hol ⊢
      have hown0 : wr.ownsRow w.heap.size 57 2 u7 O.length (atrCells O) := own_base hown
      by_cases he : e = [97]
      · subst he
        cases hh : hasHref O with
        | true =>
          have HS := Lib.hid (show attrsS p [97] l = O ++ [⟨Tz.relN, Tz.forced⟩] by rw [HA.out, if_pos ⟨rfl, hh⟩])
          clear hh
          obtain ⟨i0, hi, hz0, hz1, hzb⟩ := info_parts info57
          have own2 : (wr.alloc (.cells #[.string (bs Tz.relN), .string (bs Tz.forced)] 57)).ownsRow w.heap.size 57 2 u7 O.length (atrCells O) := own_keepT hown0 (KeepT.below ((Below.refl _ _).alloc (Nat.le_refl _) _))
          have hbs := hbr.size
          go_wp2_with (first
            | (at_builtin; refine wpList_append_any _ rfl (.tmp 43) (.tmp 45) 53 rfl w.heap.size 57 i0 _ 2 32 Tryz.underlying53 hi hz0 hz1 hzb rfl (by omega) u7 O.length (atrCells O) rfl own2 _ _ 1 1 [.string (bs Tz.relN), .string (bs Tz.forced)] rfl (reads_row wr 57 [.string (bs Tz.relN), .string (bs Tz.forced)] 2 1 rfl) (by simp [Value.oneCell']) (by unfold maxLen; omega) (by omega) (by rw [alloc_size]; omega) ?_; intro v6 w6 hown6 hg6 hat6))
          go_ret
          refine ⟨v6, rfl, ?_, (hbr.alloc hbs _).grown hg6 (by rw [alloc_size]; omega) (fun k hk => (own2.lt k hk).1)⟩
          rw [HS.out, List.length_append, List.length_singleton, atrCells_append]
          exact hown6
        | false =>
          have HS := Lib.hid (show attrsS p [97] l = O by rw [HA.out, if_neg (by rw [hh]; simp)])
          clear hh
          go_wp2_with fail
          go_ret
          exact ⟨u7, rfl, by rw [HS.out]; exact hown0, hbr⟩
      · have he1 : (e == [97]) = false := by simpa using he
        have HS := Lib.hid (show attrsS p e l = O by rw [HA.out, if_neg (fun x => he x.1)])
        go_wp2_with fail
        go_ret
        exact ⟨u7, rfl, by rw [HS.out]; exact hown0, hbr⟩
end Go.Proofs.YtlgaeeedkihfpaaGreatDoor.Uf
