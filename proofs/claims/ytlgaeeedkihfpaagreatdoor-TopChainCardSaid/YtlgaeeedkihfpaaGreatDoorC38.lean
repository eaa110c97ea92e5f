/-
  Texts of the proof of Chain, one behind the other: ChgG, ChgH, ChgI.
-/
import Derived.Test.YtlgaeeedkihfpaaGreatDoorC37
/-
  ser.Stable, safe.element.
-/
namespace Go.Proofs.YtlgaeeedkihfpaaGreatDoor.Uf
open Go.RowKit
open Tz (B Atr Nod Pol stG stableP sizeL valueP elementP elemP hasHref hasRel lastRel relN aN)

set_option maxRecDepth 100000 in
set_option maxHeartbeats 4000000 in
theorem stab_u {w : World} {S : Nat → Prop} {v : Value} {k : List Nod} (h : TreeV w S v k) (hk : nodsW k ≤ 100000000) :
    Calls Tryz.prog 29 #[v] w fun e w' => e = .returned (.bool (stableP k)) ∧ Below w.heap.size w w' := by
  obtain ⟨res, hres⟩ : ∃ res, res = stableP k := ⟨_, rfl⟩
  rw [← hres]
  have HRES := Lib.hid (show res = (decide ((sizeL k).1 ≤ 2000) && decide ((sizeL k).2 ≤ 64) && stG false false false k) from hres)
  clear hres
  go_enter Tryz.func29, Tryz.ntmps29
  go_wp2_with fail
  refine (size_u h (by omega)).mono ?_
  rintro e1 w1 ⟨rfl, hb1⟩
  have hT1 := h.keep hb1
  generalize (sizeL k).1 = many at HRES
  generalize (sizeL k).2 = deep at HRES
  by_cases h1 : many ≤ 2000
  · have t1 : (many : Int) ≤ 2000 := by omega
    by_cases h2 : deep ≤ 64
    · have t2 : (deep : Int) ≤ 64 := by omega
      have HR := Lib.hid (show res = stG false false false k by rw [HRES.out]; simp [h1, h2])
      go_wp2_with fail
      refine (stable_all (nodsW k + 1) w1 S v k false false hT1 (by omega) hk).mono ?_
      generalize stG false false false k = z at HR
      rintro e2 w2 ⟨rfl, hb2⟩
      have hb3 := hb1.trans (hb2.mono hb1.size)
      go_wp2_with fail
      go_ret
      exact ⟨by rw [HR.out]; rfl, hb3⟩
    · have t2 : ¬ (deep : Int) ≤ 64 := by omega
      have HR := Lib.hid (show res = false by rw [HRES.out]; simp [h2])
      go_wp2_with fail
      go_ret
      exact ⟨by rw [HR.out]; rfl, hb1⟩
  · have t1 : ¬ (many : Int) ≤ 2000 := by omega
    have HR := Lib.hid (show res = false by rw [HRES.out]; simp [h1])
    go_wp2_with fail
    go_ret
    exact ⟨by rw [HR.out]; rfl, hb1⟩

/-! ### where the last rel stands -/
def relG : List Atr → Nat → Int → Int
  | [], _, r => r
  | a :: l, i, r => relG l (i + 1) (if a.name == relN then (i : Int) else r)
theorem relG_none : ∀ (l : List Atr) (i : Nat) (r : Int), hasRel l = false → relG l i r = r
  | [], _, _, _ => rfl
  | a :: l, i, r, h => by
    unfold hasRel at h
    rw [List.any_cons, Bool.or_eq_false_iff] at h
    unfold relG
    rw [relG_none l _ _ h.2, if_neg (by rw [h.1]; simp)]
theorem relG_ge : ∀ (l : List Atr) (i : Nat) (r : Int), hasRel l = true → (i : Int) ≤ relG l i r
  | [], _, _, h => by simp [hasRel] at h
  | a :: l, i, r, h => by
    unfold relG
    cases hl : hasRel l with
    | true => have := relG_ge l (i + 1) (if a.name == relN then (i : Int) else r) hl; omega
    | false =>
      rw [relG_none l _ _ hl]
      unfold hasRel at h hl
      rw [List.any_cons, hl, Bool.or_false] at h
      rw [if_pos h]
      exact Int.le_refl _
theorem relG_lt : ∀ (l : List Atr) (i : Nat) (r : Int), r < i → relG l i r < (i : Int) + l.length
  | [], i, r, h => by simpa [relG] using h
  | a :: l, i, r, h => by
    unfold relG
    have := relG_lt l (i + 1) (if a.name == relN then (i : Int) else r) (by split <;> omega)
    simp only [List.length_cons]
    omega
theorem relG_snoc : ∀ (l : List Atr) (x : Atr) (i : Nat) (r : Int), relG (l ++ [x]) i r = if x.name == relN then ((i + l.length : Nat) : Int) else relG l i r
  | [], x, i, r => by simp [relG]
  | a :: l, x, i, r => by
    show relG (l ++ [x]) (i + 1) _ = _
    rw [relG_snoc l x (i + 1)]
    have e : i + 1 + l.length = i + (a :: l).length := by simp; omega
    rw [e]
    rfl
theorem rel_has (l : List Atr) : decide ((0 : Int) ≤ relG l 0 (-1)) = hasRel l := by
  cases h : hasRel l with
  | false => rw [relG_none l 0 _ h]; rfl
  | true => have := relG_ge l 0 (-1) h; simpa using this
theorem rel_last (l : List Atr) (h : l ≠ []) : (relG l 0 (-1) != (l.length : Int) - 1) = !lastRel l := by
  obtain ⟨init, x, rfl⟩ : ∃ init x, l = init ++ [x] := ⟨l.dropLast, l.getLast h, (List.dropLast_concat_getLast h).symm⟩
  rw [relG_snoc]
  have e : lastRel (init ++ [x]) = (x.name == relN) := by simp [lastRel]
  rw [e]
  cases hx : (x.name == relN) with
  | true => simp
  | false =>
    have := relG_lt init 0 (-1) (by decide)
    simp
    omega

set_option maxRecDepth 100000 in
set_option maxHeartbeats 8000000 in
theorem element_u {w : World} {S SP : Nat → Prop} {cs : Array Value} {p : Pol} {m : Int} {nm tx : B} {at_ : List Atr} {kd : List Nod} {A K : Option Addr} {ca ck : Nat} (h : PolV w SP cs p) (hp : PolSmall p) (hm : w.cell? ⟨0, 0, none⟩ = some (.int .i64 m)) (hA : RdS w S 2 A at_.length (atrCells at_)) (hS : ∀ g, S g → g < w.heap.size) (hb : ∀ x ∈ at_, nm.length + x.name.length + x.val.length ≤ 5000000) (hal : at_.length ≤ 100000000) :
    Calls Tryz.prog 31 #[.agg cs, .agg #[.string (bs nm), .slice A at_.length ca, .string (bs tx), .slice K kd.length ck]] w fun e w' => e = .returned (.bool (elementP p nm at_)) ∧ Below w.heap.size w w' := by
  have hcs := pol_cells h
  have hi24 : (Tryz.prog.info? 24).map (·.size) = some cs.size := by rw [pol_size h]; exact info24
  have hbV : Below w.heap.size w ((w.alloc (.cells cs 24)).alloc (.cells #[.string (bs nm), .slice A at_.length ca, .string (bs tx), .slice K kd.length ck] 61)) := ((Below.refl _ w).alloc (Nat.le_refl _) _).alloc (by rw [alloc_size]; omega) _
  have hPV : Blk ((w.alloc (.cells cs 24)).alloc (.cells #[.string (bs nm), .slice A at_.length ca, .string (bs tx), .slice K kd.length ck] 61)) w.heap.size 24 cs := Blk.alloc (Blk.new w 24 cs) _
  have hQV : Blk ((w.alloc (.cells cs 24)).alloc (.cells #[.string (bs nm), .slice A at_.length ca, .string (bs tx), .slice K kd.length ck] 61)) (w.heap.size + 1) 61 #[.string (bs nm), .slice A at_.length ca, .string (bs tx), .slice K kd.length ck] := by
    have := Blk.new (w.alloc (.cells cs 24)) 61 #[.string (bs nm), .slice A at_.length ca, .string (bs tx), .slice K kd.length ck]
    rw [alloc_size] at this
    exact this
  have HV := Lib.hid (fun V (hV : Below w.heap.size w V) => And.intro (h.keep hV) (hm_below hm hV))
  obtain ⟨res, hres⟩ : ∃ res, res = elementP p nm at_ := ⟨_, rfl⟩
  rw [← hres]
  have HRES := Lib.hid (show res = (at_.all (valueP p nm) && !(nm == [97] && ((hasHref at_ != hasRel at_) || (hasHref at_ && !lastRel at_))) && elemP p nm) from hres)
  clear hres h hm
  go_enter Tryz.func31, Tryz.ntmps31
  apply wp_seq_k
  intro K' hK
  have HK := Lib.hid hK
  clear hK
  go_wp2_with fail
  refine HK.out _ _ ?_
  clear HK K' hcs
  generalize ((w.alloc (.cells cs 24)).alloc (.cells #[.string (bs nm), .slice A at_.length ca, .string (bs tx), .slice K kd.length ck] 61)) = V at hPV hQV hbV ⊢
  have q1 : V.cell? ⟨w.heap.size + 1, 1, none⟩ = some (.slice A at_.length ca) := Blk.cell hQV 1
  go_wp2_with fail
  clear q1
  go_loopw [12, 5, 6] (fun vi vh vr wr => ∃ (i : Nat) (hh : Bool) (r : Int), vi = .int .i64 i ∧ vh = .bool hh ∧ vr = .int .i64 r ∧ i ≤ at_.length ∧ (at_.take i).all (valueP p nm) = true ∧ Hid ((hh || hasHref (at_.drop i)) = hasHref at_ ∧ relG (at_.drop i) i r = relG at_ 0 (-1)) ∧ Blk wr w.heap.size 24 cs ∧ Blk wr (w.heap.size + 1) 61 #[.string (bs nm), .slice A at_.length ca, .string (bs tx), .slice K kd.length ck] ∧ Below w.heap.size w wr) (fun vi _ _ _ => at_.length - kOf vi)
  case atStart => exact ⟨0, false, -1, rfl, rfl, rfl, Nat.zero_le _, rfl, Lib.hid ⟨by simp, rfl⟩, hPV, hQV, hbV⟩
  case round =>
    clear hPV hQV hbV
    obtain ⟨i, hh, r, rfl, rfl, rfl, hi, hall, HG, hPi, hQi, hbi⟩ := hrel
    by_cases hlt : i < at_.length
    · have t0 : (i : Int) < (at_.length : Int) := by omega
      obtain ⟨ad, rfl, hSb, hc⟩ := hA.2 (by omega)
      have hcells0 : ∀ j u, ([.string (bs at_[i].name), .string (bs at_[i].val)] : List Value)[j]? = some u → wr.cell? ((ad.add (i * 2)).add j) = some u := fun j u hu => by
        rw [add_add]
        refine (hbi.cell (by rw [block_of_add]; exact hS _ hSb)).trans ?_
        exact hc _ _ (atrCells_get at_ i hlt j u hu)
      have hba := hb at_[i] (List.getElem_mem hlt)
      have hst : (at_.take (i + 1)).all (valueP p nm) = valueP p nm at_[i] := by
        rw [List.take_add_one, List.getElem?_eq_getElem hlt, List.all_append, hall]
        simp
      have hms := fun h => all_miss (f := valueP p nm) hlt h
      have hdc : at_.drop i = at_[i] :: at_.drop (i + 1) := List.drop_eq_getElem_cons hlt
      have hg := HG.out
      rw [hdc] at hg
      clear hdc HG
      generalize at_[i] = a at hcells0 hba hst hms hg
      obtain ⟨an, av⟩ := a
      have hcells : ∀ j u, ([.string (bs an), .string (bs av)] : List Value)[j]? = some u → wr.cell? ((ad.add (i * 2)).add j) = some u := hcells0
      simp only at hba
      have HST := Lib.hid (And.intro hst hms)
      have HG := Lib.hid (show (hh || (an == [104, 114, 101, 102] || hasHref (at_.drop (i + 1)))) = hasHref at_ ∧ relG (at_.drop (i + 1)) (i + 1) (if an == [114, 101, 108] then (i : Int) else r) = relG at_ 0 (-1) from hg)
      clear hst hms hg hall hcells0
      have hi1 : IntKind.i64.wrap ((i : Int) + 1) = ((i + 1 : Nat) : Int) := by rw [IntKind.wrap_i64]; omega
      have hP1 : wr.heap[w.heap.size]? = some (.cells cs 24 (0, 0)) := hPi
      go_wp2_with (first
        | (with_reducible refine wpList_load_at rfl 57 (.tmp 15) rfl (ad.add (i * 2)) rfl [.string (bs an), .string (bs av)] _ hcells Tryz.underlying57 rfl (by kernel_rfl) ?_)
        | ((with_reducible refine store_new rfl 57 (.tmp 8) (.tmp 16) rfl #[.string (bs an), .string (bs av)] rfl rfl (by kernel_rfl) (by kernel_rfl) (by simp [Value.oneCell']) ?_); intro W3 hB3 hb3; have hP3 : W3.heap[w.heap.size]? = some (.cells cs 24 (0, 0)) := (hb3.block _ (heap_lt hP1)).trans hP1; have n0 : W3.cell? ⟨w.heap.size + 1, 0, none⟩ = some (.string (bs nm)) := (hb3.cell (p := ⟨w.heap.size + 1, 0, none⟩) (heap_lt hQi)).trans (Blk.cell hQi 0))
        | (with_reducible refine wpList_load_row rfl 24 (.tmp 2) rfl w.heap.size rfl 24 cs (0, 0) _ hP3 Tryz.underlying24 rfl hi24 ?_)
        | (with_reducible refine wpList_load_row rfl 57 (.tmp 8) rfl wr.heap.size rfl 57 #[.string (bs an), .string (bs av)] (0, 0) _ hB3 Tryz.underlying57 rfl (by kernel_rfl) ?_))
      have hbw3 := hbi.trans (hb3.mono hbi.size)
      have hR3 : Blk W3 wr.heap.size 57 #[.string (bs an), .string (bs av)] := hB3
      have hP4 := hPi.below hb3 (heap_lt hPi)
      have hQ4 := hQi.below hb3 (heap_lt hQi)
      obtain ⟨g1, g2⟩ := HV.out W3 hbw3
      clear hB3 hP3 n0 hcells hP1 hPi hQi
      refine (value_u nm ⟨an, av⟩ g1 hp g2 hba).mono ?_
      rintro e4 W4 ⟨rfl, hb4⟩
      have hbw4 := hbw3.trans (hb4.mono hbw3.size)
      have hR5 := hR3.below hb4 (heap_lt hR3)
      have hP5 := hP4.below hb4 (heap_lt hP4)
      have hQ5 := hQ4.below hb4 (heap_lt hQ4)
      clear hR3 hP4 hQ4 hb4 hbw3 hb3 g1 g2
      cases hv : valueP p nm ⟨an, av⟩ with
      | false =>
        have HR := Lib.hid (show res = false by rw [HRES.out, HST.out.2 hv]; simp)
        clear hv
        go_wp2_with fail
        go_ret
        exact ⟨by rw [HR.out]; rfl, hbw4⟩
      | true =>
        have HVV := Lib.hid hv
        clear hv
        have n0 : W4.cell? ⟨wr.heap.size, 0, none⟩ = some (.string (bs an)) := Blk.cell hR5 0
        cases y1 : (an == ([114, 101, 108] : B)) with
        | true =>
          have y2 : (an == ([104, 114, 101, 102] : B)) = false := by rw [eq_of_beq y1]; rfl
          have HG2 := Lib.hid (show (hh || hasHref (at_.drop (i + 1))) = hasHref at_ ∧ relG (at_.drop (i + 1)) (i + 1) (i : Int) = relG at_ 0 (-1) by
            have := HG.out
            rw [y1, y2] at this
            simpa using this)
          cases hh with
          | true =>
            go_wp2_with fail
            go_roundw
            case rel => exact ⟨i + 1, true, (i : Int), rfl, rfl, rfl, hlt, by rw [HST.out.1]; exact HVV.out, HG2, hP5, hQ5, hbw4⟩
            case measure =>
              show at_.length - kOf (.int .i64 ((i + 1 : Nat) : Int)) < at_.length - kOf (.int .i64 (i : Int))
              simp only [kOf, Int.toNat_natCast]
              omega
          | false =>
            go_wp2_with fail
            go_roundw
            case rel => exact ⟨i + 1, false, (i : Int), rfl, rfl, rfl, hlt, by rw [HST.out.1]; exact HVV.out, HG2, hP5, hQ5, hbw4⟩
            case measure =>
              show at_.length - kOf (.int .i64 ((i + 1 : Nat) : Int)) < at_.length - kOf (.int .i64 (i : Int))
              simp only [kOf, Int.toNat_natCast]
              omega
        | false =>
          cases y2 : (an == ([104, 114, 101, 102] : B)) with
          | true =>
            have HG2 := Lib.hid (show (true || hasHref (at_.drop (i + 1))) = hasHref at_ ∧ relG (at_.drop (i + 1)) (i + 1) r = relG at_ 0 (-1) by
              have := HG.out
              rw [y1, y2] at this
              simpa using this)
            cases hh with
            | true =>
              go_wp2_with fail
              go_roundw
              case rel => exact ⟨i + 1, true, r, rfl, rfl, rfl, hlt, by rw [HST.out.1]; exact HVV.out, HG2, hP5, hQ5, hbw4⟩
              case measure =>
                show at_.length - kOf (.int .i64 ((i + 1 : Nat) : Int)) < at_.length - kOf (.int .i64 (i : Int))
                simp only [kOf, Int.toNat_natCast]
                omega
            | false =>
              go_wp2_with fail
              go_roundw
              case rel => exact ⟨i + 1, true, r, rfl, rfl, rfl, hlt, by rw [HST.out.1]; exact HVV.out, HG2, hP5, hQ5, hbw4⟩
              case measure =>
                show at_.length - kOf (.int .i64 ((i + 1 : Nat) : Int)) < at_.length - kOf (.int .i64 (i : Int))
                simp only [kOf, Int.toNat_natCast]
                omega
          | false =>
            have HG2 := Lib.hid (show (hh || hasHref (at_.drop (i + 1))) = hasHref at_ ∧ relG (at_.drop (i + 1)) (i + 1) r = relG at_ 0 (-1) by
              have := HG.out
              rw [y1, y2] at this
              simpa using this)
            cases hh with
            | true =>
              go_wp2_with fail
              go_roundw
              case rel => exact ⟨i + 1, true, r, rfl, rfl, rfl, hlt, by rw [HST.out.1]; exact HVV.out, HG2, hP5, hQ5, hbw4⟩
              case measure =>
                show at_.length - kOf (.int .i64 ((i + 1 : Nat) : Int)) < at_.length - kOf (.int .i64 (i : Int))
                simp only [kOf, Int.toNat_natCast]
                omega
            | false =>
              go_wp2_with fail
              go_roundw
              case rel => exact ⟨i + 1, false, r, rfl, rfl, rfl, hlt, by rw [HST.out.1]; exact HVV.out, HG2, hP5, hQ5, hbw4⟩
              case measure =>
                show at_.length - kOf (.int .i64 ((i + 1 : Nat) : Int)) < at_.length - kOf (.int .i64 (i : Int))
                simp only [kOf, Int.toNat_natCast]
                omega
    · have t0 : ¬ (i : Int) < (at_.length : Int) := by omega
      have hkt : at_.take i = at_ := List.take_of_length_le (by omega)
      rw [hkt] at hall
      have hg := HG.out
      rw [List.drop_of_length_le (by omega)] at hg
      have hH : hh = hasHref at_ := by rw [← hg.1]; simp [hasHref]
      have hRr : r = relG at_ 0 (-1) := hg.2
      have HQ := Lib.hid (show res = (!(nm == [97] && ((hasHref at_ != hasRel at_) || (hasHref at_ && !lastRel at_))) && elemP p nm) by rw [HRES.out, hall]; rfl)
      have hr1 := rel_has at_
      rw [← hRr] at hr1
      have hr2 := rel_last at_
      rw [← hRr] at hr2
      rw [← hH] at HQ
      have HR2 := Lib.hid hr2
      have HR1 := Lib.hid hr1
      have hlen0 : hh = true → at_ ≠ [] := fun h e => by rw [hH, e] at h; cases h
      have HL0 := Lib.hid hlen0
      clear hg hH hRr hall hr1 hr2 HG hlen0
      have n0 : wr.cell? ⟨w.heap.size + 1, 0, none⟩ = some (.string (bs nm)) := Blk.cell hQi 0
      have n1 : wr.cell? ⟨w.heap.size + 1, 1, none⟩ = some (.slice A at_.length ca) := Blk.cell hQi 1
      have hP1 : wr.heap[w.heap.size]? = some (.cells cs 24 (0, 0)) := hPi
      cases ya : (nm == ([97] : B)) with
      | false =>
        have HF := Lib.hid (show res = elemP p nm by rw [HQ.out, ya]; rfl)
        go_wp2_with (first
          | (with_reducible refine wpList_load_row rfl 24 (.tmp 2) rfl w.heap.size rfl 24 cs (0, 0) _ hP1 Tryz.underlying24 rfl hi24 ?_))
        obtain ⟨g1, _⟩ := HV.out wr hbi
        refine (elem_u nm g1 hp).mono ?_
        rintro e6 W6 ⟨rfl, hb6⟩
        have hbw6 := hbi.trans (hb6.mono hbi.size)
        go_wp2_with fail
        go_ret
        exact ⟨by rw [HF.out]; rfl, hbw6⟩
      | true =>
        cases hz : hasRel at_ with
        | true =>
          have hr0 : (0 : Int) ≤ r := by have := HR1.out; rw [hz] at this; simpa using this
          cases hh with
          | false =>
            have HF := Lib.hid (show res = false by rw [HQ.out, ya, hz]; rfl)
            go_wp2_with fail
            go_ret
            exact ⟨by rw [HF.out]; rfl, hbi⟩
          | true =>
            have hne := HL0.out rfl
            have hr3 := HR2.out hne
            have hlp : 0 < at_.length := List.length_pos_iff.2 hne
            have hw1 : IntKind.i64.wrap ((at_.length : Int) - 1) = (at_.length : Int) - 1 := by rw [IntKind.wrap_i64]; omega
            cases hl : lastRel at_ with
            | true =>
              rw [hl] at hr3
              have HF := Lib.hid (show res = elemP p nm by rw [HQ.out, ya, hz, hl]; rfl)
              go_wp2_with (first
                | (with_reducible refine wpList_load_row rfl 24 (.tmp 2) rfl w.heap.size rfl 24 cs (0, 0) _ hP1 Tryz.underlying24 rfl hi24 ?_))
              obtain ⟨g1, _⟩ := HV.out wr hbi
              refine (elem_u nm g1 hp).mono ?_
              rintro e6 W6 ⟨rfl, hb6⟩
              have hbw6 := hbi.trans (hb6.mono hbi.size)
              go_wp2_with fail
              go_ret
              exact ⟨by rw [HF.out]; rfl, hbw6⟩
            | false =>
              rw [hl] at hr3
              have HF := Lib.hid (show res = false by rw [HQ.out, ya, hz, hl]; rfl)
              go_wp2_with fail
              go_ret
              exact ⟨by rw [HF.out]; rfl, hbi⟩
        | false =>
          have hr0 : ¬ (0 : Int) ≤ r := by have := HR1.out; rw [hz] at this; simpa using this
          cases hh with
          | true =>
            have HF := Lib.hid (show res = false by rw [HQ.out, ya, hz]; rfl)
            go_wp2_with fail
            go_ret
            exact ⟨by rw [HF.out]; rfl, hbi⟩
          | false =>
            have HF := Lib.hid (show res = elemP p nm by rw [HQ.out, ya, hz]; rfl)
            go_wp2_with (first
              | (with_reducible refine wpList_load_row rfl 24 (.tmp 2) rfl w.heap.size rfl 24 cs (0, 0) _ hP1 Tryz.underlying24 rfl hi24 ?_))
            obtain ⟨g1, _⟩ := HV.out wr hbi
            refine (elem_u nm g1 hp).mono ?_
            rintro e6 W6 ⟨rfl, hb6⟩
            have hbw6 := hbi.trans (hb6.mono hbi.size)
            go_wp2_with fail
            go_ret
            exact ⟨by rw [HF.out]; rfl, hbw6⟩
end Go.Proofs.YtlgaeeedkihfpaaGreatDoor.Uf

/-
  safe.Safe.
-/
namespace Go.Proofs.YtlgaeeedkihfpaaGreatDoor.Uf
open Go.RowKit
open Tz (B Atr Nod Pol AllL eaL eaN elementP safeP stableP sizeL)

theorem ent30 : Ent 30 := ent_of Tryz.func30 (by kernel_rfl) (by kernel_rfl)
def BQ (nm : B) (a : List Atr) : Prop := ∀ x ∈ a, nm.length + x.name.length + x.val.length ≤ 5000000
def FV (P E : Nat) : Value := .func (.func 30) #[] #[.pointer (some ⟨P, 0, none⟩), .pointer (some ⟨E, 0, none⟩)]
def EaAll (N : Nat) : Prop := ∀ (w : World) (S SP : Nat → Prop) (P E : Nat) (cs : Array Value) (p : Pol) (m : Int) (v : Value) (k : List Nod), TreeV w S v k → PolV w SP cs p → PolSmall p → w.cell? ⟨0, 0, none⟩ = some (.int .i64 m) → Blk w P 24 cs → w.cell? ⟨E, 0, none⟩ = some (FV P E) → E < w.heap.size → AllL BQ k → nodsW k < N → nodsW k ≤ 100000000 →
  Calls Tryz.prog 30 #[v, .pointer (some ⟨P, 0, none⟩), .pointer (some ⟨E, 0, none⟩)] w fun e w' => e = .returned (.bool (eaL p k)) ∧ Below w.heap.size w w'
theorem eaL_take {p : Pol} {k : List Nod} {i : Nat} (hi : i < k.length) : eaL p (k.drop i) = (eaN p k[i] && eaL p (k.drop (i + 1))) := by
  rw [List.drop_eq_getElem_cons hi]
  conv => lhs; unfold eaL

set_option maxRecDepth 100000 in
set_option maxHeartbeats 8000000 in
theorem each_step {N : Nat} (HN : EaAll N) : EaAll (N + 1) := by
  intro w S SP P E cs p m v k hT hpv hp hm hP hE hEl hB hN hk
  obtain ⟨A0, c0, _, rfl, _, _, hSl⟩ := id hT
  have hkl := nodsW_len k
  have hi24 : (Tryz.prog.info? 24).map (·.size) = some cs.size := by rw [pol_size hpv]; exact info24
  have HV := Lib.hid (fun V (hV : Below w.heap.size w V) => And.intro (hpv.keep hV) (And.intro (hm_below hm hV) (And.intro (hP.below hV (heap_lt hP)) (And.intro ((hV.cell (p := ⟨E, 0, none⟩) hEl).trans hE) (Nat.lt_of_lt_of_le hEl hV.size)))))
  have H := Lib.hid HN
  have HB := Lib.hid ((Tz.allL_iff k).1 hB)
  clear HN hpv hm hE hB
  obtain ⟨res, hres⟩ : ∃ res, res = eaL p k := ⟨_, rfl⟩
  rw [← hres]
  have HRES := Lib.hid hres
  clear hres
  have hEf : ∀ (args : Array Value) (w : World), (callFunc 30 args).run Tryz.prog w = .ok (.enter 30 args) w := ent30
  go_enter Tryz.func30, Tryz.ntmps30
  go_wp2_with fail
  go_loopw [9] (fun vi wr => ∃ i : Nat, vi = .int .i64 i ∧ i ≤ k.length ∧ Hid (res = eaL p (k.drop i)) ∧ Below w.heap.size w wr) (fun vi _ => k.length - kOf vi)
  case atStart => exact ⟨0, rfl, Nat.zero_le _, HRES, Below.refl _ _⟩
  case round =>
    obtain ⟨i, rfl, hi, HK, hbi⟩ := hrel
    by_cases hlt : i < k.length
    · have t0 : (i : Int) < (k.length : Int) := by omega
      have hTr := hT.keep hbi
      obtain ⟨ad, c1, y0, y1, y2, y3, hkv, hSb, hny, hcells⟩ := hTr.at_ i hlt
      obtain ⟨rfl, rfl⟩ : A0 = some ad ∧ c0 = c1 := by injection hkv with e1 _ e2; exact ⟨e1, e2⟩
      have hmem : nodW k[i] ≤ nodsW k := nodsW_mem (List.getElem_mem hlt)
      have hst := HK.out
      rw [eaL_take hlt] at hst
      have hbn := HB.out k[i] (List.getElem_mem hlt)
      generalize k[i] = n at hny hmem hst hbn
      obtain ⟨nm, at_, tx, kd⟩ := n
      have HST := Lib.hid hst
      have hwk : nodsW kd + aw at_ + nm.length + tx.length + 1 = nodW (.mk nm at_ tx kd) := by simp [nodW]; omega
      have hal := aw_len at_
      clear hst hkv HK
      have hi1 : IntKind.i64.wrap ((i : Int) + 1) = ((i + 1 : Nat) : Int) := by rw [IntKind.wrap_i64]; omega
      have hny0 := hny
      unfold NodC at hny0
      obtain ⟨A1, ca, K1, ck, zs, ey, hA1, _, _⟩ := hny0
      simp only [List.cons.injEq, and_true] at ey
      obtain ⟨rfl, rfl, rfl, rfl⟩ := ey
      have hone := hny.one_
      have o0 := hone (.string (bs nm)) (by simp)
      have o1 := hone (.slice A1 at_.length ca) (by simp)
      have o2 := hone (.string (bs tx)) (by simp)
      have o3 := hone (.slice K1 kd.length ck) (by simp)
      have HX := Lib.hid (And.intro hny hA1)
      have hP1 : wr.heap[P]? = some (.cells cs 24 (0, 0)) := (HV.out wr hbi).2.2.1
      clear hny hone hTr hA1
      by_cases hnm : nm = []
      · have hnm2 := hnm
        subst hnm2
        have en : (([] : B) == ([] : B)) = true := rfl
        have en2 : (([] : B) != ([] : B)) = false := rfl
        have HST3 := Lib.hid (show res = eaL p (k.drop (i + 1)) by rw [HST.out]; unfold eaN; simp)
        go_wp2_with (first
          | (with_reducible refine wpList_load_at rfl 61 (.tmp 11) rfl (ad.add (i * 4)) rfl [.string (bs []), .slice A1 at_.length ca, .string (bs tx), .slice K1 kd.length ck] _ hcells Tryz.underlying61 rfl (by kernel_rfl) ?_)
          | ((with_reducible refine store_new rfl 61 (.tmp 6) (.tmp 12) rfl #[.string (bs []), .slice A1 at_.length ca, .string (bs tx), .slice K1 kd.length ck] rfl rfl (by kernel_rfl) (by kernel_rfl) (by simp [o0, o1, o2, o3]) ?_); intro W3 hB3 hb3; have n0 : W3.cell? ⟨wr.heap.size, 0, none⟩ = some (.string (bs [])) := Blk.cell hB3 0; have hP3 : W3.heap[P]? = some (.cells cs 24 (0, 0)) := (hb3.block _ (heap_lt hP1)).trans hP1)
          | (with_reducible refine wpList_load_rowG rfl 24 (.tmp 1) rfl P rfl 24 cs (0, 0) _ hP3 Tryz.underlying24 rfl hi24 ?_)
          | (with_reducible refine wpList_load_rowG rfl 61 (.tmp 6) rfl wr.heap.size rfl 61 #[.string (bs []), .slice A1 at_.length ca, .string (bs tx), .slice K1 kd.length ck] (0, 0) _ hB3 Tryz.underlying61 rfl (by kernel_rfl) ?_))
        go_roundw
        case rel => exact ⟨i + 1, rfl, hlt, HST3, hbi.trans (hb3.mono hbi.size)⟩
        case measure =>
          show k.length - kOf (.int .i64 ((i + 1 : Nat) : Int)) < k.length - kOf (.int .i64 (i : Int))
          simp only [kOf, Int.toNat_natCast]
          omega
      · have en : (nm == ([] : B)) = false := by simpa using hnm
        have en2 : (nm != ([] : B)) = true := by simpa using hnm
        have hbn2 : BQ nm at_ ∧ AllL BQ kd := by
          unfold Tz.AllN at hbn
          rcases hbn with h | h
          · exact absurd h hnm
          · exact h
        have HST2 := Lib.hid (show res = (elementP p nm at_ && eaL p kd && eaL p (k.drop (i + 1))) by
          rw [HST.out]
          unfold eaN
          have : (nm == ([] : B)) = false := en
          rw [this]
          simp)
        clear hbn HST
        go_wp2_with (first
          | (with_reducible refine wpList_load_at rfl 61 (.tmp 11) rfl (ad.add (i * 4)) rfl [.string (bs nm), .slice A1 at_.length ca, .string (bs tx), .slice K1 kd.length ck] _ hcells Tryz.underlying61 rfl (by kernel_rfl) ?_)
          | ((with_reducible refine store_new rfl 61 (.tmp 6) (.tmp 12) rfl #[.string (bs nm), .slice A1 at_.length ca, .string (bs tx), .slice K1 kd.length ck] rfl rfl (by kernel_rfl) (by kernel_rfl) (by simp [o0, o1, o2, o3]) ?_); intro W3 hB3 hb3; have n0 : W3.cell? ⟨wr.heap.size, 0, none⟩ = some (.string (bs nm)) := Blk.cell hB3 0; have hP3 : W3.heap[P]? = some (.cells cs 24 (0, 0)) := (hb3.block _ (heap_lt hP1)).trans hP1)
          | (with_reducible refine wpList_load_rowG rfl 24 (.tmp 1) rfl P rfl 24 cs (0, 0) _ hP3 Tryz.underlying24 rfl hi24 ?_)
          | (with_reducible refine wpList_load_rowG rfl 61 (.tmp 6) rfl wr.heap.size rfl 61 #[.string (bs nm), .slice A1 at_.length ca, .string (bs tx), .slice K1 kd.length ck] (0, 0) _ hB3 Tryz.underlying61 rfl (by kernel_rfl) ?_))
        have hbw3 := hbi.trans (hb3.mono hbi.size)
        have hR3 : Blk W3 wr.heap.size 61 #[.string (bs nm), .slice A1 at_.length ca, .string (bs tx), .slice K1 kd.length ck] := hB3
        have hA3 := HX.out.2.keep (KeepS.below hb3 (fun g hg => Nat.lt_of_lt_of_le (hSl g hg) hbi.size))
        have hny3 := NodC.keep (KeepS.below hb3 (fun g hg => Nat.lt_of_lt_of_le (hSl g hg) hbi.size)) _ _ HX.out.1
        obtain ⟨g1, g2, _⟩ := HV.out W3 hbw3
        clear hB3 n0 hP3 hcells hP1
        refine (element_u g1 hp g2 hA3 (fun g hg => Nat.lt_of_lt_of_le (hSl g hg) hbw3.size) hbn2.1 (by omega)).mono ?_
        generalize elementP p nm at_ = z at HST2
        rintro e4 W4 ⟨rfl, hb4⟩
        have hbw4 := hbw3.trans (hb4.mono hbw3.size)
        have hR4 := hR3.below hb4 (heap_lt hR3)
        have hny4 := NodC.keep (KeepS.below hb4 (fun g hg => Nat.lt_of_lt_of_le (hSl g hg) hbw3.size)) _ _ hny3
        clear hR3 hny3 hA3 hb4 hb3 hbw3 g1 g2
        cases z with
        | false =>
          go_wp2_with fail
          go_ret
          have hr : res = false := by rw [HST2.out]; rfl
          exact ⟨by rw [hr]; rfl, hbw4⟩
        | true =>
          have q3 : W4.cell? ⟨wr.heap.size, 3, none⟩ = some (.slice K1 kd.length ck) := Blk.cell hR4 3
          obtain ⟨g1, g2, g3, g4, g5⟩ := HV.out W4 hbw4
          have g4' : W4.cell? ⟨E, 0, none⟩ = some (.func (.func 30) #[] #[.pointer (some ⟨P, 0, none⟩), .pointer (some ⟨E, 0, none⟩)]) := g4
          have hTz : TreeV W4 S (.slice K1 kd.length ck) kd := kids_tree hny4 (fun g hg => Nat.lt_of_lt_of_le (hSl g hg) hbw4.size)
          have HC := Lib.hid (H.out W4 S SP P E cs p m (.slice K1 kd.length ck) kd hTz g1 hp g2 g3 g4 g5 hbn2.2 (by omega) (by omega))
          clear g1 g2 g3 g4 g5 hny4 hTz hR4
          go_wp2_with fail
          refine HC.out.mono ?_
          generalize eaL p kd = z2 at HST2
          rintro e5 W5 ⟨rfl, hb5⟩
          have hbw5 := hbw4.trans (hb5.mono hbw4.size)
          clear g4' q3
          cases z2 with
          | false =>
            go_wp2_with fail
            go_ret
            have hr : res = false := by rw [HST2.out]; rfl
            exact ⟨by rw [hr]; rfl, hbw5⟩
          | true =>
            have HST3 := Lib.hid (show res = eaL p (k.drop (i + 1)) by rw [HST2.out]; rfl)
            go_wp2_with fail
            go_roundw
            case rel => exact ⟨i + 1, rfl, hlt, HST3, hbw5⟩
            case measure =>
              show k.length - kOf (.int .i64 ((i + 1 : Nat) : Int)) < k.length - kOf (.int .i64 (i : Int))
              simp only [kOf, Int.toNat_natCast]
              omega
    · have t0 : ¬ ((i : Int) < (k.length : Int)) := by omega
      have Hst := Lib.hid (show res = true by rw [HK.out, List.drop_of_length_le (by omega)]; simp [eaL])
      go_wp2_with fail
      go_ret
      exact ⟨by rw [Hst.out]; rfl, hbi⟩
theorem each_all : ∀ N, EaAll N
  | 0 => fun _ _ _ _ _ _ _ _ _ _ _ _ _ _ _ _ _ _ h => absurd h (by omega)
  | N + 1 => each_step (each_all N)
end Go.Proofs.YtlgaeeedkihfpaaGreatDoor.Uf

/-
  safe.Safe: whole.
-/
namespace Go.Proofs.YtlgaeeedkihfpaaGreatDoor.Uf
open Go.RowKit
open Tz (B Atr Nod Pol AllL eaL safeP stableP sizeL)

set_option maxRecDepth 100000 in
set_option maxHeartbeats 8000000 in
theorem safe_u {w : World} {S SP : Nat → Prop} {cs : Array Value} {p : Pol} {m : Int} {v : Value} {k : List Nod} (hT : TreeV w S v k) (hpv : PolV w SP cs p) (hp : PolSmall p) (hm : w.cell? ⟨0, 0, none⟩ = some (.int .i64 m)) (hB : AllL BQ k) (hk : nodsW k ≤ 100000000) :
    Calls Tryz.prog 13 #[.agg cs, v] w fun e w' => e = .returned (.bool (safeP p k)) ∧ Below w.heap.size w w' := by
  have hcs := pol_cells hpv
  have ⟨k6, k7⟩ : cs[6]? = some (.int .i64 p.depth) ∧ cs[7]? = some (.int .i64 p.nodes) := by
    obtain ⟨_, _, _, _, _, _, _, _, _, _, ⟨_, _, _, _, _, _, k6, k7, _⟩, _⟩ := hpv.cells
    exact ⟨k6, k7⟩
  have hb : Below w.heap.size w (w.alloc (.cells cs 24)) := (Below.refl _ w).alloc (Nat.le_refl _) _
  have hP : Blk (w.alloc (.cells cs 24)) w.heap.size 24 cs := Blk.new w 24 cs
  have HV := Lib.hid (fun V (hV : Below w.heap.size w V) => And.intro (hpv.keep hV) (And.intro (hm_below hm hV) (hT.keep hV)))
  have HK67 := Lib.hid (And.intro k6 k7)
  obtain ⟨res, hres⟩ : ∃ res, res = safeP p k := ⟨_, rfl⟩
  rw [← hres]
  have HRES := Lib.hid (show res = (decide (((sizeL k).1 : Int) ≤ p.nodes) && decide (((sizeL k).2 : Int) ≤ p.depth) && stableP k && eaL p k) from hres)
  clear hres hT hpv hm k6 k7
  go_enter Tryz.func13, Tryz.ntmps13
  apply wp_seq_k
  intro K' hK
  have HK := Lib.hid hK
  clear hK
  go_wp2_with fail
  refine HK.out _ _ ?_
  clear HK K' hcs
  generalize (w.alloc (.cells cs 24)) = V at hb hP ⊢
  go_wp2_with fail
  obtain ⟨_, _, g3⟩ := HV.out V hb
  refine (size_u g3 (by omega)).mono ?_
  rintro e1 V1 ⟨rfl, hb1⟩
  have hP1 := hP.below hb1 (heap_lt hP)
  have hbw1 := hb.trans (hb1.mono hb.size)
  clear hP hb hb1 g3
  have c7 : V1.cell? ⟨w.heap.size, 7, none⟩ = some (.int .i64 p.nodes) := (Blk.cell hP1 7).trans HK67.out.2
  have c6 : V1.cell? ⟨w.heap.size, 6, none⟩ = some (.int .i64 p.depth) := (Blk.cell hP1 6).trans HK67.out.1
  generalize (sizeL k).1 = many at HRES
  generalize (sizeL k).2 = deep at HRES
  by_cases h1 : p.nodes < (many : Int)
  · have HR := Lib.hid (show res = false by rw [HRES.out, show decide ((many : Int) ≤ p.nodes) = false by simp; omega]; rfl)
    go_wp2_with fail
    go_ret
    exact ⟨by rw [HR.out]; rfl, hbw1⟩
  by_cases h2 : p.depth < (deep : Int)
  · have HR := Lib.hid (show res = false by rw [HRES.out, show decide ((deep : Int) ≤ p.depth) = false by simp; omega]; simp)
    go_wp2_with fail
    go_ret
    exact ⟨by rw [HR.out]; rfl, hbw1⟩
  have HR := Lib.hid (show res = (stableP k && eaL p k) by rw [HRES.out, show decide ((many : Int) ≤ p.nodes) = true by simp; omega, show decide ((deep : Int) ≤ p.depth) = true by simp; omega]; rfl)
  go_wp2_with fail
  obtain ⟨_, _, g3⟩ := HV.out V1 hbw1
  refine (stab_u g3 hk).mono ?_
  generalize stableP k = z at HR
  rintro e2 V2 ⟨rfl, hb2⟩
  have hP2 := hP1.below hb2 (heap_lt hP1)
  have hbw2 := hbw1.trans (hb2.mono hbw1.size)
  clear hP1 hbw1 hb2 g3 c7 c6
  cases z with
  | false =>
    go_wp2_with fail
    go_ret
    have hr : res = false := by rw [HR.out]; rfl
    exact ⟨by rw [hr]; rfl, hbw2⟩
  | true =>
    have hEf : ∀ (args : Array Value) (w : World), (callFunc 30 args).run Tryz.prog w = .ok (.enter 30 args) w := ent30
    have hst := store_fn V2 V2.heap.size rfl 72 (.func 30) #[.pointer (some ⟨w.heap.size, 0, none⟩), .pointer (some ⟨V2.heap.size, 0, none⟩)]
    have hP3 : Blk (V2.alloc (.cells #[FV w.heap.size V2.heap.size] 72)) w.heap.size 24 cs := Blk.alloc hP2 _
    have hE3 : Blk (V2.alloc (.cells #[FV w.heap.size V2.heap.size] 72)) V2.heap.size 72 #[FV w.heap.size V2.heap.size] := Blk.new V2 72 _
    have hb3 : Below w.heap.size w (V2.alloc (.cells #[FV w.heap.size V2.heap.size] 72)) := hbw2.alloc hbw2.size _
    have HX := Lib.hid (And.intro hP3 (And.intro hE3 hb3))
    clear hP3 hE3 hb3 hP2 hbw2
    go_wp2_with fail
    obtain ⟨hP3, hE3, hb3⟩ := HX.out
    have hE4 : (V2.alloc (.cells #[FV w.heap.size V2.heap.size] 72)).cell? ⟨V2.heap.size, 0, none⟩ = some (FV w.heap.size V2.heap.size) := Blk.cell hE3 0
    have hEl := heap_lt hE3
    clear hst HX
    obtain ⟨g1, g2, g3⟩ := HV.out _ hb3
    refine (each_all (nodsW k + 1) _ S SP w.heap.size V2.heap.size cs p m v k g3 g1 hp g2 hP3 hE4 hEl hB (by omega) hk).mono ?_
    generalize eaL p k = z2 at HR
    rintro e5 W5 ⟨rfl, hb5⟩
    have hbw5 := hb3.trans (hb5.mono hb3.size)
    go_wp2_with fail
    go_ret
    have hr : res = z2 := by rw [HR.out]; rfl
    exact ⟨by rw [hr]; rfl, hbw5⟩
end Go.Proofs.YtlgaeeedkihfpaaGreatDoor.Uf
