/-
  Texts of the proof of Harm, one behind the other: TopC, TopD.
-/
import Derived.Test.YtlgaeeedkihfpaaGreatDoorH31
/-
  versoref08.Light: where it says so, a policy's lists are small.
-/
namespace Go.Proofs.YtlgaeeedkihfpaaGreatDoor.Uf
open Go.RowKit
open Tz (B Pol)

def listsP (p : Pol) : List (List B) := [p.elems, p.attrs, p.schemes, p.classes, p.props]
/-- A list whose texts are short, cut at 10000, and which is itself short. -/
def LightL (l : List B) (T : Nat) : Prop := l.length ≤ 100 ∧ ∀ s ∈ l, min s.length 10000 ≤ T
theorem LightL.mono {l : List B} {T T' : Nat} (h : LightL l T) (hT : T ≤ T') : LightL l T' := ⟨h.1, fun s hs => Nat.le_trans (h.2 s hs) hT⟩
theorem LightL.small {l : List B} {T : Nat} (h : LightL l T) (hT : T < 6000) : Small l := ⟨by have := h.1; omega, fun s hs => by have := h.2 s hs; omega⟩
theorem light_small {p : Pol} {T : Nat} (h : ∀ j (hj : j < 5), LightL ((listsP p)[j]'hj) T) (hT : T < 6000) : PolSmall p :=
  ⟨(h 0 (by omega)).small hT, (h 1 (by omega)).small hT, (h 2 (by omega)).small hT, (h 3 (by omega)).small hT, (h 4 (by omega)).small hT⟩

def LightR (p : Pol) (e : Ending) : Prop := ∃ b, e = .returned (.bool b) ∧ (b = true → PolSmall p)

set_option maxRecDepth 100000 in
set_option maxHeartbeats 8000000 in
theorem light_u {w : World} {SP : Nat → Prop} {cs : Array Value} {p : Pol} (h : PolV w SP cs p) :
    Calls Tryz.prog 6 #[.agg cs] w fun e w' => LightR p e ∧ Below w.heap.size w w' := by
  have hcs := pol_cells h
  obtain ⟨A1, c1, A2, c2, A3, c3, A4, c4, A5, c5, ⟨_, k1, k2, k3, k4, k5, _, _, _⟩, h1, h2, h3, h4, h5, h6⟩ := h.cells
  have hb : Below w.heap.size w (w.alloc (.cells cs 24)) := (Below.refl _ w).alloc (Nat.le_refl _) _
  have hP : Blk (w.alloc (.cells cs 24)) w.heap.size 24 cs := Blk.new w 24 cs
  have hrow : ∀ i (hi : i < 5), ∃ A c, (#[.slice A1 p.elems.length c1, .slice A2 p.attrs.length c2, .slice A3 p.schemes.length c3, .slice A4 p.classes.length c4, .slice A5 p.props.length c5] : Array Value)[i]? = some (.slice A ((listsP p)[i]'hi).length c) ∧ StrsAt w SP A ((listsP p)[i]'hi).length ((listsP p)[i]'hi) := fun i hi => by
    match i, hi with
    | 0, _ => exact ⟨A1, c1, rfl, h1⟩
    | 1, _ => exact ⟨A2, c2, rfl, h2⟩
    | 2, _ => exact ⟨A3, c3, rfl, h3⟩
    | 3, _ => exact ⟨A4, c4, rfl, h4⟩
    | 4, _ => exact ⟨A5, c5, rfl, h5⟩
  have HR := Lib.hid hrow
  have HK := Lib.hid (And.intro k1 (And.intro k2 (And.intro k3 (And.intro k4 k5))))
  clear hrow h h1 h2 h3 h4 h5 k1 k2 k3 k4 k5
  go_enter Tryz.func6, Tryz.ntmps6
  apply wp_seq_k
  intro K' hK
  have HKK := Lib.hid hK
  clear hK
  go_wp2_with fail
  refine HKK.out _ _ ?_
  clear HKK K' hcs
  generalize (w.alloc (.cells cs 24)) = V at hb hP ⊢
  have q1 : V.cell? ⟨w.heap.size, 1, none⟩ = some (.slice A1 p.elems.length c1) := (Blk.cell hP 1).trans HK.out.1
  have q2 : V.cell? ⟨w.heap.size, 2, none⟩ = some (.slice A2 p.attrs.length c2) := (Blk.cell hP 2).trans HK.out.2.1
  have q3 : V.cell? ⟨w.heap.size, 3, none⟩ = some (.slice A3 p.schemes.length c3) := (Blk.cell hP 3).trans HK.out.2.2.1
  have q4 : V.cell? ⟨w.heap.size, 4, none⟩ = some (.slice A4 p.classes.length c4) := (Blk.cell hP 4).trans HK.out.2.2.2.1
  have q5 : V.cell? ⟨w.heap.size, 5, none⟩ = some (.slice A5 p.props.length c5) := (Blk.cell hP 5).trans HK.out.2.2.2.2
  go_wp2_with fail
  have hR : Blk (V.alloc (.cells #[.slice A1 p.elems.length c1, .slice A2 p.attrs.length c2, .slice A3 p.schemes.length c3, .slice A4 p.classes.length c4, .slice A5 p.props.length c5] 22)) V.heap.size 22 #[.slice A1 p.elems.length c1, .slice A2 p.attrs.length c2, .slice A3 p.schemes.length c3, .slice A4 p.classes.length c4, .slice A5 p.props.length c5] := Blk.new V 22 _
  have hb2 : Below w.heap.size w (V.alloc (.cells #[.slice A1 p.elems.length c1, .slice A2 p.attrs.length c2, .slice A3 p.schemes.length c3, .slice A4 p.classes.length c4, .slice A5 p.props.length c5] 22)) := hb.alloc hb.size _
  have hvs := hb.size
  clear q1 q2 q3 q4 q5 hP HK
  generalize (V.alloc (.cells #[.slice A1 p.elems.length c1, .slice A2 p.attrs.length c2, .slice A3 p.schemes.length c3, .slice A4 p.classes.length c4, .slice A5 p.props.length c5] 22)) = V2 at hR hb2 ⊢
  have hRl := heap_lt hR
  go_loopw [19, 3] (fun vi vt wr => ∃ i T : Nat, vi = .int .i64 i ∧ vt = .int .i64 T ∧ i ≤ 5 ∧ T ≤ 1000000 * i ∧ (∀ j (hj : j < 5), j < i → LightL ((listsP p)[j]'hj) T) ∧ Below V2.heap.size V2 wr) (fun vi _ _ => 5 - kOf vi)
  case atStart => exact ⟨0, 0, rfl, rfl, by omega, by omega, fun _ _ h => absurd h (by omega), Below.refl _ _⟩
  case round =>
    obtain ⟨i, T, rfl, rfl, hi, hT, hL, hbi⟩ := hrel
    by_cases hlt : i < 5
    · have t0 : (i : Int) < 5 := by omega
      obtain ⟨A, c, hcell, hstr⟩ := HR.out i hlt
      have kc : wr.cell? ⟨V.heap.size, i, none⟩ = some (.slice A ((listsP p)[i]'hlt).length c) := ((hbi.cell (p := ⟨V.heap.size, i, none⟩) hRl).trans (Blk.cell hR i)).trans hcell
      have hi1 : IntKind.i64.wrap ((i : Int) + 1) = ((i + 1 : Nat) : Int) := by rw [IntKind.wrap_i64]; omega
      obtain ⟨l, hl⟩ : ∃ l, l = (listsP p)[i]'hlt := ⟨_, rfl⟩
      rw [← hl] at kc hstr
      have HL := Lib.hid (And.intro hl hL)
      clear hl hL hcell
      by_cases h100 : l.length ≤ 100
      · have t1 : ¬ ((100 : Int) < (l.length : Int)) := by omega
        go_wp2_with fail
        go_loopw [6, 3] (fun vi vt wq => ∃ k T2 : Nat, vi = .int .i64 k ∧ vt = .int .i64 T2 ∧ k ≤ l.length ∧ T ≤ T2 ∧ T2 ≤ T + 10000 * k ∧ (∀ s ∈ l.take k, min s.length 10000 ≤ T2) ∧ Below V2.heap.size V2 wq) (fun vi _ _ => l.length - kOf vi)
        case atStart => exact ⟨0, T, rfl, rfl, Nat.zero_le _, Nat.le_refl _, by omega, fun _ h => by simp at h, hbi⟩
        case round =>
          clear kc
          obtain ⟨k, T2, rfl, rfl, hk, hT1, hT2, hmin, hbk⟩ := hrel
          by_cases hkl : k < l.length
          · have t2 : (k : Int) < (l.length : Int) := by omega
            obtain ⟨g, o, rfl, hSg, hcs⟩ := hstr.2 (by omega)
            have kc : wr.cell? ⟨g, o + k, none⟩ = some (.string (bs l[k])) := by
              have hg := h6 g hSg
              refine (hbk.cell (p := ⟨g, o + k, none⟩) (by show g < V2.heap.size; have := hb2.size; omega)).trans ?_
              exact (hb2.cell (p := ⟨g, o + k, none⟩) hg).trans (hcs k hkl)
            have hmem : ∀ s ∈ l.take (k + 1), s ∈ l.take k ∨ s = l[k] := fun s hs => by
              rw [List.take_add_one, List.getElem?_eq_getElem hkl, List.mem_append] at hs
              exact hs.imp id (fun h => by simpa using h)
            generalize l[k] = x at kc hmem
            have hi2 : IntKind.i64.wrap ((k : Int) + 1) = ((k + 1 : Nat) : Int) := by rw [IntKind.wrap_i64]; omega
            obtain ⟨M, hM⟩ : ∃ M, M = min x.length 10000 := ⟨_, rfl⟩
            have hMle : M ≤ 10000 := by omega
            have mm : min ((bs x).size : Int) 10000 = (M : Int) := by rw [bs_size]; omega
            have hi3 : IntKind.i64.wrap ((T2 : Int) + (M : Int)) = ((T2 + M : Nat) : Int) := by rw [IntKind.wrap_i64]; omega
            have HM := Lib.hid (And.intro hM (And.intro hmem hmin))
            clear hM hmem hmin
            go_wp2_with fail
            go_roundw
            case rel =>
              refine ⟨k + 1, T2 + M, by go_num, by go_num, hkl, by omega, by omega, fun s hs => ?_, hbk⟩
              rcases HM.out.2.1 s hs with h | rfl
              · have := HM.out.2.2 s h
                omega
              · have := HM.out.1
                omega
            case measure =>
              show l.length - kOf (.int .i64 ((k + 1 : Nat) : Int)) < l.length - kOf (.int .i64 (k : Int))
              simp only [kOf, Int.toNat_natCast]
              omega
          · have t2 : ¬ (k : Int) < (l.length : Int) := by omega
            have hkt : l.take k = l := List.take_of_length_le (by omega)
            rw [hkt] at hmin
            go_wp2_with fail
            go_roundw
            case rel =>
              refine ⟨i + 1, T2, rfl, rfl, hlt, by omega, fun j hj hj1 => ?_, hbk⟩
              rcases Nat.lt_or_ge j i with h | h
              · exact (HL.out.2 j hj h).mono hT1
              · obtain rfl : j = i := by omega
                rw [← HL.out.1]
                exact ⟨h100, hmin⟩
            case measure =>
              show 5 - kOf (.int .i64 ((i + 1 : Nat) : Int)) < 5 - kOf (.int .i64 (i : Int))
              simp only [kOf, Int.toNat_natCast]
              omega
      · have t1 : (100 : Int) < (l.length : Int) := by omega
        go_wp2_with fail
        go_ret
        exact ⟨⟨false, rfl, fun h => by cases h⟩, hb2.trans (hbi.mono hb2.size)⟩
    · have t0 : ¬ (i : Int) < 5 := by omega
      obtain rfl : i = 5 := by omega
      by_cases hT6 : T < 6000
      · have t1 : (T : Int) < 6000 := by omega
        go_wp2_with fail
        go_ret
        exact ⟨⟨true, rfl, fun _ => light_small (fun j hj => hL j hj hj) hT6⟩, hb2.trans (hbi.mono hb2.size)⟩
      · have t1 : ¬ (T : Int) < 6000 := by omega
        go_wp2_with fail
        go_ret
        exact ⟨⟨false, rfl, fun h => by cases h⟩, hb2.trans (hbi.mono hb2.size)⟩
end Go.Proofs.YtlgaeeedkihfpaaGreatDoor.Uf

/-
  versotop.TopHarm: true, whatever it is called with.
-/
namespace Go.Proofs.YtlgaeeedkihfpaaGreatDoor.Uf
open Go.RowKit
open Tz (B Pol rightP foldS htmlL badL toksL buildL sizeL)

theorem clean_good (p : Pol) (pg : B) : badL (cleanS p pg).1 = false := by
  cases hr : rightP p with
  | false => rw [clean_wrong hr]; rfl
  | true =>
    by_cases hl : p.bytes < (pg.length : Int)
    · rw [clean_long hr hl]; rfl
    · cases hb : buildL (toksL (fixU pg)) with
      | none => rw [clean_none hr hl hb]; exact Tz.bad_esc _
      | some k =>
        by_cases h1 : ((sizeL (foldS p [] k)).1 : Int) ≤ p.nodes ∧ ((sizeL (foldS p [] k)).2 : Int) ≤ p.depth
        · rw [clean_fits hr hl hb h1.1 h1.2]; exact Tz.harm_html hr k
        · rw [clean_over hr hl hb h1]; exact Tz.bad_esc _
theorem clean_len (p : Pol) (pg : B) (hl : pg.length ≤ 3000) : (cleanS p pg).1.length ≤ 40000000 := by
  have hf := fixU_len pg
  have he := esc_len false (fixU pg).length (fixU pg) (Nat.le_refl _)
  cases hr : rightP p with
  | false => rw [clean_wrong hr]; simp
  | true =>
    by_cases hl : p.bytes < (pg.length : Int)
    · rw [clean_long hr hl]; simp
    · cases hb : buildL (toksL (fixU pg)) with
      | none => rw [clean_none hr hl hb]; show (Tz.escapeL false (fixU pg)).length ≤ _; omega
      | some k =>
        by_cases h1 : ((sizeL (foldS p [] k)).1 : Int) ≤ p.nodes ∧ ((sizeL (foldS p [] k)).2 : Int) ≤ p.depth
        · rw [clean_fits hr hl hb h1.1 h1.2]
          have h2 := page_w (by omega) hb
          have h3 := foldS_w p [] k
          have h4 := htmlL_len (foldS p [] k)
          simp only [nodsW, Nat.zero_add] at h3
          show (htmlL (foldS p [] k)).length ≤ _
          omega
        · rw [clean_over hr hl hb h1]; show (Tz.escapeL false (fixU pg)).length ≤ _; omega
theorem clean_ok (p : Pol) (pg : B) : (((cleanS p pg).2 == (0 : Int)) || ((cleanS p pg).1 == ([] : B))) = true := by
  by_cases h : (cleanS p pg).2 = 0
  · rw [h]; rfl
  · rw [clean_fail h]; simp

set_option maxRecDepth 100000 in
set_option maxHeartbeats 8000000 in
theorem harm_u {w : World} {SP : Nat → Prop} {cs : Array Value} {p : Pol} {m : Int} {N0 n c : Nat} {A : Option Addr} {xs : List Int} {pg : B} (h : PolV w SP cs p) (hm : w.cell? ⟨0, 0, none⟩ = some (.int .i64 m)) (hr : Reads w N0 1 A n (cellsOf xs)) (hN0 : N0 ≤ w.heap.size) (hpg : bs pg = strOfNums xs) (hn : n = pg.length) :
    Calls Tryz.prog 3 #[.agg cs, .slice A n c] w fun e w' => e = .returned (.bool true) ∧ Below w.heap.size w w' := by
  have hcs := pol_cells h
  have hsz : cs.size = 9 := by
    obtain ⟨_, _, _, _, _, _, _, _, _, _, rfl, _⟩ := h
    rfl
  have hi24 : (Tryz.prog.info? 24).map (·.size) = some cs.size := by rw [hsz]; kernel_rfl
  have hb : Below w.heap.size w (w.alloc (.cells cs 24)) := (Below.refl _ w).alloc (Nat.le_refl _) _
  have hP : Blk (w.alloc (.cells cs 24)) w.heap.size 24 cs := Blk.new w 24 cs
  have hval : ∀ V, Below w.heap.size w V → PolV V SP cs p ∧ V.cell? ⟨0, 0, none⟩ = some (.int .i64 m) ∧ Reads V N0 1 A n (cellsOf xs) ∧ N0 ≤ V.heap.size := fun V hV => ⟨h.keep hV, hm_below hm hV, hr.below (hV.mono hN0), Nat.le_trans hN0 hV.size⟩
  have HV := Lib.hid hval
  have HG := Lib.hid hpg
  clear hval h hm hr hpg hcs hN0
  subst hn
  go_enter Tryz.func3, Tryz.ntmps3
  apply wp_seq_k
  intro K' hK
  have HK := Lib.hid hK
  clear hK
  go_wp2_with fail
  refine HK.out _ _ ?_
  clear HK K'
  generalize (w.alloc (.cells cs 24)) = V at hb hP ⊢
  go_wp2_with fail
  obtain ⟨_, g2, _, _⟩ := HV.out V hb
  refine (cleanc_u g2).mono ?_
  rintro e1 V1 ⟨rfl, hb1⟩
  have hP1 := hP.below hb1 (heap_lt hP)
  have hbw1 := hb.trans (hb1.mono hb.size)
  have hP1' : V1.heap[w.heap.size]? = some (.cells cs 24 (0, 0)) := hP1
  clear hP hb hb1 g2
  go_wp2_with (first
    | (with_reducible refine wpList_load_row rfl 24 (.tmp 2) rfl w.heap.size rfl 24 cs (0, 0) _ hP1' Tryz.underlying24 rfl hi24 ?_))
  obtain ⟨g1, _, _, _⟩ := HV.out V1 hbw1
  refine (light_u g1).mono ?_
  rintro e2 V2 ⟨⟨b, rfl, hsm⟩, hb2⟩
  have hP2 := hP1.below hb2 (heap_lt hP1)
  have hbw2 := hbw1.trans (hb2.mono hbw1.size)
  have hP2' : V2.heap[w.heap.size]? = some (.cells cs 24 (0, 0)) := hP2
  clear hP1 hP1' hb2 hbw1 g1
  cases b with
  | false =>
    clear hsm
    go_wp2_with fail
    go_ret
    exact ⟨rfl, hbw2⟩
  | true =>
    have hsm2 := Lib.hid (hsm rfl)
    clear hsm
    by_cases hl : (3000 : Int) < (pg.length : Int)
    · go_wp2_with fail
      go_ret
      exact ⟨rfl, hbw2⟩
    · go_wp2_with (first
        | (with_reducible refine wpList_load_row rfl 24 (.tmp 2) rfl w.heap.size rfl 24 cs (0, 0) _ hP2' Tryz.underlying24 rfl hi24 ?_))
      obtain ⟨g1, g2, g3, g4⟩ := HV.out V2 hbw2
      refine (clean_u g1 hsm2.out g2 g3 g4 HG.out rfl (by omega)).mono ?_
      rintro e3 V3 ⟨rfl, hb3⟩
      have hbw3 := hbw2.trans (hb3.mono hbw2.size)
      have hlen := clean_len p pg (by omega)
      have hgood := clean_good p pg
      have hok := clean_ok p pg
      generalize cleanS p pg = res at hlen hgood hok
      obtain ⟨s, er⟩ := res
      simp only at hlen hgood hok
      clear g1 g2 g3 g4 hP2 hP2' hb3 hbw2
      have HO := Lib.hid (And.intro hlen (And.intro hgood hok))
      clear hlen hgood hok
      go_wp2_with fail
      obtain ⟨_, g2, _, _⟩ := HV.out V3 hbw3
      refine (bad_u s HO.out.1 g2).mono ?_
      rw [HO.out.2.1]
      rintro e4 V4 ⟨rfl, hb4⟩
      have hbw4 := hbw3.trans (hb4.mono hbw3.size)
      clear g2 hb4 hbw3
      cases y1 : (er == (0 : Int)) with
      | true =>
        go_wp2_with fail
        go_ret
        exact ⟨rfl, hbw4⟩
      | false =>
        have y2 : (s == ([] : B)) = true := by
          have := HO.out.2.2
          rw [y1] at this
          simpa using this
        go_wp2_with fail
        go_ret
        exact ⟨rfl, hbw4⟩
end Go.Proofs.YtlgaeeedkihfpaaGreatDoor.Uf
