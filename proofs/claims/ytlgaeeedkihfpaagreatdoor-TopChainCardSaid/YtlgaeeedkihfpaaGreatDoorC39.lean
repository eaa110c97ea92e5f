/-
  Texts of the proof of Chain, one behind the other: ChgJ, ChgK.
-/
import Derived.Test.YtlgaeeedkihfpaaGreatDoorC38
import Derived.Test.YtlgaeeedkihfpaaGreatDoorC34
import Derived.Test.YtlgaeeedkihfpaaGreatDoorC29
import Derived.Test.YtlgaeeedkihfpaaGreatDoorC31
import Derived.Lib.ConvBytes
/-
  A cleaned page along a chain: its tree, its tokens and their bounds (plain).
-/
namespace Go.Proofs.YtlgaeeedkihfpaaGreatDoor.Uf
open Tz (B Atr Nod Tok Pol rightP toksL buildL foldS nodeS putS attrsS htmlL sizeL sizeN escapeL AllL AllN tkL tkN safeP strictP txt GoodL GoodN FiL TxL htmlN voidL)

theorem allB_attrs (p : Pol) (n : B) (a : List Atr) (h : n.length + aw a ≤ 800000) : BQ n (attrsS p n a) := fun x hx => by
  have h1 := attrsS_w p n a
  have h2 := aw_mem hx
  omega
mutual
theorem allB_node (p : Pol) : ∀ (out : List Nod) (n : Nod), nodW n ≤ 800000 → AllL BQ out → AllL BQ (nodeS p out n)
  | out, .mk n a t k, hw, ho => by
    have hw' : n.length + t.length + aw a + nodsW k + 1 ≤ 800000 := by simpa [nodW] using hw
    unfold nodeS
    split
    · rename_i h1
      exact Tz.put_allE ho (fun h => absurd h1 h)
    · split
      · exact ho
      · split
        · refine Tz.put_allE ho (fun _ => ?_)
          unfold AllN
          exact .inr ⟨allB_attrs p n a (by omega), allB_fold p [] k (by omega) (by simp [AllL])⟩
        · exact allB_fold p out k (by omega) ho
theorem allB_fold (p : Pol) : ∀ (out : List Nod) (l : List Nod), nodsW l ≤ 800000 → AllL BQ out → AllL BQ (foldS p out l)
  | out, [], _, ho => by unfold foldS; exact ho
  | out, n :: r, hw, ho => by
    have hw' : nodW n + nodsW r ≤ 800000 := by simpa [nodsW] using hw
    unfold foldS
    exact allB_fold p _ r (by omega) (allB_node p out n (by omega) ho)
end
mutual
theorem tkN_n : ∀ n : Nod, (tkN n).length ≤ 2 * (sizeN n).1
  | .mk n a t k => by
    have h := tkL_n k
    rw [Tz.sizeN_mk]
    unfold tkN
    split
    · simp; omega
    · split
      · simp; omega
      · simp; omega
theorem tkL_n : ∀ l : List Nod, (tkL l).length ≤ 2 * (sizeL l).1
  | [] => by simp [tkL]
  | n :: r => by
    have h1 := tkN_n n
    have h2 := tkL_n r
    rw [Tz.tkL_cons, Tz.sizeL_cons, List.length_append]
    show _ ≤ 2 * ((sizeN n).1 + (sizeL r).1)
    omega
end
theorem toksW_app (l r : List Tok) : toksW (l ++ r) = toksW l + toksW r := by simp [toksW]
theorem toksW_cons (t : Tok) (r : List Tok) : toksW (t :: r) = tokW t + toksW r := by simp [toksW]
mutual
theorem tkN_w : ∀ n : Nod, toksW (tkN n) ≤ 2 * nodW n
  | .mk n a t k => by
    have h := tkL_w k
    unfold tkN
    have e : nodW (.mk n a t k) = n.length + t.length + aw a + nodsW k + 1 := by simp [nodW]
    rw [e]
    split
    · rw [toksW_cons]
      simp [toksW, tokW, Tz.textT, aw]
      omega
    · split
      · rw [toksW_cons]
        simp [toksW, tokW]
        omega
      · rw [toksW_cons, toksW_app, toksW_cons]
        have e1 : tokW ⟨2, n, a, false, []⟩ = n.length + aw a := by simp [tokW]
        have e2 : tokW ⟨3, n, [], false, []⟩ = n.length := by simp [tokW, aw]
        have e3 : toksW [] = 0 := rfl
        rw [e1, e2, e3]
        omega
theorem tkL_w : ∀ l : List Nod, toksW (tkL l) ≤ 2 * nodsW l
  | [] => by simp [tkL, toksW]
  | n :: r => by
    have h1 := tkN_w n
    have h2 := tkL_w r
    rw [Tz.tkL_cons, toksW_app]
    have e : nodsW (n :: r) = nodW n + nodsW r := by simp [nodsW]
    omega
end
/-- An escaped text: a tree of one text, or none, and no greater. -/
theorem text_tree {p : Pol} (s : B) (hs : s.length ≤ 60000) : ∃ c, htmlL c = escapeL false s ∧ Tz.Clean p false false c ∧ (sizeL c).1 ≤ 1 ∧ (sizeL c).2 = 0 ∧ AllL BQ c ∧ nodsW c ≤ 12500000 := by
  by_cases hn : s = []
  · subst hn
    exact ⟨[], by simp [htmlL, escapeL], Tz.Clean.nil, by simp [sizeL], by simp [sizeL], by simp [AllL], by simp [nodsW]⟩
  · refine ⟨[txt s], ?_, ⟨?_, ?_, ?_, ?_⟩, ?_, ?_, ?_, ?_⟩
    · rw [Tz.htmlL_cons]
      unfold txt htmlN
      simp [htmlL]
    · unfold FiL; exact ⟨.inl ⟨rfl, rfl, rfl⟩, by simp [FiL]⟩
    · unfold TxL; exact .inl ⟨rfl, rfl, hn, by simp [TxL]⟩
    · unfold AllL txt AllN; exact ⟨.inl rfl, by simp [AllL]⟩
    · unfold GoodL txt GoodN; exact ⟨.inl rfl, by simp [GoodL]⟩
    · rw [Tz.sizeL_cons]; unfold txt; rw [Tz.sizeN_mk]; simp [sizeL]
    · rw [Tz.sizeL_cons]; unfold txt; rw [Tz.sizeN_mk]; simp [sizeL]
    · unfold AllL txt AllN; exact ⟨.inl rfl, by simp [AllL]⟩
    · simp [nodsW, txt, nodW, aw]; omega
/-- What a page that was cleaned is. -/
structure PageC (p : Pol) (s : B) (c : List Nod) : Prop where
  safe : safeP p c = true
  len : s.length ≤ 160000000
  built : buildL (toksL s) = some c
  many : (toksL s).length ≤ 3600000
  wt : toksW (toksL s) ≤ 30000000
  all : AllL BQ c
  nods : nodsW c ≤ 100000000
theorem page_of {p : Pol} {s : B} {c : List Nod} (hr : rightP p = true) (h : Tz.Clean p false false c) (h1 : ((sizeL c).1 : Int) ≤ p.nodes) (h2 : ((sizeL c).2 : Int) ≤ p.depth) (hs : htmlL c = s) (hB : AllL BQ c) (hw : nodsW c ≤ 12500000) : PageC p s c := by
  obtain ⟨_, _, _, hn, _, _⟩ := Tz.right_caps hr
  obtain ⟨g1, g2⟩ := Tz.safe_clean hr h h1 h2
  have g3 := Tz.toks_html h.gd h.fi h.tx
  rw [hs] at g2 g3
  have g4 := htmlL_len c
  rw [hs] at g4
  have g5 := tkL_n c
  have g6 := tkL_w c
  refine ⟨g1, by omega, g2, ?_, ?_, hB, by omega⟩
  · rw [g3]; omega
  · rw [g3]; omega
theorem clean_chain {p : Pol} {pg : B} (hr : rightP p = true) (h0 : (cleanS p pg).2 = 0) : ∃ c, PageC p (cleanS p pg).1 c := by
  obtain ⟨_, hd2, hn1, hn2, _, hb2⟩ := Tz.right_caps hr
  by_cases hl : p.bytes < (pg.length : Int)
  · rw [clean_long hr hl] at h0; cases h0
  have hf := fixU_len pg
  have hfl : (fixU pg).length ≤ 49152 := by omega
  have htext : ∃ c, PageC p (escapeL false (fixU pg)) c := by
    obtain ⟨c, g1, g2, g3, g4, g5, g6⟩ := text_tree (p := p) (fixU pg) (by omega)
    exact ⟨c, page_of hr g2 (by omega) (by omega) g1 g5 g6⟩
  cases hb : buildL (toksL (fixU pg)) with
  | none => rw [clean_none hr hl hb]; exact htext
  | some k =>
    by_cases h1 : ((sizeL (foldS p [] k)).1 : Int) ≤ p.nodes ∧ ((sizeL (foldS p [] k)).2 : Int) ≤ p.depth
    · rw [clean_fits hr hl hb h1.1 h1.2]
      have hk : nodsW k ≤ 499000 := by
        have g1 := buildL_w hb
        have g2 := toksL_w (fixU pg)
        have g3 := toksL_n (fixU pg)
        omega
      have hfw := foldS_w p [] k
      simp only [nodsW, Nat.zero_add] at hfw
      exact ⟨_, page_of hr (Tz.clean_tree hr hb) h1.1 h1.2 rfl (allB_fold p [] k (by omega) (by simp [AllL])) (by omega)⟩
    · rw [clean_over hr hl hb h1]; exact htext
theorem clean_err {p : Pol} {pg : B} (hr : rightP p = true) (h0 : (cleanS p pg).2 ≠ 0) : (cleanS p pg).2 = 4 := by
  by_cases hl : p.bytes < (pg.length : Int)
  · rw [clean_long hr hl]
  · exfalso
    apply h0
    cases hb : buildL (toksL (fixU pg)) with
    | none => rw [clean_none hr hl hb]
    | some k =>
      by_cases h1 : ((sizeL (foldS p [] k)).1 : Int) ≤ p.nodes ∧ ((sizeL (foldS p [] k)).2 : Int) ≤ p.depth
      · rw [clean_fits hr hl hb h1.1 h1.2]
      · rw [clean_over hr hl hb h1]
/-- What a chain of policies is. -/
theorem chain_at {ps : List Pol} : ∀ (i : Nat), chainG 0 Z0 ps = 0 → i ≤ ps.length → chainG i (lastP ps i) (ps.drop i) = 0
  | 0, h, _ => h
  | i + 1, h, hi => by
    have h1 := chain_at i h (by omega)
    rw [chain_step (by omega)] at h1
    split at h1
    · rename_i hne; exact absurd h1 hne
    · exact h1
theorem chain_next {ps : List Pol} (h : chainG 0 Z0 ps = 0) {i : Nat} (hi : i < ps.length) : rightP ps[i] = true ∧ ((ps[i]).epoch = (i : Int) + 1) ∧ (0 < i → strictP ps[i] (lastP ps i) = true) := by
  have h1 := chain_at i h (by omega)
  rw [chain_step hi] at h1
  split at h1
  · rename_i hne; exact absurd h1 hne
  · rename_i hz
    have hz := Classical.not_not.1 hz
    unfold nextP at hz
    by_cases h1 : rightP ps[i] = false
    · rw [if_pos h1] at hz; cases hz
    rw [if_neg h1] at hz
    by_cases h2 : (ps[i]).epoch ≠ (i : Int) + 1
    · rw [if_pos h2] at hz; cases hz
    rw [if_neg h2] at hz
    by_cases h3 : 0 < (i : Int) ∧ strictP ps[i] (lastP ps i) = false
    · rw [if_pos h3] at hz; cases hz
    refine ⟨by simpa using h1, Classical.not_not.1 h2, fun h0 => ?_⟩
    cases hq : strictP ps[i] (lastP ps i) with
    | true => rfl
    | false => exact absurd ⟨by omega, hq⟩ h3
theorem last_succ {ps : List Pol} {i : Nat} (hi : i < ps.length) : lastP ps (i + 1) = ps[i] := by
  unfold lastP
  rw [if_neg (by omega), Nat.add_sub_cancel, List.getD, List.getElem?_eq_getElem hi]
  rfl
/-- What is safe by one is safe by all ahead of it. -/
theorem safe_ahead {ps : List Pol} (h : chainG 0 Z0 ps = 0) {c : List Nod} : ∀ (d i : Nat) (hi : i < ps.length), safeP ps[i] c = true → d ≤ i → safeP (ps[i - d]'(by omega)) c = true
  | 0, i, hi, hs, _ => hs
  | d + 1, i, hi, hs, hd => by
    have h1 := safe_ahead h d i hi hs (by omega)
    have h2 := chain_next h (i := i - d) (by omega)
    obtain ⟨j, hj⟩ : ∃ j, i - d = j + 1 := ⟨i - (d + 1), by omega⟩
    have e : i - (d + 1) = j := by omega
    simp only [hj] at h1 h2
    simp only [e]
    have h3 := h2.2.2 (by omega)
    rw [last_succ (by omega)] at h3
    exact Tz.safe_mono h2.1 h3 h1
theorem safe_all {ps : List Pol} (h : chainG 0 Z0 ps = 0) {c : List Nod} {i k : Nat} (hi : i < ps.length) (hs : safeP ps[i] c = true) (hk : k ≤ i) : safeP (ps[k]'(by omega)) c = true := by
  have h1 := safe_ahead h (i - k) i hi hs (by omega)
  have e : i - (i - k) = k := by omega
  simpa only [e] using h1
end Go.Proofs.YtlgaeeedkihfpaaGreatDoor.Uf

/-
  versotop.TopChain: true, whatever it is called with.
-/
namespace Go.Proofs.YtlgaeeedkihfpaaGreatDoor.Uf
open Go.RowKit
open Tz (B Nod Pol rightP toksL buildL safeP strictP)

/-- A load of many cells that a guard lets run, among quiet operations. -/
theorem wpQuiet_load_arrG {P : Program} {ops : Array Oper} {C : World → Prop} {Q : Act → Prop} {a : Act} {o : Oper} {rest : List Oper} (hwt : Region.wanted o (yielded ops a.tmps) = true) (ty : TypeId) (x : Operand) (ho : o.op = .load ty x)
    (p : Addr) (hx : a.eval x = .pointer (some p)) (cs : Array Value) (d : TypeDesc) (hc : ∀ w, C w → ∀ (j : Nat) (v : Value), cs[j]? = some v → w.cell? (p.add j) = some v)
    (hu : P.underlying ty = some d) (hd : (match d with | .struct _ | .array _ _ => true | _ => false) = true) (hi : (P.info? ty).map (·.size) = some cs.size)
    (h : wpQuiet P ops C Q rest (a.put o.dst (.agg cs))) : wpQuiet P ops C Q (o :: rest) a := by
  unfold wpQuiet
  rw [if_pos hwt]
  refine ⟨.agg cs, fun w hw => ?_, h⟩
  unfold Oper.quietAt execOp
  have hl := run_loadVar_at (P := P) w p ty cs.toList d (fun j v hv => hc w hw j v (by simpa using hv)) hu hd (by simpa using hi)
  rw [Array.toArray_toList] at hl
  simp only [ho, hx, Instr.loadAt, Instr.sureAddr, Sem.run_bind, Sem.run_pure, Result.andThen_ok, hl]
  exact ⟨rfl, rfl⟩
theorem text_bytes (w : World) (s : B) : ∃ (A : Option Addr) (c : Nat) (w0 : World), (convert 9 25 (.string (bs s))).run Tryz.prog w = .ok (.slice A s.length c) w0 ∧ Below w.heap.size w w0 ∧ Reads w0 w0.heap.size 1 A s.length (cellsOf (ints (bs s))) := by
  refine ⟨_, _, _, Lib.run_convert_string_bytes (P := Tryz.prog) w 9 25 5 (bs s) Tryz.underlying9 Tryz.underlying25 Tryz.underlying5, bytesWorld_below w _, ?_⟩
  have h := (RowB.new w (bs s)).reads
  have hl : (bs s).data.toList.length = s.length := rfl
  rw [hl] at h
  exact h
theorem round_facts {ps : List Pol} (hch : chainG 0 Z0 ps = 0) {i : Nat} (hi : i < ps.length) (s : B) : (cleanS ps[i] s).2 = 4 ∨ ((cleanS ps[i] s).2 = 0 ∧ ∃ c, PageC ps[i] (cleanS ps[i] s).1 c) := by
  have hr := (chain_next hch hi).1
  by_cases h0 : (cleanS ps[i] s).2 = 0
  · exact .inr ⟨h0, clean_chain hr h0⟩
  · exact .inl (clean_err hr h0)

set_option maxRecDepth 100000 in
set_option maxHeartbeats 8000000 in
theorem chain_u {w : World} {S : Nat → Prop} {A D : Option Addr} {c cc n N0 : Nat} {ps : List Pol} {m : Int} {xs : List Int} {pg : B} (h : PolsV w S A ps) (hm : w.cell? ⟨0, 0, none⟩ = some (.int .i64 m)) (hr : Reads w N0 1 D n (cellsOf xs)) (hN0 : N0 ≤ w.heap.size) (hpg : bs pg = strOfNums xs) (hn : n = pg.length) :
    Calls Tryz.prog 4 #[.slice A ps.length c, .slice D n cc] w fun e w' => e = .returned (.bool true) ∧ Below w.heap.size w w' := by
  have HV := Lib.hid (fun V (hV : Below w.heap.size w V) => And.intro (h.keep hV) (hm_below hm hV))
  have HRD := Lib.hid (fun V (hV : Below w.heap.size w V) => hr.below (hV.mono hN0))
  have HG := Lib.hid hpg
  have hS := h.1
  clear h hm hr hpg hN0
  subst hn
  go_enter Tryz.func4, Tryz.ntmps4
  go_wp2_with fail
  refine (cleanc_u (HV.out w (Below.refl _ _)).2).mono ?_
  rintro e1 V1 ⟨rfl, hb1⟩
  go_wp2_with fail
  refine (light9_u (HV.out V1 hb1).1).mono ?_
  rintro e2 V2 ⟨⟨b, rfl, hlt⟩, hb2⟩
  have hbw2 := hb1.trans (hb2.mono hb1.size)
  clear hb1 hb2
  cases b with
  | false =>
    clear hlt
    go_wp2_with fail
    go_ret
    exact ⟨rfl, hbw2⟩
  | true =>
    obtain ⟨h12, hsm⟩ := hlt rfl
    have HSM := Lib.hid hsm
    clear hsm hlt
    by_cases hl : (3000 : Int) < (pg.length : Int)
    · go_wp2_with fail
      go_ret
      exact ⟨rfl, hbw2⟩
    go_wp2_with fail
    obtain ⟨g1, g2⟩ := HV.out V2 hbw2
    refine (check_u g1 h12 HSM.out g2).mono ?_
    rintro e3 V3 ⟨⟨kz, rfl⟩, hb3⟩
    have hbw3 := hbw2.trans (hb3.mono hbw2.size)
    have HCH := Lib.hid (show ∀ z, chainG 0 Z0 ps = z → chainG 0 Z0 ps = z from fun _ h => h)
    generalize hz : chainG 0 Z0 ps = er
    have HZ := Lib.hid hz
    clear hz HCH g1 g2 hb3 hbw2
    by_cases he : ¬ er = 0
    · have he1 : (er != (0 : Int)) = true := by simpa using he
      go_wp2_with fail
      go_ret
      exact ⟨rfl, hbw3⟩
    obtain rfl : er = 0 := Classical.not_not.1 he
    clear he
    have hcv := conv_reads (HRD.out V3 hbw3) cc
    rw [← HG.out] at hcv
    go_wp2_with fail
    clear hcv
    go_loopw [10, 9] (fun vi vs wr => ∃ (i : Nat) (s : B), vi = .int .i64 i ∧ vs = .string (bs s) ∧ i ≤ ps.length ∧ Below w.heap.size w wr) (fun vi _ _ => ps.length - kOf vi)
    case atStart => exact ⟨0, pg, rfl, rfl, Nat.zero_le _, hbw3⟩
    case round =>
      clear hbw3
      obtain ⟨i, s, rfl, rfl, hi, hbi⟩ := hrel
      by_cases hlt : i < ps.length
      · have t0 : (i : Int) < (ps.length : Int) := by omega
        obtain ⟨ad, cs, rfl, hSb, hpv, hcells⟩ := (HV.out wr hbi).1.2 i hlt
        have hi24 : (Tryz.prog.info? 24).map (·.size) = some cs.size := by rw [pol_size hpv]; exact info24
        have hi1 : IntKind.i64.wrap ((i : Int) + 1) = ((i + 1 : Nat) : Int) := by rw [IntKind.wrap_i64]; omega
        obtain ⟨A1, c1, W, hcv, hbW, hrW⟩ := text_bytes wr s
        have HX := Lib.hid (And.intro hpv (And.intro hbW hrW))
        clear hpv hbW hrW
        go_wp2_with (first
          | (with_reducible refine wpList_load_arr rfl 24 (.tmp 46) rfl (ad.add (i * 9)) rfl cs _ hcells Tryz.underlying24 rfl hi24 ?_))
        obtain ⟨hpv, hbW, hrW⟩ := HX.out
        have hbw4 := hbi.trans (hbW.mono hbi.size)
        refine (clean_u (pg := s) (hpv.keep hbW) (HSM.out _ (List.getElem_mem hlt)) (HV.out W hbw4).2 hrW (Nat.le_refl _) (strOfNums_ints _).symm rfl).mono ?_
        rintro e5 W2 ⟨rfl, hb5⟩
        have hbw5 := hbw4.trans (hb5.mono hbw4.size)
        have hrf := round_facts HZ.out hlt s
        have HSF := Lib.hid (fun cx k (hk : k ≤ i) (h : safeP ps[i] cx = true) => safe_all HZ.out (c := cx) (k := k) hlt h hk)
        generalize cleanS ps[i] s = res at hrf
        obtain ⟨t, er⟩ := res
        simp only at hrf
        clear hcv hcells hpv hbW hrW hb5 hbw4 HX
        rcases hrf with rfl | ⟨rfl, cx, hpc⟩
        · go_wp2_with fail
          go_ret
          exact ⟨rfl, hbw5⟩
        have HPC := Lib.hid hpc
        clear hpc
        go_wp2_with fail
        refine (tokens_u (s := t) HPC.out.len (HV.out W2 hbw5).2).mono ?_
        rintro e6 W3 ⟨v6, rfl, htk, hb6⟩
        have hbw6 := hbw5.trans (hb6.mono hbw5.size)
        go_wp2_with fail
        refine (build_u htk HPC.out.many HPC.out.wt).mono ?_
        intro e7 W4 hB
        unfold BuildR at hB
        rw [HPC.out.built] at hB
        obtain ⟨S4, v4, rfl, hT4, hb7⟩ := hB
        have hbw7 := hbw6.trans (hb7.mono hbw6.size)
        have HT := Lib.hid (fun V (hV : Below W4.heap.size W4 V) => hT4.keep hV)
        clear htk hb6 hb7 hbw5 hbw6 hT4
        go_wp2_with fail
        go_loopw [15] (fun vk wq => ∃ k : Nat, vk = .int .i64 k ∧ k ≤ i + 1 ∧ Below W4.heap.size W4 wq) (fun vk _ => i + 1 - kOf vk)
        case atStart => exact ⟨0, rfl, Nat.zero_le _, Below.refl _ _⟩
        case round =>
          obtain ⟨k, rfl, hk, hbk⟩ := hrel
          have hbwk := hbw7.trans (hbk.mono hbw7.size)
          by_cases hki : k ≤ i
          · have t1 : (k : Int) ≤ (i : Int) := by omega
            have t2 : (k : Int) < (ps.length : Int) := by omega
            have hk1 : IntKind.i64.wrap ((k : Int) + 1) = ((k + 1 : Nat) : Int) := by rw [IntKind.wrap_i64]; omega
            have hkl : k < ps.length := by omega
            obtain ⟨adk, csk, hA, hSk, hpk, hck⟩ := (HV.out _ hbwk).1.2 k hkl
            obtain rfl : ad = adk := by injection hA
            clear hA
            have hk24 : (Tryz.prog.info? 24).map (·.size) = some csk.size := by rw [pol_size hpk]; exact info24
            have HX := Lib.hid hpk
            clear hpk
            by_cases h0 : 0 < k
            · have t3 : (0 : Int) < (k : Int) := by omega
              obtain ⟨j, hj⟩ : ∃ j, k = j + 1 := ⟨k - 1, by omega⟩
              have hkj : IntKind.i64.wrap ((k : Int) - 1) = (j : Int) := by rw [IntKind.wrap_i64]; omega
              have t4 : (j : Int) < (ps.length : Int) := by omega
              have hjl : j < ps.length := by omega
              obtain ⟨adj, csj, hA, hSj, hpj, hcj⟩ := (HV.out _ hbwk).1.2 j hjl
              obtain rfl : ad = adj := by injection hA
              clear hA
              have hj24 : (Tryz.prog.info? 24).map (·.size) = some csj.size := by rw [pol_size hpj]; exact info24
              have hst : strictP ps[k] ps[j] = true := by
                have h3 := (chain_next HZ.out hkl).2.2 h0
                have e : lastP ps k = ps[j] := by subst hj; exact last_succ hjl
                rw [e] at h3
                exact h3
              have HY := Lib.hid (And.intro hpj hst)
              clear hpj hst hj
              go_wp2_with fail
              have hCp : ∀ X, Below wr.heap.size wr X → (∀ (q : Nat) (v : Value), csk[q]? = some v → X.cell? ((ad.add (k * 9)).add q) = some v) ∧ ∀ (q : Nat) (v : Value), csj[q]? = some v → X.cell? ((ad.add (j * 9)).add q) = some v := fun X hx => ⟨fun q v hv => (hx.cell (by rw [block_of_add, block_of_add]; exact Nat.lt_of_lt_of_le (hS _ hSb) hbwk.size)).trans (hck q v hv), fun q v hv => (hx.cell (by rw [block_of_add, block_of_add]; exact Nat.lt_of_lt_of_le (hS _ hSb) hbwk.size)).trans (hcj q v hv)⟩
              obtain ⟨ι, hne, F, hF, hcov⟩ := class_of (fun X => (∀ (q : Nat) (v : Value), csk[q]? = some v → X.cell? ((ad.add (k * 9)).add q) = some v) ∧ ∀ (q : Nat) (v : Value), csj[q]? = some v → X.cell? ((ad.add (j * 9)).add q) = some v) wr.drew (hCp _ (Below.refl _ _).drew)
              have hCk : ∀ X, (∃ i, X = F i) → ∀ (q : Nat) (v : Value), csk[q]? = some v → X.cell? ((ad.add (k * 9)).add q) = some v := fun X h => by obtain ⟨i, rfl⟩ := h; exact (hF i).1
              have hCj : ∀ X, (∃ i, X = F i) → ∀ (q : Nat) (v : Value), csj[q]? = some v → X.cell? ((ad.add (j * 9)).add q) = some v := fun X h => by obtain ⟨i, rfl⟩ := h; exact (hF i).2
              have hCb : ∀ X, Below wr.heap.size wr X → ∃ i, X = F i := fun X hx => hcov X (hCp X hx)
              have hbd : Below wr.heap.size wr wr.drew := (Below.refl _ _).drew
              clear hCp hcov hF hck hcj
              have HCB := Lib.hid (And.intro hCb (And.intro hbk hbwk))
              clear hCb hbk hbwk
              have hS0 := HCB.out.1 _ hbd
              refine wp_region_every 5 19 (S := fun X => ∃ i, X = F i) (by kernel_rfl) (by kernel_rfl) (fun _ _ _ _ _ h => h) hS0 ?_
              generalize wr.drew = Wd at hS0 hbd ⊢
              dsimp only [List.take, List.drop]
              repeat (go_big_quiet_step (fail))
              with_reducible refine wpQuiet_load_arr rfl 24 (.tmp 75) rfl (ad.add (k * 9)) rfl csk _ hCk Tryz.underlying24 rfl hk24 ?_
              try simp only [Act.put, List.setIfInBounds_toArray, List.set_cons_zero, List.set_cons_succ]
              repeat (go_big_quiet_step (fail))
              refine wpQuiet_nil ?_
              have hbk4 := HCB.out.2.1.trans (hbd.mono HCB.out.2.1.size)
              have hbw4 := HCB.out.2.2.trans (hbd.mono HCB.out.2.2.size)
              refine wpAnyZ_one (i := 5) (F := 18) hS0 (by kernel_rfl) rfl (fun Kx hK => ?_)
              go_simp
              refine (safe_u (HT.out _ hbk4) (HX.out.keep hbd) (HSM.out _ (List.getElem_mem hkl)) (HV.out _ hbw4).2 HPC.out.all HPC.out.nods).mono ?_
              rw [HSF.out cx k hki HPC.out.safe]
              rintro e8 W5 ⟨rfl, hb8⟩
              have hbd5 := hbd.trans (hb8.mono hbd.size)
              have hS5 := HCB.out.1 _ hbd5
              refine hK.out _ _ hS5 ?_
              clear hK Kx hb8 hS0 hbk4 hbw4 hbd
              try simp only [Act.put, List.setIfInBounds_toArray, List.set_cons_zero, List.set_cons_succ]
              refine wpAnyZ_pure (i := 6) (F := 17) hS5 rfl (by kernel_rfl) (by kernel_rfl) (fun _ _ _ _ _ h => h) ?_
              go_big_quiet_step (fail)
              refine wpQuiet_nil ?_
              refine wpAnyZ_pure (i := 7) (F := 16) hS5 rfl (by kernel_rfl) (by kernel_rfl) (fun _ _ _ _ _ h => h) ?_
              go_big_quiet_step (fail)
              refine wpQuiet_nil ?_
              refine wpAnyZ_pure (i := 8) (F := 15) hS5 rfl (by kernel_rfl) (by kernel_rfl) (fun _ _ _ _ _ h => h) ?_
              go_big_quiet_step (fail)
              refine wpQuiet_nil ?_
              refine wpAnyZ_pure (i := 9) (F := 14) hS5 rfl (by kernel_rfl) (by kernel_rfl) (fun _ _ _ _ _ h => h) ?_
              go_big_quiet_step (fail)
              refine wpQuiet_nil ?_
              refine wpAnyZ_pure (i := 10) (F := 13) hS5 rfl (by kernel_rfl) (by kernel_rfl) (fun _ _ _ _ _ h => h) ?_
              go_big_quiet_step (fail)
              refine wpQuiet_nil ?_
              refine wpAnyZ_pure (i := 11) (F := 12) hS5 rfl (by kernel_rfl) (by kernel_rfl) (fun _ _ _ _ _ h => h) ?_
              go_big_quiet_step (fail)
              refine wpQuiet_nil ?_
              refine wpAnyZ_pure (i := 12) (F := 11) hS5 rfl (by kernel_rfl) (by kernel_rfl) (fun _ _ _ _ _ h => h) ?_
              go_big_quiet_step (fail)
              refine wpQuiet_nil ?_
              refine wpAnyZ_pure (i := 13) (F := 10) hS5 rfl (by kernel_rfl) (by kernel_rfl) (fun _ _ _ _ _ h => h) ?_
              go_big_quiet_step (fail)
              refine wpQuiet_nil ?_
              refine wpAnyZ_pure (i := 14) (F := 9) hS5 rfl (by kernel_rfl) (by kernel_rfl) (fun _ _ _ _ _ h => h) ?_
              with_reducible refine wpQuiet_load_arrG rfl 24 (.tmp 86) rfl (ad.add (k * 9)) rfl csk _ hCk Tryz.underlying24 rfl hk24 ?_
              refine wpQuiet_nil ?_
              try simp only [Act.put, List.setIfInBounds_toArray, List.set_cons_zero, List.set_cons_succ]
              refine wpAnyZ_pure (i := 15) (F := 8) hS5 rfl (by kernel_rfl) (by kernel_rfl) (fun _ _ _ _ _ h => h) ?_
              go_big_quiet_step (fail)
              refine wpQuiet_nil ?_
              refine wpAnyZ_pure (i := 16) (F := 7) hS5 rfl (by kernel_rfl) (by kernel_rfl) (fun _ _ _ _ _ h => h) ?_
              go_big_quiet_step (fail)
              refine wpQuiet_nil ?_
              refine wpAnyZ_pure (i := 17) (F := 6) hS5 rfl (by kernel_rfl) (by kernel_rfl) (fun _ _ _ _ _ h => h) ?_
              go_big_quiet_step (fail)
              refine wpQuiet_nil ?_
              refine wpAnyZ_pure (i := 18) (F := 5) hS5 rfl (by kernel_rfl) (by kernel_rfl) (fun _ _ _ _ _ h => h) ?_
              go_big_quiet_step (fail)
              refine wpQuiet_nil ?_
              refine wpAnyZ_pure (i := 19) (F := 4) hS5 rfl (by kernel_rfl) (by kernel_rfl) (fun _ _ _ _ _ h => h) ?_
              with_reducible refine wpQuiet_load_arrG rfl 24 (.tmp 91) rfl (ad.add (j * 9)) rfl csj _ hCj Tryz.underlying24 rfl hj24 ?_
              refine wpQuiet_nil ?_
              try simp only [Act.put, List.setIfInBounds_toArray, List.set_cons_zero, List.set_cons_succ]
              refine wpAnyZ_one (i := 20) (F := 3) hS5 (by kernel_rfl) rfl (fun Kx hK => ?_)
              go_simp
              refine (strict_u (HX.out.keep hbd5) (HY.out.1.keep hbd5) (HSM.out _ (List.getElem_mem hkl)) (HSM.out _ (List.getElem_mem hjl))).mono ?_
              rw [HY.out.2]
              rintro e9 W6 ⟨rfl, hb9⟩
              have hbd6 := hbd5.trans (hb9.mono hbd5.size)
              have hS6 := HCB.out.1 _ hbd6
              refine hK.out _ _ hS6 ?_
              clear hK Kx hb9 hS5 hbd5
              try simp only [Act.put, List.setIfInBounds_toArray, List.set_cons_zero, List.set_cons_succ]
              refine wpAnyZ_pure (i := 21) (F := 2) hS6 rfl (by kernel_rfl) (by kernel_rfl) (fun _ _ _ _ _ h => h) ?_
              go_big_quiet_step (fail)
              refine wpQuiet_nil ?_
              refine wpAnyZ_pure (i := 22) (F := 1) hS6 rfl (by kernel_rfl) (by kernel_rfl) (fun _ _ _ _ _ h => h) ?_
              go_big_quiet_step (fail)
              refine wpQuiet_nil ?_
              refine wpAnyZ_pure (i := 23) (F := 0) hS6 rfl (by kernel_rfl) (by kernel_rfl) (fun _ _ _ _ _ h => h) ?_
              go_big_quiet_step (fail)
              refine wpQuiet_nil ?_
              refine wpAnyZ_end (by kernel_rfl) ?_
              have hbk7 := HCB.out.2.1.trans (hbd6.mono HCB.out.2.1.size)
              go_wp2_with fail
              go_roundw
              case rel => exact ⟨k + 1, by go_num, by omega, hbk7⟩
              case measure =>
                show i + 1 - kOf (.int .i64 ((k + 1 : Nat) : Int)) < i + 1 - kOf (.int .i64 (k : Int))
                simp only [kOf, Int.toNat_natCast]
                omega
            · have t3 : ¬ (0 : Int) < (k : Int) := by omega
              go_wp2_with fail
              have hCp : ∀ X, Below wr.heap.size wr X → (∀ (q : Nat) (v : Value), csk[q]? = some v → X.cell? ((ad.add (k * 9)).add q) = some v) := fun X hx => fun q v hv => (hx.cell (by rw [block_of_add, block_of_add]; exact Nat.lt_of_lt_of_le (hS _ hSb) hbwk.size)).trans (hck q v hv)
              obtain ⟨ι, hne, F, hF, hcov⟩ := class_of (fun X => (∀ (q : Nat) (v : Value), csk[q]? = some v → X.cell? ((ad.add (k * 9)).add q) = some v)) wr.drew (hCp _ (Below.refl _ _).drew)
              have hCk : ∀ X, (∃ i, X = F i) → ∀ (q : Nat) (v : Value), csk[q]? = some v → X.cell? ((ad.add (k * 9)).add q) = some v := fun X h => by obtain ⟨i, rfl⟩ := h; exact (hF i)
              have hCb : ∀ X, Below wr.heap.size wr X → ∃ i, X = F i := fun X hx => hcov X (hCp X hx)
              have hbd : Below wr.heap.size wr wr.drew := (Below.refl _ _).drew
              clear hCp hcov hF hck
              have HCB := Lib.hid (And.intro hCb (And.intro hbk hbwk))
              clear hCb hbk hbwk
              have hS0 := HCB.out.1 _ hbd
              refine wp_region_every 5 19 (S := fun X => ∃ i, X = F i) (by kernel_rfl) (by kernel_rfl) (fun _ _ _ _ _ h => h) hS0 ?_
              generalize wr.drew = Wd at hS0 hbd ⊢
              dsimp only [List.take, List.drop]
              repeat (go_big_quiet_step (fail))
              with_reducible refine wpQuiet_load_arr rfl 24 (.tmp 75) rfl (ad.add (k * 9)) rfl csk _ hCk Tryz.underlying24 rfl hk24 ?_
              try simp only [Act.put, List.setIfInBounds_toArray, List.set_cons_zero, List.set_cons_succ]
              repeat (go_big_quiet_step (fail))
              refine wpQuiet_nil ?_
              have hbk4 := HCB.out.2.1.trans (hbd.mono HCB.out.2.1.size)
              have hbw4 := HCB.out.2.2.trans (hbd.mono HCB.out.2.2.size)
              refine wpAnyZ_one (i := 5) (F := 18) hS0 (by kernel_rfl) rfl (fun Kx hK => ?_)
              go_simp
              refine (safe_u (HT.out _ hbk4) (HX.out.keep hbd) (HSM.out _ (List.getElem_mem hkl)) (HV.out _ hbw4).2 HPC.out.all HPC.out.nods).mono ?_
              rw [HSF.out cx k hki HPC.out.safe]
              rintro e8 W5 ⟨rfl, hb8⟩
              have hbd5 := hbd.trans (hb8.mono hbd.size)
              have hS5 := HCB.out.1 _ hbd5
              refine hK.out _ _ hS5 ?_
              clear hK Kx hb8 hS0 hbk4 hbw4 hbd
              try simp only [Act.put, List.setIfInBounds_toArray, List.set_cons_zero, List.set_cons_succ]
              refine wpAnyZ_pure (i := 6) (F := 17) hS5 rfl (by kernel_rfl) (by kernel_rfl) (fun _ _ _ _ _ h => h) ?_
              go_big_quiet_step (fail)
              refine wpQuiet_nil ?_
              refine wpAnyZ_pure (i := 7) (F := 16) hS5 rfl (by kernel_rfl) (by kernel_rfl) (fun _ _ _ _ _ h => h) ?_
              go_big_quiet_step (fail)
              refine wpQuiet_nil ?_
              refine wpAnyZ_pure (i := 8) (F := 15) hS5 rfl (by kernel_rfl) (by kernel_rfl) (fun _ _ _ _ _ h => h) ?_
              go_big_quiet_step (fail)
              refine wpQuiet_nil ?_
              refine wpAnyZ_pure (i := 9) (F := 14) hS5 rfl (by kernel_rfl) (by kernel_rfl) (fun _ _ _ _ _ h => h) ?_
              go_big_quiet_step (fail)
              refine wpQuiet_nil ?_
              refine wpAnyZ_pure (i := 10) (F := 13) hS5 rfl (by kernel_rfl) (by kernel_rfl) (fun _ _ _ _ _ h => h) ?_
              go_big_quiet_step (fail)
              refine wpQuiet_nil ?_
              refine wpAnyZ_pure (i := 11) (F := 12) hS5 rfl (by kernel_rfl) (by kernel_rfl) (fun _ _ _ _ _ h => h) ?_
              go_big_quiet_step (fail)
              refine wpQuiet_nil ?_
              refine wpAnyZ_pure (i := 12) (F := 11) hS5 rfl (by kernel_rfl) (by kernel_rfl) (fun _ _ _ _ _ h => h) ?_
              go_big_quiet_step (fail)
              refine wpQuiet_nil ?_
              refine wpAnyZ_pure (i := 13) (F := 10) hS5 rfl (by kernel_rfl) (by kernel_rfl) (fun _ _ _ _ _ h => h) ?_
              go_big_quiet_step (fail)
              refine wpQuiet_nil ?_
              refine wpAnyZ_pure (i := 14) (F := 9) hS5 rfl (by kernel_rfl) (by kernel_rfl) (fun _ _ _ _ _ h => h) ?_
              go_big_quiet_step (fail)
              refine wpQuiet_nil ?_
              refine wpAnyZ_pure (i := 15) (F := 8) hS5 rfl (by kernel_rfl) (by kernel_rfl) (fun _ _ _ _ _ h => h) ?_
              go_big_quiet_step (fail)
              refine wpQuiet_nil ?_
              refine wpAnyZ_pure (i := 16) (F := 7) hS5 rfl (by kernel_rfl) (by kernel_rfl) (fun _ _ _ _ _ h => h) ?_
              go_big_quiet_step (fail)
              refine wpQuiet_nil ?_
              refine wpAnyZ_pure (i := 17) (F := 6) hS5 rfl (by kernel_rfl) (by kernel_rfl) (fun _ _ _ _ _ h => h) ?_
              go_big_quiet_step (fail)
              refine wpQuiet_nil ?_
              refine wpAnyZ_pure (i := 18) (F := 5) hS5 rfl (by kernel_rfl) (by kernel_rfl) (fun _ _ _ _ _ h => h) ?_
              go_big_quiet_step (fail)
              refine wpQuiet_nil ?_
              refine wpAnyZ_pure (i := 19) (F := 4) hS5 rfl (by kernel_rfl) (by kernel_rfl) (fun _ _ _ _ _ h => h) ?_
              go_big_quiet_step (fail)
              refine wpQuiet_nil ?_
              refine wpAnyZ_one (i := 20) (F := 3) hS5 (by kernel_rfl) rfl (fun Kx hK => ?_)
              go_simp
              refine hK.out _ _ hS5 ?_
              clear hK Kx
              try simp only [Act.put, List.setIfInBounds_toArray, List.set_cons_zero, List.set_cons_succ]
              refine wpAnyZ_pure (i := 21) (F := 2) hS5 rfl (by kernel_rfl) (by kernel_rfl) (fun _ _ _ _ _ h => h) ?_
              go_big_quiet_step (fail)
              refine wpQuiet_nil ?_
              refine wpAnyZ_pure (i := 22) (F := 1) hS5 rfl (by kernel_rfl) (by kernel_rfl) (fun _ _ _ _ _ h => h) ?_
              go_big_quiet_step (fail)
              refine wpQuiet_nil ?_
              refine wpAnyZ_pure (i := 23) (F := 0) hS5 rfl (by kernel_rfl) (by kernel_rfl) (fun _ _ _ _ _ h => h) ?_
              go_big_quiet_step (fail)
              refine wpQuiet_nil ?_
              refine wpAnyZ_end (by kernel_rfl) ?_
              have hbk7 := HCB.out.2.1.trans (hbd5.mono HCB.out.2.1.size)
              go_wp2_with fail
              go_roundw
              case rel => exact ⟨k + 1, by go_num, by omega, hbk7⟩
              case measure =>
                show i + 1 - kOf (.int .i64 ((k + 1 : Nat) : Int)) < i + 1 - kOf (.int .i64 (k : Int))
                simp only [kOf, Int.toNat_natCast]
                omega
          · have t1 : ¬ (k : Int) ≤ (i : Int) := by omega
            go_wp2_with fail
            go_roundw
            case rel => exact ⟨i + 1, t, by go_num, rfl, hlt, hbwk⟩
            case measure =>
              show ps.length - kOf (.int .i64 ((i + 1 : Nat) : Int)) < ps.length - kOf (.int .i64 (i : Int))
              simp only [kOf, Int.toNat_natCast]
              omega
      · have t0 : ¬ (i : Int) < (ps.length : Int) := by omega
        go_wp2_with fail
        go_ret
        exact ⟨rfl, hbi⟩
end Go.Proofs.YtlgaeeedkihfpaaGreatDoor.Uf
