/-
  Texts of the proof of Chain, one behind the other: Seg.
-/
import Derived.BigQuiet
import Derived.Test.YtlgaeeedkihfpaaGreatDoorC10
/-
  Regions that draw their order, walked in the order of the text: stretches of operations that only read, then what must come in just one order.
-/
namespace Go.Proofs.YtlgaeeedkihfpaaGreatDoor.Uf

section
variable {P : Program} {ops : Array Oper} {Q : Exit → Act → World → Prop} {md : Region.Mode} {S : World → Prop} {z : Nat → Bool}

/-- Operations that yield a value (or nothing comes of them). -/
def plainK (o : Oper) : Bool :=
  match o.op with
  | .move _ | .assign _ | .pick _ _ _ | .build _ _ | .load _ _ | .nilCheck _ | .binOp _ _ _ _ _ | .unOp _ _ _ | .convert _ _ _ | .makeInterface _ _ | .slice _ _ _ _ _ | .fieldAddr _ _ _ | .field _ _ _ | .indexAddr _ _ _ | .index _ _ _
  | .lookup _ _ _ _ | .extract _ _ => true
  | .call c => match c.callee with | .builtin .len | .builtin .cap | .builtin .min | .builtin .max => true | _ => false
  | _ => false

theorem bind_value {s : Sem Value} {w w' : World} {n : Next} (h : (do pure (.value (← s)) : Sem Next).run P w = .ok n w') : ∃ u, n = .value u := by
  rw [Sem.run_bind] at h
  cases hs : s.run P w with
  | ok u w1 =>
    rw [hs] at h
    simp only [Result.andThen_ok, Sem.run_pure] at h
    injection h with h1 h2
    exact ⟨u, h1.symm⟩
  | halt x w1 =>
    rw [hs] at h
    cases h
theorem bind_ok {α : Type} {s : Sem α} {f : α → Sem Next} {w w' : World} {n : Next} (h : (s >>= f).run P w = .ok n w') : ∃ u w1, (f u).run P w1 = .ok n w' := by
  rw [Sem.run_bind] at h
  cases hs : s.run P w with
  | ok u w1 => rw [hs] at h; exact ⟨u, w1, h⟩
  | halt x w1 => rw [hs] at h; cases h
theorem plain_value {o : Oper} (hk : plainK o = true) {ρ : Operand → Value} {w w' : World} {n : Next} (h : (execOp ρ o).run P w = .ok n w') : ∃ u, n = .value u := by
  obtain ⟨dst, op, type, pos, after, guard⟩ := o
  cases op <;> simp only [plainK, Bool.false_eq_true] at hk <;> simp only [execOp] at h
  all_goals first
    | exact bind_value h
    | skip
  case move x => simp only [Sem.run_pure] at h; injection h with h1 h2; exact ⟨_, h1.symm⟩
  case assign x => simp only [Sem.run_pure] at h; injection h with h1 h2; exact ⟨_, h1.symm⟩
  case pick c a b =>
    obtain ⟨p, w1, h⟩ := bind_ok h
    simp only [Sem.run_pure] at h; injection h with h1 h2; exact ⟨_, h1.symm⟩
  case nilCheck x =>
    split at h
    · simp [runtimePanic] at h
    · simp [runtimePanic] at h
    · simp [runtimePanic] at h
    · split at h
      · simp [runtimePanic] at h
      · obtain ⟨p, w1, h⟩ := bind_ok h
        obtain ⟨p2, w2, h⟩ := bind_ok h
        split at h
        · obtain ⟨p3, w3, h⟩ := bind_ok h
          simp only [Sem.run_pure] at h; injection h with h1 h2; exact ⟨_, h1.symm⟩
        · simp only [Sem.run_pure] at h; injection h with h1 h2; exact ⟨_, h1.symm⟩
      · simp only [Sem.run_pure] at h; injection h with h1 h2; exact ⟨_, h1.symm⟩
    · simp only [Sem.run_pure] at h; injection h with h1 h2; exact ⟨_, h1.symm⟩
  case call c =>
    cases hc : c.callee with
    | value f => simp [hc] at hk
    | invoke r m => simp [hc] at hk
    | builtin b =>
      rw [hc] at hk
      simp only [resolve, hc, Sem.run_bind, Sem.run_pure, Result.andThen_ok, invoke] at h
      cases b <;> simp at hk <;> simp only [builtin] at h <;> exact bind_value h

/-- In every world of S the operation yields v. -/
theorem yieldsIf_of {o : Oper} {v : Value} {a : Act} (hk : plainK o = true) (hw : Region.wanted o (yielded ops a.tmps) = true) (h : ∀ w, S w → o.quietAt P a S w v) : YieldsIf P ops S o v a := by
  refine .inl ⟨hw, fun w hS => ?_⟩
  have h1 := h w hS
  unfold Oper.quietAt at h1
  cases hr : (execOp a.eval o).run P w with
  | ok n w' =>
    rw [hr] at h1
    obtain ⟨u, rfl⟩ := plain_value hk hr
    obtain ⟨rfl, rfl⟩ := h1
    rfl
  | halt x w' => rw [hr] at h1; exact h1.elim

/-! ### what waits for what -/
def waitsT (md : Region.Mode) (ops : Array Oper) : Nat → Nat → Nat → Bool
  | 0, _, _ => false
  | f + 1, j, i => match ops[j]? with | some o => o.after.any fun e => Region.binds md e && (e.on == i || waitsT md ops f e.on i) | none => false
/-- What has come up waited for nothing that has not. -/
def Shutd (md : Region.Mode) (ops : Array Oper) (listed : Array Bool) : Prop := ∀ j o, ops[j]? = some o → listed.getD j false = true → ∀ e ∈ o.after, Region.binds md e = true → listed.getD e.on false = true
theorem waitsT_listed {listed : Array Bool} (hs : Shutd md ops listed) {i : Nat} : ∀ (f j : Nat) (o : Oper), ops[j]? = some o → (∀ e ∈ o.after, Region.binds md e = true → listed.getD e.on false = true) → waitsT md ops f j i = true → listed.getD i false = true
  | 0, _, _, _, _, h => by simp [waitsT] at h
  | f + 1, j, o, ho, hd, h => by
    unfold waitsT at h
    rw [ho] at h
    obtain ⟨k, hk, hk2⟩ := Array.any_eq_true.1 h
    rw [Bool.and_eq_true, Bool.or_eq_true] at hk2
    have hl := hd _ (Array.getElem_mem hk) hk2.1
    rcases hk2.2 with h2 | h2
    · rwa [← (by simpa using h2 : _ = i)]
    · cases ho2 : ops[(o.after[k]).on]? with
      | none =>
        cases f with
        | zero => simp [waitsT] at h2
        | succ f => unfold waitsT at h2; rw [ho2] at h2; cases h2
      | some o2 => exact waitsT_listed hs f _ o2 ho2 (fun e he hb => hs _ o2 ho2 hl e he hb) h2
theorem shutd_none (n : Nat) : Shutd md ops (Array.replicate n false) := fun j o _ h => by
  rcases Nat.lt_or_ge j n with hj | hj
  · simp [hj] at h
  · simp [Nat.not_lt.2 hj] at h
theorem shutd_ready {listed : Array Bool} (hs : Shutd md ops listed) {j : Nat} (hj : j ∈ Region.ready md ops listed) : Shutd md ops (listed.setIfInBounds j true) := by
  intro k o ho hk e he hb
  obtain ⟨_, oj, hoj, hall⟩ := mem_ready.1 hj
  by_cases hjk : j = k
  · subst hjk
    rw [hoj] at ho
    injection ho with ho
    subst ho
    exact getD_set_true (hall e he hb)
  · rw [getD_set_ne false hjk] at hk
    exact getD_set_true (hs k o ho hk e he hb)

/-- Whatever order is picked from here on; S holds behind every operation i with 'z i = false'. -/
def wpAnyZ (P : Program) (md : Region.Mode) (ops : Array Oper) (Q : Exit → Act → World → Prop) (S : World → Prop) (z : Nat → Bool) : Nat → Array Bool → Act → World → Prop
  | 0, listed, a, w => Region.ready md ops listed = [] ∧ Q .normal a w
  | fuel + 1, listed, a, w =>
    (Region.ready md ops listed = [] → Q .normal a w) ∧
    ∀ i ∈ Region.ready md ops listed, wpOp P ops Q i (fun a' w' => (z i = false → S w') ∧ wpAnyZ P md ops Q S z fuel (listed.setIfInBounds i true) a' w') a w
theorem wpAny_of_z : ∀ (fuel : Nat) (listed : Array Bool) (a : Act) (w : World), wpAnyZ P md ops Q S z fuel listed a w → wpAny P md ops Q fuel listed a w
  | 0, _, _, _, h => h
  | fuel + 1, _, _, _, h => ⟨h.1, fun i hi => wpOp_mono (fun a' w' h' => wpAny_of_z fuel _ a' w' h'.2) (h.2 i hi)⟩
theorem wpAnyZ_of_any : ∀ (fuel : Nat) (listed : Array Bool) (a : Act) (w : World), (∀ j, listed.getD j true = false → z j = true) → wpAny P md ops Q fuel listed a w → wpAnyZ P md ops Q S z fuel listed a w
  | 0, _, _, _, _, h => h
  | fuel + 1, listed, _, _, hz, h => ⟨h.1, fun i hi => wpOp_mono (fun a' w' h' => ⟨fun e => (by rw [hz i (mem_ready.1 hi).1] at e; cases e), wpAnyZ_of_any fuel _ a' w' (fun j hj => hz j (by
      by_cases hij : i = j
      · subst hij; exact (mem_ready.1 hi).1
      · rwa [getD_set_ne true hij] at hj)) h'⟩) (h.2 i hi)⟩
theorem wpAnyZ_all (hS : ∀ w, S w) : ∀ (fuel : Nat) (listed : Array Bool) (a : Act) (w : World), wpAny P md ops Q fuel listed a w → wpAnyZ P md ops Q S z fuel listed a w
  | 0, _, _, _, h => h
  | fuel + 1, _, _, _, h => ⟨h.1, fun i hi => wpOp_mono (fun a' w' h' => ⟨fun _ => hS w', wpAnyZ_all hS fuel _ a' w' h'⟩) (h.2 i hi)⟩

theorem wpAnyZ_first {i f : Nat} {oi : Oper} {v : Value} (hi : ops[i]? = some oi) (hsel : ∀ (j : Nat) (o : Oper) cs b, ops[j]? = some o → o.op ≠ .select cs b)
    (hQ : ∀ c a w, Q (.panic c) (a.put oi.dst v) w → Q (.panic c) a w) :
    ∀ (fuel : Nat) (listed : Array Bool) (a : Act) (w : World),
      (∀ j oj, ops[j]? = some oj → j ≠ i → listed.getD j true = false → (∀ e ∈ oj.after, Region.binds md e = true → e.on ≠ i) → oi.apart ops oj = true) →
      (∀ j, listed.getD j true = false → z j = true → waitsT md ops f j i = true) → Shutd md ops listed →
      i ∈ Region.ready md ops listed → YieldsIf P ops S oi v a → S w →
      wpAnyZ P md ops Q S z fuel (listed.setIfInBounds i true) (a.put oi.dst v) w → wpAnyZ P md ops Q S z (fuel + 1) listed a w := by
  intro fuel
  induction fuel with
  | zero =>
    intro listed a w _ _ _ hr hy hS H
    refine ⟨fun h => (by rw [h] at hr; cases hr), fun j hj => ?_⟩
    by_cases hji : j = i
    · subst hji; exact hy.wpOp hi hS ⟨fun _ => hS, H⟩
    · have := ready_mono hj hji
      rw [H.1] at this
      cases this
  | succ fuel ih =>
    intro listed a w hfree hz hsh hr hy hS H
    refine ⟨fun h => (by rw [h] at hr; cases hr), fun j hj => ?_⟩
    by_cases hji : j = i
    · subst hji; exact hy.wpOp hi hS ⟨fun _ => hS, H⟩
    · have h1 := H.2 j (ready_mono hj hji)
      obtain ⟨hjun, oj, hoj, hall⟩ := mem_ready.1 hj
      have hiun := (mem_ready.1 hr).1
      have hinot : listed.getD i false ≠ true := fun h1 => by
        rcases Nat.lt_or_ge i listed.size with h' | h'
        · simp [h'] at hiun h1; rw [hiun] at h1; cases h1
        · simp [Array.getElem?_eq_none h'] at h1
      have hnot : ∀ e ∈ oj.after, Region.binds md e = true → e.on ≠ i := fun e he hb heq => hinot (heq ▸ hall e he hb)
      have hjz : z j = false := by
        cases hzj : z j with
        | false => rfl
        | true => exact absurd (waitsT_listed hsh f j oj hoj hall (hz j hjun hzj)) hinot
      have h2 := wpOp_putIf hoj (hfree j oj hoj hji hjun hnot) (fun cs b => hsel i oi cs b hi) (fun cs b => hsel j oj cs b hoj) hQ hy h1
      have hun' : ∀ k, (listed.setIfInBounds j true).getD k true = false → listed.getD k true = false := fun k hun => by
        by_cases hjk : j = k
        · subst hjk; exact hjun
        · rwa [getD_set_ne true hjk] at hun
      have hfree' : ∀ k ok, ops[k]? = some ok → k ≠ i → (listed.setIfInBounds j true).getD k true = false →
          (∀ e ∈ ok.after, Region.binds md e = true → e.on ≠ i) → oi.apart ops ok = true := fun k ok hk hki hun hno => hfree k ok hk hki (hun' k hun) hno
      refine wpOp_mono (fun a' w' h3 => ⟨h3.2.1, ih (listed.setIfInBounds j true) a' w' hfree' (fun k hk => hz k (hun' k hk)) (shutd_ready hsh hj) (ready_mono hr (Ne.symm hji)) h3.1 (h3.2.1 hjz) ?_⟩) h2
      rw [Array.setIfInBounds_comm _ _ hji]
      exact h3.2.2

/-! ### a stretch in the order of the text -/
def markF (listed : Array Bool) (k : Nat) : Nat → Array Bool
  | 0 => listed
  | n + 1 => markF (listed.setIfInBounds k true) (k + 1) n
/-- From place k on n operations may come up one behind the other, apart from all that is left; what is late waits for each. -/
def segB (md : Region.Mode) (ops : Array Oper) (late : Nat → Bool) : Nat → Nat → Array Bool → Bool
  | 0, _, _ => true
  | n + 1, k, listed =>
    (Region.ready md ops listed).contains k && Region.free md ops listed k && (match ops[k]? with | some o => plainK o | none => false) &&
    ((List.range ops.size).all fun j => listed.getD j true || !late j || waitsT md ops ops.size j k) && segB md ops late n (k + 1) (listed.setIfInBounds k true)
def panicsOk (Q : Exit → Act → World → Prop) : Prop := ∀ c a (n : Tmp) v w, Q (.panic c) (Act.put a (some n) v) w → Q (.panic c) a w
theorem panicsOk.at_ (h : panicsOk Q) (c : List PanicEntry) (a : Act) (d : Option Tmp) (v : Value) (w : World) : Q (.panic c) (Act.put a d v) w → Q (.panic c) a w := by
  cases d with
  | none => exact id
  | some n => exact h c a n v w

theorem wpAnyZ_seg (hs : Region.noSelect ops = true) (hQ : panicsOk Q) {fuel : Nat} {w : World} (hS : S w) (hl0 : ∀ j, ops.size ≤ j → z j = false) : ∀ (l : List Oper) (k : Nat) (listed : Array Bool) (a : Act), (∀ j, j < l.length → l[j]? = ops[k + j]?) →
    segB md ops z l.length k listed = true → Shutd md ops listed → wpQuiet P ops S (fun a' => wpAnyZ P md ops Q S z fuel (markF listed k l.length) a' w) l a → wpAnyZ P md ops Q S z (l.length + fuel) listed a w
  | [], _, _, _, _, _, _, h => by simpa [markF, wpQuiet] using h
  | o :: l, k, listed, a, hl, hB, hsh, h => by
    have h0 : ops[k]? = some o := by simpa using (hl 0 (by simp)).symm
    simp only [List.length_cons, segB, Bool.and_eq_true, h0] at hB
    obtain ⟨⟨⟨⟨hr, hf⟩, hk⟩, hw⟩, hB'⟩ := hB
    have hr' : k ∈ Region.ready md ops listed := by simpa using hr
    have hz : ∀ j, listed.getD j true = false → z j = true → waitsT md ops ops.size j k = true := fun j hj hzj => by
      rcases Nat.lt_or_ge j ops.size with hlt | hge
      · have := List.all_eq_true.1 hw j (List.mem_range.2 hlt)
        simpa [hj, hzj] using this
      · rw [hl0 j hge] at hzj; cases hzj
    have hnext : ∀ v, wpQuiet P ops S (fun a' => wpAnyZ P md ops Q S z fuel (markF (listed.setIfInBounds k true) (k + 1) l.length) a' w) l (a.put o.dst v) → wpAnyZ P md ops Q S z (l.length + fuel) (listed.setIfInBounds k true) (a.put o.dst v) w := fun v hv =>
      wpAnyZ_seg hs hQ hS hl0 l (k + 1) _ _ (fun j hj => by have := hl (j + 1) (by simpa using hj); simpa [Nat.add_assoc, Nat.add_comm 1 j] using this) hB' (shutd_ready hsh hr') hv
    have e1 : (o :: l).length + fuel = (l.length + fuel) + 1 := by simp; omega
    rw [e1]
    simp only [wpQuiet] at h
    by_cases hwt : Region.wanted o (yielded ops a.tmps) = true
    · rw [if_pos hwt] at h
      obtain ⟨v, hv, hK⟩ := h
      exact wpAnyZ_first h0 (Region.noSelect_spec hs) (fun c a w => hQ.at_ c a _ _ w) (l.length + fuel) listed a w (Region.free_spec h0 hf) hz hsh hr' (yieldsIf_of hk hwt hv) hS (hnext v hK)
    · rw [if_neg hwt] at h
      exact wpAnyZ_first h0 (Region.noSelect_spec hs) (fun c a w => hQ.at_ c a _ _ w) (l.length + fuel) listed a w (Region.free_spec h0 hf) hz hsh hr' (.inr ⟨by simpa using hwt, rfl⟩) hS (hnext undef h)

/-- What is left comes up in just one order. -/
def forcedB (md : Region.Mode) (ops : Array Oper) : Nat → Nat → Array Bool → Bool
  | 0, _, listed => (Region.ready md ops listed).isEmpty
  | n + 1, k, listed => (Region.ready md ops listed == [k]) && forcedB md ops n (k + 1) (listed.setIfInBounds k true)
theorem wpAny_forced : ∀ (l : List Oper) (k : Nat) (listed : Array Bool) (a : Act) (w : World), (∀ j, l[j]? = ops[k + j]?) → forcedB md ops l.length k listed = true → wpList P ops Q l a w → wpAny P md ops Q l.length listed a w
  | [], _, _, _, _, _, hB, h => ⟨by simpa [forcedB] using hB, h⟩
  | o :: l, k, listed, a, w, hl, hB, h => by
    have h0 : ops[k]? = some o := by simpa using (hl 0).symm
    simp only [List.length_cons, forcedB, Bool.and_eq_true, beq_iff_eq] at hB
    have hn : ∀ a w, wpList P ops Q l a w → wpAny P md ops Q l.length (listed.setIfInBounds k true) a w := fun a w hh => wpAny_forced l (k + 1) _ a w (fun j => by have := hl (j + 1); simpa [Nat.add_assoc, Nat.add_comm 1 j] using this) hB.2 hh
    refine ⟨fun h1 => (by rw [hB.1] at h1; cases h1), fun j hj => ?_⟩
    rw [hB.1] at hj
    rcases List.mem_cons.1 hj with rfl | hj
    · unfold wpOp
      rw [h0]
      simp only [wpList] at h
      by_cases hwt : Region.wanted o (yielded ops a.tmps) = true
      · rw [if_pos hwt] at h
        simp only [hwt, if_true]
        exact h.imp (Oper.wp_mono hn) id
      · rw [if_neg hwt] at h
        simp only [hwt]
        exact hn _ _ h
    · cases hj

/-- The whole check of a region: n operations that only read, then what comes in one order. -/
def tailB (ops : Array Oper) (n : Nat) : Bool :=
  Region.noSelect ops && decide (n ≤ ops.size) && segB .any ops (fun j => decide (n ≤ j) && decide (j < ops.size)) n 0 (Array.replicate ops.size false) && forcedB .any ops (ops.size - n) n (markF (Array.replicate ops.size false) 0 n)
theorem markF_get : ∀ (n k : Nat) (listed : Array Bool) (j : Nat), k ≤ j → j < k + n → j < listed.size → (markF listed k n).getD j true = true
  | 0, k, _, j, h1, h2, _ => by omega
  | n + 1, k, listed, j, h1, h2, h3 => by
    unfold markF
    by_cases hjk : k = j
    · subst hjk
      have : ∀ (m i : Nat) (l : Array Bool), l.getD k false = true → (markF l i m).getD k false = true := fun m => by
        induction m with
        | zero => intro i l h; exact h
        | succ m ih => intro i l h; exact ih (i + 1) _ (getD_set_true h)
      have h4 := this n (k + 1) (listed.setIfInBounds k true) (by simp [h3])
      rcases Nat.lt_or_ge k (markF (listed.setIfInBounds k true) (k + 1) n).size with h' | h'
      · simp [h'] at h4 ⊢; exact h4
      · simp [Array.getElem?_eq_none h'] at h4
    · exact markF_get n (k + 1) _ j (by omega) (by omega) (by simpa using h3)
theorem wp_region_tail {id : Nat} {l : List Oper} {a : Act} {w : World} (n : Nat) (hm : P.follows .mixedOrders = true) (hB : tailB l.toArray n = true) (hQ : panicsOk Q)
    (h : wpQuiet P l.toArray (fun w' => w' = w.drew) (fun a' => wpList P l.toArray Q (l.drop n) a' w.drew) (l.take n) a) : (Code.region id l.toArray true).wp P Q a w := by
  simp only [tailB, Bool.and_eq_true, decide_eq_true_eq] at hB
  obtain ⟨⟨⟨hs, hn⟩, hseg⟩, hfor⟩ := hB
  have hn' : n ≤ l.length := by simpa using hn
  have hlen : (l.take n).length = n := by simp [hn']
  have hsz : l.toArray.size = n + (l.drop n).length := by simp; omega
  refine wp_region_any hm ?_
  refine wpAny_of_z (S := fun w' => w' = w.drew) (z := fun j => decide (n ≤ j) && decide (j < l.toArray.size)) _ _ _ _ ?_
  have key := wpAnyZ_seg (P := P) (Q := Q) (md := .any) (S := fun w' => w' = w.drew) (z := fun j => decide (n ≤ j) && decide (j < l.toArray.size)) (fuel := (l.drop n).length) (w := w.drew) hs hQ rfl
    (fun j hj => by simp at hj ⊢; omega) (l.take n) 0 (Array.replicate l.toArray.size false) a (fun j hj => by
      have : j < n := by omega
      simp [this]) (by rw [hlen]; exact hseg) (shutd_none _)
  rw [hlen, ← hsz] at key
  refine key ?_
  have conv : ∀ a', wpList P l.toArray Q (l.drop n) a' w.drew → wpAnyZ P .any l.toArray Q (fun w' => w' = w.drew) (fun j => decide (n ≤ j) && decide (j < l.toArray.size)) (l.drop n).length (markF (Array.replicate l.toArray.size false) 0 n) a' w.drew := fun a' ha => by
    refine wpAnyZ_of_any _ _ _ _ (fun j hj => ?_) (wpAny_forced (l.drop n) n _ _ _ (fun j => by simp) (by
      have : (l.drop n).length = l.toArray.size - n := by simp
      rw [this]
      exact hfor) ha)
    rcases Nat.lt_or_ge j n with h1 | h1
    · rw [markF_get n 0 _ j (Nat.zero_le _) (by omega) (by simp; omega)] at hj
      cases hj
    · rcases Nat.lt_or_ge j l.toArray.size with h2 | h2
      · simp only [Bool.and_eq_true, decide_eq_true_eq]; exact ⟨h1, h2⟩
      · have : ∀ (m i : Nat) (b : Array Bool), (markF b i m).size = b.size := fun m => by
          induction m with
          | zero => intro i b; rfl
          | succ m ih => intro i b; unfold markF; rw [ih]; simp
        have h3 : (markF (Array.replicate l.toArray.size false) 0 n).size ≤ j := by rw [this]; simpa using h2
        rw [Array.getD_eq_getD_getElem?, Array.getElem?_eq_none h3] at hj
        cases hj
  have mono : ∀ (m : List Oper) (a : Act) (K K' : Act → Prop), (∀ a, K a → K' a) → wpQuiet P l.toArray (fun w' => w' = w.drew) K m a → wpQuiet P l.toArray (fun w' => w' = w.drew) K' m a := by
    intro m
    induction m with
    | nil => intro a K K' hk h; exact hk _ h
    | cons o m ih =>
      intro a K K' hk h
      simp only [wpQuiet] at h ⊢
      split
      · rename_i hw
        rw [if_pos hw] at h
        obtain ⟨v, h1, h2⟩ := h
        exact ⟨v, h1, ih _ K K' hk h2⟩
      · rename_i hw
        rw [if_neg hw] at h
        exact ih _ K K' hk h
  exact mono _ _ _ _ conv h

/-! ### the same, where what comes first keeps a condition on the world -/
/-- As wpList; behind each of the first m operations S holds. -/
def wpListS (P : Program) (ops : Array Oper) (Q : Exit → Act → World → Prop) (S : World → Prop) : Nat → List Oper → Act → World → Prop
  | 0, l, a, w => wpList P ops Q l a w
  | _ + 1, [], a, w => Q .normal a w
  | m + 1, o :: rest, a, w => if Region.wanted o (yielded ops a.tmps) then o.wp P a w (fun a' w' => S w' ∧ wpListS P ops Q S m rest a' w') Q ∨ (o.asks P a w ∧ LetsOut Q) else wpListS P ops Q S m rest (a.put o.dst undef) w
theorem wpListS_step {m : Nat} {o : Oper} {rest : List Oper} {a : Act} {w : World} (hS : S w)
    (h : ∀ K : Act → World → Prop, Shut (∀ a w, S w → wpListS P ops Q S m rest a w → K a w) → if Region.wanted o (yielded ops a.tmps) = true then Oper.wp P o a w K Q else K (a.put o.dst undef) w) : wpListS P ops Q S (m + 1) (o :: rest) a w := by
  have := h (fun a w => S w ∧ wpListS P ops Q S m rest a w) (fun _ _ h1 h2 => ⟨h1, h2⟩)
  unfold wpListS
  split
  · rename_i hw; rw [if_pos hw] at this; exact .inl this
  · rename_i hw; rw [if_neg hw] at this; exact this.2
theorem wpListS_zero {l : List Oper} {a : Act} {w : World} (h : wpList P ops Q l a w) : wpListS P ops Q S 0 l a w := h

theorem wpAnyZ_forced : ∀ (m : Nat) (l : List Oper) (k : Nat) (listed : Array Bool) (a : Act) (w : World), (∀ j, l[j]? = ops[k + j]?) → forcedB md ops l.length k listed = true → (∀ j, k + m ≤ j → j < k + l.length → z j = true) →
    (∀ j, j < k → listed.getD j true = true) → (∀ j, k + l.length ≤ j → listed.getD j true = true) → S w → wpListS P ops Q S m l a w → wpAnyZ P md ops Q S z l.length listed a w
  | 0, l, k, listed, a, w, hl, hB, hz, hlo, hhi, _, h => by
    refine wpAnyZ_of_any _ _ _ _ (fun j hj => ?_) (wpAny_forced l k _ _ _ hl hB h)
    rcases Nat.lt_or_ge j k with h1 | h1
    · rw [hlo j h1] at hj; cases hj
    · rcases Nat.lt_or_ge j (k + l.length) with h2 | h2
      · exact hz j (by omega) h2
      · rw [hhi j h2] at hj; cases hj
  | m + 1, [], k, listed, a, w, hl, hB, _, _, _, _, h => ⟨by simpa [forcedB] using hB, h⟩
  | m + 1, o :: l, k, listed, a, w, hl, hB, hz, hlo, hhi, hS, h => by
    have h0 : ops[k]? = some o := by simpa using (hl 0).symm
    simp only [List.length_cons, forcedB, Bool.and_eq_true, beq_iff_eq] at hB
    have hun := (mem_ready.1 (show k ∈ Region.ready md ops listed by rw [hB.1]; simp)).1
    have hlt : k < listed.size := by
      rcases Nat.lt_or_ge k listed.size with h' | h'
      · exact h'
      · simp [Array.getElem?_eq_none h'] at hun
    have hn : ∀ a w, S w → wpListS P ops Q S m l a w → wpAnyZ P md ops Q S z l.length (listed.setIfInBounds k true) a w := fun a w hw hh =>
      wpAnyZ_forced m l (k + 1) _ a w (fun j => by have := hl (j + 1); simpa [Nat.add_assoc, Nat.add_comm 1 j] using this) hB.2 (fun j h1 h2 => hz j (by omega) (by simp only [List.length_cons]; omega))
        (fun j hj => by
          by_cases hjk : k = j
          · subst hjk; simp [hlt]
          · rw [getD_set_ne true hjk]; exact hlo j (by omega))
        (fun j hj => by
          rw [getD_set_ne true (by omega)]
          exact hhi j (by simp only [List.length_cons]; omega)) hw hh
    refine ⟨fun h1 => (by rw [hB.1] at h1; cases h1), fun j hj => ?_⟩
    rw [hB.1] at hj
    rcases List.mem_cons.1 hj with rfl | hj
    · unfold wpOp
      rw [h0]
      unfold wpListS at h
      by_cases hwt : Region.wanted o (yielded ops a.tmps) = true
      · rw [if_pos hwt] at h
        simp only [hwt, if_true]
        exact h.imp (Oper.wp_mono fun a w hh => ⟨fun _ => hh.1, hn a w hh.1 hh.2⟩) id
      · rw [if_neg hwt] at h
        simp only [hwt]
        exact ⟨fun _ => hS, hn _ _ hS h⟩
    · cases hj
def tailSB (ops : Array Oper) (n m : Nat) : Bool :=
  Region.noSelect ops && decide (n ≤ ops.size) && segB .any ops (fun j => decide (n + m ≤ j) && decide (j < ops.size)) n 0 (Array.replicate ops.size false) && forcedB .any ops (ops.size - n) n (markF (Array.replicate ops.size false) 0 n)
theorem markF_size : ∀ (m i : Nat) (b : Array Bool), (markF b i m).size = b.size
  | 0, _, _ => rfl
  | m + 1, i, b => by unfold markF; rw [markF_size m]; simp
theorem wp_region_tailS {id : Nat} {l : List Oper} {a : Act} {w : World} (n m : Nat) (hm : P.follows .mixedOrders = true) (hB : tailSB l.toArray n m = true) (hQ : panicsOk Q) (hS : S w.drew)
    (h : wpQuiet P l.toArray S (fun a' => wpListS P l.toArray Q S m (l.drop n) a' w.drew) (l.take n) a) : (Code.region id l.toArray true).wp P Q a w := by
  simp only [tailSB, Bool.and_eq_true, decide_eq_true_eq] at hB
  obtain ⟨⟨⟨hs, hn⟩, hseg⟩, hfor⟩ := hB
  have hn' : n ≤ l.length := by simpa using hn
  have hlen : (l.take n).length = n := by simp [hn']
  have hsz : l.toArray.size = n + (l.drop n).length := by simp; omega
  refine wp_region_any hm ?_
  refine wpAny_of_z (S := S) (z := fun j => decide (n + m ≤ j) && decide (j < l.toArray.size)) _ _ _ _ ?_
  have key := wpAnyZ_seg (P := P) (Q := Q) (md := .any) (S := S) (z := fun j => decide (n + m ≤ j) && decide (j < l.toArray.size)) (fuel := (l.drop n).length) (w := w.drew) hs hQ hS
    (fun j hj => by simp at hj ⊢; omega) (l.take n) 0 (Array.replicate l.toArray.size false) a (fun j hj => by
      have : j < n := by omega
      simp [this]) (by rw [hlen]; exact hseg) (shutd_none _)
  rw [hlen, ← hsz] at key
  refine key ?_
  have conv : ∀ a', wpListS P l.toArray Q S m (l.drop n) a' w.drew → wpAnyZ P .any l.toArray Q S (fun j => decide (n + m ≤ j) && decide (j < l.toArray.size)) (l.drop n).length (markF (Array.replicate l.toArray.size false) 0 n) a' w.drew := fun a' ha => by
    refine wpAnyZ_forced m (l.drop n) n _ _ _ (fun j => by simp) (by
      have : (l.drop n).length = l.toArray.size - n := by simp
      rw [this]
      exact hfor) (fun j h1 h2 => by simp only [Bool.and_eq_true, decide_eq_true_eq]; omega) (fun j hj => markF_get n 0 _ j (Nat.zero_le _) (by omega) (by simp; omega)) (fun j hj => by
        have h3 : (markF (Array.replicate l.toArray.size false) 0 n).size ≤ j := by rw [markF_size, Array.size_replicate]; omega
        rw [Array.getD_eq_getD_getElem?, Array.getElem?_eq_none h3]
        rfl) hS ha
  have mono : ∀ (m : List Oper) (a : Act) (K K' : Act → Prop), (∀ a, K a → K' a) → wpQuiet P l.toArray S K m a → wpQuiet P l.toArray S K' m a := by
    intro m
    induction m with
    | nil => intro a K K' hk h; exact hk _ h
    | cons o m ih =>
      intro a K K' hk h
      simp only [wpQuiet] at h ⊢
      split
      · rename_i hw
        rw [if_pos hw] at h
        obtain ⟨v, h1, h2⟩ := h
        exact ⟨v, h1, ih _ K K' hk h2⟩
      · rename_i hw
        rw [if_neg hw] at h
        exact ih _ K K' hk h
  exact mono _ _ _ _ conv h
/-- The worlds that meet S, as the values of a function: so that the walk's simp sees through. -/
theorem class_of (S : World → Prop) (W0 : World) (h0 : S W0) : ∃ (ι : Type) (_ : Nonempty ι) (F : ι → World), (∀ i, S (F i)) ∧ ∀ W, S W → ∃ i, W = F i := ⟨{W : World // S W}, ⟨⟨W0, h0⟩⟩, Subtype.val, fun i => i.2, fun W h => ⟨⟨W, h⟩, rfl⟩⟩
end
end Go.Proofs.YtlgaeeedkihfpaaGreatDoor.Uf
