/-
  Texts of the proof of Chain, one behind the other: ChaE, ChaF.
-/
import Derived.Test.YtlgaeeedkihfpaaGreatDoorC03
/-
  TopChain in plain Lean: what is clean is a fine tree, and each of its elements is the policy's.
-/
namespace Go.Proofs.YtlgaeeedkihfpaaGreatDoor.Tz

/-! ### nodes put -/
def flagT (b : Bool) (k : List Nod) : Bool := if k = [] then b else lastT k
theorem txL_app : ∀ {k : List Nod} {b : Bool} {n : Nod}, TxL b k → (n.name = [] → n.text ≠ [] ∧ flagT b k = false) → (n.name ≠ [] → TxN n) → TxL b (k ++ [n])
  | [], b, n, _, h1, h2 => by
    show TxL b [n]
    unfold TxL
    by_cases hn : n.name = []
    · obtain ⟨h3, h4⟩ := h1 hn
      exact .inl ⟨hn, h4, h3, by simp [TxL]⟩
    · exact .inr ⟨hn, h2 hn, by simp [TxL]⟩
  | x :: k, b, n, h, h1, h2 => by
    show TxL b (x :: (k ++ [n]))
    unfold TxL at h ⊢
    have hfl : ∀ c, flagT c k = (if k = [] then c else lastT (x :: k)) := fun c => by
      unfold flagT
      cases k with
      | nil => rfl
      | cons y k => simp [lastT]
    rcases h with ⟨g1, g2, g3, g4⟩ | ⟨g1, g2, g3⟩
    · refine .inl ⟨g1, g2, g3, txL_app g4 (fun hn => ⟨(h1 hn).1, ?_⟩) h2⟩
      have := (h1 hn).2
      rw [hfl]
      unfold flagT at this
      rw [if_neg (by simp)] at this
      cases k with
      | nil => simp [lastT, g1] at this
      | cons y k => simpa using this
    · refine .inr ⟨g1, g2, txL_app g3 (fun hn => ⟨(h1 hn).1, ?_⟩) h2⟩
      have := (h1 hn).2
      rw [hfl]
      unfold flagT at this
      rw [if_neg (by simp)] at this
      cases k with
      | nil => rfl
      | cons y k => simpa using this
theorem flag_false (k : List Nod) : flagT false k = lastT k := by
  unfold flagT
  cases k <;> simp [lastT]
/-- The last text made longer. -/
theorem txL_join : ∀ {k : List Nod} {b : Bool} {x y : Nod}, TxL b (k ++ [x]) → x.name = [] → y.name = [] → y.text ≠ [] → TxL b (k ++ [y])
  | [], b, x, y, h, hx, hy, ht => by
    have h : TxL b [x] := h
    show TxL b [y]
    unfold TxL at h ⊢
    rcases h with ⟨_, g2, _, _⟩ | ⟨g1, _, _⟩
    · exact .inl ⟨hy, g2, ht, by simp [TxL]⟩
    · exact absurd hx g1
  | z :: k, b, x, y, h, hx, hy, ht => by
    have h : TxL b (z :: (k ++ [x])) := h
    show TxL b (z :: (k ++ [y]))
    unfold TxL at h ⊢
    rcases h with ⟨g1, g2, g3, g4⟩ | ⟨g1, g2, g3⟩
    · exact .inl ⟨g1, g2, g3, txL_join g4 hx hy ht⟩
    · exact .inr ⟨g1, g2, txL_join g3 hx hy ht⟩

mutual
/-- Each element is of a kind. -/
def AllN (Q : B → List Atr → Prop) : Nod → Prop
  | .mk n a _ k => n = [] ∨ (Q n a ∧ AllL Q k)
def AllL (Q : B → List Atr → Prop) : List Nod → Prop
  | [] => True
  | n :: r => AllN Q n ∧ AllL Q r
end
theorem allL_iff {Q : B → List Atr → Prop} (l : List Nod) : AllL Q l ↔ ∀ n ∈ l, AllN Q n := by
  induction l with
  | nil => simp [AllL]
  | cons n r ih => simp [AllL, ih]
/-- What is put behind a list. -/
theorem put_all {P : List Nod → Prop} {out : List Nod} {n : Nod} (h : P out) (happ : n.name ≠ [] → P (out ++ [n])) (hnew : n.name = [] → n.text ≠ [] → lastT out = false → P (out ++ [txt n.text]))
    (hjoin : ∀ init x, out = init ++ [x] → x.name = [] → n.text ≠ [] → P (init ++ [.mk x.name x.attrs (x.text ++ n.text) x.kids])) : P (putS out n) := by
  unfold putS
  by_cases hn : n.name = []
  · rw [if_neg (by simpa using hn)]
    by_cases ht : n.text = []
    · rw [if_pos ht]; exact h
    · rw [if_neg ht]
      cases hl : out.getLast? with
      | none =>
        have hj : joinK n.text out = none := by unfold joinK; rw [hl]
        rw [hj]
        exact hnew hn ht (by unfold lastT; rw [hl])
      | some x =>
        by_cases hx : x.name = []
        · have hj : joinK n.text out = some (out.dropLast ++ [.mk x.name x.attrs (x.text ++ n.text) x.kids]) := by unfold joinK; rw [hl]; simp [hx]
          rw [hj]
          have he : out = out.dropLast ++ [x] := by
            have hne : out ≠ [] := fun e => by rw [e] at hl; cases hl
            have := List.dropLast_concat_getLast hne
            rw [List.getLast?_eq_some_getLast hne] at hl
            injection hl with hl
            rw [← hl]
            exact this.symm
          exact hjoin _ x he hx ht
        · have hj : joinK n.text out = none := by unfold joinK; rw [hl]; simp [hx]
          rw [hj]
          exact hnew hn ht (by unfold lastT; rw [hl]; simpa using hx)
  · rw [if_pos hn]; exact happ hn
theorem put_fi {pf lf : Bool} {out : List Nod} {n : Nod} (h : FiL pf lf out) (hn : n.name ≠ [] → FiN pf lf n) : FiL pf lf (putS out n) := by
  refine put_all h (fun hne => fiL_app h (.inr ⟨hne, hn hne⟩)) (fun _ _ _ => fiL_app h (.inl ⟨rfl, rfl, rfl⟩)) (fun init x he hx _ => ?_)
  subst he
  rw [fiL_iff] at h
  have hx' := h x (by simp)
  refine fiL_app ?_ ?_
  · rw [fiL_iff]
    exact fun m hm => h m (by simp [hm])
  · rcases hx' with g | g
    · exact .inl ⟨g.1, g.2.1, g.2.2⟩
    · exact absurd hx g.1
theorem put_tx {out : List Nod} {n : Nod} (h : TxL false out) (hn : n.name ≠ [] → TxN n) : TxL false (putS out n) := by
  refine put_all h (fun hne => txL_app h (fun e => absurd e hne) hn) (fun _ ht hl => txL_app h (fun _ => ⟨ht, by rw [flag_false]; exact hl⟩) (fun e => absurd rfl e)) (fun init x he hx ht => ?_)
  subst he
  refine txL_join h hx ?_ ?_
  · exact hx
  · intro e
    have e : x.text ++ n.text = [] := e
    exact ht (List.append_eq_nil_iff.1 e).2
theorem put_allE {Q : B → List Atr → Prop} {out : List Nod} {n : Nod} (h : AllL Q out) (hn : n.name ≠ [] → AllN Q n) : AllL Q (putS out n) := by
  have happ : ∀ {l : List Nod} {m : Nod}, AllL Q l → AllN Q m → AllL Q (l ++ [m]) := fun hl hm => by
    rw [allL_iff] at hl ⊢
    intro y hy
    rcases List.mem_append.1 hy with g | g
    · exact hl y g
    · simp at g; rw [g]; exact hm
  refine put_all h (fun hne => happ h (hn hne)) (fun _ _ _ => happ h (by unfold txt AllN; exact .inl rfl)) (fun init x he hx _ => ?_)
  subst he
  rw [allL_iff] at h
  refine happ ?_ ?_
  · rw [allL_iff]; exact fun m hm => h m (by simp [hm])
  · unfold AllN; exact .inl hx

/-! ### attributes -/
theorem attrS_name {p : Pol} {e : B} {a b : Atr} (h : attrS p e a = some b) : b.name = a.name ∧ a.name ≠ relN ∧ valueP p e b = true := by
  simp only [attrS] at h
  split at h
  · cases h
  · rename_i hr
    generalize hc : (if a.name = styleN then (⟨a.name, filterS a.val p.props⟩ : Atr) else if a.name = classN then ⟨a.name, classesS a.val p.classes⟩ else a) = c at h
    have hcn : c.name = a.name := by
      rw [← hc]
      split
      · rfl
      · split <;> rfl
    split at h
    · rename_i hv
      injection h with h
      subst h
      exact ⟨hcn, hr, hv⟩
    · cases h
theorem filter_names {p : Pol} {e : B} : ∀ {l : List Atr}, (l.map (·.name)).Nodup → ((l.filterMap (attrS p e)).map (·.name)).Nodup ∧ ∀ b ∈ l.filterMap (attrS p e), b.name ≠ relN ∧ valueP p e b = true ∧ ∃ a ∈ l, a.name = b.name
  | [], _ => ⟨by simp, by simp⟩
  | a :: l, h => by
    rw [List.map_cons, List.nodup_cons] at h
    obtain ⟨h1, h2⟩ := filter_names (p := p) (e := e) h.2
    rw [List.filterMap_cons]
    cases ha : attrS p e a with
    | none => exact ⟨h1, fun b hb => by obtain ⟨g1, g2, c, hc, e⟩ := h2 b hb; exact ⟨g1, g2, c, List.mem_cons_of_mem _ hc, e⟩⟩
    | some b =>
      obtain ⟨g1, g2, g3⟩ := attrS_name ha
      refine ⟨?_, fun c hc => ?_⟩
      · simp only [List.map_cons, List.nodup_cons]
        refine ⟨fun hm => ?_, h1⟩
        obtain ⟨c, hc, e⟩ := List.mem_map.1 hm
        obtain ⟨_, _, d, hd, e2⟩ := h2 c hc
        exact h.1 (by rw [← g1, ← e, ← e2]; exact List.mem_map_of_mem hd)
      · simp only [List.mem_cons] at hc
        rcases hc with rfl | hc
        · exact ⟨by rw [g1]; exact g2, g3, a, List.mem_cons_self, g1.symm⟩
        · obtain ⟨k1, k2, d, hd, e⟩ := h2 c hc
          exact ⟨k1, k2, d, List.mem_cons_of_mem _ hd, e⟩
/-- What an element of a cleaned tree is. -/
def ElemOk (p : Pol) (n : B) (a : List Atr) : Prop :=
  elemP p n = true ∧ (∀ x ∈ a, valueP p n x = true) ∧ (n = aN → a.any (fun x => x.name == hrefN) = a.any (fun x => x.name == relN)) ∧ (n = aN → a.any (fun x => x.name == hrefN) = true → ∃ init x, a = init ++ [x] ∧ x.name = relN)
theorem attrsS_fine {p : Pol} {n : B} {l : List Atr} (he : elemP p n = true) (h : (l.map (·.name)).Nodup) : ((attrsS p n l).map (·.name)).Nodup ∧ ElemOk p n (attrsS p n l) := by
  obtain ⟨h1, h2⟩ := filter_names (p := p) (e := n) h
  have hnr : (l.filterMap (attrS p n)).any (fun x => x.name == relN) = false := by
    rw [List.any_eq_false]
    intro x hx
    simpa using (h2 x hx).1
  unfold attrsS
  simp only
  by_cases hc : n = aN ∧ (l.filterMap (attrS p n)).any (fun a => a.name == hrefN) = true
  · rw [if_pos hc]
    refine ⟨?_, he, ?_, fun _ => ?_, fun _ _ => ⟨_, _, rfl, rfl⟩⟩
    · rw [List.map_append, List.nodup_append]
      refine ⟨h1, by simp, fun x hx y hy e => ?_⟩
      simp only [List.map_cons, List.map_nil, List.mem_singleton] at hy
      obtain ⟨b, hb, eb⟩ := List.mem_map.1 hx
      exact (h2 b hb).1 (by rw [eb, e, hy])
    · intro x hx
      rcases List.mem_append.1 hx with g | g
      · exact (h2 x g).2.1
      · simp at g
        subst g
        unfold valueP
        rw [he, hc.1]
        rfl
    · rw [List.any_append, List.any_append, hc.2, hnr]
      rfl
  · rw [if_neg hc]
    refine ⟨h1, he, fun x hx => (h2 x hx).2.1, fun hn => ?_, fun hn hh => absurd ⟨hn, hh⟩ hc⟩
    rw [hnr]
    cases hq : (l.filterMap (attrS p n)).any (fun a => a.name == hrefN) with
    | false => rfl
    | true => exact absurd ⟨hn, hq⟩ hc

/-! ### what is clean -/
theorem li_rights {p : Pol} (h : rightP p = true) (hl : elemP p liN = true) : elemP p ulN = true ∧ elemP p olN = true := by
  simp only [rightP, Bool.and_eq_true, Bool.or_eq_true] at h
  unfold elemP at hl ⊢
  rcases h.2 with h | h
  · rw [hl] at h; cases h
  · exact h
structure Clean (p : Pol) (pf lf : Bool) (l : List Nod) : Prop where
  fi : FiL pf lf l
  tx : TxL false l
  al : AllL (ElemOk p) l
  gd : GoodL l
theorem Clean.nil {p : Pol} {pf lf : Bool} : Clean p pf lf [] := ⟨by simp [FiL], by simp [TxL], by simp [AllL], by simp [GoodL]⟩
mutual
theorem clean_node {p : Pol} (hr : rightP p = true) : ∀ (n : Nod) (out : List Nod) (pf lf pf' lf' : Bool), ((n.name = [] ∧ n.attrs = [] ∧ n.kids = []) ∨ (n.name ≠ [] ∧ FiN pf lf n)) → (pf' = true → pf = true) → (lf' = true → elemP p liN = true → lf = true) → Clean p pf' lf' out → Clean p pf' lf' (nodeS p out n)
  | .mk n a t k, out, pf, lf, pf', lf', hn, hp, hl, ho => by
    unfold nodeS
    by_cases h1 : n = []
    · rw [if_pos h1]
      exact ⟨put_fi ho.fi (fun h => absurd h1 h), put_tx ho.tx (fun h => absurd h1 h), put_allE ho.al (fun h => absurd h1 h), good_put ho.gd (by unfold GoodN; exact .inl h1)⟩
    rw [if_neg h1]
    have hf : FiN pf lf (.mk n a t k) := by
      rcases hn with h | h
      · exact absurd h.1 h1
      · exact h.2
    obtain ⟨ht, hd, hv, hb, hli, hk⟩ := fiN_mk.1 hf
    by_cases h2 : dropL n = true
    · rw [if_pos h2]; exact ho
    rw [if_neg h2]
    by_cases h3 : elemP p n = true
    · rw [if_pos h3]
      obtain ⟨g1, g2⟩ := attrsS_fine (p := p) (l := a) h3 hd
      have hm := (rights hr).1 n (by simpa [elemP] using h3)
      have hkids := clean_fold hr k [] (pf || n == pN) (inLi n lf) (pf' || n == pN) (inLi n lf') hk (fun h => by
        cases hpp : pf' with
        | true => rw [hp hpp]; rfl
        | false => rw [hpp] at h; simp at h; simp [h]) (fun h hq => by
        unfold inLi at h ⊢
        by_cases e1 : n = liN
        · rw [if_pos e1]
        · rw [if_neg e1] at h ⊢
          by_cases e2 : n = ulN ∨ n = olN
          · rw [if_pos e2] at h; cases h
          · rw [if_neg e2] at h ⊢; exact hl h hq) Clean.nil
      have hfi : FiN pf' lf' (.mk n (attrsS p n a) [] (foldS p [] k)) := fiN_mk.2 ⟨rfl, g1, fun hvo => by rw [hv hvo]; simp [foldS], fun h => hb (hp h), fun h e => hli (hl h (by rw [← e]; exact h3)) e, hkids.fi⟩
      refine ⟨put_fi ho.fi (fun _ => hfi), put_tx ho.tx (fun _ => by unfold TxN; exact hkids.tx), put_allE ho.al (fun _ => by unfold AllN; exact .inr ⟨g2, hkids.al⟩), good_put ho.gd (by unfold GoodN; exact .inr ⟨⟨hm.1, drop_never hm.2⟩, attrsS_ok hr n a, hkids.gd⟩)⟩
    · rw [if_neg h3]
      refine clean_fold hr k out (pf || n == pN) (inLi n lf) pf' lf' hk (fun h => by rw [hp h]; rfl) (fun h hq => ?_) ho
      unfold inLi
      by_cases e1 : n = liN
      · rw [if_pos e1]
      · rw [if_neg e1]
        by_cases e2 : n = ulN ∨ n = olN
        · exfalso
          obtain ⟨q1, q2⟩ := li_rights hr hq
          rcases e2 with e2 | e2
          · exact h3 (by rw [e2]; exact q1)
          · exact h3 (by rw [e2]; exact q2)
        · rw [if_neg e2]; exact hl h hq
theorem clean_fold {p : Pol} (hr : rightP p = true) : ∀ (l : List Nod) (out : List Nod) (pf lf pf' lf' : Bool), FiL pf lf l → (pf' = true → pf = true) → (lf' = true → elemP p liN = true → lf = true) → Clean p pf' lf' out → Clean p pf' lf' (foldS p out l)
  | [], out, pf, lf, pf', lf', _, _, _, ho => by unfold foldS; exact ho
  | n :: r, out, pf, lf, pf', lf', h, hp, hl, ho => by
    unfold foldS
    unfold FiL at h
    exact clean_fold hr r _ pf lf pf' lf' h.2 hp hl (clean_node hr n out pf lf pf' lf' h.1 hp hl ho)
end
theorem clean_tree {p : Pol} (hr : rightP p = true) {s : B} {k : List Nod} (h : buildL (toksL s) = some k) : Clean p false false (foldS p [] k) :=
  clean_fold hr k [] false false false false (build_fine h) (fun h => h) (fun h _ => h) Clean.nil
/-- An escaped text: a tree of one text, or none. -/
theorem clean_text {p : Pol} (s : B) : ∃ c, htmlL c = escapeL false s ∧ Clean p false false c ∧ (sizeL c).1 ≤ 1 ∧ (sizeL c).2 = 0 := by
  by_cases hs : s = []
  · subst hs
    exact ⟨[], by simp [htmlL, escapeL], Clean.nil, by simp [sizeL], by simp [sizeL]⟩
  · refine ⟨[txt s], ?_, ⟨?_, ?_, ?_, ?_⟩, ?_, ?_⟩
    · rw [htmlL_cons]
      unfold txt htmlN
      simp [htmlL]
    · unfold FiL; exact ⟨.inl ⟨rfl, rfl, rfl⟩, by simp [FiL]⟩
    · unfold TxL; exact .inl ⟨rfl, rfl, hs, by simp [TxL]⟩
    · unfold AllL txt AllN; exact ⟨.inl rfl, by simp [AllL]⟩
    · unfold GoodL txt GoodN; exact ⟨.inl rfl, by simp [GoodL]⟩
    · rw [sizeL_cons]; unfold txt; rw [sizeN_mk]; simp [sizeL]
    · rw [sizeL_cons]; unfold txt; rw [sizeN_mk]; simp [sizeL]
end Go.Proofs.YtlgaeeedkihfpaaGreatDoor.Tz

/-
  TopChain in plain Lean: Stable, Safe and Stricter; what is clean is safe, and safe by each policy that is less strict.
-/
namespace Go.Proofs.YtlgaeeedkihfpaaGreatDoor.Tz

def digitB (c : UInt8) : Bool := decide (48 ≤ c.toNat) && decide (c.toNat ≤ 57)
/-- A small letter, and such, digits and others behind it. -/
def smallS (s others : B) : Bool := match s with
  | [] => false
  | c :: r => smallB c && r.all fun c => smallB c || digitB c || others.contains c
def onceN : List Atr → List B → Bool
  | [], _ => true
  | a :: r, seen => smallS a.name [45, 95, 58] && !seen.contains a.name && onceN r (seen ++ [a.name])
def ownP (n : Nod) : Bool := !(rawL n.name).1 && smallS n.name [45] && n.text == [] && !(voidL n.name && !n.kids.isEmpty) && onceN n.attrs []
mutual
def stN (pf lf : Bool) : Nod → Bool
  | .mk n a t k => ownP (.mk n a t k) && !(pf && blockL n) && !(lf && n == liN) && stG (pf || n == pN) (inLi n lf) false k
def stG (pf lf text : Bool) : List Nod → Bool
  | [] => true
  | n :: r => if n.name = [] then (!text && n.text != [] && n.attrs.isEmpty && n.kids.isEmpty) && stG pf lf true r else stN pf lf n && stG pf lf false r
end
def stableP (l : List Nod) : Bool := decide ((sizeL l).1 ≤ 2000) && decide ((sizeL l).2 ≤ 64) && stG false false false l
def lastRel (a : List Atr) : Bool := match a.getLast? with | some x => x.name == relN | none => false
def hasHref (a : List Atr) : Bool := a.any fun x => x.name == hrefN
def hasRel (a : List Atr) : Bool := a.any fun x => x.name == relN
def elementP (p : Pol) (n : B) (a : List Atr) : Bool := a.all (valueP p n) && !(n == aN && ((hasHref a != hasRel a) || (hasHref a && !lastRel a))) && elemP p n
mutual
def eaN (p : Pol) : Nod → Bool
  | .mk n a _ k => n == [] || (elementP p n a && eaL p k)
def eaL (p : Pol) : List Nod → Bool
  | [] => true
  | n :: r => eaN p n && eaL p r
end
def safeP (p : Pol) (l : List Nod) : Bool := decide (((sizeL l).1 : Int) ≤ p.nodes) && decide (((sizeL l).2 : Int) ≤ p.depth) && stableP l && eaL p l
def allP (a b : List B) : Bool := a.all fun s => b.contains s
def looseA (q : Pol) (s : B) : Bool := q.attrs.contains s || q.attrs.contains (42 :: s.dropWhile (· != 46))
def strictP (p q : Pol) : Bool := p.attrs.all (looseA q) && (decide (p.depth ≤ q.depth) && decide (p.nodes ≤ q.nodes) && decide (p.bytes ≤ q.bytes)) && allP p.elems q.elems && allP p.schemes q.schemes && allP p.classes q.classes && allP p.props q.props

/-! ### what is clean is safe -/
theorem small_word {n : B} (h : wordL n = true) (o : B) (ho : o.contains 45 = true) : smallS n o = true := by
  cases n with
  | nil => simp [wordL] at h
  | cons c r =>
    simp only [wordL, Bool.and_eq_true] at h
    simp only [smallS, Bool.and_eq_true]
    refine ⟨h.1.1, List.all_eq_true.2 fun d hd => ?_⟩
    have := List.all_eq_true.1 h.1.2 d hd
    simp only [wordC, Bool.or_eq_true] at this
    simp only [Bool.or_eq_true]
    rcases this with (h1 | h1) | h1
    · exact .inl (.inl h1)
    · exact .inl (.inr h1)
    · refine .inr ?_
      rw [beq_iff_eq] at h1
      rw [h1]
      exact ho
theorem once_of : ∀ (l : List Atr) (seen : List B), (∀ a ∈ l, wordL a.name = true) → (l.map (·.name)).Nodup → (∀ a ∈ l, ¬ a.name ∈ seen) → onceN l seen = true
  | [], _, _, _, _ => rfl
  | a :: l, seen, hw, hd, hs => by
    rw [List.map_cons, List.nodup_cons] at hd
    unfold onceN
    rw [small_word (hw a List.mem_cons_self) _ (by decide)]
    have h1 : seen.contains a.name = false := by
      rw [← Bool.not_eq_true, List.contains_iff_mem]
      exact hs a List.mem_cons_self
    rw [h1, once_of l (seen ++ [a.name]) (fun b hb => hw b (List.mem_cons_of_mem _ hb)) hd.2 (fun b hb hm => by
      rcases List.mem_append.1 hm with e | e
      · exact hs b (List.mem_cons_of_mem _ hb) e
      · rw [List.mem_singleton] at e
        exact hd.1 (by rw [← e]; exact List.mem_map_of_mem hb))]
    rfl
mutual
theorem stable_node : ∀ (n : Nod) (pf lf : Bool), n.name ≠ [] → GoodN n → FiN pf lf n → TxN n → stN pf lf n = true
  | .mk n a t k, pf, lf, hne, hg, hf, ht => by
    have hne2 : n ≠ [] := hne
    unfold GoodN at hg
    rcases hg with hg | ⟨h1, h2, h3⟩
    · exact absurd hg hne2
    obtain ⟨ht0, hd, hv, hb, hli, hk⟩ := fiN_mk.1 hf
    unfold TxN at ht
    unfold stN
    have e1 : ownP (.mk n a t k) = true := by
      unfold ownP
      simp only [Nod.name, Nod.text, Nod.kids, Nod.attrs]
      rw [raw_of_drop h1.2, small_word h1.1 _ (by decide), ht0, once_of a [] (fun x hx => (h2 x hx).1) hd (by simp)]
      cases hvo : voidL n with
      | false => rfl
      | true => rw [hv hvo]; rfl
    have e2 : (pf && blockL n) = false := by
      cases hpf : pf with
      | false => rfl
      | true => rw [hb hpf]; rfl
    have e3 : (lf && n == liN) = false := by
      cases hlf : lf with
      | false => rfl
      | true => simpa using hli hlf
    rw [e1, e2, e3, stable_list k _ _ false h3 hk ht]
    rfl
theorem stable_list : ∀ (k : List Nod) (pf lf text : Bool), GoodL k → FiL pf lf k → TxL text k → stG pf lf text k = true
  | [], _, _, _, _, _, _ => by simp [stG]
  | .mk n a t kd :: r, pf, lf, text, hg, hf, ht => by
    unfold GoodL at hg
    unfold FiL at hf
    unfold TxL at ht
    unfold stG
    rcases ht with ⟨hn, htf, htx, htr⟩ | ⟨hn, htn, htr⟩
    · have hn2 : n = [] := hn
      have htx2 : t ≠ [] := htx
      obtain ⟨ha, hkd⟩ : a = [] ∧ kd = [] := by
        rcases hf.1 with h | h
        · exact ⟨h.2.1, h.2.2⟩
        · exact absurd hn h.1
      rw [if_pos hn, stable_list r pf lf true hg.2 hf.2 htr, htf, ha, hkd]
      have : (t != []) = true := by simpa using htx2
      simp only [Nod.text, Nod.attrs, Nod.kids]
      rw [this]
      rfl
    · have hfn : FiN pf lf (.mk n a t kd) := by
        rcases hf.1 with h | h
        · exact absurd h.1 hn
        · exact h.2
      rw [if_neg hn, stable_node _ pf lf hn hg.1 hfn htn, stable_list r pf lf false hg.2 hf.2 htr]
      rfl
end
theorem element_of {p : Pol} {n : B} {a : List Atr} (h : ElemOk p n a) : elementP p n a = true := by
  obtain ⟨h1, h2, h3, h4⟩ := h
  unfold elementP
  rw [h1, List.all_eq_true.2 h2]
  by_cases hn : n = aN
  · have e1 : (hasHref a != hasRel a) = false := by
      unfold hasHref hasRel
      rw [h3 hn]
      simp
    have e2 : (hasHref a && !lastRel a) = false := by
      cases hh : hasHref a with
      | false => rfl
      | true =>
        obtain ⟨init, x, rfl, hx⟩ := h4 hn hh
        simp [lastRel, hx]
    rw [e1, e2]
    simp
  · have : (n == aN) = false := by simpa using hn
    rw [this]
    rfl
mutual
theorem each_node {p : Pol} : ∀ (n : Nod), AllN (ElemOk p) n → eaN p n = true
  | .mk n a t k, h => by
    unfold AllN at h
    unfold eaN
    rcases h with h | ⟨h1, h2⟩
    · rw [h]; rfl
    · rw [element_of h1, each_list k h2]
      simp
theorem each_list {p : Pol} : ∀ (k : List Nod), AllL (ElemOk p) k → eaL p k = true
  | [], _ => by simp [eaL]
  | n :: r, h => by
    unfold AllL at h
    unfold eaL
    rw [each_node n h.1, each_list r h.2]
    rfl
end
theorem right_caps {p : Pol} (h : rightP p = true) : 1 ≤ p.depth ∧ p.depth ≤ 64 ∧ 1 ≤ p.nodes ∧ p.nodes ≤ 2000 ∧ 1 ≤ p.bytes ∧ p.bytes ≤ 16384 := by
  simp only [rightP, Bool.and_eq_true, decide_eq_true_eq] at h
  obtain ⟨⟨⟨⟨⟨⟨⟨⟨⟨⟨⟨⟨⟨_, _⟩, h1⟩, h2⟩, h3⟩, h4⟩, h5⟩, h6⟩, _⟩, _⟩, _⟩, _⟩, _⟩, _⟩ := h
  exact ⟨h1, h2, h3, h4, h5, h6⟩
theorem safe_clean {p : Pol} {c : List Nod} (hr : rightP p = true) (h : Clean p false false c) (h1 : ((sizeL c).1 : Int) ≤ p.nodes) (h2 : ((sizeL c).2 : Int) ≤ p.depth) : safeP p c = true ∧ buildL (toksL (htmlL c)) = some c := by
  obtain ⟨_, g1, _, g2, _, _⟩ := right_caps hr
  have s1 : (sizeL c).1 ≤ 2000 := by omega
  have s2 : (sizeL c).2 ≤ 64 := by omega
  refine ⟨?_, round_trip h.gd h.fi h.tx s1 s2⟩
  unfold safeP stableP
  rw [stable_list c false false false h.gd h.fi h.tx, each_list c h.al]
  simp [h1, h2, s1, s2]

/-! ### a looser policy -/
theorem allP_sub {a b : List B} (h : allP a b = true) {s : B} (hs : a.contains s = true) : b.contains s = true := by
  unfold allP at h
  rw [List.contains_iff_mem] at hs
  exact List.all_eq_true.1 h s hs
structure Strict (p q : Pol) : Prop where
  at_ : ∀ s, p.attrs.contains s = true → looseA q s = true
  dp : p.depth ≤ q.depth
  nd : p.nodes ≤ q.nodes
  el : allP p.elems q.elems = true
  sc : allP p.schemes q.schemes = true
  cl : allP p.classes q.classes = true
  pr : allP p.props q.props = true
theorem strict_of {p q : Pol} (h : strictP p q = true) : Strict p q := by
  simp only [strictP, Bool.and_eq_true, decide_eq_true_eq] at h
  obtain ⟨⟨⟨⟨⟨h1, ⟨h2, h3⟩, _⟩, h5⟩, h6⟩, h7⟩, h8⟩ := h
  exact ⟨fun s hs => List.all_eq_true.1 h1 s (List.contains_iff_mem.1 hs), h2, h3, h5, h6, h7, h8⟩
theorem elem_mono {p q : Pol} (h : Strict p q) {e : B} (he : elemP p e = true) : elemP q e = true := allP_sub h.el he
theorem attr_mono {p q : Pol} (hr : rightP p = true) (h : Strict p q) {e a : B} (ha : attrP p e a = true) : attrP q e a = true := by
  have hR := rights hr
  simp only [attrP, Bool.and_eq_true, Bool.or_eq_true] at ha ⊢
  obtain ⟨he, ha⟩ := ha
  refine ⟨elem_mono h he, ?_⟩
  have hdw : ∀ x : B, (∀ c ∈ x, c ≠ 46) → (x ++ 46 :: a).dropWhile (· != 46) = 46 :: a := fun x hx =>
    (takeWhile_all (p := fun x => x != 46) (a := x) (b := 46 :: a) (fun d hd => by simpa using hx d hd) (by simp)).2
  rcases ha with ha | ha
  · have := h.at_ _ ha
    unfold looseA at this
    rw [Bool.or_eq_true] at this
    rcases this with g | g
    · exact .inl g
    · have e : ([42, 46] ++ a : B) = [42] ++ 46 :: a := rfl
      rw [e, hdw [42] (by simp)] at g
      exact .inl g
  · have hw := (hR.1 e (by simpa [elemP] using he)).1
    have := h.at_ _ ha
    unfold looseA at this
    rw [Bool.or_eq_true] at this
    rcases this with g | g
    · exact .inr g
    · have e1 : (e ++ [46] ++ a : B) = e ++ 46 :: a := by simp
      rw [e1, hdw e (fun c hc => word_46 (word_all hw c hc))] at g
      exact .inl g
theorem once_mono {l l' : List B} (h : allP l l' = true) : ∀ (v seen : List B), onceG l v seen = true → onceG l' v seen = true
  | [], _, _ => rfl
  | c :: r, seen, hv => by
    unfold onceG at hv ⊢
    simp only [Bool.and_eq_true] at hv ⊢
    exact ⟨⟨hv.1.1, allP_sub h hv.1.2⟩, once_mono h r _ hv.2⟩
theorem allowed_mono {p q : Pol} (h : Strict p q) {v : B} (ha : allowedU v p.schemes = true) : allowedU v q.schemes = true := by
  unfold allowedU at ha ⊢
  split
  · rename_i x hx
    rw [hx] at ha
    exact allP_sub h.sc ha
  · rename_i hx
    rw [hx] at ha
    exact ha

/-! ### styles -/
theorem lasts_sub : ∀ (l : List (B × B)), (lastsL l).Sublist l
  | [] => by unfold lastsL; exact List.Sublist.refl _
  | x :: r => by
    unfold lastsL
    split
    · exact (lasts_sub r).cons _
    · exact (lasts_sub r).cons_cons _
theorem split_len : ∀ (s : B), (splitL 59 s).length = s.count 59 + 1
  | [] => rfl
  | x :: s => by
    have ih := split_len s
    unfold splitL
    by_cases h : x = 59
    · rw [if_pos h, List.length_cons, ih, h, List.count_cons_self]
    · rw [if_neg h, List.count_cons_of_ne h]
      cases hs : splitL 59 s with
      | nil => rw [hs] at ih; simp at ih
      | cons a t => rw [hs] at ih; simpa using ih
theorem join_count : ∀ (l : List B), (∀ x ∈ l, (59 : UInt8) ∉ x) → l ≠ [] → (joinL [59, 32] l).count 59 + 1 = l.length
  | [], _, h => absurd rfl h
  | [x], hx, _ => by
    have := hx x (by simp)
    simp [joinL, List.count_eq_zero.2 this]
  | x :: y :: r, hx, _ => by
    have ih := join_count (y :: r) (fun z hz => hx z (List.mem_cons_of_mem _ hz)) (by simp)
    have h1 := List.count_eq_zero.2 (hx x (by simp))
    unfold joinL
    rw [List.count_append, List.count_append, h1]
    simp only [List.length_cons] at ih ⊢
    have e : List.count (59 : UInt8) [59, 32] = 1 := by decide
    omega
theorem pairs_len (v : B) : (pairsL v).length ≤ (splitL 59 v).length := by
  unfold pairsL
  rw [List.length_map]
  exact List.length_filterMap_le _ _
theorem style_59 {v : B} (h : styleV v = true) : (59 : UInt8) ∉ v := by
  intro hm
  simp only [styleV, Bool.and_eq_true] at h
  have := List.all_eq_true.1 h.2 59 hm
  exact absurd this (by decide)
theorem word_59 {n : B} (h : wordL n = true) : (59 : UInt8) ∉ n := fun hm => by
  have := word_all h 59 hm
  exact absurd this (by decide)
theorem filter_mono {p q : Pol} (hr : rightP p = true) (h : Strict p q) {v : B} (hne : v ≠ []) (hv : filterS v p.props = v) : filterS v q.props = v := by
  have hprops : ∀ s ∈ p.props, wordL s = true := by
    simp only [rightP, Bool.and_eq_true] at hr
    obtain ⟨⟨_, hp⟩, _⟩ := hr
    simp only [listOk, Bool.and_eq_true] at hp
    exact fun s hs => List.all_eq_true.1 hp.1.2 s hs
  obtain ⟨K, hK⟩ : ∃ K, K = (pairsL v).filter (fun x => p.props.contains x.1 && styleV x.2) := ⟨_, rfl⟩
  have hfs : filterS v p.props = joinL [59, 32] ((lastsL K).map fun x => x.1 ++ [58, 32] ++ x.2) := by rw [hK]; rfl
  have hKm : ∀ x ∈ K, p.props.contains x.1 = true ∧ styleV x.2 = true := fun x hx => by
    rw [hK, List.mem_filter, Bool.and_eq_true] at hx
    exact hx.2
  have hLne : lastsL K ≠ [] := fun e => by
    rw [hfs, e] at hv
    exact hne hv.symm
  have hcount := join_count ((lastsL K).map fun x => x.1 ++ [58, 32] ++ x.2) (fun y hy => by
    obtain ⟨x, hx, rfl⟩ := List.mem_map.1 hy
    obtain ⟨g1, g2⟩ := hKm x ((lasts_sub K).subset hx)
    have w1 := word_59 (hprops x.1 (List.contains_iff_mem.1 g1))
    have w2 := style_59 g2
    simp only [List.mem_append, not_or]
    exact ⟨⟨w1, by decide⟩, w2⟩) (by simpa using hLne)
  rw [← hfs, hv, ← split_len, List.length_map] at hcount
  have l1 := pairs_len v
  have l2 := (lasts_sub K).length_le
  have l3 : K.length ≤ (pairsL v).length := by rw [hK]; exact List.length_filter_le _ _
  have eK : K = pairsL v := by
    have hs : K.Sublist (pairsL v) := by rw [hK]; exact List.filter_sublist
    exact hs.eq_of_length (by omega)
  have hKq : (pairsL v).filter (fun x => q.props.contains x.1 && styleV x.2) = K := by
    rw [eK, List.filter_eq_self]
    intro x hx
    rw [← eK] at hx
    obtain ⟨g1, g2⟩ := hKm x hx
    rw [allP_sub h.pr g1, g2]
    rfl
  have hfq : filterS v q.props = joinL [59, 32] ((lastsL ((pairsL v).filter (fun x => q.props.contains x.1 && styleV x.2))).map fun x => x.1 ++ [58, 32] ++ x.2) := rfl
  rw [hfq, hKq, ← hfs, hv]
theorem value_mono {p q : Pol} (hr : rightP p = true) (h : Strict p q) {e : B} {a : Atr} (hv : valueP p e a = true) : valueP q e a = true := by
  simp only [valueP, Bool.and_eq_true] at hv ⊢
  refine ⟨elem_mono h hv.1, ?_⟩
  have hv := hv.2
  by_cases h1 : a.name = relN
  · rw [if_pos h1] at hv ⊢; exact hv
  rw [if_neg h1] at hv ⊢
  by_cases h2 : a.name = styleN
  · rw [if_pos h2] at hv ⊢
    simp only [Bool.and_eq_true] at hv ⊢
    refine ⟨hv.1, ?_⟩
    have hne : a.val ≠ [] := by
      have := hv.1
      simpa using this
    rw [beq_iff_eq]
    exact filter_mono hr h hne (by simpa using hv.2)
  rw [if_neg h2] at hv ⊢
  by_cases h3 : a.name = classN
  · rw [if_pos h3] at hv ⊢
    simp only [Bool.and_eq_true] at hv ⊢
    exact ⟨⟨attr_mono hr h hv.1.1, hv.1.2⟩, once_mono h.cl _ _ hv.2⟩
  rw [if_neg h3] at hv ⊢
  simp only [Bool.and_eq_true, Bool.or_eq_true] at hv ⊢
  exact ⟨attr_mono hr h hv.1, hv.2.imp id (fun g => allowed_mono h g)⟩
theorem element_mono {p q : Pol} (hr : rightP p = true) (h : Strict p q) {n : B} {a : List Atr} (he : elementP p n a = true) : elementP q n a = true := by
  simp only [elementP, Bool.and_eq_true] at he ⊢
  exact ⟨⟨List.all_eq_true.2 fun x hx => value_mono hr h (List.all_eq_true.1 he.1.1 x hx), he.1.2⟩, elem_mono h he.2⟩
mutual
theorem eaN_mono {p q : Pol} (hr : rightP p = true) (h : Strict p q) : ∀ (n : Nod), eaN p n = true → eaN q n = true
  | .mk n a t k, he => by
    unfold eaN at he ⊢
    simp only [Bool.or_eq_true, Bool.and_eq_true] at he ⊢
    exact he.imp id (fun g => ⟨element_mono hr h g.1, eaL_mono hr h k g.2⟩)
theorem eaL_mono {p q : Pol} (hr : rightP p = true) (h : Strict p q) : ∀ (k : List Nod), eaL p k = true → eaL q k = true
  | [], _ => by simp [eaL]
  | n :: r, he => by
    unfold eaL at he ⊢
    simp only [Bool.and_eq_true] at he ⊢
    exact ⟨eaN_mono hr h n he.1, eaL_mono hr h r he.2⟩
end
theorem safe_mono {p q : Pol} (hr : rightP p = true) (h : strictP p q = true) {l : List Nod} (hs : safeP p l = true) : safeP q l = true := by
  have h := strict_of h
  simp only [safeP, Bool.and_eq_true, decide_eq_true_eq] at hs ⊢
  exact ⟨⟨⟨Int.le_trans hs.1.1.1 h.nd, Int.le_trans hs.1.1.2 h.dp⟩, hs.1.2⟩, eaL_mono hr h l hs.2⟩
end Go.Proofs.YtlgaeeedkihfpaaGreatDoor.Tz
