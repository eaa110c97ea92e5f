/-
  Texts of the proof of Chain, one behind the other: ChaC, ChaD.
-/
import Derived.Test.YtlgaeeedkihfpaaGreatDoorC02
/-
  TopChain in plain Lean: a fine tree is built of its tokens.
-/
namespace Go.Proofs.YtlgaeeedkihfpaaGreatDoor.Tz

/-- Stands a p open; is the innermost of li, ul, ol a li? -/
def pOf (o : List El) : Bool := (innerO [pN] o).isSome
def liOf (o : List El) : Bool := match innerO [liN, ulN, olN] o with | some (_, x) => x == liN | none => false
theorem inner_cons (ns : List B) (E e : El) (R : List El) : innerO ns (E :: e :: R) = if ns.contains E.name then some (0, E.name) else (innerO ns (e :: R)).map fun x => (x.1 + 1, x.2) := by conv => lhs; unfold innerO
theorem pOf_cons (E e : El) (R : List El) : pOf (E :: e :: R) = (pOf (e :: R) || E.name == pN) := by
  unfold pOf
  rw [inner_cons]
  by_cases h : E.name = pN
  · rw [h]; simp
  · have h1 : [pN].contains E.name = false := by simpa using h
    have h2 : (E.name == pN) = false := by simpa using h
    rw [h1, h2, if_neg (by simp)]
    simp
theorem liOf_cons (E e : El) (R : List El) : liOf (E :: e :: R) = inLi E.name (liOf (e :: R)) := by
  unfold liOf inLi
  rw [inner_cons]
  by_cases h1 : E.name = liN
  · rw [h1]; rfl
  · rw [if_neg h1]
    by_cases h2 : E.name = ulN ∨ E.name = olN
    · rw [if_pos h2]
      rcases h2 with h2 | h2 <;> rw [h2] <;> rfl
    · rw [if_neg h2]
      have h3 : [liN, ulN, olN].contains E.name = false := by
        rw [not_or] at h2
        simp [h1, h2.1, h2.2]
      rw [h3, if_neg (by simp)]
      cases innerO [liN, ulN, olN] (e :: R) with
      | none => rfl
      | some x => rfl
/-- Is a text the last? -/
def lastT (k : List Nod) : Bool := match k.getLast? with | some n => n.name == [] | none => false
theorem lastT_app (k : List Nod) (n : Nod) : lastT (k ++ [n]) = (n.name == []) := by simp [lastT]
theorem join_none {s : B} {k : List Nod} (h : lastT k = false) : joinK s k = none := by
  unfold lastT at h
  unfold joinK
  cases hl : k.getLast? with
  | none => rfl
  | some n =>
    rw [hl] at h
    have : n.name ≠ [] := by simpa using h
    simp [this]
/-- A tag that begins an element closes nothing, where no p, no li stands in its way. -/
theorem start_same {o : List El} {many : Nat} {n : B} {a : List Atr} (hp : blockL n = true → pOf o = false) (hl : n = liN → liOf o = false) :
    (⟨o, many, false⟩ : Bd).start n a = Bd.count ⟨if voidL n then putO (.mk n a [] []) o else ⟨n, a, []⟩ :: o, many, false⟩ := by
  unfold Bd.start
  have h1 : (if blockL n = true then (closeO pN o).1 else o) = o := by
    by_cases hb : blockL n = true
    · rw [if_pos hb]
      have := hp hb
      unfold pOf at this
      unfold closeO
      cases hi : innerO [pN] o with
      | none => rfl
      | some x => rw [hi] at this; cases this
    · rw [if_neg hb]
  simp only [h1]
  by_cases hb : n = liN
  · have := hl hb
    unfold liOf at this
    simp only [if_pos hb]
    cases hi : innerO [liN, ulN, olN] o with
    | none => rfl
    | some x =>
      rw [hi] at this
      obtain ⟨i, y⟩ := x
      have hy : y ≠ liN := by simpa using this
      simp only [if_neg hy]
  · simp only [if_neg hb]
theorem count_ok {o : List El} {many : Nat} (h1 : o.length ≤ 65) (h2 : many < 2000) : Bd.count ⟨o, many, false⟩ = ⟨o, many + 1, false⟩ := by
  unfold Bd.count
  have e1 : decide (64 < o.length - 1) = false := by simp; omega
  have e2 : decide (2000 < many + 1) = false := by simp; omega
  simp [e1, e2]
theorem end_same {e : El} {R : List El} {E : El} {many : Nat} : (⟨E :: e :: R, many, false⟩ : Bd).end_ E.name = ⟨{ e with kids := e.kids ++ [E.nod] } :: R, many, false⟩ := by
  have h1 : innerO [E.name] (E :: e :: R) = some (0, E.name) := by
    rw [inner_cons, if_pos (by simp)]
  unfold Bd.end_ closeO
  rw [h1]
  simp only [shutN, shutO, putO, if_true]
theorem sizeL_cons (n : Nod) (r : List Nod) : sizeL (n :: r) = ((sizeN n).1 + (sizeL r).1, max (sizeN n).2 (sizeL r).2) := by conv => lhs; unfold sizeL
theorem sizeN_mk (n : B) (a : List Atr) (t : B) (k : List Nod) : sizeN (.mk n a t k) = (1 + (sizeL k).1, if n ≠ [] then 1 + (sizeL k).2 else 0) := by conv => lhs; unfold sizeN
theorem buildG_step (t : Tok) (r : List Tok) (bd bd' : Bd) (h : bd.take t = bd') (ho : bd'.over = false) : buildG (t :: r) bd = buildG r bd' := by
  conv => lhs; unfold buildG
  rw [h, ho]
  simp
theorem take_2 (bd : Bd) (nm : B) (l : List Atr) : bd.take ⟨2, nm, l, false, []⟩ = bd.start nm l := rfl
theorem take_3 (bd : Bd) (nm : B) : bd.take ⟨3, nm, [], false, []⟩ = bd.end_ nm := rfl
theorem take_1 (bd : Bd) (t : B) : bd.take (textT t) = bd.text t := rfl
mutual
theorem bld_node : ∀ (n : Nod) (e : El) (R : List El) (many : Nat) (ts : List Tok), n.name ≠ [] → FiN (pOf (e :: R)) (liOf (e :: R)) n → TxN n → many + (sizeN n).1 ≤ 2000 → R.length + (sizeN n).2 ≤ 64 →
    buildG (tkN n ++ ts) ⟨e :: R, many, false⟩ = buildG ts ⟨{ e with kids := e.kids ++ [n] } :: R, many + (sizeN n).1, false⟩
  | .mk n a t k, e, R, many, ts, hne0, hf, ht, hm, hd => by
    have hne : n ≠ [] := hne0
    clear hne0
    unfold FiN at hf
    obtain ⟨rfl, _, hv, hp, hl, hk⟩ := hf
    unfold TxN at ht
    rw [sizeN_mk, if_pos hne] at hm hd ⊢
    simp only at hm hd ⊢
    have hst := start_same (o := e :: R) (many := many) (n := n) (a := a) (fun hb => by
      cases hq : pOf (e :: R) with
      | false => rfl
      | true => have := hp hq; rw [hb] at this; cases this) (fun hn => by
      cases hq : liOf (e :: R) with
      | false => rfl
      | true => exact absurd hn (hl hq))
    unfold tkN
    rw [if_neg hne]
    by_cases hvo : voidL n = true
    · obtain rfl := hv hvo
      rw [if_pos hvo] at hst ⊢
      rw [count_ok (by simp [putO]; omega) (by omega)] at hst
      rw [List.cons_append, List.nil_append, buildG_step _ _ _ _ ((take_2 _ n a).trans hst) rfl]
      simp [putO, sizeL]
    · rw [if_neg hvo] at hst ⊢
      rw [count_ok (by simp; omega) (by omega)] at hst
      rw [List.cons_append, buildG_step _ _ _ _ ((take_2 _ n a).trans hst) rfl, List.append_assoc]
      rw [show ([⟨3, n, [], false, []⟩] ++ ts : List Tok) = ⟨3, n, [], false, []⟩ :: ts from rfl]
      rw [bld_list k ⟨n, a, []⟩ (e :: R) (many + 1) (⟨3, n, [], false, []⟩ :: ts) false (by rw [pOf_cons, liOf_cons]; exact hk) ht (by simp [lastT]) (by omega) (by simp; omega)]
      have he := end_same (e := e) (R := R) (E := ⟨n, a, k⟩) (many := many + 1 + (sizeL k).1)
      have hb := buildG_step ⟨3, n, [], false, []⟩ ts _ _ ((take_3 _ n).trans he) rfl
      refine Eq.trans hb ?_
      have e1 : many + 1 + (sizeL k).1 = many + (1 + (sizeL k).1) := by omega
      rw [e1]
      rfl
theorem bld_list : ∀ (k : List Nod) (e : El) (R : List El) (many : Nat) (ts : List Tok) (text : Bool), FiL (pOf (e :: R)) (liOf (e :: R)) k → TxL text k → (text = false → lastT e.kids = false) → many + (sizeL k).1 ≤ 2000 → R.length + (sizeL k).2 ≤ 64 →
    buildG (tkL k ++ ts) ⟨e :: R, many, false⟩ = buildG ts ⟨{ e with kids := e.kids ++ k } :: R, many + (sizeL k).1, false⟩
  | [], e, R, many, ts, text, _, _, _, _, _ => by simp [tkL, sizeL]
  | .mk n a t kd :: r, e, R, many, ts, text, hf, ht, hlt, hm, hd => by
    unfold FiL at hf
    unfold TxL at ht
    rw [sizeL_cons] at hm hd ⊢
    simp only at hm hd ⊢
    rw [tkL_cons, List.append_assoc]
    have hpo : ∀ k', pOf ({ e with kids := k' } :: R) = pOf (e :: R) := fun k' => by cases R <;> rfl
    have hlo : ∀ k', liOf ({ e with kids := k' } :: R) = liOf (e :: R) := fun k' => by cases R <;> rfl
    rcases ht with ⟨hn, htf, htx, htr⟩ | ⟨hn, htn, htr⟩
    · obtain ⟨ha, hkd⟩ : a = [] ∧ kd = [] := by
        rcases hf.1 with h | h
        · exact ⟨h.2.1, h.2.2⟩
        · exact absurd hn h.1
      have hn2 : n = [] := hn
      have htx2 : t ≠ [] := htx
      clear hn htx
      subst hn2 ha hkd
      have e2 : tkN (.mk [] [] t []) = [textT t] := by unfold tkN; rw [if_pos rfl]
      have e3 : (sizeN (.mk [] [] t [])).1 = 1 := by rw [sizeN_mk]; simp [sizeL]
      rw [e3] at hm ⊢
      rw [e2]
      have hb : (⟨e :: R, many, false⟩ : Bd).text t = ⟨{ e with kids := e.kids ++ [.mk [] [] t []] } :: R, many + 1, false⟩ := by
        unfold Bd.text
        rw [if_neg htx2]
        simp only [join_none (hlt htf)]
        exact count_ok (o := { e with kids := e.kids ++ [.mk [] [] t []] } :: R) (many := many) (by simp; omega) (by omega)
      rw [List.cons_append, List.nil_append, buildG_step _ _ _ _ ((take_1 _ t).trans hb) rfl]
      rw [bld_list r { e with kids := e.kids ++ [.mk [] [] t []] } R (many + 1) ts true (by rw [hpo, hlo]; exact hf.2) htr (fun h => by cases h) (by omega) (by omega)]
      have e1 : many + 1 + (sizeL r).1 = many + (1 + (sizeL r).1) := by omega
      rw [e1]
      simp
    · have hfn : FiN (pOf (e :: R)) (liOf (e :: R)) (.mk n a t kd) := by
        rcases hf.1 with h | h
        · exact absurd h.1 hn
        · exact h.2
      rw [bld_node (.mk n a t kd) e R many _ hn hfn htn (by omega) (by omega)]
      rw [bld_list r { e with kids := e.kids ++ [.mk n a t kd] } R (many + (sizeN (.mk n a t kd)).1) ts false (by rw [hpo, hlo]; exact hf.2) htr (fun _ => by rw [lastT_app]; simpa using hn) (by omega) (by omega)]
      have e1 : many + (sizeN (.mk n a t kd)).1 + (sizeL r).1 = many + ((sizeN (.mk n a t kd)).1 + (sizeL r).1) := by omega
      rw [e1]
      simp
end
/-- A fine tree is built of its tokens. -/
theorem build_toks {k : List Nod} (hf : FiL false false k) (ht : TxL false k) (hm : (sizeL k).1 ≤ 2000) (hd : (sizeL k).2 ≤ 64) : buildL (tkL k) = some k := by
  have h := bld_list k ⟨[], [], []⟩ [] 0 [] false hf ht (fun _ => rfl) (by omega) (by simpa using hd)
  rw [List.append_nil] at h
  unfold buildL
  rw [h]
  rfl
/-- A fine tree is read back from its page. -/
theorem round_trip {k : List Nod} (hg : GoodL k) (hf : FiL false false k) (ht : TxL false k) (hm : (sizeL k).1 ≤ 2000) (hd : (sizeL k).2 ≤ 64) : buildL (toksL (htmlL k)) = some k := by
  rw [toks_html hg hf ht, build_toks hf ht hm hd]
end Go.Proofs.YtlgaeeedkihfpaaGreatDoor.Tz

/-
  TopChain in plain Lean: what Build makes is a tree without a block in a p, without a li in a li.
-/
namespace Go.Proofs.YtlgaeeedkihfpaaGreatDoor.Tz

/-! ### tokens -/
def TokF (t : Tok) : Prop := t.kind = 2 → t.name ≠ [] ∧ (t.attrs.map (·.name)).Nodup
theorem addA_nodup {as : List Atr} (n v : B) (h : (as.map (·.name)).Nodup) : ((addA as n v).map (·.name)).Nodup := by
  unfold addA
  split
  · exact h
  · rename_i hn
    rw [List.map_append, List.nodup_append]
    refine ⟨h, by simp, fun x hx y hy e => ?_⟩
    simp only [List.map_cons, List.map_nil, List.mem_singleton] at hy
    subst hy
    subst e
    obtain ⟨a, ha, ea⟩ := List.mem_map.1 hx
    exact hn (List.any_eq_true.2 ⟨a, ha, by simpa using ea⟩)
theorem tagG_nodup : ∀ (f : Nat) (s : B) (cl : Bool) (as : List Atr) (x : Bool × List Atr × B), (as.map (·.name)).Nodup → tagG f s cl as = some x → (x.2.1.map (·.name)).Nodup
  | 0, _, _, _, _, _, h => by simp [tagG] at h
  | f + 1, s, cl, as, x, hn, h => by
    unfold tagG at h
    split at h
    · cases h
    · split at h
      · exact tagG_nodup f _ _ _ x hn h
      · split at h
        · injection h with h
          subst h
          exact hn
        · simp only at h
          split at h
          · exact tagG_nodup f _ _ _ x (addA_nodup _ _ hn) h
          · split at h
            · exact tagG_nodup f _ _ _ x (addA_nodup _ _ hn) h
            · split at h
              · exact tagG_nodup f _ _ _ x (addA_nodup _ _ hn) h
              · split at h
                · split at h
                  · exact tagG_nodup f _ _ _ x (addA_nodup _ _ hn) h
                  · cases h
                · exact tagG_nodup f _ _ _ x (addA_nodup _ _ hn) h
theorem letter_name {c : UInt8} (h : letterB c = true) : nameC c = true := by
  have h' : (97 ≤ c.toNat ∧ c.toNat ≤ 122) ∨ (65 ≤ c.toNat ∧ c.toNat ≤ 90) := by
    simp only [letterB, Bool.or_eq_true, Bool.and_eq_true, decide_eq_true_eq] at h
    exact h
  have hn : ∀ k : UInt8, k.toNat ≠ c.toNat → (c == k) = false := fun k hk => by
    rw [beq_eq_false_iff_ne]; exact fun e => hk (by rw [e])
  unfold nameC blankB
  rw [hn 9 (by show 9 ≠ _; omega), hn 10 (by show 10 ≠ _; omega), hn 12 (by show 12 ≠ _; omega), hn 13 (by show 13 ≠ _; omega), hn 32 (by show 32 ≠ _; omega)]
  have e1 : c ≠ 47 := ne_of_toNat (by show _ ≠ 47; omega)
  have e2 : c ≠ 62 := ne_of_toNat (by show _ ≠ 62; omega)
  simp [e1, e2]
theorem tagL_fine {d : UInt8} {u r : B} {t : Tok} (hd : letterB d = true) (h : tagL (d :: u) = some (t, r)) : t.name ≠ [] ∧ (t.attrs.map (·.name)).Nodup := by
  unfold tagL at h
  rw [Option.map_eq_some_iff] at h
  obtain ⟨x, hx, he⟩ := h
  injection he with he _
  subst he
  refine ⟨?_, tagG_nodup _ _ _ [] x (by simp) hx⟩
  simp [lowL, letter_name hd]
theorem next_fine {s r : B} {ts : List Tok} (h : nextL s = some (ts, r)) : ∀ t ∈ ts, TokF t := by
  have hno : ∀ {t : Tok}, t.kind ≠ 2 → TokF t := fun hk h => absurd h hk
  have hone : ∀ {t : Tok}, TokF t → ∀ t' ∈ [t], TokF t' := fun h t' hm => by
    rw [List.mem_singleton] at hm; rw [hm]; exact h
  have hraw : ∀ {t : Tok} (y : B), TokF t → ∀ t' ∈ (if y = [] then [t] else [t, textT y]), TokF t' := fun y h t' hm => by
    by_cases hy : y = []
    · rw [if_pos hy] at hm; exact hone h t' hm
    · rw [if_neg hy] at hm
      rcases List.mem_cons.1 hm with rfl | hm
      · exact h
      · rw [List.mem_singleton] at hm; rw [hm]; exact hno (by simp [textT])
  unfold nextL at h
  by_cases h1 : plainL s = true
  · rw [if_pos h1] at h
    injection h with h; injection h with h _; subst h
    exact hone (hno (by simp [textT]))
  rw [if_neg h1] at h
  by_cases h2 : ([60, 33, 45, 45] : B).isPrefixOf s = true
  · rw [if_pos h2] at h
    cases hi : indexL [45, 45, 62] (s.drop 4) with
    | none => rw [hi] at h; injection h with h; injection h with h _; subst h; exact hone (hno (by simp))
    | some i => rw [hi] at h; injection h with h; injection h with h _; subst h; exact hone (hno (by simp))
  rw [if_neg h2] at h
  by_cases h3 : ([60, 47, 62] : B).isPrefixOf s = true
  · rw [if_pos h3] at h
    injection h with h; injection h with h _; subst h
    intro t hm; cases hm
  rw [if_neg h3] at h
  match s, h with
  | [], h => injection h with h; injection h with h _; subst h; intro t hm; cases hm
  | [_], h => injection h with h; injection h with h _; subst h; intro t hm; cases hm
  | c :: d :: u, h =>
    simp only at h
    by_cases hd : letterB d = true
    · rw [if_pos hd] at h
      cases htg : tagL (d :: u) with
      | none => rw [htg] at h; cases h
      | some x =>
        obtain ⟨t, r'⟩ := x
        have hf := tagL_fine hd htg
        rw [htg] at h
        simp only at h
        by_cases hr : (rawL t.name).1 = true
        · rw [if_pos hr] at h
          injection h with h; injection h with h _; subst h
          exact hraw _ (fun _ => hf)
        · rw [if_neg hr] at h
          injection h with h; injection h with h _; subst h
          exact hone (fun _ => hf)
    · rw [if_neg hd] at h
      have hidx : ∀ {ts : List Tok} {r : B}, (match indexL [62] (c :: d :: u) with | some i => some (([] : List Tok), (c :: d :: u).drop (i + 1)) | none => some ([], [])) = some (ts, r) → ∀ t ∈ ts, TokF t := fun {ts r} h => by
        cases hi : indexL [62] (c :: d :: u) with
        | none => rw [hi] at h; injection h with h; injection h with h _; subst h; intro t hm; cases hm
        | some i => rw [hi] at h; injection h with h; injection h with h _; subst h; intro t hm; cases hm
      cases u with
      | nil =>
        rw [if_neg (by simp)] at h
        exact hidx h
      | cons c2 u2 =>
        by_cases hq : d = 47 ∧ letterB c2 = true
        · rw [if_pos hq] at h
          cases htg : tagL (c2 :: u2) with
          | none => rw [htg] at h; cases h
          | some x => rw [htg] at h; injection h with h; injection h with h _; subst h; exact hone (hno (by simp))
        · rw [if_neg hq] at h
          exact hidx h
theorem toksG_fine : ∀ (f : Nat) (s : B), ∀ t ∈ toksG f s, TokF t
  | 0, _ => by simp [toksG]
  | f + 1, s => by
    unfold toksG
    split
    · simp
    · split
      · simp
      · rename_i ts r hn
        intro t ht
        rcases List.mem_append.1 ht with h | h
        · exact next_fine hn t h
        · exact toksG_fine f r t h
theorem toks_fine (s : B) : ∀ t ∈ toksL s, TokF t := toksG_fine _ s

theorem fiN_mk {pf lf : Bool} {n : B} {a : List Atr} {t : B} {k : List Nod} : FiN pf lf (.mk n a t k) ↔ (t = [] ∧ (a.map (·.name)).Nodup ∧ (voidL n = true → k = []) ∧ (pf = true → blockL n = false) ∧ (lf = true → n ≠ liN) ∧ FiL (pf || n == pN) (inLi n lf) k) := by
  unfold FiN
  exact Iff.rfl

/-! ### what is open -/
def StkOk : List El → Prop
  | [] => False
  | [e] => FiL false false e.kids
  | E :: e :: R => E.name ≠ [] ∧ (E.attrs.map (·.name)).Nodup ∧ voidL E.name = false ∧ (pOf (e :: R) = true → blockL E.name = false) ∧ (liOf (e :: R) = true → E.name ≠ liN) ∧ FiL (pOf (E :: e :: R)) (liOf (E :: e :: R)) E.kids ∧ StkOk (e :: R)
theorem fiL_iff (pf lf : Bool) (k : List Nod) : FiL pf lf k ↔ ∀ n ∈ k, (n.name = [] ∧ n.attrs = [] ∧ n.kids = []) ∨ (n.name ≠ [] ∧ FiN pf lf n) := by
  induction k with
  | nil => simp [FiL]
  | cons n r ih => unfold FiL; simp [ih]
theorem fiL_app {pf lf : Bool} {k : List Nod} {n : Nod} (h : FiL pf lf k) (hn : (n.name = [] ∧ n.attrs = [] ∧ n.kids = []) ∨ (n.name ≠ [] ∧ FiN pf lf n)) : FiL pf lf (k ++ [n]) := by
  rw [fiL_iff] at h ⊢
  intro m hm
  rcases List.mem_append.1 hm with h1 | h1
  · exact h m h1
  · simp at h1; rw [h1]; exact hn
theorem inner_kids (ns : List B) (e : El) (k : List Nod) (R : List El) : innerO ns ({ e with kids := k } :: R) = innerO ns (e :: R) := by cases R <;> rfl
theorem pOf_kids (e : El) (k : List Nod) (R : List El) : pOf ({ e with kids := k } :: R) = pOf (e :: R) := by unfold pOf; rw [inner_kids]
theorem liOf_kids (e : El) (k : List Nod) (R : List El) : liOf ({ e with kids := k } :: R) = liOf (e :: R) := by unfold liOf; rw [inner_kids]
theorem stk_kids {e : El} {R : List El} (h : StkOk (e :: R)) : FiL (pOf (e :: R)) (liOf (e :: R)) e.kids := by
  cases R with
  | nil => exact h
  | cons x R => exact h.2.2.2.2.2.1
theorem stk_set {e : El} {R : List El} (k : List Nod) (h : StkOk (e :: R)) (hk : FiL (pOf (e :: R)) (liOf (e :: R)) k) : StkOk ({ e with kids := k } :: R) := by
  cases R with
  | nil => exact hk
  | cons x R =>
    obtain ⟨h1, h2, h3, h4, h5, _, h7⟩ := h
    exact ⟨h1, h2, h3, h4, h5, by rw [pOf_kids, liOf_kids]; exact hk, h7⟩
theorem stk_put {e : El} {R : List El} {n : Nod} (h : StkOk (e :: R)) (hn : (n.name = [] ∧ n.attrs = [] ∧ n.kids = []) ∨ (n.name ≠ [] ∧ FiN (pOf (e :: R)) (liOf (e :: R)) n)) : StkOk (putO n (e :: R)) := stk_set _ h (fiL_app (stk_kids h) hn)
theorem stk_shut {E e : El} {R : List El} (h : StkOk (E :: e :: R)) : StkOk (shutO (E :: e :: R)) := by
  obtain ⟨h1, h2, h3, h4, h5, h6, h7⟩ := h
  refine stk_put h7 (.inr ⟨h1, ?_⟩)
  unfold El.nod
  refine fiN_mk.2 ⟨rfl, h2, fun hv => (by rw [h3] at hv; cases hv), h4, h5, ?_⟩
  rw [pOf_cons, liOf_cons] at h6
  exact h6
/-- The innermost of some names is closed: what is left, and what held of it. -/
theorem close_at (ns : List B) : ∀ (m : Nat) (o : List El) (k : Nat) (x : B), o.length ≤ m → StkOk o → innerO ns o = some (k, x) →
    ∃ (E e : El) (R : List El), StkOk (shutN (k + 1) o) ∧ shutN (k + 1) o = { e with kids := e.kids ++ [E.nod] } :: R ∧ E.name = x ∧ ns.contains x = true ∧ (pOf (e :: R) = true → blockL x = false) ∧ (liOf (e :: R) = true → x ≠ liN) ∧ (pOf (e :: R) = true → pOf o = true)
  | m, [], k, x, _, h, _ => h.elim
  | m, [e], k, x, _, _, hi => by simp [innerO] at hi
  | 0, _ :: _ :: _, _, _, hm, _, _ => by simp at hm
  | m + 1, E :: e :: R, k, x, hm, h, hi => by
    rw [inner_cons] at hi
    by_cases hc : ns.contains E.name = true
    · rw [if_pos hc] at hi
      injection hi with hi
      injection hi with hk hx
      subst hk hx
      have hs := stk_shut h
      obtain ⟨h1, h2, h3, h4, h5, h6, h7⟩ := h
      exact ⟨E, e, R, hs, rfl, rfl, hc, h4, h5, fun hp => by rw [pOf_cons, hp]; rfl⟩
    · rw [if_neg hc] at hi
      rw [Option.map_eq_some_iff] at hi
      obtain ⟨⟨k', x'⟩, hi, he⟩ := hi
      injection he with hk hx
      simp only at hk hx
      subst hk hx
      have hs := stk_shut h
      have hi' : innerO ns ({ e with kids := e.kids ++ [E.nod] } :: R) = some (k', x') := by rw [inner_kids]; exact hi
      obtain ⟨E2, e2, R2, g1, g2, g3, g4, g5, g6, g7⟩ := close_at ns m ({ e with kids := e.kids ++ [E.nod] } :: R) k' x' (by simp at hm ⊢; omega) hs hi'
      refine ⟨E2, e2, R2, g1, g2, g3, g4, g5, g6, fun hp => ?_⟩
      have := g7 hp
      rw [pOf_kids] at this
      rw [pOf_cons, this]
      rfl
theorem inner_in (ns : List B) : ∀ (o : List El) (k : Nat) (x : B), innerO ns o = some (k, x) → ns.contains x = true
  | [], _, _, h => by simp [innerO] at h
  | [_], _, _, h => by simp [innerO] at h
  | E :: e :: R, k, x, h => by
    rw [inner_cons] at h
    split at h
    · rename_i hc; injection h with h; injection h with _ h; subst h; exact hc
    · rw [Option.map_eq_some_iff] at h
      obtain ⟨⟨k', x'⟩, hi, he⟩ := h
      injection he with _ hx
      subst hx
      exact inner_in ns (e :: R) k' x' hi
theorem close_ok (name : B) {o : List El} (h : StkOk o) : StkOk (closeO name o).1 := by
  unfold closeO
  cases hi : innerO [name] o with
  | none => exact h
  | some x =>
    obtain ⟨k, x⟩ := x
    obtain ⟨E, e, R, g1, _⟩ := close_at [name] o.length o k x (Nat.le_refl _) h hi
    exact g1
theorem close_p {o : List El} (h : StkOk o) : pOf (closeO pN o).1 = false := by
  unfold closeO
  cases hi : innerO [pN] o with
  | none => unfold pOf; rw [hi]; rfl
  | some x =>
    obtain ⟨k, x⟩ := x
    obtain ⟨E, e, R, g1, g2, g3, g4, g5, _, _⟩ := close_at [pN] o.length o k x (Nat.le_refl _) h hi
    show pOf (shutN (k + 1) o) = false
    rw [g2, pOf_kids]
    cases hp : pOf (e :: R) with
    | false => rfl
    | true =>
      have hx : x = pN := by simpa using g4
      have := g5 hp
      rw [hx] at this
      exact absurd this (by decide)
theorem li_none : ∀ (o : List El) (k : Nat), innerO [liN, ulN, olN] o = some (k, liN) → innerO [liN] o = none → False
  | [], _, h, _ => by simp [innerO] at h
  | [_], _, h, _ => by simp [innerO] at h
  | E :: e :: R, k, h, hj => by
    rw [inner_cons] at h hj
    split at h
    · injection h with h
      injection h with _ h
      rw [h, if_pos (by simp)] at hj
      cases hj
    · rename_i hc
      rw [Option.map_eq_some_iff] at h
      obtain ⟨⟨k', x'⟩, hi, he⟩ := h
      injection he with _ hx
      simp only at hx
      subst hx
      split at hj
      · cases hj
      · rw [Option.map_eq_none_iff] at hj
        exact li_none (e :: R) k' hi hj
theorem start_ok {o : List El} {n : B} {a : List Atr} (h : StkOk o) (hn : n ≠ []) (ha : (a.map (·.name)).Nodup) (bd : Bd) (hbd : bd.open_ = o) : StkOk (bd.start n a).open_ := by
  obtain ⟨o1, ho1⟩ : ∃ o1, o1 = if blockL n = true then (closeO pN o).1 else o := ⟨_, rfl⟩
  have h1 : StkOk o1 ∧ (blockL n = true → pOf o1 = false) := by
    by_cases hb : blockL n = true
    · rw [if_pos hb] at ho1
      rw [ho1]
      exact ⟨close_ok pN h, fun _ => close_p h⟩
    · rw [if_neg hb] at ho1
      rw [ho1]
      exact ⟨h, fun hb' => absurd hb' hb⟩
  obtain ⟨o2, ho2⟩ : ∃ o2, o2 = if n = liN then (match innerO [liN, ulN, olN] o1 with | some (_, x) => if x = liN then (closeO liN o1).1 else o1 | none => o1) else o1 := ⟨_, rfl⟩
  have h2 : StkOk o2 ∧ (blockL n = true → pOf o2 = false) ∧ (n = liN → liOf o2 = false) := by
    by_cases hb : n = liN
    · rw [if_pos hb] at ho2
      cases hi : innerO [liN, ulN, olN] o1 with
      | none =>
        rw [hi] at ho2
        rw [show o2 = o1 from ho2]
        exact ⟨h1.1, h1.2, fun _ => by unfold liOf; rw [hi]⟩
      | some y =>
        obtain ⟨k, y⟩ := y
        rw [hi] at ho2
        simp only at ho2
        by_cases hy : y = liN
        · rw [if_pos hy] at ho2
          rw [ho2]
          refine ⟨close_ok liN h1.1, fun hbl => ?_, fun _ => ?_⟩
          · unfold closeO
            cases hj : innerO [liN] o1 with
            | none => exact h1.2 hbl
            | some z =>
              obtain ⟨k2, z⟩ := z
              obtain ⟨E, e, R, g1, g2, g3, g4, g5, _, g7⟩ := close_at [liN] o1.length o1 k2 z (Nat.le_refl _) h1.1 hj
              show pOf (shutN (k2 + 1) o1) = false
              rw [g2, pOf_kids]
              cases hp : pOf (e :: R) with
              | false => rfl
              | true => have := g7 hp; rw [h1.2 hbl] at this; cases this
          · unfold closeO
            cases hj : innerO [liN] o1 with
            | none =>
              exfalso
              rw [hy] at hi
              exact li_none o1 k hi hj
            | some z =>
              obtain ⟨k2, z⟩ := z
              obtain ⟨E, e, R, g1, g2, g3, g4, g5, g6, g7⟩ := close_at [liN] o1.length o1 k2 z (Nat.le_refl _) h1.1 hj
              show liOf (shutN (k2 + 1) o1) = false
              rw [g2, liOf_kids]
              cases hp : liOf (e :: R) with
              | false => rfl
              | true => exact absurd (by simpa using g4) (g6 hp)
        · rw [if_neg hy] at ho2
          rw [show o2 = o1 from ho2]
          exact ⟨h1.1, h1.2, fun _ => by unfold liOf; rw [hi]; simpa using hy⟩
    · rw [if_neg hb] at ho2
      rw [show o2 = o1 from ho2]
      exact ⟨h1.1, h1.2, fun h => absurd h hb⟩
  have e : (bd.start n a).open_ = if voidL n then putO (.mk n a [] []) o2 else ⟨n, a, []⟩ :: o2 := by
    rw [ho2, ho1, ← hbd]
    rfl
  rw [e]
  have hp' : pOf o2 = true → blockL n = false := fun hq => by
    cases hb : blockL n with
    | false => rfl
    | true => rw [h2.2.1 hb] at hq; cases hq
  have hl' : liOf o2 = true → n ≠ liN := fun hq hb => by rw [h2.2.2 hb] at hq; cases hq
  have h2' := h2.1
  cases o2 with
  | nil => exact h2'.elim
  | cons x R =>
    by_cases hv : voidL n = true
    · rw [if_pos hv]
      refine stk_put h2' (.inr ⟨hn, ?_⟩)
      exact fiN_mk.2 ⟨rfl, ha, fun _ => rfl, hp', hl', by simp [FiL]⟩
    · rw [if_neg hv]
      exact ⟨hn, ha, by simpa using hv, hp', hl', by simp [FiL], h2'⟩
theorem text_ok {bd : Bd} (s : B) (h : StkOk bd.open_) : StkOk (bd.text s).open_ := by
  unfold Bd.text
  split
  · exact h
  · cases ho : bd.open_ with
    | nil => rw [ho] at h; exact h.elim
    | cons e R =>
      rw [ho] at h
      simp only
      cases hj : joinK s e.kids with
      | some k =>
        refine stk_set k h ?_
        have hk := stk_kids h
        unfold joinK at hj
        cases hl : e.kids.getLast? with
        | none => rw [hl] at hj; cases hj
        | some n =>
          rw [hl] at hj
          simp only at hj
          split at hj
          · rename_i hne
            injection hj with hj
            subst hj
            rw [fiL_iff] at hk
            have hn := hk n (List.mem_of_getLast? hl)
            refine fiL_app ?_ ?_
            · rw [fiL_iff]
              exact fun m hm => hk m (List.dropLast_subset _ hm)
            · rcases hn with h1 | h1
              · exact .inl ⟨h1.1, h1.2.1, h1.2.2⟩
              · exact absurd hne h1.1
          · cases hj
      | none =>
        have : ((bd.put (txt s)).count).open_ = putO (txt s) (e :: R) := by unfold Bd.count Bd.put; rw [ho]
        rw [this]
        exact stk_put h (.inl ⟨rfl, rfl, rfl⟩)
theorem end_ok {bd : Bd} (n : B) (h : StkOk bd.open_) : StkOk (bd.end_ n).open_ := by
  unfold Bd.end_
  simp only
  split
  · exact close_ok n h
  · split
    · exact close_ok n (start_ok h (by rename_i e; rw [e]; decide) (by simp) bd rfl)
    · split
      · exact start_ok h (by rename_i e; rw [e]; decide) (by simp) bd rfl
      · exact h
theorem take_ok {bd : Bd} {t : Tok} (ht : TokF t) (h : StkOk bd.open_) : StkOk (bd.take t).open_ := by
  unfold Bd.take
  split
  · exact text_ok _ h
  · split
    · rename_i hk
      obtain ⟨h1, h2⟩ := ht hk
      exact start_ok h h1 h2 bd rfl
    · split
      · exact end_ok _ h
      · exact h
theorem shutN_ok : ∀ (m : Nat) (o : List El), m < o.length → StkOk o → StkOk (shutN m o) ∧ (shutN m o).length + m = o.length
  | 0, o, _, h => ⟨h, rfl⟩
  | m + 1, [], hl, _ => by simp at hl
  | m + 1, [e], hl, _ => by simp at hl
  | m + 1, E :: e :: R, hl, h => by
    have hs := stk_shut h
    have he : shutO (E :: e :: R) = { e with kids := e.kids ++ [E.nod] } :: R := rfl
    rw [he] at hs
    obtain ⟨h1, h2⟩ := shutN_ok m _ (by simp at hl ⊢; omega) hs
    show StkOk (shutN m (shutO (E :: e :: R))) ∧ (shutN m (shutO (E :: e :: R))).length + (m + 1) = _
    rw [he]
    exact ⟨h1, by simp at h2 ⊢; omega⟩
theorem buildG_ok : ∀ (l : List Tok) (bd : Bd) (k : List Nod), (∀ t ∈ l, TokF t) → StkOk bd.open_ → buildG l bd = some k → FiL false false k
  | [], bd, k, _, h, hb => by
    unfold buildG at hb
    have hpos : 0 < bd.open_.length := by
      cases ho : bd.open_ with
      | nil => rw [ho] at h; exact h.elim
      | cons _ _ => simp
    obtain ⟨h1, h2⟩ := shutN_ok (bd.open_.length - 1) bd.open_ (by omega) h
    cases hs : shutN (bd.open_.length - 1) bd.open_ with
    | nil => rw [hs] at hb; cases hb
    | cons e R =>
      rw [hs] at hb h1 h2
      injection hb with hb
      subst hb
      have hR : R = [] := by
        apply List.eq_nil_of_length_eq_zero
        simp at h2
        omega
      subst hR
      exact h1
  | t :: r, bd, k, ht, h, hb => by
    unfold buildG at hb
    split at hb
    · cases hb
    · exact buildG_ok r (bd.take t) k (fun x hx => ht x (List.mem_cons_of_mem _ hx)) (take_ok (ht t List.mem_cons_self) h) hb
/-- The tree of a page. -/
theorem build_fine {s : B} {k : List Nod} (h : buildL (toksL s) = some k) : FiL false false k :=
  buildG_ok _ _ k (toks_fine s) (by simp [StkOk, FiL]) h
end Go.Proofs.YtlgaeeedkihfpaaGreatDoor.Tz
