/-
  Texts of the proof of Chain, one behind the other: HarmP, ChaA, ChaB.
-/
import Derived.Test.YtlgaeeedkihfpaaGreatDoorC01
/-
  TopHarm in plain Lean: the page of a cleaned tree has no element that is dropped, and no attribute that never may stay.
-/
namespace Go.Proofs.YtlgaeeedkihfpaaGreatDoor.Tz

/-- Has a token an element that is dropped, or an attribute that never may stay? -/
def harmA (n : B) : Bool := onN.isPrefixOf n || n == srcdocN || n == formactionN
def harmT (t : Tok) : Bool := (t.kind == 2 && dropL t.name) || t.attrs.any fun a => harmA a.name
def badL (s : B) : Bool := (toksL s).any harmT

def Ok (s : B) : Prop := ∀ f, ∀ t ∈ toksG f s, harmT t = false
def Ok' (s : B) : Prop := Ok (s.drop (textN s))
theorem harm_text (x : B) : harmT (textT x) = false := rfl
theorem textN_not {s : B} (h : plainL s = false) : textN s = 0 := by
  cases s with
  | nil => rfl
  | cons c t => simp [textN, h]
theorem Ok.of {s : B} (h : Ok' s) : Ok s := by
  intro f t ht
  cases f with
  | zero => simp [toksG] at ht
  | succ f =>
    by_cases hp : plainL s = true
    · unfold toksG at ht
      by_cases hs : s = []
      · simp [hs] at ht
      · rw [if_neg hs] at ht
        have hn : nextL s = some ([textT (resolveL (s.take (textN s)))], s.drop (textN s)) := by unfold nextL; rw [if_pos hp]
        rw [hn] at ht
        simp only [List.singleton_append, List.mem_cons] at ht
        rcases ht with rfl | ht
        · exact harm_text _
        · exact h f t ht
    · have h0 := textN_not (s := s) (by simpa using hp)
      unfold Ok' at h
      rw [h0, List.drop_zero] at h
      exact h (f + 1) t ht
theorem Ok'.nil : Ok' [] := by
  intro f t ht
  cases f <;> simp [toksG, textN] at ht
theorem plain_no {c : UInt8} {t : B} (h : c ≠ 60) : plainL (c :: t) = true := by simp [plainL, h]
theorem textN_app : ∀ (x s : B), (∀ c ∈ x, c ≠ 60) → textN (x ++ s) = x.length + textN s
  | [], s, _ => by simp
  | c :: x, s, h => by
    have ih := textN_app x s (fun d hd => h d (List.mem_cons_of_mem _ hd))
    rw [List.cons_append]
    simp only [textN, plain_no (h c List.mem_cons_self), if_true, ih, List.length_cons]
    omega
theorem Ok'.text {x s : B} (hx : ∀ c ∈ x, c ≠ 60) (h : Ok' s) : Ok' (x ++ s) := by
  unfold Ok' at h ⊢
  rw [textN_app x s hx, ← List.drop_drop, List.drop_left]
  exact h

theorem esc_no (q : Bool) : ∀ (n : Nat) (s : B), s.length ≤ n → ∀ c ∈ escapeL q s, c ≠ 60 ∧ (q = true → c ≠ 34)
  | _, [], _ => by simp [escapeL]
  | 0, _ :: _, h => by simp at h
  | n + 1, [a], _ => by
    intro c hc
    unfold escapeL at hc
    split at hc
    · simp at hc; rcases hc with rfl | rfl | rfl | rfl | rfl <;> exact ⟨by decide, fun _ => by decide⟩
    split at hc
    · simp at hc; rcases hc with rfl | rfl | rfl | rfl <;> exact ⟨by decide, fun _ => by decide⟩
    split at hc
    · simp at hc; rcases hc with rfl | rfl | rfl | rfl <;> exact ⟨by decide, fun _ => by decide⟩
    split at hc
    · simp at hc; rcases hc with rfl | rfl | rfl | rfl | rfl | rfl <;> exact ⟨by decide, fun _ => by decide⟩
    · rename_i h1 h2 h3 h4
      simp at hc
      subst hc
      exact ⟨h2, fun hq e => h4 ⟨e, hq⟩⟩
  | n + 1, a :: d :: s, h => by
    intro c hc
    have ih1 := esc_no q n (d :: s) (by simp at h ⊢; omega)
    have ih2 := esc_no q n s (by simp at h ⊢; omega)
    unfold escapeL at hc
    split at hc
    · rcases List.mem_append.1 hc with hc | hc
      · simp at hc; rcases hc with rfl | rfl | rfl | rfl | rfl <;> exact ⟨by decide, fun _ => by decide⟩
      · exact ih1 c hc
    split at hc
    · rcases List.mem_append.1 hc with hc | hc
      · simp at hc; rcases hc with rfl | rfl | rfl | rfl <;> exact ⟨by decide, fun _ => by decide⟩
      · exact ih1 c hc
    split at hc
    · rcases List.mem_append.1 hc with hc | hc
      · simp at hc; rcases hc with rfl | rfl | rfl | rfl <;> exact ⟨by decide, fun _ => by decide⟩
      · exact ih1 c hc
    split at hc
    · rcases List.mem_append.1 hc with hc | hc
      · simp at hc; rcases hc with rfl | rfl | rfl | rfl | rfl | rfl <;> exact ⟨by decide, fun _ => by decide⟩
      · exact ih1 c hc
    split at hc
    · rcases List.mem_append.1 hc with hc | hc
      · simp at hc; rcases hc with rfl | rfl | rfl | rfl | rfl | rfl <;> exact ⟨by decide, fun _ => by decide⟩
      · exact ih2 c hc
    · rename_i h1 h2 h3 h4 h5
      rcases List.mem_cons.1 hc with rfl | hc
      · exact ⟨h2, fun hq e => h4 ⟨e, hq⟩⟩
      · exact ih1 c hc
theorem esc_60 (q : Bool) (s : B) : ∀ c ∈ escapeL q s, c ≠ 60 := fun c hc => (esc_no q s.length s (Nat.le_refl _) c hc).1
theorem esc_34 (s : B) : ∀ c ∈ escapeL true s, c ≠ 34 := fun c hc => (esc_no true s.length s (Nat.le_refl _) c hc).2 rfl

/-! ### words -/
theorem wordC_of (c : UInt8) (h : wordC c = true) : (97 ≤ c.toNat ∧ c.toNat ≤ 122) ∨ (48 ≤ c.toNat ∧ c.toNat ≤ 57) ∨ c.toNat = 45 := by
  simp only [wordC, smallB, Bool.or_eq_true, Bool.and_eq_true, decide_eq_true_eq, beq_iff_eq] at h
  rcases h with (h | h) | h
  · exact .inl h
  · exact .inr (.inl h)
  · exact .inr (.inr (by rw [h]; rfl))
theorem ne_of_toNat {a b : UInt8} (h : a.toNat ≠ b.toNat) : a ≠ b := fun e => h (by rw [e])
theorem word_char {c : UInt8} (h : wordC c = true) : blankB c = false ∧ c ≠ 47 ∧ c ≠ 62 ∧ c ≠ 61 ∧ c ≠ 33 ∧ c ≠ 63 ∧ c ≠ 60 ∧ lowB c = c := by
  have h' := wordC_of c h
  have hn : ∀ k : UInt8, k.toNat ≠ c.toNat → (c == k) = false := fun k hk => by
    rw [beq_eq_false_iff_ne]; exact fun e => hk (by rw [e])
  refine ⟨?_, ?_, ?_, ?_, ?_, ?_, ?_, ?_⟩
  · unfold blankB
    rw [hn 9 (by show 9 ≠ _; omega), hn 10 (by show 10 ≠ _; omega), hn 12 (by show 12 ≠ _; omega), hn 13 (by show 13 ≠ _; omega), hn 32 (by show 32 ≠ _; omega)]
    rfl
  · exact ne_of_toNat (by show _ ≠ 47; omega)
  · exact ne_of_toNat (by show _ ≠ 62; omega)
  · exact ne_of_toNat (by show _ ≠ 61; omega)
  · exact ne_of_toNat (by show _ ≠ 33; omega)
  · exact ne_of_toNat (by show _ ≠ 63; omega)
  · exact ne_of_toNat (by show _ ≠ 60; omega)
  · unfold lowB
    rw [if_neg (by omega)]
theorem word_cons {n : B} (h : wordL n = true) : ∃ c w, n = c :: w ∧ letterB c = true ∧ wordC c = true ∧ (∀ d ∈ w, wordC d = true) := by
  cases n with
  | nil => simp [wordL] at h
  | cons c w =>
    simp only [wordL, Bool.and_eq_true] at h
    refine ⟨c, w, rfl, ?_, ?_, fun d hd => List.all_eq_true.1 h.1.2 d hd⟩
    · have h1 := h.1.1
      unfold smallB at h1
      unfold letterB
      rw [h1]
      rfl
    · unfold wordC
      rw [h.1.1]
      rfl
theorem word_all {n : B} (h : wordL n = true) : ∀ d ∈ n, wordC d = true := by
  obtain ⟨c, w, rfl, _, hc, hw⟩ := word_cons h
  intro d hd
  rcases List.mem_cons.1 hd with rfl | hd
  · exact hc
  · exact hw d hd
theorem low_word {n : B} (h : ∀ d ∈ n, wordC d = true) : lowL n = n := by
  unfold lowL
  conv => rhs; rw [← List.map_id n]
  exact List.map_congr_left fun d hd => (word_char (h d hd)).2.2.2.2.2.2.2
theorem takeWhile_all {p : UInt8 → Bool} {a b : B} (ha : ∀ c ∈ a, p c = true) (hb : ∀ c ∈ b.head?, p c = false) : (a ++ b).takeWhile p = a ∧ (a ++ b).dropWhile p = b := by
  induction a with
  | nil =>
    cases b with
    | nil => simp
    | cons c b => simp [hb c (by simp)]
  | cons c a ih =>
    have := ih (fun d hd => ha d (List.mem_cons_of_mem _ hd))
    simp [ha c List.mem_cons_self, this]
theorem nameC_word {c : UInt8} (h : wordC c = true) : nameC c = true := by
  have := word_char h
  simp [nameC, this.1, this.2.1, this.2.2.1]
theorem attrC_word {c : UInt8} (h : wordC c = true) : attrC c = true := by
  have := word_char h
  simp [attrC, this.1, this.2.1, this.2.2.1, this.2.2.2.1]

/-! ### a tag is read back -/
theorem addA_names (as : List Atr) (n v : B) : ∀ a ∈ addA as n v, a ∈ as ∨ a.name = n := by
  unfold addA
  intro a ha
  split at ha
  · exact .inl ha
  · rcases List.mem_append.1 ha with h | h
    · exact .inl h
    · exact .inr (by simp at h; rw [h])
theorem tagG_attr (f : Nat) (n v r : B) (cl : Bool) (as : List Atr) (hn : wordL n = true) : tagG (f + 1) (attrH ⟨n, v⟩ ++ r) cl as = tagG f r cl (addA as n (resolveL (escapeL true v))) := by
  obtain ⟨c, w, rfl, hl, hc, hw⟩ := word_cons hn
  have hcc := word_char hc
  have h32 : blankB 32 = true := by decide
  have h61 : blankB 61 = false := by decide
  have h34 : blankB 34 = false := by decide
  have e1 : attrH ⟨c :: w, v⟩ ++ r = 32 :: c :: (w ++ (61 :: 34 :: (escapeL true v ++ (34 :: r)))) := by simp [attrH]
  have hd : (32 :: c :: (w ++ (61 :: 34 :: (escapeL true v ++ (34 :: r))))).dropWhile blankB = c :: (w ++ (61 :: 34 :: (escapeL true v ++ (34 :: r)))) := by
    rw [List.dropWhile_cons_of_pos h32, List.dropWhile_cons_of_neg (by simp [hcc.1])]
  have ht := takeWhile_all (p := attrC) (a := w) (b := 61 :: 34 :: (escapeL true v ++ (34 :: r))) (fun d hd => attrC_word (hw d hd)) (by simp; decide)
  have hq := takeWhile_all (p := fun x => x != 34) (a := escapeL true v) (b := 34 :: r) (fun d hd => by simpa using esc_34 v d hd) (by simp)
  rw [e1]
  conv => lhs; unfold tagG
  rw [hd]
  simp only [hcc.2.1, hcc.2.2.1, if_false, ht.1, ht.2]
  rw [List.dropWhile_cons_of_neg (by simp [h61])]
  simp only [ne_eq, not_true_eq_false, if_false]
  rw [List.dropWhile_cons_of_neg (by simp [h34])]
  simp only [true_or, if_true]
  have hlow : lowL (c :: w) = c :: w := low_word (fun d hd => by
    rcases List.mem_cons.1 hd with rfl | hd
    · exact hc
    · exact hw d hd)
  rw [hlow, hq.1, hq.2, if_pos (by simp)]
  simp only [List.drop_succ_cons, List.drop_zero]
theorem tagG_attrs : ∀ (l : List Atr) (f : Nat) (cl : Bool) (as : List Atr) (r : B), (∀ a ∈ l, wordL a.name = true) → l.length + 1 ≤ f → ∃ as', tagG f ((l.map attrH).flatten ++ (62 :: r)) cl as = some (cl, as', r) ∧ ∀ a ∈ as', a ∈ as ∨ ∃ b ∈ l, a.name = b.name
  | [], f, cl, as, r, _, hf => by
    obtain ⟨f, rfl⟩ : ∃ g, f = g + 1 := ⟨f - 1, by omega⟩
    refine ⟨as, ?_, fun a ha => .inl ha⟩
    have h62 : blankB 62 = false := by decide
    simp only [List.map_nil, List.flatten_nil, List.nil_append]
    unfold tagG
    rw [List.dropWhile_cons_of_neg (by simp [h62])]
    simp
  | a :: l, f, cl, as, r, hw, hf => by
    obtain ⟨f, rfl⟩ : ∃ g, f = g + 1 := ⟨f - 1, by omega⟩
    obtain ⟨as', h1, h2⟩ := tagG_attrs l f cl (addA as a.name (resolveL (escapeL true a.val))) r (fun b hb => hw b (List.mem_cons_of_mem _ hb)) (by simp at hf; omega)
    refine ⟨as', ?_, fun b hb => ?_⟩
    · simp only [List.map_cons, List.flatten_cons, List.append_assoc]
      rw [tagG_attr f a.name a.val _ cl as (hw a List.mem_cons_self)]
      exact h1
    · rcases h2 b hb with h | ⟨c, hc, e⟩
      · rcases addA_names _ _ _ b h with h | h
        · exact .inl h
        · exact .inr ⟨a, List.mem_cons_self, h⟩
      · exact .inr ⟨c, List.mem_cons_of_mem _ hc, e⟩
theorem flat_len (l : List Atr) : l.length ≤ (l.map attrH).flatten.length := by
  induction l with
  | nil => simp
  | cons a l ih =>
    have h1 : 1 ≤ (attrH a).length := by simp [attrH]
    simp only [List.map_cons, List.flatten_cons, List.length_append, List.length_cons]
    omega
theorem tagL_of (n : B) (l : List Atr) (r : B) (hn : wordL n = true) (hl : ∀ a ∈ l, wordL a.name = true) : ∃ as', tagL (n ++ ((l.map attrH).flatten ++ (62 :: r))) = some (⟨2, n, as', false, []⟩, r) ∧ ∀ a ∈ as', ∃ b ∈ l, a.name = b.name := by
  have hw := word_all hn
  have hb : ∀ c ∈ ((l.map attrH).flatten ++ (62 :: r)).head?, nameC c = false := by
    intro c hc
    cases l with
    | nil => simp at hc; rw [← hc]; decide
    | cons a l => simp [attrH] at hc; rw [← hc]; decide
  have ht := takeWhile_all (p := nameC) (a := n) (fun d hd => nameC_word (hw d hd)) hb
  obtain ⟨as', h1, h2⟩ := tagG_attrs l ((n ++ ((l.map attrH).flatten ++ (62 :: r))).length + 1) false [] r hl (by have := flat_len l; simp only [List.length_append, List.length_cons]; omega)
  refine ⟨as', ?_, fun a ha => ?_⟩
  · unfold tagL
    rw [ht.1, ht.2, h1, low_word hw]
    rfl
  · rcases h2 a ha with h | h
    · cases h
    · exact h

theorem toksG_step {f : Nat} {s r : B} {ts : List Tok} (hs : s ≠ []) (h : nextL s = some (ts, r)) : toksG (f + 1) s = ts ++ toksG f r := by
  simp [toksG, hs, h]
/-- What is an element's and an attribute's name in a page that does no harm. -/
def NameOk (n : B) : Prop := wordL n = true ∧ dropL n = false
def AttrOk (a : Atr) : Prop := wordL a.name = true ∧ harmA a.name = false
theorem raw_of_drop {n : B} (h : dropL n = false) : (rawL n).1 = false := by
  unfold dropL at h
  rw [Bool.or_eq_false_iff] at h
  exact h.2
theorem next_start (n : B) (l : List Atr) (r : B) (hn : NameOk n) (hl : ∀ a ∈ l, AttrOk a) : ∃ as', nextL (60 :: (n ++ ((l.map attrH).flatten ++ (62 :: r)))) = some ([⟨2, n, as', false, []⟩], r) ∧ ∀ a ∈ as', ∃ b ∈ l, a.name = b.name := by
  obtain ⟨as', h1, h2⟩ := tagL_of n l r hn.1 (fun a ha => (hl a ha).1)
  refine ⟨as', ?_, h2⟩
  obtain ⟨c, w, e, hlc, hc, hw⟩ := word_cons hn.1
  have hcc := word_char hc
  have hpl : plainL (60 :: (n ++ ((l.map attrH).flatten ++ (62 :: r)))) = false := by
    rw [e]
    simp [plainL, hcc.2.1, hlc]
  unfold nextL
  rw [if_neg (by rw [hpl]; simp), if_neg (by rw [e]; simp [hcc.2.2.2.2.1.symm]), if_neg (by rw [e]; simp [hcc.2.1.symm])]
  rw [e] at h1 ⊢
  simp only [List.cons_append] at h1 ⊢
  rw [if_pos hlc, h1]
  simp only
  rw [← e]
  rw [if_neg (by rw [raw_of_drop hn.2]; simp)]
theorem next_end (n r : B) (hn : NameOk n) : nextL (60 :: 47 :: (n ++ (62 :: r))) = some ([⟨3, n, [], false, []⟩], r) := by
  obtain ⟨as', h1, h2⟩ := tagL_of n [] r hn.1 (by simp)
  obtain ⟨c, w, e, hlc, hc, hw⟩ := word_cons hn.1
  have hcc := word_char hc
  have hpl : plainL (60 :: 47 :: (n ++ (62 :: r))) = false := by
    rw [e]
    simp [plainL]
  have h47 : letterB 47 = false := by decide
  unfold nextL
  rw [if_neg (by rw [hpl]; simp), if_neg (by simp), if_neg (by rw [e]; simp [hcc.2.2.1.symm])]
  simp only [h47, Bool.false_eq_true, if_false]
  rw [if_pos (by rw [e]; simp [hlc])]
  simp only [List.map_nil, List.flatten_nil, List.nil_append] at h1
  rw [h1]
theorem Ok'.start {n r : B} {l : List Atr} (hn : NameOk n) (hl : ∀ a ∈ l, AttrOk a) (h : Ok' r) : Ok' (60 :: (n ++ ((l.map attrH).flatten ++ (62 :: r)))) := by
  obtain ⟨as', h1, h2⟩ := next_start n l r hn hl
  obtain ⟨c, w, e, hlc, hc, hw⟩ := word_cons hn.1
  have hcc := word_char hc
  have h0 : textN (60 :: (n ++ ((l.map attrH).flatten ++ (62 :: r)))) = 0 := textN_not (by rw [e]; simp [plainL, hcc.2.1, hlc])
  unfold Ok'
  rw [h0, List.drop_zero]
  intro f t ht
  cases f with
  | zero => simp [toksG] at ht
  | succ f =>
    rw [toksG_step (by simp) h1] at ht
    simp only [List.singleton_append, List.mem_cons] at ht
    rcases ht with rfl | ht
    · simp only [harmT, hn.2, Bool.and_false, Bool.false_or]
      rw [List.any_eq_false]
      intro a ha
      obtain ⟨b, hb, e⟩ := h2 a ha
      rw [e, (hl b hb).2]
      simp
    · exact Ok.of h f t ht
theorem Ok'.end_ {n r : B} (hn : NameOk n) (h : Ok' r) : Ok' (60 :: 47 :: (n ++ (62 :: r))) := by
  have h1 := next_end n r hn
  obtain ⟨c, w, e, hlc, hc, hw⟩ := word_cons hn.1
  have h0 : textN (60 :: 47 :: (n ++ (62 :: r))) = 0 := textN_not (by rw [e]; simp [plainL])
  unfold Ok'
  rw [h0, List.drop_zero]
  intro f t ht
  cases f with
  | zero => simp [toksG] at ht
  | succ f =>
    rw [toksG_step (by simp) h1] at ht
    simp only [List.singleton_append, List.mem_cons] at ht
    rcases ht with rfl | ht
    · rfl
    · exact Ok.of h f t ht

/-! ### a tree that does no harm -/
mutual
def GoodN : Nod → Prop
  | .mk n a _ k => n = [] ∨ (NameOk n ∧ (∀ x ∈ a, AttrOk x) ∧ GoodL k)
def GoodL : List Nod → Prop
  | [] => True
  | n :: r => GoodN n ∧ GoodL r
end
theorem goodL_iff (l : List Nod) : GoodL l ↔ ∀ n ∈ l, GoodN n := by
  induction l with
  | nil => simp [GoodL]
  | cons n r ih => simp [GoodL, ih]
mutual
theorem ok_node : ∀ (n : Nod) (r : B), GoodN n → Ok' r → Ok' (htmlN n ++ r)
  | .mk n a t k, r, hg, h => by
    unfold htmlN
    by_cases hn : n = []
    · rw [if_pos hn]
      exact Ok'.text (esc_60 false t) h
    · rw [if_neg hn]
      unfold GoodN at hg
      rcases hg with hg | ⟨h1, h2, h3⟩
      · exact absurd hg hn
      · by_cases hv : voidL n = true
        · rw [if_pos hv]
          have := Ok'.start h1 h2 h
          simpa using this
        · rw [if_neg hv]
          have := Ok'.start h1 h2 (ok_list k _ h3 (Ok'.end_ h1 h))
          simpa using this
theorem ok_list : ∀ (l : List Nod) (r : B), GoodL l → Ok' r → Ok' (htmlL l ++ r)
  | [], r, _, h => by simpa [htmlL] using h
  | n :: l, r, hg, h => by
    unfold htmlL
    unfold GoodL at hg
    rw [List.append_assoc]
    exact ok_node n _ hg.1 (ok_list l r hg.2 h)
end
theorem bad_html {l : List Nod} (h : GoodL l) : badL (htmlL l) = false := by
  have := Ok.of (ok_list l [] h Ok'.nil)
  rw [List.append_nil] at this
  unfold badL toksL
  rw [List.any_eq_false]
  intro t ht
  rw [this _ t ht]
  simp
theorem bad_esc (s : B) : badL (escapeL false s) = false := by
  have := Ok.of (Ok'.text (esc_60 false s) Ok'.nil)
  rw [List.append_nil] at this
  unfold badL toksL
  rw [List.any_eq_false]
  intro t ht
  rw [this _ t ht]
  simp

/-! ### what a policy lets stay -/
theorem rights {p : Pol} (h : rightP p = true) : (∀ e ∈ p.elems, wordL e = true ∧ neverL e = false) ∧ (∀ a ∈ p.attrs, attrEntry p.elems a = true) := by
  simp only [rightP, Bool.and_eq_true] at h
  obtain ⟨⟨⟨⟨⟨⟨_, he⟩, ha⟩, _⟩, _⟩, _⟩, _⟩ := h
  simp only [listOk, Bool.and_eq_true] at he ha
  refine ⟨fun e hm => ?_, fun a hm => List.all_eq_true.1 ha.1.2 a hm⟩
  have := List.all_eq_true.1 he.1.2 e hm
  simpa using this
theorem drop_never {n : B} (h : neverL n = false) : dropL n = false := by
  unfold neverL at h
  unfold dropL
  rw [Bool.or_eq_false_iff] at h ⊢
  refine ⟨?_, h.2⟩
  have h1 := h.1
  rw [← Bool.not_eq_true] at h1 ⊢
  intro hc
  apply h1
  have hsub : ∀ x ∈ drops, x ∈ nevers := by decide
  rw [List.contains_iff_mem] at hc ⊢
  exact hsub n hc
theorem cut_of {a b : B} (h : ∀ c ∈ a, c ≠ 46) : cutL 46 (a ++ (46 :: b)) = some (a, b) := by
  have ht := takeWhile_all (p := fun x => x != 46) (a := a) (b := 46 :: b) (fun d hd => by simpa using h d hd) (by simp)
  unfold cutL
  rw [if_pos (by simp), ht.1, ht.2]
  rfl
theorem word_46 {c : UInt8} (h : wordC c = true) : c ≠ 46 := by
  have := wordC_of c h
  exact ne_of_toNat (by show _ ≠ 46; omega)
theorem ok_of_attrOk {a : B} (h : attrOk a = true) : wordL a = true ∧ harmA a = false := by
  simp only [attrOk, Bool.and_eq_true, Bool.not_eq_true', bne_iff_ne] at h
  obtain ⟨⟨⟨⟨h1, h2⟩, h3⟩, h4⟩, _⟩ := h
  refine ⟨h1, ?_⟩
  unfold harmA
  rw [h2]
  simp [h3, h4]
theorem attrP_ok {p : Pol} (hr : rightP p = true) {e a : B} (h : attrP p e a = true) : wordL a = true ∧ harmA a = false := by
  have hR := rights hr
  simp only [attrP, Bool.and_eq_true, Bool.or_eq_true] at h
  obtain ⟨he, h⟩ := h
  have hent : ∀ x : B, (∀ c ∈ x, c ≠ 46) → (x ++ (46 :: a)) ∈ p.attrs → wordL a = true ∧ harmA a = false := by
    intro x hx hm
    have h1 := hR.2 _ hm
    unfold attrEntry at h1
    rw [cut_of hx] at h1
    simp only [Bool.and_eq_true] at h1
    exact ok_of_attrOk h1.2
  rcases h with h | h
  · exact hent [42] (by simp) (by simpa using h)
  · have hw := (hR.1 e (by simpa [elemP] using he)).1
    exact hent e (fun c hc => word_46 (word_all hw c hc)) (by simpa using h)
theorem value_ok {p : Pol} (hr : rightP p = true) {e : B} {a : Atr} (h : valueP p e a = true) : AttrOk a := by
  simp only [valueP, Bool.and_eq_true] at h
  obtain ⟨_, h⟩ := h
  unfold AttrOk
  split at h
  · rename_i e1; rw [e1]; decide
  split at h
  · rename_i e1; rw [e1]; decide
  split at h
  · simp only [Bool.and_eq_true] at h
    exact attrP_ok hr h.1.1
  · simp only [Bool.and_eq_true] at h
    exact attrP_ok hr h.1
theorem attrsS_ok {p : Pol} (hr : rightP p = true) (e : B) (l : List Atr) : ∀ a ∈ attrsS p e l, AttrOk a := by
  have h1 : ∀ a ∈ l.filterMap (attrS p e), AttrOk a := by
    intro a ha
    obtain ⟨b, _, hb⟩ := List.mem_filterMap.1 ha
    simp only [attrS] at hb
    split at hb
    · cases hb
    · generalize hc : (if b.name = styleN then (⟨b.name, filterS b.val p.props⟩ : Atr) else if b.name = classN then ⟨b.name, classesS b.val p.classes⟩ else b) = c at hb
      split at hb
      · rename_i hv
        injection hb with hb
        subst hb
        exact value_ok hr hv
      · cases hb
  intro a ha
  simp only [attrsS] at ha
  split at ha
  · rcases List.mem_append.1 ha with h | h
    · exact h1 a h
    · simp at h
      rw [h]
      exact ⟨by decide, by decide⟩
  · exact h1 a ha
theorem good_app {l : List Nod} {n : Nod} (h : GoodL l) (hn : GoodN n) : GoodL (l ++ [n]) := by
  rw [goodL_iff] at h ⊢
  intro m hm
  rcases List.mem_append.1 hm with hm | hm
  · exact h m hm
  · simp at hm; rw [hm]; exact hn
theorem good_put {out : List Nod} {n : Nod} (h : GoodL out) (hn : GoodN n) : GoodL (putS out n) := by
  unfold putS
  split
  · exact good_app h hn
  split
  · exact h
  · unfold joinK
    cases hl : out.getLast? with
    | none => exact good_app h (by simp [txt, GoodN])
    | some m =>
      simp only
      by_cases hm : m.name = []
      · rw [if_pos hm]
        refine good_app ?_ (by obtain ⟨a, b, c, d⟩ := m; simp only [Nod.name] at hm; subst hm; exact .inl rfl)
        rw [goodL_iff] at h ⊢
        exact fun x hx => h x (List.dropLast_subset _ hx)
      · rw [if_neg hm]
        exact good_app h (by simp [txt, GoodN])
mutual
theorem good_node {p : Pol} (hr : rightP p = true) : ∀ (n : Nod) (out : List Nod), GoodL out → GoodL (nodeS p out n)
  | .mk n a t k, out, h => by
    unfold nodeS
    split
    · rename_i hn
      exact good_put h (by unfold GoodN; exact .inl hn)
    split
    · exact h
    split
    · rename_i he
      have hm := (rights hr).1 n (by simpa [elemP] using he)
      exact good_put h (by unfold GoodN; exact .inr ⟨⟨hm.1, drop_never hm.2⟩, attrsS_ok hr n a, good_fold hr k [] (by simp [GoodL])⟩)
    · exact good_fold hr k out h
theorem good_fold {p : Pol} (hr : rightP p = true) : ∀ (l : List Nod) (out : List Nod), GoodL out → GoodL (foldS p out l)
  | [], out, h => by unfold foldS; exact h
  | n :: r, out, h => by
    unfold foldS
    exact good_fold hr r _ (good_node hr n out h)
end
/-- What is clean does no harm. -/
theorem harm_html {p : Pol} (hr : rightP p = true) (l : List Nod) : badL (htmlL (foldS p [] l)) = false := bad_html (good_fold hr l [] (by simp [GoodL]))
end Go.Proofs.YtlgaeeedkihfpaaGreatDoor.Tz

/-
  TopChain in plain Lean: an escaped text stands for itself; a cleaned page's tokens.
-/
namespace Go.Proofs.YtlgaeeedkihfpaaGreatDoor.Tz

/-! ### an escaped text stands for itself -/
theorem resG_skip {c : UInt8} (h : c ≠ 38) (f : Nat) (x : B) : resolveG (f + 1) (c :: x) = c :: resolveG (f + 1) x := by
  have h1 : (c != 38) = true := by simpa using h
  unfold resolveG
  rw [List.dropWhile_cons_of_pos (p := fun x => x != 38) h1, List.takeWhile_cons_of_pos (p := fun x => x != 38) h1]
  split
  · rfl
  · rfl
theorem resG_ref (f : Nat) (n r x : B) (hn : ∀ c ∈ n, c ≠ 59) (hl : n.length ≤ 10) (hs : standsL n = some r) : resolveG (f + 1) (38 :: (n ++ 59 :: x)) = r ++ resolveG f x := by
  have h1 : ¬ ((38 : UInt8) != 38) = true := by simp
  have h2 : ((n ++ 59 :: x).take 11).findIdx? (· == 59) = some n.length := by
    rw [List.findIdx?_eq_some_iff_getElem]
    have hlen : n.length < ((n ++ 59 :: x).take 11).length := by simp; omega
    refine ⟨hlen, by simp [List.getElem_append_right], fun j hj => ?_⟩
    have : ((n ++ 59 :: x).take 11)[j]'(by omega) = n[j] := by simp [List.getElem_append_left, hj]
    rw [this]
    simpa using hn _ (List.getElem_mem hj)
  conv => lhs; unfold resolveG
  rw [List.dropWhile_cons_of_neg (p := fun x => x != 38) h1, List.takeWhile_cons_of_neg (p := fun x => x != 38) h1]
  simp only [h2, List.take_left, hs, List.nil_append]
  rw [show n.length + 1 = (n ++ [59]).length by simp, show n ++ 59 :: x = (n ++ [59]) ++ x by simp, List.drop_left]
theorem eL_amp (q : Bool) (s : B) : escapeL q (38 :: s) = 38 :: ([97, 109, 112] ++ 59 :: escapeL q s) := by cases s <;> simp [escapeL]
theorem eL_lt (q : Bool) (s : B) : escapeL q (60 :: s) = 38 :: ([108, 116] ++ 59 :: escapeL q s) := by cases s <;> simp [escapeL]
theorem eL_gt (q : Bool) (s : B) : escapeL q (62 :: s) = 38 :: ([103, 116] ++ 59 :: escapeL q s) := by cases s <;> simp [escapeL]
theorem eL_quot (s : B) : escapeL true (34 :: s) = 38 :: ([113, 117, 111, 116] ++ 59 :: escapeL true s) := by cases s <;> simp [escapeL]
theorem eL_nb (q : Bool) (s : B) : escapeL q (194 :: 160 :: s) = 38 :: ([110, 98, 115, 112] ++ 59 :: escapeL q s) := by simp [escapeL]
theorem eL_else {q : Bool} {c : UInt8} {s : B} (h1 : c ≠ 38) (h2 : c ≠ 60) (h3 : c ≠ 62) (h4 : ¬ (c = 34 ∧ q = true)) (h5 : ¬ (c = 194 ∧ s.head? = some 160)) : escapeL q (c :: s) = c :: escapeL q s := by
  cases s with
  | nil => simp only [escapeL, h1, h2, h3, h4, if_false]
  | cons d s =>
    have h6 : ¬ (c = 194 ∧ d = 160) := fun h => h5 ⟨h.1, by simp [h.2]⟩
    simp only [escapeL, h1, h2, h3, h4, h6, if_false]
theorem res_esc (q : Bool) : ∀ (n : Nat) (s : B), s.length ≤ n → ∀ f, (escapeL q s).length < f → resolveG f (escapeL q s) = s
  | _, [], _ => by
    intro f hf
    obtain ⟨f, rfl⟩ : ∃ g, f = g + 1 := ⟨f - 1, by omega⟩
    simp [escapeL, resolveG]
  | 0, _ :: _, h => by simp at h
  | n + 1, c :: s, h => by
    intro f hf
    obtain ⟨f, rfl⟩ : ∃ g, f = g + 1 := ⟨f - 1, by omega⟩
    have hs : s.length ≤ n := by simpa using h
    by_cases h1 : c = 38
    · subst h1
      rw [eL_amp] at hf ⊢
      rw [resG_ref f _ [38] _ (by decide) (by decide) (by decide), res_esc q n s hs f (by simp at hf; omega)]
      rfl
    by_cases h2 : c = 60
    · subst h2
      rw [eL_lt] at hf ⊢
      rw [resG_ref f _ [60] _ (by decide) (by decide) (by decide), res_esc q n s hs f (by simp at hf; omega)]
      rfl
    by_cases h3 : c = 62
    · subst h3
      rw [eL_gt] at hf ⊢
      rw [resG_ref f _ [62] _ (by decide) (by decide) (by decide), res_esc q n s hs f (by simp at hf; omega)]
      rfl
    by_cases h4 : c = 34 ∧ q = true
    · obtain ⟨rfl, rfl⟩ := h4
      rw [eL_quot] at hf ⊢
      rw [resG_ref f _ [34] _ (by decide) (by decide) (by decide), res_esc true n s hs f (by simp at hf; omega)]
      rfl
    by_cases h5 : c = 194 ∧ s.head? = some 160
    · obtain ⟨rfl, h5⟩ := h5
      cases s with
      | nil => simp at h5
      | cons d s =>
        obtain rfl : d = 160 := by simpa using h5
        rw [eL_nb] at hf ⊢
        rw [resG_ref f _ [194, 160] _ (by decide) (by decide) (by decide), res_esc q n s (by simp at hs; omega) f (by simp at hf; omega)]
        rfl
    · rw [eL_else h1 h2 h3 h4 h5] at hf ⊢
      rw [resG_skip h1, res_esc q n s hs (f + 1) (by simp at hf; omega)]
theorem resolve_escape (q : Bool) (s : B) : resolveL (escapeL q s) = s := res_esc q s.length s (Nat.le_refl _) _ (by omega)

/-! ### a tag is read back as it was -/
theorem addA_new {as : List Atr} {n v : B} (h : ∀ a ∈ as, a.name ≠ n) : addA as n v = as ++ [⟨n, v⟩] := by
  unfold addA
  rw [if_neg]
  rw [Bool.not_eq_true, List.any_eq_false]
  intro a ha
  simpa using h a ha
/-- Words, each once. -/
def NamesOk (l : List Atr) : Prop := (∀ a ∈ l, wordL a.name = true) ∧ (l.map (·.name)).Nodup
theorem tagG_exact : ∀ (l : List Atr) (f : Nat) (cl : Bool) (as : List Atr) (r : B), (∀ a ∈ l, wordL a.name = true) → ((as ++ l).map (·.name)).Nodup → l.length + 1 ≤ f → tagG f ((l.map attrH).flatten ++ (62 :: r)) cl as = some (cl, as ++ l, r)
  | [], f, cl, as, r, _, _, hf => by
    obtain ⟨f, rfl⟩ : ∃ g, f = g + 1 := ⟨f - 1, by omega⟩
    have h62 : blankB 62 = false := by decide
    simp only [List.map_nil, List.flatten_nil, List.nil_append, List.append_nil]
    unfold tagG
    rw [List.dropWhile_cons_of_neg (by simp [h62])]
    simp
  | a :: l, f, cl, as, r, hw, hd, hf => by
    obtain ⟨f, rfl⟩ : ∃ g, f = g + 1 := ⟨f - 1, by omega⟩
    have hnew : ∀ b ∈ as, b.name ≠ a.name := fun b hb e => by
      rw [List.map_append, List.nodup_append] at hd
      exact hd.2.2 b.name (List.mem_map_of_mem hb) a.name (List.mem_map_of_mem List.mem_cons_self) e
    simp only [List.map_cons, List.flatten_cons, List.append_assoc]
    rw [tagG_attr f a.name a.val _ cl as (hw a List.mem_cons_self), resolve_escape, addA_new hnew]
    have e : as ++ a :: l = (as ++ [a]) ++ l := by simp
    rw [e] at hd ⊢
    exact tagG_exact l f cl (as ++ [a]) r (fun b hb => hw b (List.mem_cons_of_mem _ hb)) hd (by simp at hf; omega)
theorem tagL_exact (n : B) (l : List Atr) (r : B) (hn : wordL n = true) (hl : NamesOk l) : tagL (n ++ ((l.map attrH).flatten ++ (62 :: r))) = some (⟨2, n, l, false, []⟩, r) := by
  have hw := word_all hn
  have hb : ∀ c ∈ ((l.map attrH).flatten ++ (62 :: r)).head?, nameC c = false := by
    intro c hc
    cases l with
    | nil => simp at hc; rw [← hc]; decide
    | cons a l => simp [attrH] at hc; rw [← hc]; decide
  have ht := takeWhile_all (p := nameC) (a := n) (fun d hd => nameC_word (hw d hd)) hb
  have h1 := tagG_exact l ((n ++ ((l.map attrH).flatten ++ (62 :: r))).length + 1) false [] r hl.1 (by simpa using hl.2) (by have := flat_len l; simp only [List.length_append, List.length_cons]; omega)
  unfold tagL
  rw [ht.1, ht.2, h1, low_word hw]
  rfl
theorem next_start_ (n : B) (l : List Atr) (r : B) (hn : NameOk n) (hl : NamesOk l) : nextL (60 :: (n ++ ((l.map attrH).flatten ++ (62 :: r)))) = some ([⟨2, n, l, false, []⟩], r) := by
  have h1 := tagL_exact n l r hn.1 hl
  obtain ⟨c, w, e, hlc, hc, hw⟩ := word_cons hn.1
  have hcc := word_char hc
  have hpl : plainL (60 :: (n ++ ((l.map attrH).flatten ++ (62 :: r)))) = false := by
    rw [e]
    simp [plainL, hcc.2.1, hlc]
  unfold nextL
  rw [if_neg (by rw [hpl]; simp), if_neg (by rw [e]; simp [hcc.2.2.2.2.1.symm]), if_neg (by rw [e]; simp [hcc.2.1.symm])]
  rw [e] at h1 ⊢
  simp only [List.cons_append] at h1 ⊢
  rw [if_pos hlc, h1]
  simp only
  rw [← e]
  rw [if_neg (by rw [raw_of_drop hn.2]; simp)]
theorem start_text (n : B) (x : B) (hn : NameOk n) : textN (60 :: (n ++ x)) = 0 := by
  obtain ⟨c, w, e, hlc, hc, hw⟩ := word_cons hn.1
  have hcc := word_char hc
  exact textN_not (by rw [e]; simp [plainL, hcc.2.1, hlc])
theorem end_text (n : B) (x : B) (hn : NameOk n) : textN (60 :: 47 :: (n ++ x)) = 0 := by
  obtain ⟨c, w, e, hlc, hc, hw⟩ := word_cons hn.1
  exact textN_not (by rw [e]; simp [plainL])
theorem next_text (t x : B) (ht : t ≠ []) (h : textN x = 0) : nextL (escapeL false t ++ x) = some ([textT t], x) := by
  have h1 := textN_app (escapeL false t) x (esc_60 false t)
  rw [h, Nat.add_zero] at h1
  have hne : escapeL false t ≠ [] := fun e => ht (by have := resolve_escape false t; rw [e] at this; simpa [resolveL, resolveG] using this.symm)
  have hpl : plainL (escapeL false t ++ x) = true := by
    cases he : escapeL false t with
    | nil => exact absurd he hne
    | cons c y => exact plain_no (esc_60 false t c (by rw [he]; simp))
  unfold nextL
  rw [if_pos hpl, h1, List.take_left, List.drop_left, resolve_escape]
end Go.Proofs.YtlgaeeedkihfpaaGreatDoor.Tz

/-
  TopChain in plain Lean: a fine tree's page is read back as that tree.
-/
namespace Go.Proofs.YtlgaeeedkihfpaaGreatDoor.Tz

def inLi (n : B) (lf : Bool) : Bool := if n = liN then true else if n = ulN ∨ n = olN then false else lf
mutual
/-- A tree as Build makes it: within a p no block, within a li no li but in a list. -/
def FiN (pf lf : Bool) : Nod → Prop
  | .mk n a t k => t = [] ∧ (a.map (·.name)).Nodup ∧ (voidL n = true → k = []) ∧ (pf = true → blockL n = false) ∧ (lf = true → n ≠ liN) ∧ FiL (pf || n == pN) (inLi n lf) k
def FiL (pf lf : Bool) : List Nod → Prop
  | [] => True
  | n :: r => ((n.name = [] ∧ n.attrs = [] ∧ n.kids = []) ∨ (n.name ≠ [] ∧ FiN pf lf n)) ∧ FiL pf lf r
end
mutual
/-- No empty text, no two texts side by side. -/
def TxN : Nod → Prop
  | .mk _ _ _ k => TxL false k
def TxL (text : Bool) : List Nod → Prop
  | [] => True
  | n :: r => (n.name = [] ∧ text = false ∧ n.text ≠ [] ∧ TxL true r) ∨ (n.name ≠ [] ∧ TxN n ∧ TxL false r)
end
mutual
def tkN : Nod → List Tok
  | .mk n a t k => if n = [] then [textT t] else ⟨2, n, a, false, []⟩ :: (if voidL n then [] else tkL k ++ [⟨3, n, [], false, []⟩])
def tkL : List Nod → List Tok
  | [] => []
  | n :: r => tkN n ++ tkL r
end
theorem tkL_cons (n : Nod) (r : List Nod) : tkL (n :: r) = tkN n ++ tkL r := by conv => lhs; unfold tkL
theorem htmlL_cons (n : Nod) (r : List Nod) : htmlL (n :: r) = htmlN n ++ htmlL r := by conv => lhs; unfold htmlL
theorem names_of {l : List Atr} (h : ∀ x ∈ l, AttrOk x) (hd : (l.map (·.name)).Nodup) : NamesOk l := ⟨fun a ha => (h a ha).1, hd⟩

/-- In front of what is no text stands no text. -/
theorem text_start {k : List Nod} {x : B} (hg : GoodL k) (ht : TxL true k) (hx : textN x = 0) : textN (htmlL k ++ x) = 0 := by
  cases k with
  | nil => simpa [htmlL] using hx
  | cons n r =>
    obtain ⟨nm, a, t, kd⟩ := n
    unfold TxL at ht
    rcases ht with ⟨_, h, _⟩ | ⟨hne, _, _⟩
    · cases h
    · have hne : nm ≠ [] := hne
      unfold GoodL at hg
      have hg1 := hg.1
      unfold GoodN at hg1
      rcases hg1 with h | ⟨hn, _, _⟩
      · exact absurd h hne
      · rw [htmlL_cons]
        unfold htmlN
        rw [if_neg hne]
        have := start_text nm (((a.map attrH).flatten ++ [62]) ++ ((if voidL nm = true then [] else htmlL kd ++ ([60, 47] ++ nm ++ [62])) ++ (htmlL r ++ x))) hn
        simpa using this
mutual
theorem read_node : ∀ (n : Nod) (x : B) (f : Nat) (pf lf : Bool), n.name ≠ [] → GoodN n → FiN pf lf n → TxN n → (htmlN n ++ x).length < f → ∃ g, x.length < g ∧ toksG f (htmlN n ++ x) = tkN n ++ toksG g x
  | .mk n a t k, x, f, pf, lf, hne, hg, hf, ht, hlen => by
    have hne : n ≠ [] := hne
    obtain ⟨f, rfl⟩ : ∃ g, f = g + 1 := ⟨f - 1, by omega⟩
    unfold GoodN at hg
    rcases hg with hg | ⟨h1, h2, h3⟩
    · exact absurd hg hne
    · unfold FiN at hf
      obtain ⟨_, hd, hv, _, _, hk⟩ := hf
      unfold TxN at ht
      have hnm := names_of h2 hd
      unfold tkN
      rw [if_neg hne]
      unfold htmlN at hlen ⊢
      rw [if_neg hne] at hlen ⊢
      by_cases hvo : voidL n = true
      · rw [if_pos hvo] at hlen ⊢
        rw [if_pos hvo]
        have e : ([60] ++ n ++ (a.map attrH).flatten ++ [62] ++ []) ++ x = 60 :: (n ++ ((a.map attrH).flatten ++ (62 :: x))) := by simp
        rw [e] at hlen ⊢
        refine ⟨f, by simp at hlen; omega, ?_⟩
        rw [toksG_step (by simp) (next_start_ n a x h1 hnm)]
      · rw [if_neg hvo] at hlen ⊢
        rw [if_neg hvo]
        have e : ([60] ++ n ++ (a.map attrH).flatten ++ [62] ++ (htmlL k ++ ([60, 47] ++ n ++ [62]))) ++ x = 60 :: (n ++ ((a.map attrH).flatten ++ (62 :: (htmlL k ++ (60 :: 47 :: (n ++ (62 :: x))))))) := by simp
        rw [e] at hlen ⊢
        rw [toksG_step (by simp) (next_start_ n a _ h1 hnm)]
        obtain ⟨g, hg, hE⟩ := read_list k (60 :: 47 :: (n ++ (62 :: x))) f (pf || n == pN) (inLi n lf) false h3 hk ht (end_text n (62 :: x) h1) (by simp at hlen ⊢; omega)
        rw [hE]
        obtain ⟨g, rfl⟩ : ∃ g', g = g' + 1 := ⟨g - 1, by omega⟩
        rw [toksG_step (by simp) (next_end n x h1)]
        exact ⟨g, by simp at hg; omega, by simp⟩
theorem read_list : ∀ (k : List Nod) (x : B) (f : Nat) (pf lf text : Bool), GoodL k → FiL pf lf k → TxL text k → textN x = 0 → (htmlL k ++ x).length < f → ∃ g, x.length < g ∧ toksG f (htmlL k ++ x) = tkL k ++ toksG g x
  | [], x, f, pf, lf, text, _, _, _, _, hlen => ⟨f, by simpa [htmlL] using hlen, by simp [htmlL, tkL]⟩
  | .mk n a t kd :: r, x, f, pf, lf, text, hg, hf, ht, hx, hlen => by
    unfold GoodL at hg
    unfold FiL at hf
    unfold TxL at ht
    rw [htmlL_cons, List.append_assoc] at hlen ⊢
    rw [tkL_cons]
    rcases ht with ⟨hn, _, htx, htr⟩ | ⟨hn, htn, htr⟩
    · have hn : n = [] := hn
      have htx : t ≠ [] := htx
      have e1 : htmlN (.mk n a t kd) = escapeL false t := by unfold htmlN; rw [if_pos hn]
      have e2 : tkN (.mk n a t kd) = [textT t] := by unfold tkN; rw [if_pos hn]
      rw [e1] at hlen ⊢
      rw [e2]
      obtain ⟨f, rfl⟩ : ∃ g, f = g + 1 := ⟨f - 1, by omega⟩
      have hts := text_start hg.2 htr hx
      have hne : escapeL false t ≠ [] := fun e => htx (by have := resolve_escape false t; rw [e] at this; simpa [resolveL, resolveG] using this.symm)
      have hpos : 0 < (escapeL false t).length := List.length_pos_iff.2 hne
      rw [toksG_step (by simp [hne]) (next_text t _ htx hts)]
      obtain ⟨g, hgl, hE⟩ := read_list r x f pf lf true hg.2 hf.2 htr hx (by rw [List.length_append] at hlen; omega)
      exact ⟨g, hgl, by rw [hE, List.append_assoc]⟩
    · have hfn : FiN pf lf (.mk n a t kd) := by
        rcases hf.1 with h | h
        · exact absurd h.1 hn
        · exact h.2
      obtain ⟨g, hgl, hE⟩ := read_node (.mk n a t kd) (htmlL r ++ x) f pf lf hn hg.1 hfn htn hlen
      rw [hE]
      obtain ⟨g2, hgl2, hE2⟩ := read_list r x g pf lf false hg.2 hf.2 htr hx hgl
      exact ⟨g2, hgl2, by rw [hE2, List.append_assoc]⟩
end
/-- The tokens of a fine tree's page. -/
theorem toks_html {k : List Nod} (hg : GoodL k) (hf : FiL false false k) (ht : TxL false k) : toksL (htmlL k) = tkL k := by
  obtain ⟨g, _, hE⟩ := read_list k [] ((htmlL k).length + 1) false false false hg hf ht rfl (by simp)
  rw [List.append_nil] at hE
  unfold toksL
  rw [hE]
  cases g <;> simp [toksG]
end Go.Proofs.YtlgaeeedkihfpaaGreatDoor.Tz
