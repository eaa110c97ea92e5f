/-
  Texts of the proof of Chain, one behind the other: Mem, FixW, Low.
-/
import Derived.WalkKit
import Derived.ProofKit
import Derived.OpenShut
import Derived.ShutString
import Derived.ChangeOld
import Derived.Below
import Derived.Deep.Draws
import Derived.Maps.AppendAt
import Derived.Deep.AppendLies
import Derived.RegionTactic
import Derived.OwnWalk
import Derived.Lib.Hide
import Derived.Laws.CopyOwn
import Derived.Laws.BytesArg
import Derived.Test.YtlgaeeedkihfpaaGreatDoorC05
import Derived.Lib.OthersKept
import Derived.Lib.RuneCount
import Derived.Lib.ConvBytes
/-
  Words for memory: a frame with a set of blocks that may turn, slices that read as lists, bytes that came in, bytes as a string.
-/
namespace Go.Proofs.YtlgaeeedkihfpaaGreatDoor.Uf
open Go.RowKit

/-- But for the blocks of S, all that was there is as it was. -/
structure Only (S : Nat → Prop) (w w' : World) : Prop where
  os : w'.os = w.os
  tape : w'.tape = w.tape
  output : w'.output = w.output
  size : w.heap.size ≤ w'.heap.size
  block : ∀ k, k < w.heap.size → ¬ S k → w'.heap[k]? = w.heap[k]?

section
variable {S S' : Nat → Prop} {a b c w w' : World}
theorem Only.refl (S : Nat → Prop) (w : World) : Only S w w := ⟨rfl, rfl, rfl, Nat.le_refl _, fun _ _ _ => rfl⟩
theorem Only.trans (h : Only S a b) (k : Only S b c) : Only S a c :=
  ⟨k.os.trans h.os, k.tape.trans h.tape, k.output.trans h.output, Nat.le_trans h.size k.size, fun i hi hn => (k.block i (Nat.lt_of_lt_of_le hi h.size) hn).trans (h.block i hi hn)⟩
/-- A wider set: what is new counts with it. -/
theorem Only.mono (h : Only S w w') (hS : ∀ k, k < w.heap.size → S k → S' k) : Only S' w w' := ⟨h.os, h.tape, h.output, h.size, fun k hk hn => h.block k hk fun hs => hn (hS k hk hs)⟩
/-- Two steps, the second's set a part of the first's but for what is new. -/
theorem Only.next (h : Only S a b) (k : Only S' b c) (hS : ∀ i, i < a.heap.size → S' i → S i) : Only S a c :=
  ⟨k.os.trans h.os, k.tape.trans h.tape, k.output.trans h.output, Nat.le_trans h.size k.size, fun i hi hn => (k.block i (Nat.lt_of_lt_of_le hi h.size) fun hs => hn (hS i hi hs)).trans (h.block i hi hn)⟩
theorem Only.drew (h : Only S a w) : Only S a w.drew := ⟨h.os, h.tape, h.output, h.size, h.block⟩
theorem Only.drewN (h : Only S a w) (n : Nat) : Only S a (w.drewN n) := ⟨h.os, h.tape, h.output, h.size, h.block⟩
theorem Only.alloc (h : Only S a w) (o : Obj) : Only S a (w.alloc o) :=
  ⟨h.os, h.tape, h.output, Nat.le_trans h.size (by simp), fun i hi hn => (Below.heap_alloc w o i (Nat.lt_of_lt_of_le hi h.size)).trans (h.block i hi hn)⟩
theorem Only.setCell (h : Only S a w) {p : Addr} (hp : p.block < a.heap.size → S p.block) (u : Value) : Only S a (w.setCell p u) :=
  ⟨h.os, h.tape, h.output, by simpa [World.setCell] using h.size, fun i hi hn => (Below.heap_setCell w p u i (by rintro rfl; exact hn (hp hi))).trans (h.block i hi hn)⟩
theorem Only.grown (h : Only S a w) {row : Option Nat} (hg : w.grownBy w' row) (hr : ∀ k, row = some k → k < a.heap.size → S k) : Only S a w' :=
  ⟨hg.os.trans h.os, hg.tape.trans h.tape, hg.output.trans h.output, Nat.le_trans h.size hg.size, fun i hi hn => (hg.block i (Nat.lt_of_lt_of_le hi h.size) (fun e => hn (hr i e.symm hi))).trans (h.block i hi hn)⟩
theorem Only.below (h : Only S w w') (hS : ∀ k, S k → w.heap.size ≤ k) : Below w.heap.size w w' :=
  ⟨h.os, h.tape, h.output, h.size, fun k hk => h.block k hk fun hs => by have := hS k hs; omega⟩
/-- All that may turn lies from B on. -/
theorem Only.belowOf {B : Nat} (h : Only S w w') (hB : B ≤ w.heap.size) (hS : ∀ k, S k → B ≤ k) : Below B w w' :=
  ⟨h.os, h.tape, h.output, h.size, fun k hk => h.block k (by omega) fun hs => by have := hS k hs; omega⟩
theorem Only.ofBelow {B : Nat} (h : Below B w w') : Only (fun k => B ≤ k) w w' := ⟨h.os, h.tape, h.output, h.size, fun k _ hn => h.block k (by omega)⟩
end

/-- A block known whole. -/
def Blk (w : World) (g : Nat) (t : TypeId) (cs : Array Value) : Prop := w.heap[g]? = some (.cells cs t (0, 0))

section
variable {w w' : World} {g : Nat} {t : TypeId} {cs : Array Value}
theorem Blk.lt (h : Blk w g t cs) : g < w.heap.size := by
  rcases Nat.lt_or_ge g w.heap.size with hlt | hge
  · exact hlt
  · unfold Blk at h; rw [Array.getElem?_eq_none hge] at h; cases h
theorem Blk.cell (h : Blk w g t cs) (i : Nat) : w.cell? ⟨g, i, none⟩ = cs[i]? := cell_of_row w g i cs t (0, 0) h
theorem Blk.frozen (h : Blk w g t cs) (i : Nat) : w.frozen? ⟨g, i, none⟩ = false := by
  unfold Blk at h
  simp [World.frozen?, h]
theorem Blk.new (w : World) (t : TypeId) (cs : Array Value) : Blk (w.alloc (.cells cs t)) w.heap.size t cs := heap_alloc_new w _
theorem Blk.drew (h : Blk w g t cs) : Blk w.drew g t cs := h
theorem Blk.drewN (h : Blk w g t cs) (n : Nat) : Blk (w.drewN n) g t cs := h
theorem Blk.alloc (h : Blk w g t cs) (o : Obj) : Blk (w.alloc o) g t cs := (Below.heap_alloc w o g h.lt).trans h
theorem Blk.set_ (h : Blk w g t cs) (i : Nat) (u : Value) : Blk (w.setCell ⟨g, i, none⟩ u) g t (cs.setIfInBounds i u) := by
  unfold Blk at h ⊢
  simp [World.setCell, Array.getElem?_modify, h]
theorem Blk.far (h : Blk w g t cs) {p : Addr} (hp : g ≠ p.block) (u : Value) : Blk (w.setCell p u) g t cs := (Below.heap_setCell w p u g hp).trans h
theorem Blk.below {B : Nat} (h : Blk w g t cs) (hb : Below B w w') (hg : g < B) : Blk w' g t cs := (hb.block g hg).trans h
theorem Blk.grown {row : Option Nat} (h : Blk w g t cs) (hb : w.grownBy w' row) (hg : some g ≠ row) : Blk w' g t cs := (hb.block g h.lt hg).trans h
theorem Blk.only {S : Nat → Prop} (h : Blk w g t cs) (hb : Only S w w') (hg : ¬ S g) : Blk w' g t cs := (hb.block g h.lt hg).trans h
theorem Blk.ne_ {g' : Nat} {t' : TypeId} {cs' : Array Value} (h : Blk w g t cs) (h' : Blk w g' t' cs') (hne : t ≠ t') : g ≠ g' := by
  rintro rfl
  unfold Blk at h h'
  rw [h] at h'
  injection h' with h'
  injection h' with _ ht
  exact hne ht
theorem own_blk_ne {base : Nat} {e : TypeId} {size n : Nat} {v : Value} {xs : List Value} (h : w.ownsRow base e size v n xs) (hg : Blk w g t cs) (hne : e ≠ t) : v.ownBlock ≠ some g := by
  rcases h.2 with ⟨rfl, _⟩ | ⟨g', cap, cur, rfl, _, hh, _⟩
  · simp [Value.ownBlock]
  · intro he
    have : g' = g := by simpa [Value.ownBlock] using he
    subst this
    exact Blk.ne_ (t := e) hh hg hne rfl
theorem own_only {base : Nat} {e : TypeId} {size n : Nat} {v : Value} {xs : List Value} {S : Nat → Prop} (h : w.ownsRow base e size v n xs) (hb : Only S w w') (hS : ∀ k, v.ownBlock = some k → ¬ S k) : w'.ownsRow base e size v n xs := by
  refine ⟨h.1, ?_⟩
  rcases h.2 with hn | ⟨g, cap, cur, rfl, hbs, hgg, rest⟩
  · exact .inl hn
  · exact .inr ⟨g, cap, cur, rfl, hbs, (hb.block g (Array.getElem?_eq_some_iff.1 hgg).1 (hS g (by simp [Value.ownBlock]))).trans hgg, rest⟩
theorem own_mono {base base' : Nat} {e : TypeId} {size n : Nat} {v : Value} {xs : List Value} (h : w.ownsRow base e size v n xs) (hb : base' ≤ base) : w.ownsRow base' e size v n xs := by
  refine ⟨h.1, ?_⟩
  rcases h.2 with hn | ⟨g, cap, cur, rfl, hbs, rest⟩
  · exact .inl hn
  · exact .inr ⟨g, cap, cur, rfl, by omega, rest⟩
/-- A beginning of what is owned. -/
theorem own_take {base : Nat} {e : TypeId} {n c m : Nat} {a : Option Addr} {xs : List Value} (h : w.ownsRow base e 1 (.slice a n c) n xs) (hm : m ≤ n) : w.ownsRow base e 1 (.slice a m c) m (xs.take m) := by
  have hl := h.1
  refine ⟨by simp; omega, ?_⟩
  rcases h.2 with ⟨hn, h0⟩ | ⟨g, cap, cur, hv, hbs, hgg, h1, h2, h3, h4⟩
  · injection hn with e1 e2 e3
    subst e1 e2 e3
    obtain rfl : m = 0 := by omega
    exact .inl ⟨rfl, rfl⟩
  · injection hv with e1 e2 e3
    subst e1 e3
    refine .inr ⟨g, c, cur, rfl, hbs, hgg, by omega, h2, h3, ?_⟩
    rw [← h4, List.take_take]
    congr 1
    omega
end

theorem block_of_add (a : Addr) (n : Nat) : (a.add n).block = a.block := by unfold Addr.add; split <;> rfl
theorem add_of_add (a : Addr) (i j : Nat) : (a.add i).add j = a.add (i + j) := by
  unfold Addr.add
  by_cases hi : i = 0 <;> by_cases hj : j = 0 <;> simp [hi, hj, Nat.add_assoc]

/-- A slice that reads as a list of cells, nil let in; its cells lie below block B. -/
def Reads (w : World) (B size : Nat) (A : Option Addr) (n : Nat) (xs : List Value) : Prop :=
  xs.length = n * size ∧ (0 < n → ∃ ad, A = some ad ∧ ad.block < B ∧ ∀ j u, xs[j]? = some u → w.cell? (ad.add j) = some u)

section
variable {w w' : World} {B B' size n : Nat} {A : Option Addr} {xs : List Value}
theorem Reads.none_ : Reads w B size A 0 [] := ⟨by simp, fun h => absurd h (by omega)⟩
theorem Reads.keep (h : Reads w B size A n xs) (hk : ∀ p : Addr, p.block < B → w'.cell? p = w.cell? p) : Reads w' B size A n xs :=
  ⟨h.1, fun hn => by
    obtain ⟨ad, e, hb, hc⟩ := h.2 hn
    exact ⟨ad, e, hb, fun j u hu => (hk _ (by rw [block_of_add]; exact hb)).trans (hc j u hu)⟩⟩
theorem Reads.more (h : Reads w B size A n xs) (hB : B ≤ B') : Reads w B' size A n xs :=
  ⟨h.1, fun hn => by
    obtain ⟨ad, e, hb, hc⟩ := h.2 hn
    exact ⟨ad, e, by omega, hc⟩⟩
theorem Reads.below (h : Reads w B size A n xs) (hb : Below B w w') : Reads w' B size A n xs := h.keep fun _ hp => hb.cell hp
theorem Reads.drew (h : Reads w B size A n xs) : Reads w.drew B size A n xs := h
theorem Reads.alloc (h : Reads w B size A n xs) (hB : B ≤ w.heap.size) (o : Obj) : Reads (w.alloc o) B size A n xs := h.keep fun p hp => World.cell?_alloc_lt w o p (by omega)
theorem Reads.setCell (h : Reads w B size A n xs) {p : Addr} (hB : B ≤ p.block) (u : Value) : Reads (w.setCell p u) B size A n xs :=
  h.keep fun q hq => World.cell?_setCell_other w p q u (fun e => by subst e; omega)
theorem Reads.only {S : Nat → Prop} (h : Reads w B size A n xs) (hb : Only S w w') (hB : B ≤ w.heap.size) (hS : ∀ k, S k → B ≤ k) : Reads w' B size A n xs := h.below (hb.belowOf hB hS)
theorem Reads.of_own {base : Nat} {e : TypeId} {c : Nat} (h : w.ownsRow base e size (.slice A n c) n xs) : Reads w w.heap.size size A n xs := by
  refine ⟨h.1, fun hn => ?_⟩
  obtain ⟨g, cap, hv, _, hlt⟩ := h.form hn
  have hA : A = some ⟨g, 0, none⟩ := by injection hv
  subst hA
  exact ⟨_, rfl, hlt, h.cells (g := g) rfl⟩
end

section
variable {P : Program} (w : World)

theorem run_append_of_nil (base : Nat) (t ty e : TypeId) (i : TypeInfo) (size : Nat) (ht : P.underlying t = some (.slice e)) (hi : P.info? e = some i)
    (v : Value) (n : Nat) (xs : List Value) (hown : w.ownsRow base e size v n xs) (c : Nat) : (Builtin.append_ #[t, t] ty #[v, .slice none 0 c]).run P w = .ok v w := by
  rcases hown.2 with ⟨rfl, rfl⟩ | ⟨g, cap, cur, rfl, _, _, hnc, _⟩
  · simp [Builtin.append_, run_underlying ht, sizeOf, typeInfo, hi, Builtin.lenOf, Builtin.firstCells]
  · simp [Builtin.append_, run_underlying ht, sizeOf, typeInfo, hi, Builtin.lenOf, Builtin.firstCells, hnc, storeCells]

theorem run_append_any (base : Nat) (t ty e : TypeId) (i : TypeInfo) (z : Value) (size bytes : Nat) (ht : P.underlying t = some (.slice e)) (hi : P.info? e = some i) (hz : i.zero = some z)
    (hsize : i.size = size) (hby : i.bytes = bytes) (hzs : z.cells.size = size) (hsz : 0 < size)
    (v : Value) (n : Nat) (xs : List Value) (hown : w.ownsRow base e size v n xs)
    (B : Nat) (A : Option Addr) (m c : Nat) (news : List Value) (hr : Reads w B size A m news) (h1 : ∀ u ∈ news, u.oneCell' = true)
    (h63 : n + m ≤ maxLen) (hbytes : (n + m) * bytes ≤ 140737488355328) (hbase : base ≤ w.heap.size) :
    ∃ v' w', (Builtin.append_ #[t, t] ty #[v, .slice A m c]).run P w = .ok v' w' ∧ w'.ownsRow base e size v' (n + m) (xs ++ news) ∧ w.grownBy w' v.ownBlock ∧
      (v'.ownBlock = v.ownBlock ∨ v'.ownBlock = some w.heap.size) := by
  rcases A with _ | ad
  · have hm : m = 0 := by
      rcases Nat.eq_zero_or_pos m with h0 | h0
      · exact h0
      · obtain ⟨ad, h, _⟩ := hr.2 h0
        cases h
    subst hm
    have hn : news = [] := List.eq_nil_of_length_eq_zero (by simpa using hr.1)
    subst hn
    exact ⟨v, w, run_append_of_nil w base t ty e i size ht hi v n xs hown c, by simpa using hown, World.grownBy.refl w _, .inl rfl⟩
  · have hcells : ∀ j u, news[j]? = some u → w.cell? (ad.add j) = some u := by
      intro j u hu
      rcases Nat.eq_zero_or_pos m with h0 | h0
      · subst h0
        have hn : news = [] := List.eq_nil_of_length_eq_zero (by simpa using hr.1)
        subst hn
        simp at hu
      · obtain ⟨ad', h, _, hc⟩ := hr.2 h0
        injection h with h
        subst h
        exact hc j u hu
    obtain ⟨v', w', hrun, h2, h3, _, h5⟩ := run_append_own_at (P := P) w base t ty e i z size bytes ht hi hz hsize hby hzs hsz v n xs hown ad m c news hr.1 hcells h1 h63 hbytes hbase
    exact ⟨v', w', hrun, h2, h3, h5⟩

theorem wp_append_any {o : Oper} {a : Act} {K : Act → World → Prop} {Q : Exit → Act → World → Prop} (s x : Operand) (t : TypeId)
    (ho : o.op = .call { callee := .builtin .append, args := #[s, x], argTypes := #[t, t] })
    (base : Nat) (e : TypeId) (i : TypeInfo) (z : Value) (size bytes : Nat) (ht : P.underlying t = some (.slice e)) (hi : P.info? e = some i) (hz : i.zero = some z)
    (hsize : i.size = size) (hby : i.bytes = bytes) (hzs : z.cells.size = size) (hsz : 0 < size)
    (v : Value) (n : Nat) (xs : List Value) (hs : a.eval s = v) (hown : w.ownsRow base e size v n xs)
    (B : Nat) (A : Option Addr) (m c : Nat) (news : List Value) (hx : a.eval x = .slice A m c) (hr : Reads w B size A m news) (h1 : ∀ u ∈ news, u.oneCell' = true)
    (h63 : n + m ≤ maxLen) (hbytes : (n + m) * bytes ≤ 140737488355328) (hbase : base ≤ w.heap.size)
    (h : ∀ v' w', w'.ownsRow base e size v' (n + m) (xs ++ news) → w.grownBy w' v.ownBlock → (v'.ownBlock = v.ownBlock ∨ v'.ownBlock = some w.heap.size) → K (a.put o.dst v') w') : o.wp P a w K Q := by
  obtain ⟨v', w', hrun, h2, h3, h4⟩ := run_append_any (P := P) w base t o.type e i z size bytes ht hi hz hsize hby hzs hsz v n xs hown B A m c news hr h1 h63 hbytes hbase
  unfold Oper.wp execOp
  simp only [ho, resolve, invoke, builtin, Sem.run_bind, Sem.run_pure, Result.andThen_ok, List.map_toArray, List.map_cons, List.map_nil, hs, hx, hrun]
  exact h v' w' h2 h3 h4

theorem wpList_append_any {ops : Array Oper} {rest : List Oper} {o : Oper} {a : Act} {Q : Exit → Act → World → Prop} (hgd : o.guard = none) (s x : Operand) (t : TypeId)
    (ho : o.op = .call { callee := .builtin .append, args := #[s, x], argTypes := #[t, t] })
    (base : Nat) (e : TypeId) (i : TypeInfo) (z : Value) (size bytes : Nat) (ht : P.underlying t = some (.slice e)) (hi : P.info? e = some i) (hz : i.zero = some z)
    (hsize : i.size = size) (hby : i.bytes = bytes) (hzs : z.cells.size = size) (hsz : 0 < size)
    (v : Value) (n : Nat) (xs : List Value) (hs : a.eval s = v) (hown : w.ownsRow base e size v n xs)
    (B : Nat) (A : Option Addr) (m c : Nat) (news : List Value) (hx : a.eval x = .slice A m c) (hr : Reads w B size A m news) (h1 : ∀ u ∈ news, u.oneCell' = true)
    (h63 : n + m ≤ maxLen) (hbytes : (n + m) * bytes ≤ 140737488355328) (hbase : base ≤ w.heap.size)
    (h : ∀ v' w', w'.ownsRow base e size v' (n + m) (xs ++ news) → w.grownBy w' v.ownBlock → (v'.ownBlock = v.ownBlock ∨ v'.ownBlock = some w.heap.size) → wpList P ops Q rest (a.put o.dst v') w') : wpList P ops Q (o :: rest) a w :=
  wpList_plain hgd fun _ hK => wp_append_any w s x t ho base e i z size bytes ht hi hz hsize hby hzs hsz v n xs hs hown B A m c news hx hr h1 h63 hbytes hbase fun v' w' h2 h3 h4 => hK _ _ (h v' w' h2 h3 h4)

theorem step_append_any {ops : Array Oper} {o : Oper} {a : Act} {K : Act → World → Prop} {Q : Exit → Act → World → Prop} {E : Prop} (hgd : o.guard = none) (s x : Operand) (t : TypeId)
    (ho : o.op = .call { callee := .builtin .append, args := #[s, x], argTypes := #[t, t] })
    (base : Nat) (e : TypeId) (i : TypeInfo) (z : Value) (size bytes : Nat) (ht : P.underlying t = some (.slice e)) (hi : P.info? e = some i) (hz : i.zero = some z)
    (hsize : i.size = size) (hby : i.bytes = bytes) (hzs : z.cells.size = size) (hsz : 0 < size)
    (v : Value) (n : Nat) (xs : List Value) (hs : a.eval s = v) (hown : w.ownsRow base e size v n xs)
    (B : Nat) (A : Option Addr) (m c : Nat) (news : List Value) (hx : a.eval x = .slice A m c) (hr : Reads w B size A m news) (h1 : ∀ u ∈ news, u.oneCell' = true)
    (h63 : n + m ≤ maxLen) (hbytes : (n + m) * bytes ≤ 140737488355328) (hbase : base ≤ w.heap.size)
    (h : ∀ v' w', w'.ownsRow base e size v' (n + m) (xs ++ news) → w.grownBy w' v.ownBlock → (v'.ownBlock = v.ownBlock ∨ v'.ownBlock = some w.heap.size) → K (a.put o.dst v') w') :
    if Region.wanted o (yielded ops a.tmps) = true then Oper.wp P o a w K Q else E := by
  have hw : Region.wanted o (yielded ops a.tmps) = true := by simp [Region.wanted, hgd]
  rw [if_pos hw]
  exact wp_append_any w s x t ho base e i z size bytes ht hi hz hsize hby hzs hsz v n xs hs hown B A m c news hx hr h1 h63 hbytes hbase h
end

def cellsOf (bs : List Int) : List Value := bs.map (Value.int .u8)
def Bts (bs : List Int) : Prop := ∀ x ∈ bs, 0 ≤ x ∧ x < 256
theorem Tryz.info5 : (Tryz.prog.info? 5).map (fun i => (i.zero, i.size, i.bytes)) = some (some (.int .u8 0), 1, 1) := by kernel_rfl
theorem conv_reads {w : World} {B n : Nat} {A : Option Addr} {xs : List Int} (h : Reads w B 1 A n (cellsOf xs)) (c : Nat) : (convert 25 9 (.slice A n c)).run Tryz.prog w = .ok (.string (strOfNums xs)) w := by
  have hl : xs.length = n := by have := h.1; simp [cellsOf] at this; exact this
  cases A with
  | none =>
    have h0 : n = 0 := by
      rcases Nat.eq_zero_or_pos n with h0 | h0
      · exact h0
      · obtain ⟨ad, h1, _⟩ := h.2 h0
        cases h1
    subst h0
    obtain rfl : xs = [] := List.eq_nil_of_length_eq_zero hl
    exact run_convert_bytes_nil (P := Tryz.prog) w 25 5 Tryz.underlying25 Tryz.underlying5 0 c 9 Tryz.underlying9
  | some ad =>
    have hc : ∀ j v, (cellsOf xs)[j]? = some v → w.cell? (ad.add j) = some v := by
      intro j v hj
      have hn : 0 < n := by
        have := (List.getElem?_eq_some_iff.1 hj).1
        simp [cellsOf] at this
        omega
      obtain ⟨ad', e, _, hcc⟩ := h.2 hn
      injection e with e
      subst e
      exact hcc j v hj
    have hld : (loadCells ad n).run Tryz.prog w = .ok (xs.map (Value.int .u8)).toArray w := by
      have := run_loadCells_list (P := Tryz.prog) w ad (xs.map (Value.int .u8)) hc
      simpa [hl] using this
    rw [run_convert_bytes_string w 25 9 5 _ n c Tryz.underlying25 Tryz.underlying5 Tryz.underlying9, run_bytesToString w _ n c xs hld, foldl_push_bytes]
    simp [strOfNums, ByteArray.empty, ByteArray.emptyWithCapacity]
    rfl
theorem conv_own {w : World} {base n : Nat} {A : Option Addr} {c : Nat} {xs : List Int} (h : w.ownsRow base 5 1 (.slice A n c) n (cellsOf xs)) : (convert 25 9 (.slice A n c)).run Tryz.prog w = .ok (.string (strOfNums xs)) w :=
  conv_reads (Reads.of_own h) c

theorem reads_new (w : World) (xs : List Int) (fz : Nat × Nat) : Reads (w.alloc (.cells (cellsOf xs).toArray 5 fz)) (w.heap.size + 1) 1 (some ⟨w.heap.size, 0, none⟩) xs.length (cellsOf xs) := by
  refine ⟨by simp [cellsOf], fun _ => ⟨_, rfl, by simp, fun j u hu => ?_⟩⟩
  have ha : (⟨w.heap.size, 0, none⟩ : Addr).add j = ⟨w.heap.size, j, none⟩ := by unfold Addr.add; split <;> simp_all
  rw [ha, cell_of_row _ w.heap.size j (cellsOf xs).toArray 5 fz (heap_alloc_new w _)]
  simpa using hu

def IsRow (k : IntKind) (w : World) (a : Option Addr) (len cap : Nat) (zs : List Int) : Prop :=
  (a = none ∧ len = 0 ∧ cap = 0 ∧ zs = []) ∨
  ∃ x, a = some x ∧ len ≤ cap ∧ cap ≤ maxLen ∧ zs.length = cap ∧ (∀ i, i < zs.length → w.cell? (x.add i) = some (.int k (zs.getD i 0))) ∧ ∀ n ∈ zs, (Lit.int k n).wf = true

/-- A slice of bytes that came in, as its list. -/
structure Came (w : World) (A : Option Addr) (cap : Nat) (xs : List Int) : Prop where
  reads : Reads w w.heap.size 1 A xs.length (cellsOf xs)
  byt : Bts xs
  fits : xs.length ≤ cap
  most : cap ≤ maxLen

theorem IsRow.came {w : World} {a : Option Addr} {len cap : Nat} {zs : List Int} (h : IsRow .u8 w a len cap zs) : ∃ xs, len = xs.length ∧ Came w a cap xs := by
  rcases h with ⟨rfl, rfl, rfl, rfl⟩ | ⟨x, rfl, hl, hm, hz, hc, hw⟩
  · exact ⟨[], rfl, Reads.none_, by simp [Bts], Nat.le_refl _, by decide⟩
  · have hlen : (zs.take len).length = len := by rw [List.length_take]; omega
    refine ⟨zs.take len, hlen.symm, ⟨by simp [cellsOf], fun hn => ?_⟩, fun y hy => ?_, by rw [hlen]; exact hl, hm⟩
    · rw [hlen] at hn
      have h0 := World.block_lt_of_cell? w _ (hc 0 (by omega))
      rw [block_of_add] at h0
      refine ⟨x, rfl, h0, fun j u hu => ?_⟩
      have hj : j < len := by
        have := (List.getElem?_eq_some_iff.1 hu).1
        simp [cellsOf] at this
        omega
      rw [hc j (by omega)]
      rw [← hu]
      simp [cellsOf, hj, List.getD, List.getElem?_eq_getElem (show j < zs.length by omega)]
    · have := bounds_u8 (hw y (List.mem_of_mem_take hy))
      omega

theorem Came.at_ {w w' : World} {A : Option Addr} {cap : Nat} {xs : List Int} (h : Came w A cap xs) (hb : Below w.heap.size w w') : Reads w' w.heap.size 1 A xs.length (cellsOf xs) := h.reads.below hb

def ints (s : ByteArray) : List Int := s.data.toList.map fun b => (b.toNat : Int)
theorem ints_len (s : ByteArray) : (ints s).length = s.size := by
  unfold ints
  rw [List.length_map, Array.length_toList]
  rfl
theorem ints_byt (s : ByteArray) : Bts (ints s) := by
  intro x hx
  simp only [ints, List.mem_map] at hx
  obtain ⟨b, _, rfl⟩ := hx
  have := b.toNat_lt
  omega
theorem strOfNums_ints (s : ByteArray) : strOfNums (ints s) = s := by
  have h : (ints s).map (fun n => UInt8.ofNat n.toNat) = s.data.toList := by
    unfold ints
    rw [List.map_map]
    conv => rhs; rw [← List.map_id s.data.toList]
    exact List.map_congr_left fun b _ => by simp
  unfold strOfNums
  rw [h]
theorem cells_ints (s : ByteArray) : Lib.strCells s = cellsOf (ints s) := by
  simp [Lib.strCells, cellsOf, ints]

theorem own_shape {w : World} {base : Nat} {e : TypeId} {n : Nat} {v : Value} {xs : List Value} (h : w.ownsRow base e 1 v n xs) : ∃ (a : Option Addr) (c : Nat), v = .slice a n c ∧ n ≤ c ∧ c ≤ maxLen := by
  rcases h.2 with ⟨rfl, h0⟩ | ⟨g, cap, cur, rfl, _, _, h1, h2, _⟩
  · exact ⟨none, 0, by rw [h0], by omega, by decide⟩
  · exact ⟨_, cap, rfl, h1, h2⟩

theorem row_below {w w' : World} {b2 n : Nat} {e : TypeId} {vo : Value} {xs : List Value} (h : w.ownsRow b2 e 1 vo n xs) (hb : Below w.heap.size w w') : w'.ownsRow b2 e 1 vo n xs :=
  own_only h (Only.ofBelow hb) fun i hi => by have := (h.lt i hi).2; omega
theorem drewN_below (b : Nat) (w : World) (q : Nat) : Below b w (w.drewN q) := ⟨rfl, rfl, rfl, Nat.le_refl _, fun _ _ => rfl⟩
theorem own_of_blk {w : World} {base : Nat} {e : TypeId} {g : Nat} {xs : List Value} (h : Blk w g e xs.toArray) (hb : base ≤ g) (hm : xs.length ≤ maxLen) : w.ownsRow base e 1 (.slice (some ⟨g, 0, none⟩) xs.length xs.length) xs.length xs :=
  ⟨by simp, .inr ⟨g, xs.length, xs.toArray, rfl, hb, h, Nat.le_refl _, hm, by simp, by simp⟩⟩

theorem beq_self_str (a b : List Int) (h : a = b) : ((strOfNums a).toList == (strOfNums b).toList) = true := by rw [h]; simp

end Go.Proofs.YtlgaeeedkihfpaaGreatDoor.Uf

/-
  utf.Fix: what it computes.
-/
namespace Go.Proofs.YtlgaeeedkihfpaaGreatDoor.Uf
open Go.RowKit

theorem fixG_step (n : Nat) (l : List UInt8) (last : Nat) (h : l ≠ []) : fixG (n + 1) l last = outOf (Lib.decodeL l).1 last ++ fixG n (l.drop (Lib.decodeL l).2) (Lib.decodeL l).1 := by simp [fixG, h]

/-- What a round of Fix leaves. -/
theorem fix_round {s : ByteArray} {pos f last : Nat} {acc all : List UInt8} (hp : pos < s.size) (hacc : acc ++ fixG (f + 1) (s.data.toList.drop pos) last = all) :
    (acc ++ outOf (Utf8.decode s pos).1 last) ++ fixG f (s.data.toList.drop (pos + (Utf8.decode s pos).2)) (Utf8.decode s pos).1 = all := by
  have hne : s.data.toList.drop pos ≠ [] := by
    intro h
    have := congrArg List.length h
    simp at this
    omega
  rw [fixG_step _ _ _ hne, Lib.decodeL_drop, List.drop_drop] at hacc
  rw [← hacc, List.append_assoc]

set_option maxRecDepth 100000 in
set_option maxHeartbeats 4000000 in
theorem fix_u {w : World} {B n c : Nat} {A : Option Addr} {xs : List Int} {s : ByteArray} (hr : Reads w B 1 A n (cellsOf xs)) (hB : B ≤ w.heap.size) (hs : s = strOfNums xs) (hn : s.size ≤ 100000) :
    Calls Tryz.prog 17 #[.slice A n c] w fun e w' => e = .returned (.string ⟨(fixU s.data.toList).toArray⟩) ∧ Below w.heap.size w w' := by
  have hcv := conv_reads (hr.alloc hB (.cells #[.pointer none, .slice none 0 0] 84)) c
  rw [← hs] at hcv
  clear hs hr
  go_enter Tryz.func17, Tryz.ntmps17
  go_wp2
  go_loopw [4] (fun u wr => ∃ (pos fuel last : Nat) (acc : List UInt8), u = .int .i32 last ∧ Lib.IsBuilderF 84 5 w.heap.size w.heap.size (Lib.byteCells acc) wr ∧ wr.heap[w.heap.size + 1]? = some (.stringIter s pos) ∧ Below w.heap.size w wr ∧ Hid (acc ++ fixG fuel (s.data.toList.drop pos) last = fixU s.data.toList) ∧ s.size ≤ pos + fuel ∧ acc.length ≤ 4 * pos) (fun _ wr => s.size - wr.iterPos (w.heap.size + 1))
  case atStart =>
    refine ⟨0, s.size, 0, [], rfl, (Lib.IsBuilderF.of (Lib.fresh_isBuilder 84 5 w)).alloc _, ?_, ((Below.refl _ w).alloc (Nat.le_refl _) _).alloc (by simp) _, ?_, by omega, by simp⟩
    · have := World.iter_heap (w.alloc (.cells #[.pointer none, .slice none 0 0] 84)) s 0
      simpa using this
    · exact Lib.hid (by simp [fixU])
  case round =>
    obtain ⟨pos, fuel, last, acc, rfl, hI, hit, hbw, Hacc, hfu, hal⟩ := hrel
    have hsz : w.heap.size + 1 < wr.heap.size := (Array.getElem?_eq_some_iff.1 hit).1
    by_cases hp : pos < s.size
    · have hnx := fun ty => Lib.run_next_any_at (P := Tryz.prog) wr (w.heap.size + 1) s pos ty hit hp
      have hwd := Lib.decode_width_pos s pos hp
      have hd1 := decode_le s pos
      have hI2 := hI.iterAt hit (pos + (Utf8.decode s pos).2)
      have hit2 := Lib.iterAt_heap wr (w.heap.size + 1) s pos (pos + (Utf8.decode s pos).2) hit
      have hbw2 := Lib.below_iterAt hbw (k := w.heap.size + 1) (by omega) s (pos + (Utf8.decode s pos).2)
      have hsz2 : w.heap.size ≤ (wr.iterAt (w.heap.size + 1) s (pos + (Utf8.decode s pos).2)).heap.size := by rw [Lib.iterAt_size]; omega
      obtain ⟨f, rfl⟩ : ∃ f, fuel = f + 1 := ⟨fuel - 1, by omega⟩
      have hst := fix_round hp Hacc.out
      obtain ⟨r, hrr⟩ : ∃ r, r = (Utf8.decode s pos).1 := ⟨_, rfl⟩
      obtain ⟨d, hdd⟩ : ∃ d, d = (Utf8.decode s pos).2 := ⟨_, rfl⟩
      simp only [← hrr, ← hdd] at hnx hwd hd1 hI2 hit2 hbw2 hsz2 hst
      have Hst := Lib.hid hst
      clear hrr hdd hst
      by_cases hodd : r = 0 ∨ r = 65533
      · have ho : outOf r last = odd := if_pos hodd
        rw [ho] at Hst
        rcases hodd with rfl | rfl
        · go_wp2_with fail
          refine (write_string w.heap.size w.heap.size _ ⟨#[239, 191, 189]⟩ _ hI2 (by rw [Lib.byteCells_length]; show acc.length + 3 ≤ _; omega) hsz2).mono ?_
          rintro e W1 ⟨rfl, h1, b1, k1⟩
          go_wp2
          go_roundw
          case rel =>
            refine ⟨pos + d, f, 0, acc ++ odd, rfl, ?_, k1.iter hit2 (by omega), hbw2.trans b1, Hst, by omega, by simp [odd]; omega⟩
            rw [Lib.byteCells_append]; exact Or.inr h1
          case measure =>
            simp only [World.iterPos, k1.iter hit2 (by omega), hit]
            omega
        · go_wp2_with fail
          refine (write_string w.heap.size w.heap.size _ ⟨#[239, 191, 189]⟩ _ hI2 (by rw [Lib.byteCells_length]; show acc.length + 3 ≤ _; omega) hsz2).mono ?_
          rintro e W1 ⟨rfl, h1, b1, k1⟩
          go_wp2
          go_roundw
          case rel =>
            refine ⟨pos + d, f, 65533, acc ++ odd, rfl, ?_, k1.iter hit2 (by omega), hbw2.trans b1, Hst, by omega, by simp [odd]; omega⟩
            rw [Lib.byteCells_append]; exact Or.inr h1
          case measure =>
            simp only [World.iterPos, k1.iter hit2 (by omega), hit]
            omega
      have q0 : ((r : Int) == 0) = false := by simp; omega
      have q1 : ((r : Int) == 65533) = false := by simp; omega
      by_cases h13 : r = 13
      · have ho : outOf r last = [10] := by rw [h13]; rfl
        rw [ho] at Hst
        have q2 : ((r : Int) == 13) = true := by simp; omega
        clear h13
        go_wp2_with fail
        refine (write_byte w.heap.size w.heap.size _ 10 _ hI2 (by rw [Lib.byteCells_length]; omega) hsz2).mono ?_
        rintro e W1 ⟨rfl, h1, b1, k1⟩
        go_wp2
        go_roundw
        case rel =>
          refine ⟨pos + d, f, r, acc ++ [10], rfl, ?_, k1.iter hit2 (by omega), hbw2.trans b1, Hst, by omega, by simp; omega⟩
          rw [Lib.byteCells_append]; exact Or.inr h1
        case measure =>
          simp only [World.iterPos, k1.iter hit2 (by omega), hit]
          omega
      have q2 : ((r : Int) == 13) = false := by simp; omega
      by_cases h10 : r = 10 ∧ last = 13
      · have ho : outOf r last = [] := by rw [h10.1, h10.2]; rfl
        rw [ho, List.append_nil] at Hst
        have q3 : ((r : Int) == 10) = true := by simp; omega
        have q4 : ((last : Int) == 13) = true := by simp; omega
        clear h10
        go_wp2_with fail
        go_roundw
        case rel => exact ⟨pos + d, f, r, acc, rfl, hI2, hit2, hbw2, Hst, by omega, by omega⟩
        case measure =>
          simp only [World.iterPos, hit2, hit]
          omega
      have ho : outOf r last = Lib.encodeRune r := by
        unfold outOf
        rw [if_neg hodd, if_neg h13, if_neg h10]
      rw [ho] at Hst
      have hl4 := Lib.runeCells_le (r : Int)
      rw [Lib.runeCells_length] at hl4
      by_cases h10' : r = 10
      · have q3 : ((r : Int) == 10) = true := by simp; omega
        have q4 : ((last : Int) == 13) = false := by simp; omega
        clear h10 h10'
        go_wp2_with fail
        refine (write_rune w.heap.size w.heap.size _ r (by omega) (by omega) _ hI2 (by rw [Lib.byteCells_length]; omega) hsz2).mono ?_
        rintro e W1 ⟨⟨x, rfl⟩, h1, b1, k1⟩
        go_wp2
        go_roundw
        case rel =>
          refine ⟨pos + d, f, r, acc ++ Lib.encodeRune r, rfl, ?_, k1.iter hit2 (by omega), hbw2.trans b1, Hst, by omega, by simp; omega⟩
          rw [Lib.byteCells_append, Lib.byteCells_encodeRune]; exact Or.inr h1
        case measure =>
          simp only [World.iterPos, k1.iter hit2 (by omega), hit]
          omega
      · have q3 : ((r : Int) == 10) = false := by simp; omega
        go_wp2_with fail
        refine (write_rune w.heap.size w.heap.size _ r (by omega) (by omega) _ hI2 (by rw [Lib.byteCells_length]; omega) hsz2).mono ?_
        rintro e W1 ⟨⟨x, rfl⟩, h1, b1, k1⟩
        go_wp2
        go_roundw
        case rel =>
          refine ⟨pos + d, f, r, acc ++ Lib.encodeRune r, rfl, ?_, k1.iter hit2 (by omega), hbw2.trans b1, Hst, by omega, by simp; omega⟩
          rw [Lib.byteCells_append, Lib.byteCells_encodeRune]; exact Or.inr h1
        case measure =>
          simp only [World.iterPos, k1.iter hit2 (by omega), hit]
          omega
    · have hnx := fun ty => Lib.run_next_end_at (P := Tryz.prog) wr (w.heap.size + 1) s pos ty hit hp
      have hfin : acc = fixU s.data.toList := by
        have h := Hacc.out
        rw [List.drop_of_length_le (by simp; omega), fixG_end, List.append_nil] at h
        exact h
      go_wp2_with fail
      refine (Tryz.Builder_String_any_k w.heap.size w.heap.size acc _ hI (by omega)).mono ?_
      rintro e W1 ⟨rfl, _, b1, _⟩
      go_wp2
      go_ret
      exact ⟨rfl, hbw.trans b1⟩
end Go.Proofs.YtlgaeeedkihfpaaGreatDoor.Uf

/-
  utf.Lower, utf.Many: what they compute.
-/
namespace Go.Proofs.YtlgaeeedkihfpaaGreatDoor.Uf
open Go.RowKit

def lowB (b : UInt8) : UInt8 := if 65 ≤ b.toNat ∧ b.toNat ≤ 90 then b + 32 else b
def lowL (l : List UInt8) : List UInt8 := l.map lowB
def mixL (l : List UInt8) (k : Nat) : List UInt8 := (l.take k).map lowB ++ l.drop k
theorem mix_len (l : List UInt8) (k : Nat) (hk : k ≤ l.length) : (mixL l k).length = l.length := by simp [mixL]; omega
theorem mix_at (l : List UInt8) (k : Nat) (hk : k < l.length) : (mixL l k).getD k 0 = l.getD k 0 := by
  have hk' : k ≤ l.length := by omega
  simp only [mixL, List.getD]
  rw [List.getElem?_append_right (by simp; omega)]
  simp [hk']
theorem getD_at (l : List UInt8) (k : Nat) (hk : k < l.length) : l.getD k 0 = l[k] := by simp [List.getD, List.getElem?_eq_getElem hk]
theorem mix_step (l : List UInt8) (k : Nat) (hk : k < l.length) : (mixL l k).set k (lowB (l.getD k 0)) = mixL l (k + 1) := by
  unfold mixL
  rw [List.set_append_right _ _ (by simp; omega)]
  have e : l.drop k = l[k] :: l.drop (k + 1) := List.drop_eq_getElem_cons hk
  have h0 : k - (List.map lowB (l.take k)).length = 0 := by simp; omega
  rw [h0, e, List.set_cons_zero, List.take_succ_eq_append_getElem hk, getD_at l k hk]
  simp only [List.map_append, List.map_cons, List.map_nil, List.append_assoc, List.cons_append, List.nil_append]
theorem mix_same (l : List UInt8) (k : Nat) (hk : k < l.length) (h : lowB (l.getD k 0) = l.getD k 0) : mixL l k = mixL l (k + 1) := by
  have h2 : k < (mixL l k).length := by rw [mix_len _ _ (by omega)]; exact hk
  rw [← mix_step l k hk, h, ← mix_at l k hk, getD_at _ k h2, List.set_getElem_self]

/-- A row of bytes with spare room behind it. -/
def RowB (W : World) (g : Nat) (l : List UInt8) (pad : List Value) : Prop :=
  W.heap[g]? = some (.cells (Lib.byteCells l ++ pad).toArray 5 (l.length + pad.length, l.length + pad.length + 1))
theorem RowB.cell {W : World} {g : Nat} {l : List UInt8} {pad : List Value} (h : RowB W g l pad) {k : Nat} (hk : k < l.length) : W.cell? ⟨g, k, none⟩ = some (.int .u8 (l.getD k 0).toNat) := by
  rw [cell_of_row W g k _ 5 _ h]
  simp [Lib.byteCells, List.getElem?_append_left, hk, List.getD]
theorem RowB.frozen {W : World} {g : Nat} {l : List UInt8} {pad : List Value} (h : RowB W g l pad) {k : Nat} (hk : k < l.length) : W.frozen? ⟨g, k, none⟩ = false := by
  unfold World.frozen?
  rw [h]
  simp
  omega
theorem RowB.set_ {W : World} {g : Nat} {l : List UInt8} {pad : List Value} (h : RowB W g l pad) {k : Nat} (hk : k < l.length) (b : UInt8) : RowB (W.setCell ⟨g, k, none⟩ (.int .u8 b.toNat)) g (l.set k b) pad := by
  unfold RowB at h ⊢
  simp [World.setCell, Array.getElem?_modify, h, Lib.byteCells, List.set_append_left, hk]
theorem RowB.new (w : World) (s : ByteArray) : RowB (Lib.bytesWorld w 5 s) w.heap.size s.data.toList (List.replicate (grownCap w s.size 0 5 - s.size) (Value.int .u8 0)) := by
  unfold RowB
  rw [Lib.bytesWorld_at_new]
  have e : Lib.bytesCells w 5 s = (Lib.byteCells s.data.toList ++ List.replicate (grownCap w s.size 0 5 - s.size) (Value.int .u8 0)).toArray := by
    apply Array.ext'
    simp [Lib.bytesCells, Lib.byteCells]
  have e2 : (Lib.bytesCells w 5 s).size = s.data.toList.length + (List.replicate (grownCap w s.size 0 5 - s.size) (Value.int .u8 0)).length := by
    rw [e]
    simp [Lib.byteCells]
  rw [e2, e]
theorem RowB.reads {W : World} {g : Nat} {l : List UInt8} {pad : List Value} (h : RowB W g l pad) : Reads W W.heap.size 1 (some ⟨g, 0, none⟩) l.length (cellsOf (l.map fun b => (b.toNat : Int))) := by
  refine ⟨by simp [cellsOf], fun _ => ⟨_, rfl, (Array.getElem?_eq_some_iff.1 h).1, fun j u hu => ?_⟩⟩
  have ha : (⟨g, 0, none⟩ : Addr).add j = ⟨g, j, none⟩ := by unfold Addr.add; split <;> simp_all
  have hj : j < l.length := by
    have := (List.getElem?_eq_some_iff.1 hu).1
    simpa [cellsOf] using this
  rw [ha, h.cell hj, ← hu]
  simp [cellsOf, List.getD, List.getElem?_eq_getElem hj]
theorem str_of_bytes (l : List UInt8) : strOfNums (l.map fun b => (b.toNat : Int)) = ⟨l.toArray⟩ := by
  have h := strOfNums_ints ⟨l.toArray⟩
  simpa [ints] using h

theorem bytesWorld_below (w : World) (s : ByteArray) : Below w.heap.size w (Lib.bytesWorld w 5 s) :=
  ⟨rfl, rfl, rfl, by rw [Lib.bytesWorld_size]; omega, fun k hk => Lib.bytesWorld_at_old w 5 s k hk⟩

set_option maxRecDepth 100000 in
set_option maxHeartbeats 1600000 in
theorem lower_u {w : World} (s : ByteArray) (hs : s.size ≤ 4000000000) :
    Calls Tryz.prog 81 #[.string s] w fun e w' => e = .returned (.string ⟨(lowL s.data.toList).toArray⟩) ∧ Below w.heap.size w w' := by
  have hcv := Lib.run_convert_string_bytes (P := Tryz.prog) w 9 25 5 s Tryz.underlying9 Tryz.underlying25 Tryz.underlying5
  have hR0 := RowB.new w s
  have hb0 := bytesWorld_below w s
  obtain ⟨pad, hpad⟩ : ∃ pad, pad = List.replicate (grownCap w s.size 0 5 - s.size) (Value.int .u8 0) := ⟨_, rfl⟩
  obtain ⟨cap, hcap⟩ : ∃ cap, cap = grownCap w s.size 0 5 := ⟨_, rfl⟩
  rw [← hpad] at hR0
  rw [← hcap] at hcv
  obtain ⟨w0, hw0⟩ : ∃ w0, w0 = Lib.bytesWorld w 5 s := ⟨_, rfl⟩
  rw [← hw0] at hR0 hb0 hcv
  obtain ⟨l, hl⟩ : ∃ l, l = s.data.toList := ⟨_, rfl⟩
  have hll : l.length = s.size := by rw [hl]; simp
  rw [← hl] at hR0 ⊢
  have HR0 := Lib.hid hR0
  have HL := Lib.hid hll
  clear hpad hcap hw0 hl hR0 hll
  go_enter Tryz.func81, Tryz.ntmps81
  go_wp2
  go_loopw [10] (fun i wr => ∃ k : Nat, k ≤ s.size ∧ i = .int .i64 k ∧ Hid (RowB wr w.heap.size (mixL l k) pad) ∧ Below w.heap.size w wr) (fun i _ => s.size - (intOf i).toNat)
  case atStart => exact ⟨0, Nat.zero_le _, rfl, by simpa [mixL] using HR0, hb0⟩
  case round =>
    obtain ⟨k, hk, rfl, HR, hbw⟩ := hrel
    by_cases hlt : k < s.size
    · have hlt' : (k : Int) < (s.size : Int) := by omega
      have hkl : k < l.length := by rw [HL.out]; exact hlt
      have hkm : k < (mixL l k).length := by rw [mix_len _ _ (by omega)]; exact hkl
      have hc := HR.out.cell hkm
      rw [mix_at l k hkl] at hc
      have hfz := HR.out.frozen hkm
      obtain ⟨b, hb⟩ : ∃ b, b = l.getD k 0 := ⟨_, rfl⟩
      rw [← hb] at hc
      obtain ⟨x, hx⟩ : ∃ x, x = b.toNat := ⟨_, rfl⟩
      rw [← hx] at hc
      have hx256 : x < 256 := by rw [hx]; exact b.toNat_lt
      have Hb := Lib.hid hb
      have Hx := Lib.hid hx
      clear hb hx hkm
      by_cases hin : 65 ≤ x ∧ x ≤ 90
      · have t1 : decide ((65 : Int) ≤ (x : Int)) = true := by simp; omega
        have t2 : decide ((x : Int) ≤ 90) = true := by simp; omega
        have hv1 : ((x : Int) + 97) % 256 = (x : Int) + 97 := by omega
        have hv2 : ((x : Int) + 97 - 65) % 256 = (x : Int) + 32 := by omega
        go_wp2
        go_roundw
        case rel =>
          have hlow : lowB b = b + 32 := by
            unfold lowB
            rw [if_pos (by rw [← Hx.out]; exact hin)]
          have hv : ((b + 32).toNat : Int) = (x : Int) + 97 - 65 := by
            rw [UInt8.toNat_add, ← Hx.out]
            simp
            omega
          have h := HR.out.set_ (k := k) (by rw [mix_len _ _ (by omega)]; exact hkl) (b + 32)
          rw [← hlow, Hb.out, mix_step l k hkl, ← Hb.out, hlow, hv] at h
          exact ⟨k + 1, by omega, by go_num, h, hbw.setCell (p := ⟨w.heap.size, k, none⟩) (Nat.le_refl _) _⟩
        case measure => simp [intOf]; omega
      · have hlow : lowB b = b := by
          unfold lowB
          rw [if_neg (by rw [← Hx.out]; exact hin)]
        have hsame := mix_same l k hkl (by rw [← Hb.out]; exact hlow)
        have Hs := Lib.hid hsame
        clear hsame hlow
        by_cases h65 : 65 ≤ x
        · have t1 : decide ((65 : Int) ≤ (x : Int)) = true := by simp; omega
          have t2 : decide ((x : Int) ≤ 90) = false := by simp; omega
          go_wp2
          go_roundw
          case rel => exact ⟨k + 1, by omega, by go_num, by rw [← Hs.out]; exact HR, hbw⟩
          case measure => simp [intOf]; omega
        · have t1 : decide ((65 : Int) ≤ (x : Int)) = false := by simp; omega
          go_wp2
          go_roundw
          case rel => exact ⟨k + 1, by omega, by go_num, by rw [← Hs.out]; exact HR, hbw⟩
          case measure => simp [intOf]; omega
    · obtain rfl : k = s.size := by omega
      have hlt' : ¬ ((s.size : Int) < (s.size : Int)) := by omega
      have hfin : mixL l s.size = lowL l := by
        rw [← HL.out]
        simp [mixL, lowL]
      have hrd := HR.out.reads
      rw [mix_len _ _ (by rw [HL.out]; omega), HL.out, hfin] at hrd
      have hcv2 := conv_reads hrd cap
      rw [str_of_bytes] at hcv2
      clear hrd hfin
      go_wp2
      go_ret
      exact ⟨rfl, hbw⟩

end Go.Proofs.YtlgaeeedkihfpaaGreatDoor.Uf
