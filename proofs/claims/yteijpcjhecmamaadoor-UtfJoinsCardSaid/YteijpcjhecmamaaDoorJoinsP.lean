/-
  Bytes appended to a text's own bytes: what the run gives.
-/
import Derived.Test.YteijpcjhecmamaaDoorFixQ
import Derived.Test.YteijpcjhecmamaaDoorAgainW
import Derived.ArgAppend
import Derived.BigFrame
namespace Go.Proofs.YteijpcjhecmamaaDoor.Uf
open Go.RowKit Go.BigFrame

theorem below_setCells {B : Nat} {w : World} (g : Nat) (hg : B ≤ g) : ∀ (vs : List Value) (o : Nat) (W : World), Below B w W → Below B w (W.setCells g o vs)
  | [], _, _, h => h
  | v :: vs, o, _, h => below_setCells g hg vs (o + 1) _ (h.setCell (p := ⟨g, o, none⟩) hg v)
theorem size_setCells' (g : Nat) : ∀ (vs : List Value) (o : Nat) (W : World), (W.setCells g o vs).heap.size = W.heap.size
  | [], _, _ => rfl
  | v :: vs, o, W => by
    show ((W.setCell ⟨g, o, none⟩ v).setCells g (o + 1) vs).heap.size = _
    rw [size_setCells' g vs (o + 1)]
    simp

theorem append_bytes (w : World) (s : ByteArray) {B c : Nat} {A : Option Addr} {ys : List Int} (hr : Reads (Lib.bytesWorld w 5 s) B 1 A ys.length (cellsOf ys)) (hm : s.size + ys.length ≤ 100000) :
    ∃ (A' : Option Addr) (c' : Nat) (w' : World), (Builtin.append_ #[28, 28] 28 #[.slice (some ⟨w.heap.size, 0, none⟩) s.size (grownCap w s.size 0 5), .slice A ys.length c]).run Tryd.prog (Lib.bytesWorld w 5 s) = .ok (.slice A' (s.size + ys.length) c') w' ∧
      Below w.heap.size w w' ∧ Reads w' w'.heap.size 1 A' (s.size + ys.length) (cellsOf (ints s ++ ys)) := by
  obtain ⟨i5, hi5, hz5, hs5, hb5⟩ := info_parts Tryd.info5
  have hR := RowB.new w s
  have hge := grownCap_ge w s.size 0 5
  have hbel := bytesWorld_below w s
  obtain ⟨cap, hcap⟩ : ∃ cap, cap = grownCap w s.size 0 5 := ⟨_, rfl⟩
  rw [← hcap] at hR hge ⊢
  obtain ⟨W, hW⟩ : ∃ W, W = Lib.bytesWorld w 5 s := ⟨_, rfl⟩
  rw [← hW] at hR hbel hr ⊢
  obtain ⟨g, hg⟩ : ∃ g, g = w.heap.size := ⟨_, rfl⟩
  rw [← hg] at hR hbel ⊢
  have hgW : g < W.heap.size := (Array.getElem?_eq_some_iff.1 hR).1
  have hl : s.data.toList.length = s.size := by simp
  have hcells : cellsOf (ints s) = Lib.byteCells s.data.toList := by simp [cellsOf, ints, Lib.byteCells]
  have hinl : (cellsOf (ints s)).length = s.size := by simp [cellsOf, ints_len]
  have hyl : (cellsOf ys).length = ys.length := by simp [cellsOf]
  have hcell : ∀ k, k < s.size → W.cell? ⟨g, k, none⟩ = (cellsOf (ints s))[k]? := by
    intro k hk
    rw [hR.cell (by rw [hl]; exact hk), hcells]
    simp [Lib.byteCells, List.getD, List.getElem?_eq_getElem (show k < s.data.toList.length by rw [hl]; exact hk)]
  rcases A with _ | ad
  · have h0 : ys.length = 0 := by
      rcases Nat.eq_zero_or_pos ys.length with h | h
      · exact h
      · obtain ⟨ad, h, _⟩ := hr.2 h
        cases h
    obtain rfl : ys = [] := List.eq_nil_of_length_eq_zero h0
    refine ⟨some ⟨g, 0, none⟩, cap, W, ?_, hbel, ?_⟩
    · simp [Builtin.append_, run_underlying Tryd.underlying28, sizeOf, typeInfo, hi5, Builtin.lenOf, Builtin.firstCells, hge, storeCells]
    · have h := hR.reads
      rw [hl] at h
      simpa [ints] using h
  · have hnews : ∀ j u, (cellsOf ys)[j]? = some u → W.cell? (ad.add j) = some u := by
      intro j u hu
      rcases Nat.eq_zero_or_pos ys.length with h | h
      · obtain rfl : ys = [] := List.eq_nil_of_length_eq_zero h
        simp [cellsOf] at hu
      · obtain ⟨ad', h, _, hc⟩ := hr.2 h
        injection h with h
        subst h
        exact hc j u hu
    have hone : ∀ u ∈ cellsOf ys, u.oneCell' = true := by
      intro u hu
      simp only [cellsOf, List.mem_map] at hu
      obtain ⟨x, _, rfl⟩ := hu
      rfl
    by_cases hroom : s.size + ys.length ≤ cap
    · have hpad : (List.replicate (cap - s.size) (Value.int .u8 0)).length = cap - s.size := by simp
      have hin : ∀ j, j < cap → (W.cell? ⟨g, j, none⟩).isSome = true ∧ W.frozen? ⟨g, j, none⟩ = false := by
        intro j hj
        constructor
        · rw [cell_of_row W g j _ 5 _ hR]
          rw [List.getElem?_toArray, List.getElem?_eq_getElem (by rw [List.length_append, hpad]; simp [Lib.byteCells]; omega)]
          rfl
        · unfold World.frozen?
          rw [hR]
          simp
          omega
      have hrun := run_append_room_cells (P := Tryd.prog) W 28 28 5 i5 Tryd.underlying28 hi5 g 0 s.size cap ad ys.length c (cellsOf ys) (by rw [hs5, hyl]; omega) hnews hone hroom
        (fun j hj => (hin _ (by rw [hs5]; omega)).1) (fun j hj => (hin _ (by rw [hs5]; omega)).2)
      rw [hs5, Nat.zero_add, Nat.mul_one] at hrun
      refine ⟨_, _, _, hrun, below_setCells g (Nat.le_refl _) _ _ _ hbel, by simp [cellsOf, ints_len], fun hn => ⟨_, rfl, by rw [size_setCells']; exact hgW, fun j u hu => ?_⟩⟩
      have ha : (⟨g, 0, none⟩ : Addr).add j = ⟨g, j, none⟩ := by unfold Addr.add; split <;> simp_all
      rw [ha]
      rw [show cellsOf (ints s ++ ys) = cellsOf (ints s) ++ cellsOf ys from by simp [cellsOf]] at hu
      by_cases hj : j < s.size
      · rw [World.cell?_setCells_out g (cellsOf ys) s.size W ⟨g, j, none⟩ (fun _ _ => Or.inl hj), hcell j hj]
        rw [List.getElem?_append_left (by rw [hinl]; exact hj)] at hu
        exact hu
      · rw [List.getElem?_append_right (by rw [hinl]; omega), hinl] at hu
        have hj2 : j - s.size < (cellsOf ys).length := (List.getElem?_eq_some_iff.1 hu).1
        have h := World.cell?_setCells_in g (cellsOf ys) s.size W (fun i hi => (hin _ (by omega)).1) (j - s.size) hj2
        rw [show s.size + (j - s.size) = j from by omega] at h
        rw [h, ← hu, List.getElem?_eq_getElem hj2]
    · obtain ⟨v', w', hrun, hown, hgr⟩ := run_append_arg_grows (P := Tryd.prog) W 28 28 5 i5 _ 1 1 Tryd.underlying28 hi5 hz5 hs5 hb5 rfl (by omega) ⟨g, 0, none⟩ s.size cap (cellsOf (ints s)) (by rw [hinl]; omega)
        (fun j u hu => by
          have ha : (⟨g, 0, none⟩ : Addr).add j = ⟨g, j, none⟩ := by unfold Addr.add; split <;> simp_all
          have hj : j < s.size := by
            have := (List.getElem?_eq_some_iff.1 hu).1
            rw [hinl] at this
            exact this
          rw [ha, hcell j hj, hu]) ad ys.length c (cellsOf ys) (by rw [hyl]; omega) hnews (by omega) (by unfold maxLen; omega) (by omega)
      obtain ⟨a', c', rfl, _, _⟩ := own_shape hown
      refine ⟨a', c', w', hrun, hbel.trans ((Only.grown (S := fun _ => False) (Only.refl _ W) hgr (fun k hk => by cases hk)).belowOf (by omega) (fun k hk => hk.elim)), ?_⟩
      have h := Reads.of_own hown
      rw [show cellsOf (ints s) ++ cellsOf ys = cellsOf (ints s ++ ys) from by simp [cellsOf]] at h
      exact h

theorem conv_append (w : World) (s : ByteArray) {B c : Nat} {A : Option Addr} {ys : List Int} (hr : Reads w B 1 A ys.length (cellsOf ys)) (hB : B ≤ w.heap.size) (hm : s.size + ys.length ≤ 100000) :
    ∃ (c0 : Nat) (W0 : World) (A' : Option Addr) (c' : Nat) (w' : World), (convert 9 28 (.string s)).run Tryd.prog w = .ok (.slice (some ⟨w.heap.size, 0, none⟩) s.size c0) W0 ∧
      (Builtin.append_ #[28, 28] 28 #[.slice (some ⟨w.heap.size, 0, none⟩) s.size c0, .slice A ys.length c]).run Tryd.prog W0 = .ok (.slice A' (s.size + ys.length) c') w' ∧
      Below w.heap.size w w' ∧ Reads w' w'.heap.size 1 A' (s.size + ys.length) (cellsOf (ints s ++ ys)) := by
  obtain ⟨A', c', w', h1, h2, h3⟩ := append_bytes w s (c := c) (hr.below ((bytesWorld_below w s).mono hB)) hm
  exact ⟨_, _, A', c', w', Lib.run_convert_string_bytes (P := Tryd.prog) w 9 28 5 s Tryd.underlying9 Tryd.underlying28 Tryd.underlying5, h1, h2, h3⟩
theorem str_append (xs ys : List Int) : (strOfNums (xs ++ ys)).data.toList = (strOfNums xs).data.toList ++ (strOfNums ys).data.toList := by simp [strOfNums]
/-- The three fixed texts. -/
theorem joins_fix {s : ByteArray} {xs : List Int} (hv : Lib.validD s.data.toList = true) (h13 : s.data.toList.getLast? ≠ some 13) :
    (⟨(fixU (strOfNums (ints s ++ xs)).data.toList).toArray⟩ : ByteArray) = (⟨(fixU s.data.toList).toArray⟩ : ByteArray) ++ (⟨(fixU (strOfNums xs).data.toList).toArray⟩ : ByteArray) := by
  rw [str_append, strOfNums_ints, fix_join _ _ _ (Nat.le_refl _) hv h13]
  apply ByteArray.ext
  simp

/-- An append whose run is known, guarded or not. -/
theorem wpList_append_run {P : Program} {ops : Array Oper} {rest : List Oper} {o : Oper} {a : Act} {w : World} {Q : Exit → Act → World → Prop} (hw : Region.wanted o (yielded ops a.tmps) = true) (s x : Operand) (t : TypeId)
    (ho : o.op = .call { callee := .builtin .append, args := #[s, x], argTypes := #[t, t] }) (v1 v2 v : Value) (w' : World) (hs : a.eval s = v1) (hx : a.eval x = v2)
    (hrun : (Builtin.append_ #[t, t] o.type #[v1, v2]).run P w = .ok v w') (h : wpList P ops Q rest (a.put o.dst v) w') : wpList P ops Q (o :: rest) a w :=
  wpList_want hw fun K hK => by
    unfold Oper.wp execOp
    simp only [ho, resolve, invoke, builtin, Sem.run_bind, Sem.run_pure, Result.andThen_ok, List.map_toArray, List.map_cons, List.map_nil, hs, hx, hrun]
    exact hK _ _ h
end Go.Proofs.YteijpcjhecmamaaDoor.Uf
