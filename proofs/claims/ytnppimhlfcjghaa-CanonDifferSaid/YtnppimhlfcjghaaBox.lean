/- Blocks that are known whole: loads, stores, results. No program in it. -/
import Derived.Test.YtnppimhlfcjghaaOps2
import Derived.Deep.MidRow
import Derived.Laws.Rows
import Derived.Laws.ResultCell
namespace Go.Proofs.Ytnppimhlfcjghaa
open Go.RowKit
theorem Ext.set1 {a w : World} {vb o : Nat} {u : Value} (h : Ext (fun i => i = vb) a w) : Ext (fun i => i = vb) a (w.setCell ⟨vb, o, none⟩ u) := h.setCell (p := ⟨vb, o, none⟩) (.inl rfl) u
theorem range_blk {w : World} {b : Nat} {cs : List Value} {t : TypeId} {f : Nat × Nat} (h : w.heap[b]? = some (.cells cs.toArray t f)) : w.rangeAt b 0 cs := fun j v hv => by
  rw [blk_cell h, Nat.zero_add, List.getElem?_toArray]; exact hv
/-- A part of a block. -/
theorem range_part {w : World} {b : Nat} {all : List Value} {t : TypeId} {f : Nat × Nat} (h : w.heap[b]? = some (.cells all.toArray t f)) (o : Nat) (cs : List Value) (hc : (all.drop o).take cs.length = cs) : w.rangeAt b o cs := fun j v hv => by
  rw [blk_cell h, List.getElem?_toArray]
  have hj : j < cs.length := (List.getElem?_eq_some_iff.1 hv).1
  rw [← hc, List.getElem?_take_of_lt hj, List.getElem?_drop] at hv
  exact hv
theorem there_blk {w : World} {b : Nat} {cs : Array Value} {t : TypeId} (h : w.heap[b]? = some (.cells cs t (0, 0))) {o n : Nat} (hn : o + n ≤ cs.size) : w.there b o n := fun j hj =>
  ⟨by rw [blk_cell h, Array.getElem?_eq_getElem (by omega)]; rfl, blk_frozen h _⟩
theorem ext_setCells (b : Nat) : ∀ (vs : List Value) (o : Nat) (w : World), Ext (fun i => i = b) w (w.setCells b o vs) ∧ (w.setCells b o vs).heap.size = w.heap.size
  | [], _, w => ⟨Ext.refl _ _, rfl⟩
  | v :: r, o, w => by
    rw [World.setCells]
    obtain ⟨h1, h2⟩ := ext_setCells b r (o + 1) (w.setCell ⟨b, o, none⟩ v)
    exact ⟨((Ext.refl (fun i => i = b) w).set1).trans h1 (fun _ _ h => h), h2.trans (by simp [World.setCell])⟩
theorem blk_setCells {b : Nat} {t : TypeId} {f : Nat × Nat} : ∀ (vs : List Value) (c : Array Value) (o : Nat) (w : World), w.heap[b]? = some (.cells c t f) → (w.setCells b o vs).heap[b]? = some (.cells (setFrom c o vs) t f)
  | [], _, _, _, h => h
  | v :: r, c, o, w, h => by
    rw [World.setCells, setFrom]
    exact blk_setCells r _ _ _ (blk_set h o v)
/-- A part of a list, replaced. -/
def splice (all : List Value) (o : Nat) (vs : List Value) : List Value := all.take o ++ vs ++ all.drop (o + vs.length)
theorem setFrom_splice : ∀ (vs : List Value) (all : List Value) (o : Nat), o + vs.length ≤ all.length → (setFrom all.toArray o vs).toList = splice all o vs
  | [], all, o, h => by simp [setFrom, splice]
  | v :: r, all, o, h => by
    have h' : o + (r.length + 1) ≤ all.length := by simpa using h
    rw [setFrom, List.setIfInBounds_toArray, setFrom_splice r _ (o + 1) (by simp; omega)]
    unfold splice
    rw [List.take_add_one, List.take_set_of_le (Nat.le_refl o), List.getElem?_set_self (by omega), List.drop_set_of_lt (by omega)]
    simp only [Option.toList_some, List.append_assoc, List.singleton_append, List.length_cons, List.cons_append]
    rw [show o + 1 + r.length = o + (r.length + 1) from by omega]
    simp
section
variable {P : Program} {ops : Array Oper} {rest : List Oper} {op : Oper} {a : Act} {w : World} {Q : Exit → Act → World → Prop}
/-- A struct is read whole. -/
theorem wpList_loadB (hgd : op.guard = none) (ty : TypeId) (x : Operand) (ho : op.op = .load ty x) (b : Nat) (cs : List Value) {t : TypeId} {f : Nat × Nat} (h : w.heap[b]? = some (.cells cs.toArray t f)) (hx : a.eval x = .pointer (some ⟨b, 0, none⟩)) (d : TypeDesc)
    (hu : P.underlying ty = some d) (hd : d.isRow = true) (hi : (P.info? ty).map (·.size) = some cs.length) (hK : wpList P ops Q rest (a.put op.dst (.agg cs.toArray)) w) : wpList P ops Q (op :: rest) a w :=
  wpList_load_mid hgd ty x ho b 0 hx cs d (range_blk h) hu hd hi hK
/-- A part of a struct is read. -/
theorem wpList_loadP (hgd : op.guard = none) (ty : TypeId) (x : Operand) (ho : op.op = .load ty x) (b o : Nat) (cs all : List Value) {t : TypeId} {f : Nat × Nat} (h : w.heap[b]? = some (.cells all.toArray t f)) (hc : (all.drop o).take cs.length = cs) (hx : a.eval x = .pointer (some ⟨b, o, none⟩)) (d : TypeDesc)
    (hu : P.underlying ty = some d) (hd : d.isRow = true) (hi : (P.info? ty).map (·.size) = some cs.length) (hK : wpList P ops Q rest (a.put op.dst (.agg cs.toArray)) w) : wpList P ops Q (op :: rest) a w :=
  wpList_load_mid hgd ty x ho b o hx cs d (range_part h o cs hc) hu hd hi hK
/-- A struct is written whole. -/
theorem wpList_storeB (hgd : op.guard = none) (ty : TypeId) (x y : Operand) (ho : op.op = .store ty x y) (b : Nat) (cs vs : List Value) {t : TypeId} (h : w.heap[b]? = some (.cells cs.toArray t (0, 0))) (hl : vs.length = cs.length) (hx : a.eval x = .pointer (some ⟨b, 0, none⟩)) (hy : a.eval y = .agg vs.toArray)
    (hi : (P.info? ty).map (·.size) = some vs.length) (h1 : vs.all (·.oneCell') = true)
    (hK : ∀ w', w'.heap[b]? = some (.cells vs.toArray t (0, 0)) → Ext (fun i => i = b) w w' → w'.heap.size = w.heap.size → wpList P ops Q rest (a.put op.dst undef) w') : wpList P ops Q (op :: rest) a w := by
  refine wpList_store_mid hgd ty x y ho b 0 vs.toArray hx hy (there_blk h (by simp; omega)) (by simpa using hi) (all_oneCell_toArray (List.all_eq_true.1 h1)) (hK _ ?_ (ext_setCells b _ _ w).1 (ext_setCells b _ _ w).2)
  have := blk_setCells vs cs.toArray 0 w h
  rw [setFrom_all vs cs.toArray (by simpa using hl)] at this
  exact this
/-- A part of a struct is written. -/
theorem wpList_storeP (hgd : op.guard = none) (ty : TypeId) (x y : Operand) (ho : op.op = .store ty x y) (b o : Nat) (all vs : List Value) {t : TypeId} (h : w.heap[b]? = some (.cells all.toArray t (0, 0))) (hl : o + vs.length ≤ all.length) (hx : a.eval x = .pointer (some ⟨b, o, none⟩)) (hy : a.eval y = .agg vs.toArray)
    (hi : (P.info? ty).map (·.size) = some vs.length) (h1 : vs.all (·.oneCell') = true) (nw : List Value) (hn : splice all o vs = nw)
    (hK : ∀ w', w'.heap[b]? = some (.cells nw.toArray t (0, 0)) → Ext (fun i => i = b) w w' → w'.heap.size = w.heap.size → wpList P ops Q rest (a.put op.dst undef) w') : wpList P ops Q (op :: rest) a w := by
  refine wpList_store_mid hgd ty x y ho b o vs.toArray hx hy (there_blk h (by simp; omega)) (by simpa using hi) (all_oneCell_toArray (List.all_eq_true.1 h1)) (hK _ ?_ (ext_setCells b _ _ w).1 (ext_setCells b _ _ w).2)
  have := blk_setCells vs all.toArray o w h
  rw [← hn, ← setFrom_splice vs all o hl, Array.toArray_toList]
  exact this
theorem results_cellB {fn : Func} {p : Tmp} {ty : TypeId} (hr : fn.results = #[.cell p ty]) (tmps : Array Value) (b : Nat) (cs : Array Value) {t : TypeId} {f : Nat × Nat} (h : w.heap[b]? = some (.cells cs t f)) (hp : tmps.getD p undef = .pointer (some ⟨b, 0, none⟩)) (d : TypeDesc)
    (hu : P.underlying ty = some d) (hd : (match d with | .struct _ | .array _ _ => true | _ => false) = true) (hi : (P.info? ty).map (·.size) = some cs.size) : (results fn tmps).run P w = .ok (.agg cs) w :=
  results_cell_row hr tmps w b t cs f d hp h hu hd hi
theorem results_cellB2 {fn : Func} {p u : Tmp} {ty : TypeId} (hr : fn.results = #[.cell p ty, .tmp u]) (tmps : Array Value) (b : Nat) (cs : Array Value) {t : TypeId} {f : Nat × Nat} (h : w.heap[b]? = some (.cells cs t f)) (hp : tmps.getD p undef = .pointer (some ⟨b, 0, none⟩)) (d : TypeDesc)
    (hu : P.underlying ty = some d) (hd : (match d with | .struct _ | .array _ _ => true | _ => false) = true) (hi : (P.info? ty).map (·.size) = some cs.size) : (results fn tmps).run P w = .ok (.tuple #[.agg cs, tmps.getD u undef]) w := by
  rw [results_cell_tmp hr, hp]
  simp only [asAddr, Sem.run_pure, Result.andThen_ok, run_loadVar_row w b t ty cs f d h hu hd hi]
end
end Go.Proofs.Ytnppimhlfcjghaa
