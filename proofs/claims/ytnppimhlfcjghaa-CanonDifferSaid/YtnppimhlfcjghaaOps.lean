/- Laws at operations: a variable that is laid and set at once; a struct that is read whole. No program in it. -/
import Derived.Test.YtnppimhlfcjghaaBase
import Derived.Deep.MidRow
import Derived.Laws.NewBlocks
namespace Go.Proofs.Ytnppimhlfcjghaa
open Go.RowKit
def setFrom (c : Array Value) : Nat → List Value → Array Value
  | _, [] => c
  | o, v :: r => setFrom (c.setIfInBounds o v) (o + 1) r
theorem setCells_alloc (w : World) (t : TypeId) : ∀ (vs : List Value) (c : Array Value) (o : Nat), (w.alloc (.cells c t)).setCells w.heap.size o vs = w.alloc (.cells (setFrom c o vs) t)
  | [], _, _ => rfl
  | v :: r, c, o => by
    rw [World.setCells, World.setCell_alloc_at c t w.heap.size o v rfl]
    exact setCells_alloc w t r _ _
theorem setFrom_toList : ∀ (vs : List Value) (c : Array Value) (o : Nat), o + vs.length = c.size → (setFrom c o vs).toList = c.toList.take o ++ vs
  | [], c, o, h => by
    rw [List.append_nil, List.take_of_length_le (by simp at h ⊢; omega)]; rfl
  | v :: r, c, o, h => by
    have h' : o + (r.length + 1) = c.size := by simpa using h
    rw [setFrom, setFrom_toList r _ (o + 1) (by simp; omega)]
    have ho : o < c.size := by omega
    rw [Array.toList_setIfInBounds, List.take_add_one, List.take_set_of_le (Nat.le_refl o), List.getElem?_set_self (by simpa using ho)]
    simp
theorem setFrom_all (vs : List Value) (c : Array Value) (h : vs.length = c.size) : setFrom c 0 vs = vs.toArray := by
  have := setFrom_toList vs c 0 (by omega)
  rw [← Array.toArray_toList (xs := setFrom c 0 vs), this]; simp
section
variable {P : Program} {ops : Array Oper} {rest : List Oper} {a : Act} {Q : Exit → Act → World → Prop} {w : World}
/-- 'x := e' of a struct whose address is taken: laid, and set. -/
theorem wpList_box {o1 o2 : Oper} (T : TypeId) (d : Tmp) (zs : Array Value) (x : Operand) (cs : List Value) (h1 : o1 = ⟨some d, .alloc T, o1.type, o1.pos, o1.after, none⟩) (h2 : o2 = ⟨none, .store T (.tmp d) x, o2.type, o2.pos, o2.after, none⟩)
    (hd : (a.put (some d) (.pointer (some ⟨w.heap.size, 0, none⟩))).eval (.tmp d) = .pointer (some ⟨w.heap.size, 0, none⟩)) (hz : ∀ W : World, (zeroValue T).run P W = .ok (.agg zs) W) (hzs : zs.size = cs.length) (hx : (a.put (some d) (.pointer (some ⟨w.heap.size, 0, none⟩))).eval x = .agg cs.toArray)
    (hi : (P.info? T).map (·.size) = some cs.length) (hone : cs.all (·.oneCell') = true)
    (h : wpList P ops Q rest (a.put (some d) (.pointer (some ⟨w.heap.size, 0, none⟩))) (w.alloc (.cells cs.toArray T))) : wpList P ops Q (o1 :: o2 :: rest) a w := by
  rw [h1, h2]
  refine wpList_plain rfl fun K hK => ?_
  unfold Oper.wp execOp
  simp only [Instr.alloc, Sem.run_bind, hz, Result.andThen_ok, newVar, newRow, run_newObj_alloc, Sem.run_pure]
  refine hK _ _ ?_
  refine wpList_store_mid rfl T (.tmp d) x rfl w.heap.size 0 cs.toArray hd hx ?_ ?_ ?_ ?_
  · intro j hj
    have hj' : j < zs.size := by rw [hzs]; simpa using hj
    refine ⟨?_, ?_⟩
    · rw [Nat.zero_add, blk_cell (heap_new w _)]; simp [Value.cells, hj']
    · rw [Nat.zero_add]; exact blk_frozen (heap_new w _) j
  · rw [hi]; simp
  · exact all_oneCell_toArray (List.all_eq_true.1 hone)
  · simp only [Act.put]
    rw [setCells_alloc, Value.cells, setFrom_all cs zs hzs.symm]
    exact h
end
end Go.Proofs.Ytnppimhlfcjghaa
