/- A law: a variable that is laid, an assignment, and the variable is set. No program in it. -/
import Derived.Test.YtnppimhlfcjghaaOps
import Derived.Deep.RegionHeldLaw
namespace Go.Proofs.Ytnppimhlfcjghaa
open Go.RowKit
section
variable {P : Program} {ops : Array Oper} {rest : List Oper} {a : Act} {Q : Exit → Act → World → Prop} {w : World}
/-- 'for i, x := range xs' of a struct whose address is taken: laid; the index is assigned; set. -/
theorem wpList_box2 {o1 om o2 : Oper} (T : TypeId) (d : Tmp) (dm : Tmp) (xm : Operand) (vm : Value) (zs : Array Value) (x : Operand) (cs : List Value) (h1 : o1 = ⟨some d, .alloc T, o1.type, o1.pos, o1.after, none⟩) (hm : om = ⟨some dm, .assign xm, om.type, om.pos, om.after, none⟩) (h2 : o2 = ⟨none, .store T (.tmp d) x, o2.type, o2.pos, o2.after, none⟩)
    (hvm : (a.put (some d) (.pointer (some ⟨w.heap.size, 0, none⟩))).eval xm = vm)
    (hd : ((a.put (some d) (.pointer (some ⟨w.heap.size, 0, none⟩))).put (some dm) vm).eval (.tmp d) = .pointer (some ⟨w.heap.size, 0, none⟩)) (hz : ∀ W : World, (zeroValue T).run P W = .ok (.agg zs) W) (hzs : zs.size = cs.length) (hx : ((a.put (some d) (.pointer (some ⟨w.heap.size, 0, none⟩))).put (some dm) vm).eval x = .agg cs.toArray)
    (hi : (P.info? T).map (·.size) = some cs.length) (hone : cs.all (·.oneCell') = true)
    (h : wpList P ops Q rest ((a.put (some d) (.pointer (some ⟨w.heap.size, 0, none⟩))).put (some dm) vm) (w.alloc (.cells cs.toArray T))) : wpList P ops Q (o1 :: om :: o2 :: rest) a w := by
  rw [h1, hm, h2]
  refine wpList_plain rfl fun K hK => ?_
  unfold Oper.wp execOp
  simp only [Instr.alloc, Sem.run_bind, hz, Result.andThen_ok, newVar, newRow, run_newObj_alloc, Sem.run_pure]
  refine hK _ _ ?_
  refine wpList_plain rfl fun K hK => ?_
  unfold Oper.wp execOp
  simp only [Sem.run_pure, hvm]
  refine hK _ _ ?_
  refine wpList_store_mid rfl T (.tmp d) x rfl w.heap.size 0 cs.toArray hd hx ?_ ?_ ?_ ?_
  · intro j hj
    have hj' : j < zs.size := by rw [hzs]; simpa using hj
    refine ⟨?_, ?_⟩
    · rw [Nat.zero_add, blk_cell (heap_new w _)]; simp [Value.cells, hj']
    · rw [Nat.zero_add]; exact blk_frozen (heap_new w _) j
  · rw [hi]; simp
  · exact all_oneCell_toArray (List.all_eq_true.1 hone)
  · simp only [Act.put]
    rw [setCells_alloc, Value.cells, setFrom_all cs zs hzs.symm]
    exact h
end
section
variable {P : Program} {md : Region.Mode} {ops : Array Oper} {Q : Exit → Act → World → Prop}
/-- In a region whose order is drawn the condition on the worlds may be made stronger on the way. -/
theorem wpAnyH_stronger {S1 S2 : World → Prop} (hS : ∀ w, S2 w → S1 w) : ∀ (fuel : Nat) (listed : Array Bool) (a : Act) (w : World), wpAnyH P md ops Q S2 fuel listed a w → wpAnyH P md ops Q S1 fuel listed a w
  | 0, _, _, _, h => h
  | fuel + 1, _, _, _, h => ⟨h.1, fun i hi => wpOp_mono (fun a' w' h' => ⟨hS _ h'.1, wpAnyH_stronger hS fuel _ a' w' h'.2⟩) (h.2 i hi)⟩
end
end Go.Proofs.Ytnppimhlfcjghaa
