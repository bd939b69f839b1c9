import Derived.Test.YtnppimhlfcjghaaGreatPBase
import Derived.Deep.RegionHeldLaw
import Derived.Deep.MidRow
import Derived.Laws.Rows
import Derived.Laws.ResultCell
import Derived.Test.YtnppimhlfcjghaaGreatPLeaf
set_option linter.all false
set_option linter.unusedVariables false
set_option linter.unusedSimpArgs false
namespace Go.Proofs.YtnppimhlfcjghaaGreat
open Go.RowKit
section
variable {P : Program} {ops : Array Oper} {rest : List Oper} {a : Act} {Q : Exit → Act → World → Prop} {w : World}
theorem wpList_box2 {o1 om o2 : Oper} (T : TypeId) (d : Tmp) (dm : Tmp) (xm : Operand) (vm : Value) (zs : Array Value) (x : Operand) (cs : List Value) (h1 : o1 = ⟨some d, .alloc T, o1.type, o1.pos, o1.after, none⟩) (hm : om = ⟨some dm, .assign xm, om.type, om.pos, om.after, none⟩) (h2 : o2 = ⟨none, .store T (.tmp d) x, o2.type, o2.pos, o2.after, none⟩)
    (hvm : (a.put (some d) (.pointer (some ⟨w.heap.size, 0, none⟩))).eval xm = vm)
    (hd : ((a.put (some d) (.pointer (some ⟨w.heap.size, 0, none⟩))).put (some dm) vm).eval (.tmp d) = .pointer (some ⟨w.heap.size, 0, none⟩)) (hz : ∀ W : World, (zeroValue T).run P W = .ok (.agg zs) W) (hzs : zs.size = cs.length) (hx : ((a.put (some d) (.pointer (some ⟨w.heap.size, 0, none⟩))).put (some dm) vm).eval x = .agg cs.toArray)
    (hi : (P.info? T).map (·.size) = some cs.length) (hone : cs.all (·.oneCell') = true)
    (h : wpList P ops Q rest ((a.put (some d) (.pointer (some ⟨w.heap.size, 0, none⟩))).put (some dm) vm) (w.alloc (.cells cs.toArray T))) : wpList P ops Q (o1 :: om :: o2 :: rest) a w := by
 rw [h1, hm, h2]
 refine wpList_plain rfl fun K hK => ?_
 unfold Oper.wp execOp
 simp only [Instr.alloc, Sem.run_bind, hz, Result.andThen_ok, newVar, newRow, run_newObj_alloc, Sem.run_pure]
 refine hK _ _ ?_
 refine wpList_plain rfl fun K hK => ?_
 unfold Oper.wp execOp
 simp only [Sem.run_pure, hvm]
 refine hK _ _ ?_
 refine wpList_store_mid rfl T (.tmp d) x rfl w.heap.size 0 cs.toArray hd hx ?_ ?_ ?_ ?_
 ·intro j hj
  have hj' : j < zs.size := by rw [hzs]; simpa using hj
  refine ⟨?_, ?_⟩
  ·rw [Nat.zero_add, blk_cell (heap_new w _)]; simp [Value.cells, hj']
  ·rw [Nat.zero_add]; exact blk_frozen (heap_new w _) j
 ·rw [hi]; simp
 ·exact all_oneCell_toArray (List.all_eq_true.1 hone)
 ·simp only [Act.put]
  rw [setCells_alloc, Value.cells, setFrom_all cs zs hzs.symm]
  exact h
end
section
variable {P : Program} {md : Region.Mode} {ops : Array Oper} {Q : Exit → Act → World → Prop}
theorem wpAnyH_stronger {S1 S2 : World → Prop} (hS : ∀ w, S2 w → S1 w) : ∀ (fuel : Nat) (listed : Array Bool) (a : Act) (w : World), wpAnyH P md ops Q S2 fuel listed a w → wpAnyH P md ops Q S1 fuel listed a w
 | 0, _, _, _, h => h
 | fuel + 1, _, _, _, h => ⟨h.1, fun i hi => wpOp_mono (fun a' w' h' => ⟨hS _ h'.1, wpAnyH_stronger hS fuel _ a' w' h'.2⟩) (h.2 i hi)⟩
end
end Go.Proofs.YtnppimhlfcjghaaGreat
namespace Go.Proofs.YtnppimhlfcjghaaGreat
open Go.RowKit
theorem Ext.set1 {a w : World} {vb o : Nat} {u : Value} (h : Ext (fun i => i = vb) a w) : Ext (fun i => i = vb) a (w.setCell ⟨vb, o, none⟩ u) := h.setCell (p := ⟨vb, o, none⟩) (.inl rfl) u
theorem range_blk {w : World} {b : Nat} {cs : List Value} {t : TypeId} {f : Nat × Nat} (h : w.heap[b]? = some (.cells cs.toArray t f)) : w.rangeAt b 0 cs := fun j v hv => by
 rw [blk_cell h, Nat.zero_add, List.getElem?_toArray]; exact hv
theorem range_part {w : World} {b : Nat} {all : List Value} {t : TypeId} {f : Nat × Nat} (h : w.heap[b]? = some (.cells all.toArray t f)) (o : Nat) (cs : List Value) (hc : (all.drop o).take cs.length = cs) : w.rangeAt b o cs := fun j v hv => by
 rw [blk_cell h, List.getElem?_toArray]
 have hj : j < cs.length := (List.getElem?_eq_some_iff.1 hv).1
 rw [← hc, List.getElem?_take_of_lt hj, List.getElem?_drop] at hv
 exact hv
theorem there_blk {w : World} {b : Nat} {cs : Array Value} {t : TypeId} (h : w.heap[b]? = some (.cells cs t (0, 0))) {o n : Nat} (hn : o + n ≤ cs.size) : w.there b o n := fun j hj =>
 ⟨by rw [blk_cell h, Array.getElem?_eq_getElem (by omega)]; rfl, blk_frozen h _⟩
theorem ext_setCells (b : Nat) : ∀ (vs : List Value) (o : Nat) (w : World), Ext (fun i => i = b) w (w.setCells b o vs) ∧ (w.setCells b o vs).heap.size = w.heap.size
 | [], _, w => ⟨Ext.refl _ _, rfl⟩
 | v :: r, o, w => by
   rw [World.setCells]
   obtain ⟨h1, h2⟩ := ext_setCells b r (o + 1) (w.setCell ⟨b, o, none⟩ v)
   exact ⟨((Ext.refl (fun i => i = b) w).set1).trans h1 (fun _ _ h => h), h2.trans (by simp [World.setCell])⟩
theorem blk_setCells {b : Nat} {t : TypeId} {f : Nat × Nat} : ∀ (vs : List Value) (c : Array Value) (o : Nat) (w : World), w.heap[b]? = some (.cells c t f) → (w.setCells b o vs).heap[b]? = some (.cells (setFrom c o vs) t f)
 | [], _, _, _, h => h
 | v :: r, c, o, w, h => by
   rw [World.setCells, setFrom]
   exact blk_setCells r _ _ _ (blk_set h o v)
def splice (all : List Value) (o : Nat) (vs : List Value) : List Value := all.take o ++ vs ++ all.drop (o + vs.length)
theorem setFrom_splice : ∀ (vs : List Value) (all : List Value) (o : Nat), o + vs.length ≤ all.length → (setFrom all.toArray o vs).toList = splice all o vs
 | [], all, o, h => by simp [setFrom, splice]
 | v :: r, all, o, h => by
   have h' : o + (r.length + 1) ≤ all.length := by simpa using h
   rw [setFrom, List.setIfInBounds_toArray, setFrom_splice r _ (o + 1) (by simp; omega)]
   unfold splice
   rw [List.take_add_one, List.take_set_of_le (Nat.le_refl o), List.getElem?_set_self (by omega), List.drop_set_of_lt (by omega)]
   simp only [Option.toList_some, List.append_assoc, List.singleton_append, List.length_cons, List.cons_append]
   rw [show o + 1 + r.length = o + (r.length + 1) from by omega]
   simp
section
variable {P : Program} {ops : Array Oper} {rest : List Oper} {op : Oper} {a : Act} {w : World} {Q : Exit → Act → World → Prop}
theorem wpList_loadB (hgd : op.guard = none) (ty : TypeId) (x : Operand) (ho : op.op = .load ty x) (b : Nat) (cs : List Value) {t : TypeId} {f : Nat × Nat} (h : w.heap[b]? = some (.cells cs.toArray t f)) (hx : a.eval x = .pointer (some ⟨b, 0, none⟩)) (d : TypeDesc)
    (hu : P.underlying ty = some d) (hd : d.isRow = true) (hi : (P.info? ty).map (·.size) = some cs.length) (hK : wpList P ops Q rest (a.put op.dst (.agg cs.toArray)) w) : wpList P ops Q (op :: rest) a w :=
 wpList_load_mid hgd ty x ho b 0 hx cs d (range_blk h) hu hd hi hK
theorem wpList_loadP (hgd : op.guard = none) (ty : TypeId) (x : Operand) (ho : op.op = .load ty x) (b o : Nat) (cs all : List Value) {t : TypeId} {f : Nat × Nat} (h : w.heap[b]? = some (.cells all.toArray t f)) (hc : (all.drop o).take cs.length = cs) (hx : a.eval x = .pointer (some ⟨b, o, none⟩)) (d : TypeDesc)
    (hu : P.underlying ty = some d) (hd : d.isRow = true) (hi : (P.info? ty).map (·.size) = some cs.length) (hK : wpList P ops Q rest (a.put op.dst (.agg cs.toArray)) w) : wpList P ops Q (op :: rest) a w :=
 wpList_load_mid hgd ty x ho b o hx cs d (range_part h o cs hc) hu hd hi hK
theorem wpList_storeB (hgd : op.guard = none) (ty : TypeId) (x y : Operand) (ho : op.op = .store ty x y) (b : Nat) (cs vs : List Value) {t : TypeId} (h : w.heap[b]? = some (.cells cs.toArray t (0, 0))) (hl : vs.length = cs.length) (hx : a.eval x = .pointer (some ⟨b, 0, none⟩)) (hy : a.eval y = .agg vs.toArray)
    (hi : (P.info? ty).map (·.size) = some vs.length) (h1 : vs.all (·.oneCell') = true)
    (hK : ∀ w', w'.heap[b]? = some (.cells vs.toArray t (0, 0)) → Ext (fun i => i = b) w w' → w'.heap.size = w.heap.size → wpList P ops Q rest (a.put op.dst undef) w') : wpList P ops Q (op :: rest) a w := by
 refine wpList_store_mid hgd ty x y ho b 0 vs.toArray hx hy (there_blk h (by simp; omega)) (by simpa using hi) (all_oneCell_toArray (List.all_eq_true.1 h1)) (hK _ ?_ (ext_setCells b _ _ w).1 (ext_setCells b _ _ w).2)
 have := blk_setCells vs cs.toArray 0 w h
 rw [setFrom_all vs cs.toArray (by simpa using hl)] at this
 exact this
theorem wpList_storeP (hgd : op.guard = none) (ty : TypeId) (x y : Operand) (ho : op.op = .store ty x y) (b o : Nat) (all vs : List Value) {t : TypeId} (h : w.heap[b]? = some (.cells all.toArray t (0, 0))) (hl : o + vs.length ≤ all.length) (hx : a.eval x = .pointer (some ⟨b, o, none⟩)) (hy : a.eval y = .agg vs.toArray)
    (hi : (P.info? ty).map (·.size) = some vs.length) (h1 : vs.all (·.oneCell') = true) (nw : List Value) (hn : splice all o vs = nw)
    (hK : ∀ w', w'.heap[b]? = some (.cells nw.toArray t (0, 0)) → Ext (fun i => i = b) w w' → w'.heap.size = w.heap.size → wpList P ops Q rest (a.put op.dst undef) w') : wpList P ops Q (op :: rest) a w := by
 refine wpList_store_mid hgd ty x y ho b o vs.toArray hx hy (there_blk h (by simp; omega)) (by simpa using hi) (all_oneCell_toArray (List.all_eq_true.1 h1)) (hK _ ?_ (ext_setCells b _ _ w).1 (ext_setCells b _ _ w).2)
 have := blk_setCells vs all.toArray o w h
 rw [← hn, ← setFrom_splice vs all o hl, Array.toArray_toList]
 exact this
theorem results_cellB {fn : Func} {p : Tmp} {ty : TypeId} (hr : fn.results = #[.cell p ty]) (tmps : Array Value) (b : Nat) (cs : Array Value) {t : TypeId} {f : Nat × Nat} (h : w.heap[b]? = some (.cells cs t f)) (hp : tmps.getD p undef = .pointer (some ⟨b, 0, none⟩)) (d : TypeDesc)
    (hu : P.underlying ty = some d) (hd : (match d with | .struct _ | .array _ _ => true | _ => false) = true) (hi : (P.info? ty).map (·.size) = some cs.size) : (results fn tmps).run P w = .ok (.agg cs) w :=
 results_cell_row hr tmps w b t cs f d hp h hu hd hi
theorem results_cellB2 {fn : Func} {p u : Tmp} {ty : TypeId} (hr : fn.results = #[.cell p ty, .tmp u]) (tmps : Array Value) (b : Nat) (cs : Array Value) {t : TypeId} {f : Nat × Nat} (h : w.heap[b]? = some (.cells cs t f)) (hp : tmps.getD p undef = .pointer (some ⟨b, 0, none⟩)) (d : TypeDesc)
    (hu : P.underlying ty = some d) (hd : (match d with | .struct _ | .array _ _ => true | _ => false) = true) (hi : (P.info? ty).map (·.size) = some cs.size) : (results fn tmps).run P w = .ok (.tuple #[.agg cs, tmps.getD u undef]) w := by
 rw [results_cell_tmp hr, hp]
 simp only [asAddr, Sem.run_pure, Result.andThen_ok, run_loadVar_row w b t ty cs f d h hu hd hi]
end
end Go.Proofs.YtnppimhlfcjghaaGreat
namespace Go.Proofs.YtnppimhlfcjghaaGreat
open Go.RowKit
set_option maxRecDepth 100000
set_option maxHeartbeats 600000
def enC (x : En) : List Value := [.bool x.has, .int .i64 x.epoch, .int .u64 x.root, .bool x.banned]
def enCells (v : List En) : Array Value := (v.flatMap enC).toArray
theorem enC_length (x : En) : (enC x).length = 4 := rfl
theorem flat_get : ∀ (v : List En) (j i : Nat), i < 4 → (v.flatMap enC)[j * 4 + i]? = (v[j]?).bind fun x => (enC x)[i]?
 | [], _, _, _ => by simp
 | x :: v, 0, i, h => by
   rw [List.flatMap_cons, List.getElem?_append_left (by rw [enC_length]; omega)]
   simp
 | x :: v, j + 1, i, h => by
   rw [List.flatMap_cons, List.getElem?_append_right (by rw [enC_length]; omega), enC_length, show (j + 1) * 4 + i - 4 = j * 4 + i from by omega, flat_get v j i h]
   simp
theorem flat_length (v : List En) : (v.flatMap enC).length = v.length * 4 := by
 induction v with
 | nil => rfl
 | cons x v ih => simp only [List.flatMap_cons, List.length_append, enC_length, ih, List.length_cons]; omega
theorem flat_set : ∀ (v : List En) (j i : Nat) (x x' : En) (u : Value), v[j]? = some x → i < 4 → enC x' = (enC x).set i u → (v.set j x').flatMap enC = (v.flatMap enC).set (j * 4 + i) u
 | [], _, _, _, _, _, h, _, _ => by simp at h
 | y :: v, 0, i, x, x', u, h, hi, he => by
   simp only [List.getElem?_cons_zero, Option.some.injEq] at h
   subst h
   simp only [List.set_cons_zero, List.flatMap_cons]
   rw [List.set_append_left _ _ (by rw [enC_length]; omega), he]
   simp
 | y :: v, j + 1, i, x, x', u, h, hi, he => by
   simp only [List.getElem?_cons_succ] at h
   simp only [List.set_cons_succ, List.flatMap_cons]
   rw [List.set_append_right _ _ (by rw [enC_length]; omega), enC_length, show (j + 1) * 4 + i - 4 = j * 4 + i from by omega, flat_set v j i x x' u h hi he]
def VotesAt (w : World) (vb : Nat) (v : List En) : Prop := w.heap[vb]? = some (.cells (enCells v) 114 (0, 0))
theorem VotesAt.below {w w' : World} {vb : Nat} {v : List En} (h : VotesAt w vb v) (hb : Below w.heap.size w w') : VotesAt w' vb v := blk_below h hb
theorem VotesAt.ext {w w' : World} {F : Nat → Prop} {vb : Nat} {v : List En} (h : VotesAt w vb v) (hb : Ext F w w') (hF : ¬ F vb) : VotesAt w' vb v := blk_ext h hb hF
theorem VotesAt.get {w : World} {vb : Nat} {v : List En} (h : VotesAt w vb v) {j : Nat} {x : En} (hj : v[j]? = some x) :
    w.cell? ⟨vb, j * 4, none⟩ = some (.bool x.has) ∧ w.cell? ⟨vb, j * 4 + 1, none⟩ = some (.int .i64 x.epoch) ∧ w.cell? ⟨vb, j * 4 + 2, none⟩ = some (.int .u64 x.root) ∧ w.cell? ⟨vb, j * 4 + 3, none⟩ = some (.bool x.banned) := by
 have key : ∀ i, i < 4 → w.cell? ⟨vb, j * 4 + i, none⟩ = (enC x)[i]? := fun i hi => by
  rw [blk_cell h, enCells, List.getElem?_toArray, flat_get v j i hi, hj]
  rfl
 exact ⟨key 0 (by omega), key 1 (by omega), key 2 (by omega), key 3 (by omega)⟩
theorem VotesAt.set {w : World} {vb : Nat} {v : List En} (h : VotesAt w vb v) {j i : Nat} {x x' : En} {u : Value} (hj : v[j]? = some x) (hi : i < 4) (he : enC x' = (enC x).set i u) : VotesAt (w.setCell ⟨vb, j * 4 + i, none⟩ u) vb (v.set j x') := by
 unfold VotesAt
 rw [blk_set h, enCells, enCells, flat_set v j i x x' u hj hi he, List.setIfInBounds_toArray]
theorem entry_in {v : List En} {k : Nat} (hk : k < v.length) : entry v (k : Int) = some v[k] := by
 simp [entry, hk]
theorem entry_out {v : List En} {k : Int} (hk : k < 0 ∨ (v.length : Int) ≤ k) : entry v k = none := by
 unfold entry
 split
 ·rw [List.getElem?_eq_none]; omega
 ·rfl
section
variable {w : World} {vb : Nat} {v : List En}
theorem VGet_calls (h : VotesAt w vb v) (c : Nat) (k : Int) (hk : inI k) (hl : v.length ≤ 4096) : Calls Tryz.prog 65 #[.slice (some ⟨vb, 0, none⟩) v.length c, .int .i64 k] w fun e w' => e = .returned (.tuple #[.int .u64 (getV v k).1, .bool (getV v k).2]) ∧ w = w' := by
 unfold inI at hk
 by_cases hin : 0 ≤ k ∧ k < v.length
 ·obtain ⟨h0, h1⟩ := hin
  obtain ⟨j, rfl⟩ := Int.eq_ofNat_of_zero_le h0
  have hj : j < v.length := by omega
  obtain ⟨c0, c1, c2, c3⟩ := h.get (List.getElem?_eq_getElem hj)
  have hE := entry_in hj
  generalize v[j] = x at c0 c1 c2 c3 hE
  have hG : getV v (j : Int) = if !x.has || x.banned then (0, false) else (x.root, true) := by rw [getV, hE]
  have HG := Lib.hid hG
  clear hG hE
  cases hh : x.has <;> cases hb : x.banned <;> rw [hh] at c0 <;> rw [hb] at c3 <;> (have HX := Lib.hid hh; have HY := Lib.hid hb; clear hh hb) <;>
  (go_enter Tryz.func65, Tryz.ntmps65; go_wp2; go_ret2; exact ⟨by rw [HG.out, HX.out, HY.out]; rfl, rfl⟩)
 ·have HG : Hid (getV v k = (0, false)) := by show _ = _; rw [getV, entry_out (by omega)]
  by_cases h0 : k < 0
  ·clear hin
   go_enter Tryz.func65, Tryz.ntmps65
   go_wp2
   go_ret2
   exact ⟨by rw [HG.out]; rfl, rfl⟩
  ·have h1 : (v.length : Int) ≤ k := by omega
   clear hin
   go_enter Tryz.func65, Tryz.ntmps65
   go_wp2
   go_ret2
   exact ⟨by rw [HG.out]; rfl, rfl⟩
theorem VBan_calls (h : VotesAt w vb v) (c : Nat) (k : Int) (hk : inI k) (hl : v.length ≤ 4096) : Calls Tryz.prog 68 #[.slice (some ⟨vb, 0, none⟩) v.length c, .int .i64 k] w fun e w' => e = .returned (.bool (bans v k)) ∧ VotesAt w' vb (banV v k) ∧ Ext (fun i => i = vb) w w' := by
 unfold inI at hk
 by_cases hin : 0 ≤ k ∧ k < v.length
 ·obtain ⟨h0, h1⟩ := hin
  obtain ⟨j, rfl⟩ := Int.eq_ofNat_of_zero_le h0
  have hj : j < v.length := by omega
  have hg := List.getElem?_eq_getElem hj
  obtain ⟨c0, c1, c2, c3⟩ := h.get hg
  have f3 := blk_frozen h (j * 4 + 3)
  have hE := entry_in hj
  generalize v[j] = x at c0 c1 c2 c3 hE hg
  have HG := Lib.hid hg
  have hG : bans v (j : Int) = !x.banned := by rw [bans, hE]
  have HB := Lib.hid hG
  clear hG hE hg
  cases hb : x.banned with
  | true =>
   rw [hb] at c3
   have HY := Lib.hid hb
   clear hb
   go_enter Tryz.func68, Tryz.ntmps68
   go_wp2
   go_ret
   have e : bans v (j : Int) = false := by rw [HB.out, HY.out]; rfl
   refine ⟨by rw [e]; rfl, ?_, Ext.refl _ _⟩
   rw [banV, e]
   exact h
  | false =>
   rw [hb] at c3
   have HY := Lib.hid hb
   clear hb
   go_enter Tryz.func68, Tryz.ntmps68
   go_wp2
   go_ret
   have e : bans v (j : Int) = true := by rw [HB.out, HY.out]; rfl
   refine ⟨by rw [e]; rfl, ?_, (Ext.refl (fun i => i = vb) w).set1⟩
   rw [banV, e, if_pos rfl]
   have hm : v.modify (j : Int).toNat (fun x => { x with banned := true }) = v.set j { x with banned := true } := by
    rw [Int.toNat_natCast]
    apply List.ext_getElem?
    intro m
    rw [List.getElem?_modify, List.getElem?_set]
    by_cases hm : j = m
    ·subst hm
     have hlt := (List.getElem?_eq_some_iff.1 HG.out).1
     rw [HG.out]
     simp [hlt]
    ·simp [hm]
   rw [hm]
   exact h.set (i := 3) HG.out (by omega) rfl
 ·have HB : Hid (bans v k = false) := by show _ = _; rw [bans, entry_out (by omega)]
  have HV : Hid (banV v k = v) := by show _ = _; rw [banV, HB.out]; rfl
  by_cases h0 : k < 0
  ·clear hin
   go_enter Tryz.func68, Tryz.ntmps68
   go_wp2
   go_ret
   exact ⟨by rw [HB.out]; rfl, by rw [HV.out]; exact h, Ext.refl _ _⟩
  ·have h1 : (v.length : Int) ≤ k := by omega
   clear hin
   go_enter Tryz.func68, Tryz.ntmps68
   go_wp2
   go_ret
   exact ⟨by rw [HB.out]; rfl, by rw [HV.out]; exact h, Ext.refl _ _⟩
theorem VTake_calls (h : VotesAt w vb v) (c : Nat) (k ep r : Int) (hk : inI k) (hep : inI ep) (hl : v.length ≤ 4096) : Calls Tryz.prog 66 #[.slice (some ⟨vb, 0, none⟩) v.length c, .int .i64 k, .int .i64 ep, .int .u64 r] w fun e w' => e = .returned (.bool (takes v k ep)) ∧ VotesAt w' vb (takeV v k ep r) ∧ Ext (fun i => i = vb) w w' := by
 unfold inI at hk hep
 by_cases hin : 0 ≤ k ∧ k < v.length
 ·obtain ⟨h0, h1⟩ := hin
  obtain ⟨j, rfl⟩ := Int.eq_ofNat_of_zero_le h0
  have hj : j < v.length := by omega
  have hg := List.getElem?_eq_getElem hj
  obtain ⟨c0, c1, c2, c3⟩ := h.get hg
  have f0 := blk_frozen h (j * 4)
  have f1 := blk_frozen h (j * 4 + 1)
  have f2 := blk_frozen h (j * 4 + 2)
  have f3 := blk_frozen h (j * 4 + 3)
  have hE := entry_in hj
  generalize v[j] = x at c0 c1 c2 c3 hE hg
  have HG := Lib.hid hg
  have hG : takes v (j : Int) ep = !(x.banned || (x.has && decide (ep ≤ x.epoch))) := by rw [takes, hE]
  have HB := Lib.hid hG
  clear hG hE hg
  have no : takes v (j : Int) ep = false → takeV v (j : Int) ep r = v := fun e => by rw [takeV, e]; rfl
  have yes : takes v (j : Int) ep = true → takeV v (j : Int) ep r = v.set j ⟨true, ep, r, false⟩ := fun e => by rw [takeV, e]; rfl
  have NO := Lib.hid no
  have YES := Lib.hid yes
  clear no yes
  have fin : VotesAt ((((w.setCell ⟨vb, j * 4, none⟩ (.bool true)).setCell ⟨vb, j * 4 + 1, none⟩ (.int .i64 ep)).setCell ⟨vb, j * 4 + 2, none⟩ (.int .u64 r)).setCell ⟨vb, j * 4 + 3, none⟩ (.bool false)) vb (v.set j ⟨true, ep, r, false⟩) := by
   have hlt := (List.getElem?_eq_some_iff.1 HG.out).1
   have s0 := h.set (i := 0) (x' := ⟨true, x.epoch, x.root, x.banned⟩) HG.out (by omega) rfl
   have s1 := s0.set (i := 1) (x := ⟨true, x.epoch, x.root, x.banned⟩) (x' := ⟨true, ep, x.root, x.banned⟩) (List.getElem?_set_self (by simpa using hlt)) (by omega) rfl
   have s2 := s1.set (i := 2) (x := ⟨true, ep, x.root, x.banned⟩) (x' := ⟨true, ep, r, x.banned⟩) (List.getElem?_set_self (by simpa using hlt)) (by omega) rfl
   have s3 := s2.set (i := 3) (x := ⟨true, ep, r, x.banned⟩) (x' := ⟨true, ep, r, false⟩) (List.getElem?_set_self (by simpa using hlt)) (by omega) rfl
   simp only [List.set_set] at s3
   exact s3
  have FIN := Lib.hid fin
  clear fin
  cases hb : x.banned with
  | true =>
   rw [hb] at c3
   have HY := Lib.hid hb
   clear hb
   go_enter Tryz.func66, Tryz.ntmps66
   go_wp2
   go_ret
   have e : takes v (j : Int) ep = false := by rw [HB.out, HY.out]; rfl
   exact ⟨by rw [e]; rfl, by rw [NO.out e]; exact h, Ext.refl _ _⟩
  | false =>
   rw [hb] at c3
   have HY := Lib.hid hb
   clear hb
   cases hh : x.has with
   | false =>
    rw [hh] at c0
    have HX := Lib.hid hh
    clear hh
    have e : Hid (takes v (j : Int) ep = true) := by show _ = _; rw [HB.out, HX.out, HY.out]; rfl
    go_enter Tryz.func66, Tryz.ntmps66
    go_wp2
    go_ret
    exact ⟨by rw [e.out]; rfl, by rw [YES.out e.out]; exact FIN.out, ((((Ext.refl (fun i => i = vb) w).set1).set1).set1).set1⟩
   | true =>
    rw [hh] at c0
    have HX := Lib.hid hh
    clear hh
    by_cases hle : ep ≤ x.epoch
    ·have e : Hid (takes v (j : Int) ep = false) := by show _ = _; rw [HB.out, HX.out, HY.out]; simp [hle]
     go_enter Tryz.func66, Tryz.ntmps66
     go_wp2
     go_ret
     exact ⟨by rw [e.out]; rfl, by rw [NO.out e.out]; exact h, Ext.refl _ _⟩
    ·have e : Hid (takes v (j : Int) ep = true) := by show _ = _; rw [HB.out, HX.out, HY.out]; simp; omega
     go_enter Tryz.func66, Tryz.ntmps66
     go_wp2
     go_ret
     exact ⟨by rw [e.out]; rfl, by rw [YES.out e.out]; exact FIN.out, ((((Ext.refl (fun i => i = vb) w).set1).set1).set1).set1⟩
 ·have HB : Hid (takes v k ep = false) := by show _ = _; rw [takes, entry_out (by omega)]
  have HV : Hid (takeV v k ep r = v) := by show _ = _; rw [takeV, HB.out]; rfl
  by_cases h0 : k < 0
  ·clear hin
   go_enter Tryz.func66, Tryz.ntmps66
   go_wp2
   go_ret
   exact ⟨by rw [HB.out]; rfl, by rw [HV.out]; exact h, Ext.refl _ _⟩
  ·have h1 : (v.length : Int) ≤ k := by omega
   clear hin
   go_enter Tryz.func66, Tryz.ntmps66
   go_wp2
   go_ret
   exact ⟨by rw [HB.out]; rfl, by rw [HV.out]; exact h, Ext.refl _ _⟩
theorem infoEn : (Tryz.prog.info? 114).map (fun i => (i.zero, i.size, i.bytes)) = some (some (.agg (enC En.zero).toArray), 4, 32) := by kernel_rfl
theorem made_en (n : Nat) : madeCells (Value.agg (enC En.zero).toArray).cells (n * 4) = enCells (List.replicate n En.zero) := by
 apply Array.ext'
 apply List.ext_getElem?
 intro m
 rw [enCells]
 have hm : m = m / 4 * 4 + m % 4 := by omega
 have hr : m % 4 < 4 := by omega
 by_cases hlt : m < n * 4
 ·have h2 : m / 4 < n := by omega
  have h1 : ((List.replicate n En.zero).flatMap enC)[m]? = (enC En.zero)[m % 4]? := by
   rw [hm, flat_get _ _ _ (by omega)]
   rw [show (m / 4 * 4 + m % 4) % 4 = m % 4 from by omega]
   simp [h2]
  show ((madeCells _ _).toList)[m]? = _
  rw [h1]
  simp only [madeCells, Value.cells, Array.toList_map, List.getElem?_map, Array.toList_range, List.getElem?_range hlt, Option.map_some]
  have hz : (enC En.zero).toArray.size = 4 := rfl
  simp only [hz]
  have h3 : m % 4 = 0 ∨ m % 4 = 1 ∨ m % 4 = 2 ∨ m % 4 = 3 := by omega
  rcases h3 with h3 | h3 | h3 | h3 <;> rw [h3] <;> rfl
 ·rw [List.getElem?_eq_none (by simp [madeCells]; omega), List.getElem?_eq_none (by rw [List.toList_toArray, flat_length, List.length_replicate]; omega)]
theorem VOf_calls (w : World) (n : Nat) (hn1 : 1 ≤ n) (hn : n ≤ 4096) : Calls Tryz.prog 33 #[.int .i64 n] w fun e w' => e = .returned (.slice (some ⟨w.heap.size, 0, none⟩) n n) ∧ VotesAt w' w.heap.size (List.replicate n En.zero) ∧ Below w.heap.size w w' := by
 have hmk : ∀ W : World, (Instr.makeSlice 36 (.int .i64 n) (.int .i64 n)).run Tryz.prog W = .ok (.slice (some ⟨W.heap.size, 0, none⟩) n n) (W.alloc (.cells (enCells (List.replicate n En.zero)) 114)) := fun W => by
  obtain ⟨i, hi, hz'⟩ := Option.map_eq_some_iff.1 infoEn
  simp only [Prod.mk.injEq] at hz'
  obtain ⟨h1, h2, h3⟩ := hz'
  have := run_make (P := Tryz.prog) W 36 114 i _ Tryz.underlying36 hi h1 .i64 .i64 (n : Int) (n : Int) (by omega) (Int.le_refl _) (by rw [h3]; omega) (by omega)
  rw [this, h2]
  simp only [Int.toNat_natCast, made_en]
 have e1 : min (n : Int) 4096 = n := by omega
 have e2 : max 0 (n : Int) = n := by omega
 have e3 : (1 : Int) ≤ n := by omega
 have e4 : ¬ (n : Int) ≤ 0 := by omega
 go_enter Tryz.func33, Tryz.ntmps33
 go_wp2
 all_goals
  go_ways
  go_ret
  exact ⟨rfl, heap_new w _, below_alloc (Below.refl _ _) _⟩
end
end Go.Proofs.YtnppimhlfcjghaaGreat
