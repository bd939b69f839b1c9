/- A range over a map that is known as an association list: what is still to come, as a list. No program in it. -/
import Derived.Test.YtnppimhlfcjghaaMap
import Derived.Maps.RangeWalk
namespace Go.Proofs.Ytnppimhlfcjghaa
open Go.RowKit
open Go.MapKept Go.ChangeMaps
/-- Entries as keys and values. -/
abbrev kvOf (l : List MapEntry) : List (Value × Value) := l.map fun e => (e.key, e.val)
abbrev kvU (l : List (Int × Value)) : List (Value × Value) := l.map fun p => (Value.int .u64 p.1, p.2)
/-- Block r is an iterator over the map in block b; left: what is still to come. -/
def RangeW (w : World) (b r : Nat) (kvs left : List (Int × Value)) : Prop :=
  ∃ es clk since seen c0, w.heap[b]? = some (.map es clk) ∧ Stamped es clk ∧ kvOf es.toList = kvU kvs ∧ w.heap[r]? = some (.mapIter (some b) since seen c0) ∧ (∀ x ∈ es.toList, x.born < since) ∧ since ≤ c0 ∧ since ≤ clk ∧ kvOf (leftOf es seen).toList = kvU left
theorem RangeW.map {w : World} {b r : Nat} {kvs left : List (Int × Value)} (h : RangeW w b r kvs left) : MapAt w b kvs := by
  obtain ⟨es, clk, since, seen, c0, h1, h2, h3, _⟩ := h
  exact ⟨es, clk, h1, h2, h3⟩
theorem RangeW.ne {w : World} {b r : Nat} {kvs left : List (Int × Value)} (h : RangeW w b r kvs left) : r ≠ b := by
  obtain ⟨es, clk, since, seen, c0, h1, h2, h3, h4, _⟩ := h
  intro e
  rw [e, h1] at h4
  cases h4
theorem RangeW.lt {w : World} {b r : Nat} {kvs left : List (Int × Value)} (h : RangeW w b r kvs left) : r < w.heap.size := by
  obtain ⟨es, clk, since, seen, c0, h1, h2, h3, h4, _⟩ := h
  exact blk_lt h4
theorem RangeW.left_eq {w : World} {b r : Nat} {kvs left : List (Int × Value)} (h : RangeW w b r kvs left) : w.rangeLeft b r = left.length := by
  obtain ⟨es, clk, since, seen, c0, h1, h2, h3, h4, h5, h6, h7, h8⟩ := h
  simp only [World.rangeLeft, h1, h4]
  simpa using congrArg List.length h8
theorem RangeW.of_blk {w w' : World} {b r : Nat} {kvs left : List (Int × Value)} (h : RangeW w b r kvs left) (hb : w'.heap[b]? = w.heap[b]?) (hr : w'.heap[r]? = w.heap[r]?) : RangeW w' b r kvs left := by
  obtain ⟨es, clk, since, seen, c0, h1, h2, h3, h4, h5⟩ := h
  exact ⟨es, clk, since, seen, c0, hb.trans h1, h2, h3, hr.trans h4, h5⟩
theorem RangeW.below {w w' : World} {b r : Nat} {kvs left : List (Int × Value)} (h : RangeW w b r kvs left) (hb : Below w.heap.size w w') : RangeW w' b r kvs left := h.of_blk (hb.block b h.map.lt) (hb.block r h.lt)
theorem RangeW.ext {w w' : World} {F : Nat → Prop} {b r : Nat} {kvs left : List (Int × Value)} (h : RangeW w b r kvs left) (hb : Ext F w w') (h1 : ¬ F b) (h2 : ¬ F r) : RangeW w' b r kvs left := h.of_blk (hb.block b h.map.lt h1) (hb.block r h.lt h2)
theorem filter_born (e : MapEntry) : ∀ (l1 l2 : List MapEntry), ((l1 ++ e :: l2).map (·.born)).Nodup → (l1 ++ e :: l2).filter (fun x => !(x.born == e.born)) = l1 ++ l2
  | [], l2, h => by
    have h' : e.born ∉ l2.map (·.born) := (List.nodup_cons.1 h).1
    simp only [List.nil_append, List.filter_cons, beq_self_eq_true, Bool.not_true, Bool.false_eq_true, if_false]
    rw [List.filter_eq_self]
    intro x hx
    have : x.born ≠ e.born := fun h0 => h' (List.mem_map.2 ⟨x, hx, h0⟩)
    simpa using this
  | x :: l1, l2, h => by
    have h1 := List.nodup_cons.1 h
    have hx : x.born ≠ e.born := fun h0 => h1.1 (List.mem_map.2 ⟨e, by simp, h0.symm⟩)
    have hb : (x.born == e.born) = false := by simpa using hx
    simp only [List.cons_append, List.filter_cons, hb, Bool.not_false, if_true]
    rw [filter_born e l1 l2 h1.2]
theorem leftOf_push (es : Array MapEntry) (seen : Array Nat) (b : Nat) : (leftOf es (seen.push b)).toList = (leftOf es seen).toList.filter fun x => !(x.born == b) := by
  unfold leftOf
  rw [Array.toList_filter, Array.toList_filter, List.filter_filter]
  apply List.filter_congr
  intro x _
  rw [contains_push]
  cases seen.contains x.born <;> cases (x.born == b) <;> rfl
theorem split_kv {l1 l2 : List MapEntry} {e : MapEntry} : ∀ {left : List (Int × Value)}, kvOf (l1 ++ e :: l2) = kvU left → ∃ m1 m2 k v, left = m1 ++ (k, v) :: m2 ∧ kvOf l1 = kvU m1 ∧ kvOf l2 = kvU m2 ∧ e.key = .int .u64 k ∧ e.val = v := by
  intro left h
  rw [kvOf, List.map_append, List.map_cons] at h
  obtain ⟨m1, m2', h1, h2, h3⟩ := List.map_eq_append_iff.1 h.symm
  obtain ⟨⟨k, v⟩, m2, rfl, h4, h5⟩ := List.map_eq_cons_iff.1 h3
  simp only [Prod.mk.injEq] at h4
  exact ⟨m1, m2, k, v, h1, h2.symm, h5.symm, h4.1.symm, h4.2.symm⟩
section
variable {P : Program} {w : World} {b r : Nat} {kvs left : List (Int × Value)} {t kt et : TypeId}
theorem MapAt.range (h : MapAt w b kvs) (ht : P.underlying t = some (.map kt et)) :
    ∃ w', (Instr.range t (.map (some b))).run P w = .ok (.pointer (some ⟨w.heap.size, 0, none⟩)) w' ∧ RangeW w' b w.heap.size kvs kvs ∧ w.grownBy w' none ∧ w'.heap.size = w.heap.size + 1 := by
  have hlt := h.lt
  obtain ⟨es, clk, h1, h2, h3⟩ := h
  refine ⟨_, run_range_map w t kt et b es clk ht h1, ⟨es, clk, clk, #[], clk, (heap_alloc_old w _ hlt).trans h1, h2, h3, heap_alloc_new w _, h2.1, Nat.le_refl _, Nat.le_refl _, ?_⟩, World.grownBy_alloc w _ none, by simp⟩
  have e : (leftOf es #[]).toList = es.toList := by simp [leftOf]
  rw [e]; exact h3
/-- The step. -/
theorem RangeW.next (h : RangeW w b r kvs left) (ty : TypeId) :
    (left = [] ∧ (Instr.next (.pointer (some ⟨r, 0, none⟩)) false ty).run P w = .ok (.tuple #[.bool false]) w) ∨
    ∃ k v m1 m2 w', left = m1 ++ (k, v) :: m2 ∧ (Instr.next (.pointer (some ⟨r, 0, none⟩)) false ty).run P w = .ok (.tuple #[.bool true, .int .u64 k, v]) w' ∧ RangeW w' b r kvs (m1 ++ m2) ∧ w.grownBy w' (some r) ∧ w'.heap.size = w.heap.size ∧ (Instr.entry (.pointer (some ⟨r, 0, none⟩))).run P w' = .ok (.tuple #[.int .u64 k, v]) w' := by
  have hne := h.ne
  obtain ⟨es, clk, since, seen, c0, hb, hs, hk, hr, hold, hsc, hsk, hl⟩ := h
  rcases run_next_at (P := P) w ty r b since c0 seen es clk hr hb hold hsc with ⟨h0, hrun⟩ | ⟨e, he, w1, hal, hrun⟩
  · refine Or.inl ⟨?_, hrun⟩
    have h1 := congrArg List.length hl
    simp only [List.length_map, Array.length_toList, h0] at h1
    exact List.eq_nil_of_length_eq_zero h1.symm
  · obtain ⟨hem, _⟩ := mem_left he
    have hst := (stamped_iff es clk).1 hs
    obtain ⟨l1, l2, hL⟩ := List.append_of_mem he
    rw [hL] at hl
    obtain ⟨m1, m2, k, v, rfl, e1, e2, e3, e4⟩ := split_kv hl
    have hnd : ((l1 ++ e :: l2).map (·.born)).Nodup := by
      rw [← hL]
      refine List.Nodup.sublist ?_ hst.2.1
      unfold leftOf
      rw [Array.toList_filter]
      exact List.Sublist.map _ List.filter_sublist
    have hr1 : w1.heap[r]? = some (.mapIter (some b) since seen c0) := by rcases hal with rfl | rfl <;> exact hr
    have hb1 : w1.heap[b]? = some (.map es clk) := by rcases hal with rfl | rfl <;> exact hb
    have hset := heap_set (o' := .mapIter (some b) since (seen.push e.born) clk) hr1
    have hb' : (setBlock w1 r (.mapIter (some b) since (seen.push e.born) clk)).heap[b]? = some (.map es clk) := (hset.2 b (fun e1 => hne e1.symm)).trans hb1
    have hen := run_entry_at (P := P) _ r b since seen es clk e hset.1 hb' hem hst.2.1
    rw [e3, e4] at hrun hen
    refine Or.inr ⟨k, v, m1, m2, _, rfl, hrun, ⟨es, clk, since, seen.push e.born, clk, hb', hs, hk, hset.1, hold, hsk, hsk, ?_⟩, ?_, ?_, hen⟩
    · rw [leftOf_push, hL, filter_born e l1 l2 hnd]
      unfold kvOf kvU at *
      rw [List.map_append, List.map_append, e1, e2]
    · rcases hal with rfl | rfl <;> exact ⟨rfl, rfl, rfl, by simp [setBlock], fun i _ hi => hset.2 i (fun e1 => hi (by rw [e1]))⟩
    · rcases hal with rfl | rfl <;> simp [setBlock]
end
section
variable {P : Program} {w : World} {ops : Array Oper} {rest : List Oper} {o : Oper} {a : Act} {Q : Exit → Act → World → Prop}
theorem wpList_rangeW (hg : o.guard = none) (m : Operand) (t : TypeId) (hop : o.op = Op.range t m) (kt et : TypeId) (ht : P.underlying t = some (.map kt et)) (b : Nat) (kvs : List (Int × Value)) (hm : a.eval m = .map (some b)) (h : MapAt w b kvs)
    (hK : ∀ w', RangeW w' b w.heap.size kvs kvs → w.grownBy w' none → w'.heap.size = w.heap.size + 1 → wpList P ops Q rest (a.put o.dst (.pointer (some ⟨w.heap.size, 0, none⟩))) w') : wpList P ops Q (o :: rest) a w := by
  refine wpList_plain hg fun K' hK' => ?_
  obtain ⟨w', hrun, r1, r2, r3⟩ := h.range ht
  unfold Oper.wp
  simp [execOp, hop, hm, hrun, Result.andThen]
  exact hK' _ _ (hK w' r1 r2 r3)
theorem wpList_nextW (hg : o.guard = none) (it : Operand) (hop : o.op = Op.next it false) (b r : Nat) (kvs left : List (Int × Value)) (hit : a.eval it = .pointer (some ⟨r, 0, none⟩)) (h : RangeW w b r kvs left)
    (hDone : left = [] → wpList P ops Q rest (a.put o.dst (.tuple #[.bool false])) w)
    (hMore : ∀ (k : Int) (v : Value) (m1 m2 : List (Int × Value)) (w' : World), left = m1 ++ (k, v) :: m2 → RangeW w' b r kvs (m1 ++ m2) → w.grownBy w' (some r) → w'.heap.size = w.heap.size → (Instr.entry (.pointer (some ⟨r, 0, none⟩))).run P w' = .ok (.tuple #[.int .u64 k, v]) w' →
      wpList P ops Q rest (a.put o.dst (.tuple #[.bool true, .int .u64 k, v])) w') : wpList P ops Q (o :: rest) a w := by
  refine wpList_plain hg fun K' hK' => ?_
  unfold Oper.wp
  rcases h.next (P := P) o.type with ⟨h0, hrun⟩ | ⟨k, v, m1, m2, w', hl, hrun, hrg, hgr, hsz, hen⟩
  · simp [execOp, hop, hit, hrun, Result.andThen]
    exact hK' _ _ (hDone h0)
  · simp [execOp, hop, hit, hrun, Result.andThen]
    exact hK' _ _ (hMore k v m1 m2 w' hl hrg hgr hsz hen)
end
end Go.Proofs.Ytnppimhlfcjghaa
