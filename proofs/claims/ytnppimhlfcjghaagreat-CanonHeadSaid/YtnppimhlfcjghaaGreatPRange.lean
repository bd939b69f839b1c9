import Derived.Test.YtnppimhlfcjghaaGreatPMap
import Derived.Maps.RangeWalk
import Derived.Test.YtnppimhlfcjghaaGreatProg
import Derived.KernelRfl
import Derived.Test.YtnppimhlfcjghaaGreatPBase
import Derived.Shelf.SlIter.Collect
import Derived.RangeFuncBound
set_option linter.all false
set_option linter.unusedVariables false
set_option linter.unusedSimpArgs false
namespace Go.Proofs.YtnppimhlfcjghaaGreat
open Go.RowKit
open Go.MapKept Go.ChangeMaps
abbrev kvOf (l : List MapEntry) : List (Value × Value) := l.map fun e => (e.key, e.val)
abbrev kvU (l : List (Int × Value)) : List (Value × Value) := l.map fun p => (Value.int .u64 p.1, p.2)
def RangeW (w : World) (b r : Nat) (kvs left : List (Int × Value)) : Prop :=
 ∃ es clk since seen c0, w.heap[b]? = some (.map es clk) ∧ Stamped es clk ∧ kvOf es.toList = kvU kvs ∧ w.heap[r]? = some (.mapIter (some b) since seen c0) ∧ (∀ x ∈ es.toList, x.born < since) ∧ since ≤ c0 ∧ since ≤ clk ∧ kvOf (leftOf es seen).toList = kvU left
theorem RangeW.map {w : World} {b r : Nat} {kvs left : List (Int × Value)} (h : RangeW w b r kvs left) : MapAt w b kvs := by
 obtain ⟨es, clk, since, seen, c0, h1, h2, h3, _⟩ := h
 exact ⟨es, clk, h1, h2, h3⟩
theorem RangeW.ne {w : World} {b r : Nat} {kvs left : List (Int × Value)} (h : RangeW w b r kvs left) : r ≠ b := by
 obtain ⟨es, clk, since, seen, c0, h1, h2, h3, h4, _⟩ := h
 intro e
 rw [e, h1] at h4
 cases h4
theorem RangeW.lt {w : World} {b r : Nat} {kvs left : List (Int × Value)} (h : RangeW w b r kvs left) : r < w.heap.size := by
 obtain ⟨es, clk, since, seen, c0, h1, h2, h3, h4, _⟩ := h
 exact blk_lt h4
theorem RangeW.left_eq {w : World} {b r : Nat} {kvs left : List (Int × Value)} (h : RangeW w b r kvs left) : w.rangeLeft b r = left.length := by
 obtain ⟨es, clk, since, seen, c0, h1, h2, h3, h4, h5, h6, h7, h8⟩ := h
 simp only [World.rangeLeft, h1, h4]
 simpa using congrArg List.length h8
theorem RangeW.of_blk {w w' : World} {b r : Nat} {kvs left : List (Int × Value)} (h : RangeW w b r kvs left) (hb : w'.heap[b]? = w.heap[b]?) (hr : w'.heap[r]? = w.heap[r]?) : RangeW w' b r kvs left := by
 obtain ⟨es, clk, since, seen, c0, h1, h2, h3, h4, h5⟩ := h
 exact ⟨es, clk, since, seen, c0, hb.trans h1, h2, h3, hr.trans h4, h5⟩
theorem RangeW.below {w w' : World} {b r : Nat} {kvs left : List (Int × Value)} (h : RangeW w b r kvs left) (hb : Below w.heap.size w w') : RangeW w' b r kvs left := h.of_blk (hb.block b h.map.lt) (hb.block r h.lt)
theorem RangeW.ext {w w' : World} {F : Nat → Prop} {b r : Nat} {kvs left : List (Int × Value)} (h : RangeW w b r kvs left) (hb : Ext F w w') (h1 : ¬ F b) (h2 : ¬ F r) : RangeW w' b r kvs left := h.of_blk (hb.block b h.map.lt h1) (hb.block r h.lt h2)
theorem filter_born (e : MapEntry) : ∀ (l1 l2 : List MapEntry), ((l1 ++ e :: l2).map (·.born)).Nodup → (l1 ++ e :: l2).filter (fun x => !(x.born == e.born)) = l1 ++ l2
 | [], l2, h => by
   have h' : e.born ∉ l2.map (·.born) := (List.nodup_cons.1 h).1
   simp only [List.nil_append, List.filter_cons, beq_self_eq_true, Bool.not_true, Bool.false_eq_true, if_false]
   rw [List.filter_eq_self]
   intro x hx
   have : x.born ≠ e.born := fun h0 => h' (List.mem_map.2 ⟨x, hx, h0⟩)
   simpa using this
 | x :: l1, l2, h => by
   have h1 := List.nodup_cons.1 h
   have hx : x.born ≠ e.born := fun h0 => h1.1 (List.mem_map.2 ⟨e, by simp, h0.symm⟩)
   have hb : (x.born == e.born) = false := by simpa using hx
   simp only [List.cons_append, List.filter_cons, hb, Bool.not_false, if_true]
   rw [filter_born e l1 l2 h1.2]
theorem leftOf_push (es : Array MapEntry) (seen : Array Nat) (b : Nat) : (leftOf es (seen.push b)).toList = (leftOf es seen).toList.filter fun x => !(x.born == b) := by
 unfold leftOf
 rw [Array.toList_filter, Array.toList_filter, List.filter_filter]
 apply List.filter_congr
 intro x _
 rw [contains_push]
 cases seen.contains x.born <;> cases (x.born == b) <;> rfl
theorem split_kv {l1 l2 : List MapEntry} {e : MapEntry} : ∀ {left : List (Int × Value)}, kvOf (l1 ++ e :: l2) = kvU left → ∃ m1 m2 k v, left = m1 ++ (k, v) :: m2 ∧ kvOf l1 = kvU m1 ∧ kvOf l2 = kvU m2 ∧ e.key = .int .u64 k ∧ e.val = v := by
 intro left h
 rw [kvOf, List.map_append, List.map_cons] at h
 obtain ⟨m1, m2', h1, h2, h3⟩ := List.map_eq_append_iff.1 h.symm
 obtain ⟨⟨k, v⟩, m2, rfl, h4, h5⟩ := List.map_eq_cons_iff.1 h3
 simp only [Prod.mk.injEq] at h4
 exact ⟨m1, m2, k, v, h1, h2.symm, h5.symm, h4.1.symm, h4.2.symm⟩
section
variable {P : Program} {w : World} {b r : Nat} {kvs left : List (Int × Value)} {t kt et : TypeId}
theorem MapAt.range (h : MapAt w b kvs) (ht : P.underlying t = some (.map kt et)) :
    ∃ w', (Instr.range t (.map (some b))).run P w = .ok (.pointer (some ⟨w.heap.size, 0, none⟩)) w' ∧ RangeW w' b w.heap.size kvs kvs ∧ w.grownBy w' none ∧ w'.heap.size = w.heap.size + 1 := by
 have hlt := h.lt
 obtain ⟨es, clk, h1, h2, h3⟩ := h
 refine ⟨_, run_range_map w t kt et b es clk ht h1, ⟨es, clk, clk, #[], clk, (heap_alloc_old w _ hlt).trans h1, h2, h3, heap_alloc_new w _, h2.1, Nat.le_refl _, Nat.le_refl _, ?_⟩, World.grownBy_alloc w _ none, by simp⟩
 have e : (leftOf es #[]).toList = es.toList := by simp [leftOf]
 rw [e]; exact h3
theorem RangeW.next (h : RangeW w b r kvs left) (ty : TypeId) :
    (left = [] ∧ (Instr.next (.pointer (some ⟨r, 0, none⟩)) false ty).run P w = .ok (.tuple #[.bool false]) w) ∨
    ∃ k v m1 m2 w', left = m1 ++ (k, v) :: m2 ∧ (Instr.next (.pointer (some ⟨r, 0, none⟩)) false ty).run P w = .ok (.tuple #[.bool true, .int .u64 k, v]) w' ∧ RangeW w' b r kvs (m1 ++ m2) ∧ w.grownBy w' (some r) ∧ w'.heap.size = w.heap.size ∧ (Instr.entry (.pointer (some ⟨r, 0, none⟩))).run P w' = .ok (.tuple #[.int .u64 k, v]) w' := by
 have hne := h.ne
 obtain ⟨es, clk, since, seen, c0, hb, hs, hk, hr, hold, hsc, hsk, hl⟩ := h
 rcases run_next_at (P := P) w ty r b since c0 seen es clk hr hb hold hsc with ⟨h0, hrun⟩ | ⟨e, he, w1, hal, hrun⟩
 ·refine Or.inl ⟨?_, hrun⟩
  have h1 := congrArg List.length hl
  simp only [List.length_map, Array.length_toList, h0] at h1
  exact List.eq_nil_of_length_eq_zero h1.symm
 ·obtain ⟨hem, _⟩ := mem_left he
  have hst := (stamped_iff es clk).1 hs
  obtain ⟨l1, l2, hL⟩ := List.append_of_mem he
  rw [hL] at hl
  obtain ⟨m1, m2, k, v, rfl, e1, e2, e3, e4⟩ := split_kv hl
  have hnd : ((l1 ++ e :: l2).map (·.born)).Nodup := by
   rw [← hL]
   refine List.Nodup.sublist ?_ hst.2.1
   unfold leftOf
   rw [Array.toList_filter]
   exact List.Sublist.map _ List.filter_sublist
  have hr1 : w1.heap[r]? = some (.mapIter (some b) since seen c0) := by rcases hal with rfl | rfl <;> exact hr
  have hb1 : w1.heap[b]? = some (.map es clk) := by rcases hal with rfl | rfl <;> exact hb
  have hset := heap_set (o' := .mapIter (some b) since (seen.push e.born) clk) hr1
  have hb' : (setBlock w1 r (.mapIter (some b) since (seen.push e.born) clk)).heap[b]? = some (.map es clk) := (hset.2 b (fun e1 => hne e1.symm)).trans hb1
  have hen := run_entry_at (P := P) _ r b since seen es clk e hset.1 hb' hem hst.2.1
  rw [e3, e4] at hrun hen
  refine Or.inr ⟨k, v, m1, m2, _, rfl, hrun, ⟨es, clk, since, seen.push e.born, clk, hb', hs, hk, hset.1, hold, hsk, hsk, ?_⟩, ?_, ?_, hen⟩
  ·rw [leftOf_push, hL, filter_born e l1 l2 hnd]
   unfold kvOf kvU at *
   rw [List.map_append, List.map_append, e1, e2]
  ·rcases hal with rfl | rfl <;> exact ⟨rfl, rfl, rfl, by simp [setBlock], fun i _ hi => hset.2 i (fun e1 => hi (by rw [e1]))⟩
  ·rcases hal with rfl | rfl <;> simp [setBlock]
end
section
variable {P : Program} {w : World} {ops : Array Oper} {rest : List Oper} {o : Oper} {a : Act} {Q : Exit → Act → World → Prop}
theorem wpList_rangeW (hg : o.guard = none) (m : Operand) (t : TypeId) (hop : o.op = Op.range t m) (kt et : TypeId) (ht : P.underlying t = some (.map kt et)) (b : Nat) (kvs : List (Int × Value)) (hm : a.eval m = .map (some b)) (h : MapAt w b kvs)
    (hK : ∀ w', RangeW w' b w.heap.size kvs kvs → w.grownBy w' none → w'.heap.size = w.heap.size + 1 → wpList P ops Q rest (a.put o.dst (.pointer (some ⟨w.heap.size, 0, none⟩))) w') : wpList P ops Q (o :: rest) a w := by
 refine wpList_plain hg fun K' hK' => ?_
 obtain ⟨w', hrun, r1, r2, r3⟩ := h.range ht
 unfold Oper.wp
 simp [execOp, hop, hm, hrun, Result.andThen]
 exact hK' _ _ (hK w' r1 r2 r3)
theorem wpList_nextW (hg : o.guard = none) (it : Operand) (hop : o.op = Op.next it false) (b r : Nat) (kvs left : List (Int × Value)) (hit : a.eval it = .pointer (some ⟨r, 0, none⟩)) (h : RangeW w b r kvs left)
    (hDone : left = [] → wpList P ops Q rest (a.put o.dst (.tuple #[.bool false])) w)
    (hMore : ∀ (k : Int) (v : Value) (m1 m2 : List (Int × Value)) (w' : World), left = m1 ++ (k, v) :: m2 → RangeW w' b r kvs (m1 ++ m2) → w.grownBy w' (some r) → w'.heap.size = w.heap.size → (Instr.entry (.pointer (some ⟨r, 0, none⟩))).run P w' = .ok (.tuple #[.int .u64 k, v]) w' →
      wpList P ops Q rest (a.put o.dst (.tuple #[.bool true, .int .u64 k, v])) w') : wpList P ops Q (o :: rest) a w := by
 refine wpList_plain hg fun K' hK' => ?_
 unfold Oper.wp
 rcases h.next (P := P) o.type with ⟨h0, hrun⟩ | ⟨k, v, m1, m2, w', hl, hrun, hrg, hgr, hsz, hen⟩
 ·simp [execOp, hop, hit, hrun, Result.andThen]
  exact hK' _ _ (hDone h0)
 ·simp [execOp, hop, hit, hrun, Result.andThen]
  exact hK' _ _ (hMore k v m1 m2 w' hl hrg hgr hsz hen)
end
end Go.Proofs.YtnppimhlfcjghaaGreat
namespace Go.Proofs.YtnppimhlfcjghaaGreat
theorem zEv (W : World) : (zeroValue 57).run Tryz.prog W = .ok (.agg #[.int .i64 0, .int .i64 0, .int .u64 0, .int .u64 0, .int .i64 0, .slice none 0 0, .slice none 0 0, .int .i64 0, .int .u64 0, .int .i64 0, .int .u64 0, .int .i64 0, .int .u64 0, .slice none 0 0, .int .i64 0, .int .u64 0, .int .i64 0, .int .u64 0, .int .i64 0, .int .u64 0, .slice none 0 0, .int .i64 0, .int .u64 0, .int .i64 0, .int .u64 0, .int .i64 0, .int .u64 0, .slice none 0 0]) W := by kernel_rfl
theorem infoEv : (Tryz.prog.info? 57).map (fun i => (i.zero, i.size, i.bytes)) = some (some (.agg #[.int .i64 0, .int .i64 0, .int .u64 0, .int .u64 0, .int .i64 0, .slice none 0 0, .slice none 0 0, .int .i64 0, .int .u64 0, .int .i64 0, .int .u64 0, .int .i64 0, .int .u64 0, .slice none 0 0, .int .i64 0, .int .u64 0, .int .i64 0, .int .u64 0, .int .i64 0, .int .u64 0, .slice none 0 0, .int .i64 0, .int .u64 0, .int .i64 0, .int .u64 0, .int .i64 0, .int .u64 0, .slice none 0 0]), 28, 304) := by kernel_rfl
theorem iEv : (Tryz.prog.info? 57).map (·.size) = some 28 := by kernel_rfl
theorem zPf (W : World) : (zeroValue 55).run Tryz.prog W = .ok (.agg #[.int .i64 0, .int .u64 0, .int .i64 0, .int .u64 0, .int .i64 0, .int .u64 0, .slice none 0 0, .int .i64 0, .int .u64 0, .int .i64 0, .int .u64 0, .int .i64 0, .int .u64 0, .slice none 0 0]) W := by kernel_rfl
theorem iPf : (Tryz.prog.info? 55).map (·.size) = some 14 := by kernel_rfl
theorem zVt (W : World) : (zeroValue 53).run Tryz.prog W = .ok (.agg #[.int .i64 0, .int .u64 0, .int .i64 0, .int .u64 0, .int .i64 0, .int .u64 0, .slice none 0 0]) W := by kernel_rfl
theorem iVt : (Tryz.prog.info? 53).map (·.size) = some 7 := by kernel_rfl
end Go.Proofs.YtnppimhlfcjghaaGreat
namespace Go.Proofs.YtnppimhlfcjghaaGreat
open Go.RowKit Go.MapKept Go.ChangeMaps
theorem RangeW.of_walks {w w' : World} {b r : Nat} {kvs left : List (Int × Value)} (h : RangeW w b r kvs left) (hk : KeepsWalks w w') : RangeW w' b r kvs left := by
 obtain ⟨es, clk, since, seen, c0, h1, h2, h3, h4, h5⟩ := h
 exact ⟨es, clk, since, seen, c0, hk.same b _ h1 rfl, h2, h3, hk.same r _ h4 rfl, h5⟩
theorem RangeW.iter_walk {w : World} {b r : Nat} {kvs left : List (Int × Value)} (h : RangeW w b r kvs left) : ∃ o : Obj, w.heap[r]? = some o ∧ o.isWalk = true := by
 obtain ⟨es, clk, since, seen, c0, h1, h2, h3, h4, h5⟩ := h
 exact ⟨_, h4, rfl⟩
section
variable {F : Fence} {n : Nat} {P : Program} {w : World} {ops : Array Oper} {rest : List Oper} {o : Oper} {a : Act} {Q : Exit → Act → World → Prop}
theorem wpListIn_rangeW (hg : o.guard = none) (m : Operand) (t : TypeId) (hop : o.op = Op.range t m) (kt et : TypeId) (ht : P.underlying t = some (.map kt et)) (b : Nat) (kvs : List (Int × Value)) (hm : a.eval m = .map (some b)) (h : MapAt w b kvs)
    (hK : ∀ w', RangeW w' b w.heap.size kvs kvs → w.grownBy w' none → w'.heap.size = w.heap.size + 1 → wpListIn F n P ops Q rest (a.put o.dst (.pointer (some ⟨w.heap.size, 0, none⟩))) w') : wpListIn F n P ops Q (o :: rest) a w := by
 refine wpListIn_plain hg fun K' hK' => ?_
 obtain ⟨w', hrun, r1, r2, r3⟩ := h.range (P := P) ht
 unfold Oper.wpIn
 refine ⟨by simp [Oper.about, hop], ?_⟩
 rw [Oper.semAt_plain F _ _ (by rw [hop]; intro c hc'; cases hc')]
 simp [execOp, hop, hm, hrun, Result.andThen]
 exact hK' _ _ (hK w' r1 r2 r3)
theorem wpListIn_nextW (hg : o.guard = none) (it : Operand) (hop : o.op = Op.next it false) (b r : Nat) (kvs left : List (Int × Value)) (hit : a.eval it = .pointer (some ⟨r, 0, none⟩)) (h : RangeW w b r kvs left)
    (hDone : left = [] → wpListIn F n P ops Q rest (a.put o.dst (.tuple #[.bool false])) w)
    (hMore : ∀ (k : Int) (v : Value) (m1 m2 : List (Int × Value)) (w' : World), left = m1 ++ (k, v) :: m2 → RangeW w' b r kvs (m1 ++ m2) → w.grownBy w' (some r) → w'.heap.size = w.heap.size → (Instr.entry (.pointer (some ⟨r, 0, none⟩))).run P w' = .ok (.tuple #[.int .u64 k, v]) w' →
      wpListIn F n P ops Q rest (a.put o.dst (.tuple #[.bool true, .int .u64 k, v])) w') : wpListIn F n P ops Q (o :: rest) a w := by
 refine wpListIn_plain hg fun K' hK' => ?_
 unfold Oper.wpIn
 refine ⟨by simp [Oper.about, hop], ?_⟩
 rw [Oper.semAt_plain F _ _ (by rw [hop]; intro c hc'; cases hc')]
 rcases h.next (P := P) o.type with ⟨h0, hrun⟩ | ⟨k, v, m1, m2, w', hl, hrun, hrg, hgr, hsz, hen⟩
 ·simp [execOp, hop, hit, hrun, Result.andThen]
  exact hK' _ _ (hDone h0)
 ·simp [execOp, hop, hit, hrun, Result.andThen]
  exact hK' _ _ (hMore k v m1 m2 w' hl hrg hgr hsz hen)
end
set_option maxRecDepth 100000 in
set_option maxHeartbeats 1000000 in
theorem It.keys1N_in (F : Fence) (n : Nat) (h10 : F.fn 85) (hro : F.round = none) (l Bm b : Nat) (kvs : List (Int × Value)) (J : List Int → World → Prop)
    (hY : ∀ pre x W, J pre W → pre.length < kvs.length → YieldAt F (n - 1) Tryz.prog l #[.int .u64 x] W fun e W' => e = .returned (.bool true) ∧ J (pre ++ [x]) W' ∧ KeepsWalks W W')
    (hn : 1 ≤ n) (W : World) (hJ : AbidesFrom W.heap.size J) (hm : W.cell? ⟨Bm, 0, none⟩ = some (.map (some b))) (hown : MapAt W b kvs) (h0 : J [] W) :
    CallsIn F n Tryz.prog 85 #[.func (.yield l) #[] #[], .pointer (some ⟨Bm, 0, none⟩)] W fun e W' => (∃ v, e = .returned v) ∧ ∃ ss : List Int, ss.Perm (keys kvs) ∧ J ss W' := by
 refine callsIn_of_wp Tryz.func85 rfl h10 ?_ hro
 simp only [Tryz.ntmps85, List.size_toArray, List.length_cons, List.length_nil, Nat.reduceAdd, Nat.reduceSub, Array.replicate_succ, Array.replicate_zero, List.push_toArray, List.append_toArray, List.nil_append, List.cons_append]
 gi_wp2_with (first
  | (gi_at_range; refine wpListIn_rangeW rfl _ 118 rfl 23 125 Tryz.underlying118 b kvs rfl hown ?_; intro w0 hrg0 hg0 hs0)
  | gi_in)
 go_frame
 gi_loopw [3] (fun _ wr => ∃ (left : List (Int × Value)) (ss : List Int), RangeW wr b W.heap.size kvs left ∧ Hid ((ss ++ keys left).Perm (keys kvs)) ∧ J ss wr)
  (fun _ wr => wr.rangeLeft b W.heap.size)
 case atStart =>
  exact ⟨kvs, [], hrg0, List.Perm.refl _, hJ [] W w0 none h0 hg0 (fun r e => by cases e)⟩
 case round =>
  obtain ⟨left, ss, hrg, hC, hJs⟩ := hrel
  gi_wp2_with (first
   | (gi_at_next; refine wpListIn_nextW rfl _ rfl b W.heap.size kvs left rfl hrg ?_ ?_)
   | gi_in)
  ·intro hl0
   subst hl0
   gi_wp2
   go_end0
   exact ⟨⟨_, rfl⟩, ss, by have := hC.out; simpa [keys] using this, hJs⟩
  ·intro x c m1 m2 w2 hle hrg2 hg2 hs2 hen
   have HL := Lib.hid hle
   have hJ2 : J ss w2 := hJ ss wr w2 (some W.heap.size) hJs hg2 (fun r e => by cases e; exact ⟨Nat.le_refl _, hrg.iter_walk⟩)
   have hlen : ss.length < kvs.length := by
    have h1 := hC.out.length_eq
    rw [HL.out] at h1
    simp [keys] at h1
    omega
   obtain ⟨fn, tmps, assign, body, hy, hR⟩ := hY ss x w2 hJ2 hlen
   clear hs2 hle
   gi_wp2
   refine hR.mono ?_
   rintro e W3 ⟨rfl, hJ3, hk3⟩
   gi_wp2
   have hrg3 := hrg2.of_walks hk3
   go_roundw
   case rel =>
    refine ⟨m1 ++ m2, ss ++ [x], hrg3, ?_, hJ3⟩
    show List.Perm _ _
    refine List.Perm.trans ?_ hC.out
    rw [HL.out]
    simp only [keys, List.map_append, List.map_cons, List.append_assoc, List.singleton_append]
    exact List.Perm.append_left _ (List.perm_middle.symm)
   case measure => rw [hrg3.left_eq, hrg.left_eq, HL.out]; simp
theorem It.keys_gives (F : Fence) (n : Nat) (h10 : F.fn 85) (hro : F.round = none) (hn : 1 ≤ n) (Bm b : Nat) (kvs : List (Int × Value)) (w : World) (hBm : Bm < w.heap.size)
    (hm : w.cell? ⟨Bm, 0, none⟩ = some (.map (some b))) (hown : MapAt w b kvs) :
    SeqGives F n Tryz.prog 85 #[.pointer (some ⟨Bm, 0, none⟩)] (Value.int .u64) (fun ss => ss.Perm (keys kvs)) kvs.length w := fun l J W hW hJ hY h0 =>
 It.keys1N_in F n h10 hro l Bm b kvs J hY hn W hJ ((hW.cell (p := ⟨Bm, 0, none⟩) hBm).trans hm) (hown.below hW) h0
theorem It.infoU64 : (Tryz.prog.info? 23).map (fun i => (i.zero, i.size, i.bytes)) = some (some (.int .u64 0), 1, 8) := by kernel_rfl
def It.apAssign : Code := (Code.region 2 #[{ dst := some 5, op := Op.assign (Operand.tmp 7), type := 23, pos := "iter.go:51", after := #[], guard := none }] false)
def It.apBody : Code := (Code.block 1 (Code.region 3 #[{ dst := some 8, op := Op.load 25 (Operand.tmp 2), type := 25, pos := "iter.go:52", after := #[], guard := none }, { dst := some 9, op := Op.move (Operand.tmp 5), type := 23, pos := "iter.go:52", after := #[], guard := none }, { dst := some 10, op := Op.buildSlice 25 1 #[(0, Operand.tmp 9)], type := 25, pos := "iter.go:52", after := #[{ on := 1, ground := Ground.data }], guard := none }, { dst := some 11, op := Op.call { callee := Callee.builtin Builtin.append, args := #[Operand.tmp 8, Operand.tmp 10], argTypes := #[25, 25] }, type := 25, pos := "iter.go:52", after := #[{ on := 0, ground := Ground.data }, { on := 2, ground := Ground.data }], guard := none }, { dst := none, op := Op.store 25 (Operand.tmp 2) (Operand.tmp 11), type := 0, pos := "iter.go:52", after := #[{ on := 3, ground := Ground.data }, { on := 3, ground := Ground.chain }, { on := 0, ground := Ground.phase }, { on := 1, ground := Ground.phase }, { on := 2, ground := Ground.phase }, { on := 3, ground := Ground.phase }], guard := none }] false))
def It.apRec (fn : FuncId) (sv : Value) (Bs D : Nat) (st : LoopState) (pend : Option Code) : Loop :=
 { state := st, pending := pend, fn, tmps := #[.slice none 0 0, sv, .pointer (some ⟨Bs, 0, none⟩), undef, .slice none 0 0, undef, sv, undef, undef, undef, undef, undef, undef], params := #[7], assign := It.apAssign, body := It.apBody, defers := D }
structure It.ApAt (w0 : World) (fn : FuncId) (sv : Value) (Bs l D : Nat) (ss : List Int) (W : World) : Prop where
 box : ∃ v, W.heap[Bs]? = some (.cells #[v] 25 (0, 0)) ∧ W.ownsRow w0.heap.size 23 1 v ss.length (ss.map (Value.int .u64)) ∧ (v = .slice none 0 0 ↔ ss = [])
 L : W.heap[l]? = some (.loop (It.apRec fn sv Bs D .ready none))
 K : W.heap[D]? = some (.deferred (some []))
 below : Below w0.heap.size w0 W
theorem It.ap_abides (w0 : World) (fn : FuncId) (sv : Value) (Bs l D B : Nat) (hB : w0.heap.size ≤ B) : AbidesFrom B (It.ApAt w0 fn sv Bs l D) := fun s W W' row h hg hrow => by
 have hrow' : ∀ r, row = some r → ∃ o : Obj, W.heap[r]? = some o ∧ o.isWalk = true := fun r e => (hrow r e).2
 obtain ⟨v, hv, hr, hn⟩ := h.box
 exact ⟨⟨v, (grownBy_keeps hg hrow' hv rfl).trans hv, ownsRow_abides_a hr hg hrow', hn⟩, (grownBy_keeps hg hrow' h.L rfl).trans h.L, (grownBy_keeps hg hrow' h.K rfl).trans h.K,
  h.below.grown hg h.below.size (fun k e => Nat.le_trans hB (hrow k e).1)⟩
set_option maxRecDepth 100000 in
set_option maxHeartbeats 2000000 in
theorem It.apYield (F : Fence) (m : Nat) (w0 : World) (fn : FuncId) (hfn : F.fn fn) (sv : Value) (Bs l D : Nat) (hBl : Bs ≠ l) (hDl : D ≠ l) (hDB : D ≠ Bs) (h0B : w0.heap.size ≤ Bs) (h0l : w0.heap.size ≤ l)
    (N : Nat) (hN : N ≤ maxLen) (hNb : N * 8 ≤ 140737488355328) (ss : List Int) (x : Int) (W : World) (h : It.ApAt w0 fn sv Bs l D ss W) (hlen : ss.length < N) :
    YieldAt F m Tryz.prog l #[(Value.int .u64) x] W fun e W' => e = .returned (.bool true) ∧ It.ApAt w0 fn sv Bs l D (ss ++ [x]) W' ∧ KeepsWalks W W' := by
 have hne : 25 ≠ 23 := by decide
 obtain ⟨i0, hi, hz⟩ := Option.map_eq_some_iff.1 It.infoU64
 simp only [Prod.mk.injEq] at hz
 obtain ⟨hz0, hz1, hz2⟩ := hz
 obtain ⟨v, hv, hrow, _⟩ := h.box
 refine ⟨fn, #[.slice none 0 0, sv, .pointer (some ⟨Bs, 0, none⟩), undef, .slice none 0 0, undef, sv, (Value.int .u64) x, undef, undef, undef, undef, undef], It.apAssign, It.apBody, by simpa [It.apRec] using run_yield (P := Tryz.prog) (args := #[(Value.int .u64) x]) h.L rfl, roundIn_of_wpIn hfn ?_⟩
 have hl : l < W.heap.size := (Array.getElem?_eq_some_iff.1 h.L).1
 have hbr := run_beginRound (P := Tryz.prog) h.L rfl
 obtain ⟨W2, hW2⟩ : ∃ W2, W.putObj l (.loop { It.apRec fn sv Bs D .ready none with state := .busy }) = W2 := ⟨_, rfl⟩
 rw [hW2] at hbr
 have hg2 : W.grownBy W2 (some l) := by rw [← hW2]; exact grownBy_putObj_a _ _ _
 have hk2 : KeepsWalks W W2 := by rw [← hW2]; exact KeepsWalks.putObj _ h.L rfl
 have hv2 : W2.heap[Bs]? = some (.cells #[v] 25 (0, 0)) := by rw [← hW2]; exact (World.putObj_heap_other hBl).trans hv
 have hK2 : W2.heap[D]? = some (.deferred (some [])) := by rw [← hW2]; exact (World.putObj_heap_other hDl).trans h.K
 have hL2 : W2.heap[l]? = some (.loop { It.apRec fn sv Bs D .ready none with state := .busy }) := by rw [← hW2]; exact World.putObj_heap_same hl
 have hrow2 : W2.ownsRow w0.heap.size 23 1 v ss.length (ss.map (Value.int .u64)) := hrow.kept hg2 (ownsRow_ne_a hrow h.L (fun cur e => by first | cases e | exact hne (Obj.cells.inj e).2.1))
 have hb2 : Below w0.heap.size w0 W2 := h.below.grown hg2 h.below.size (fun k e => by cases e; exact h0l)
 obtain ⟨hc2, hf2⟩ := cell_of_box_a hv2
 have hBlt : Bs < W2.heap.size := (Array.getElem?_eq_some_iff.1 hv2).1
 have hl2 : l < W2.heap.size := (Array.getElem?_eq_some_iff.1 hL2).1
 have hDlt : D < W2.heap.size := (Array.getElem?_eq_some_iff.1 hK2).1
 have ne_of : ∀ {j : Nat} {o : Obj}, W2.heap[j]? = some o → (∀ cur, o ≠ .cells cur 23 (0, 0)) → some j ≠ v.ownBlock := fun hj hno => by
  rcases ownsRow_ne_a hrow2 hj hno with e | e
  ·rw [e]; simp
  ·exact fun e' => e e'.symm
 clear hW2
 unfold It.apAssign
 gi_wp2_with gi_round_op_a
 unfold It.apBody
 gi_wp2_with (first
  | (gi_at_builtin; refine wpListIn_append_own _ rfl _ _ 25 rfl w0.heap.size 23 i0 (.int .u64 0) 1 8 Tryz.underlying25 hi hz0 hz1 hz2 rfl (by decide) _ _ _ rfl (hrow2.alloc _) ⟨W2.heap.size, 0, none⟩ 1 1 [(Value.int .u64) x] rfl rfl (cell_one_new _ _ _) (by simp [Value.oneCell']) (by omega) (by omega) (by have := hb2.size; simp; omega) ?_; intro v' w3 hown' hg3 hnil3
     have hv3 : w3.heap[Bs]? = some (.cells #[v] 25 (0, 0)) := (hg3.block Bs (by simp; omega) (ne_of hv2 (fun cur e => by first | cases e | exact hne (Obj.cells.inj e).2.1))).trans ((Below.heap_alloc _ _ Bs hBlt).trans hv2)
     obtain ⟨hc3, hf3⟩ := cell_of_box_a hv3
     obtain ⟨g', cap', cur', rfl, hbase', hgb', hr1, hr2, hr3, hr4⟩ : ∃ g' cap' cur', v' = .slice (some ⟨g', 0, none⟩) (ss.length + 1) cap' ∧ w0.heap.size ≤ g' ∧ w3.heap[g']? = some (.cells cur' 23 (0, 0)) ∧ ss.length + 1 ≤ cap' ∧ cap' ≤ maxLen ∧ cur'.size = cap' * 1 ∧ cur'.toList.take ((ss.length + 1) * 1) = ss.map (Value.int .u64) ++ [(Value.int .u64) x] := by
      rcases hown'.2 with ⟨_, h0⟩ | h'
      ·exact absurd h0 (by omega)
      ·exact h'
     go_frame)
  | gi_round_op_a)
 have hg3' : (W2.alloc (.cells #[(Value.int .u64) x] 23)).grownBy w3 v.ownBlock := hg3
 have hL3 : w3.heap[l]? = some (.loop { It.apRec fn sv Bs D .ready none with state := .busy }) := (hg3'.block l (by simp; omega) (ne_of hL2 (fun cur e => by first | cases e | exact hne (Obj.cells.inj e).2.1))).trans ((Below.heap_alloc _ _ l hl2).trans hL2)
 have hK3 : w3.heap[D]? = some (.deferred (some [])) := (hg3'.block D (by simp; omega) (ne_of hK2 (fun cur e => by first | cases e | exact hne (Obj.cells.inj e).2.1))).trans ((Below.heap_alloc _ _ D hDlt).trans hK2)
 obtain ⟨w4, hw4⟩ : ∃ w4, w3.setCell ⟨Bs, 0, none⟩ (.slice (some ⟨g', 0, none⟩) (ss.length + 1) cap') = w4 := ⟨_, rfl⟩
 rw [hw4]
 have hg4 : w3.grownBy w4 (some Bs) := by rw [← hw4]; exact grownBy_setCell0_a _ _ _
 have hv4 : w4.heap[Bs]? = some (.cells #[.slice (some ⟨g', 0, none⟩) (ss.length + 1) cap'] 25 (0, 0)) := by rw [← hw4]; exact heap_setCell_box_a _ hv3
 have hL4 : w4.heap[l]? = some (.loop { It.apRec fn sv Bs D .ready none with state := .busy }) := (hg4.block l (Array.getElem?_eq_some_iff.1 hL3).1 (fun e => hBl (by cases e; rfl))).trans hL3
 have hK4 : w4.heap[D]? = some (.deferred (some [])) := (hg4.block D (Array.getElem?_eq_some_iff.1 hK3).1 (fun e => hDB (by cases e; rfl))).trans hK3
 have hrow4 := hown'.kept hg4 (ownsRow_ne_a hown' hv3 (fun cur e => by first | cases e | exact hne (Obj.cells.inj e).2.1))
 have hl4 : l < w4.heap.size := (Array.getElem?_eq_some_iff.1 hL4).1
 have hb3 : Below w0.heap.size w0 w3 := (hb2.alloc hb2.size _).grown hg3' (by have := hb2.size; simp; omega) (fun k e => (hrow2.lt k e).1)
 have hb4 : Below w0.heap.size w0 w4 := hb3.grown hg4 hb3.size (fun k e => by cases e; exact h0B)
 have hk4 : KeepsWalks W w4 := ((hk2.trans (KeepsWalks.alloc _ _)).trans (KeepsWalks.of_grownBy hg3' (ownsRow_not_walk_a (hrow2.alloc _)))).trans (by rw [← hw4]; exact KeepsWalks.setCell _ _ _)
 clear hw4
 refine ⟨_, _, run_endRound none hL4, rfl, ⟨⟨_, (World.putObj_heap_other hBl).trans hv4, ?_, by simp⟩, World.putObj_heap_same hl4, (World.putObj_heap_other hDl).trans hK4, hb4.grown (grownBy_putObj_a _ _ _) hb4.size (fun k e => by cases e; exact h0l)⟩, hk4.trans (KeepsWalks.putObj _ hL4 rfl)⟩
 have := hrow4.kept (grownBy_putObj_a w4 l (.loop { { It.apRec fn sv Bs D .ready none with state := .busy } with state := if (none : Option Code).isNone then .ready else .done, pending := none })) (ownsRow_ne_a hrow4 hL4 (fun cur e => by first | cases e | exact hne (Obj.cells.inj e).2.1))
 simpa using this
set_option maxRecDepth 100000 in
set_option maxHeartbeats 2000000 in
theorem It.appendSeq_in (F : Fence) (n : Nat) (h11 : F.fn 92) (hro : F.round = none) (hn : 2 ≤ n) (g : Nat) (lb : Array Value) (hFg : F.fn g) (eg : ∀ args w, (callFunc g args).run Tryz.prog w = .ok (.enter g args) w)
    (S : List Int → Prop) (N : Nat) (hN : N ≤ maxLen) (hNb : N * 8 ≤ 140737488355328) (w : World) (hseq : SeqGives F (n - 1) Tryz.prog g lb (Value.int .u64) S N w) :
    CallsIn F n Tryz.prog 92 #[.slice none 0 0, .func (.func g) #[] lb] w fun e w' => ∃ (v : Value) (ss : List Int), e = .returned v ∧ S ss ∧ w'.ownsRow w.heap.size 23 1 v ss.length (ss.map (Value.int .u64)) ∧ (v = .slice none 0 0 ↔ ss = []) ∧ Below w.heap.size w w' := by
 have h1 : 1 ≤ n := by omega
 have hne : 25 ≠ 23 := by decide
 refine callsIn_of_wp_marks Tryz.func92 rfl h11 ?_ hro
 simp only [Tryz.ntmps92, List.size_toArray, List.length_cons, List.length_nil, Nat.reduceAdd, Nat.reduceSub, Array.replicate_succ, Array.replicate_zero, List.push_toArray, List.append_toArray, List.nil_append, List.cons_append]
 gi_wp2
 refine wpIn_rangeFunc ?_
 intro fn hfn
 rw [hro]
 obtain ⟨W0, hW0⟩ : ∃ W0, w.alloc (.cells #[.slice none 0 0] 25) = W0 := ⟨_, rfl⟩
 have hs0 : W0.heap.size = w.heap.size + 1 := by rw [← hW0]; simp
 have hv0 : W0.heap[w.heap.size]? = some (.cells #[.slice none 0 0] 25 (0, 0)) := by rw [← hW0]; exact World.alloc_heap_new w _
 have hb0 : Below w.heap.size w W0 := by rw [← hW0]; exact (Below.refl _ w).alloc (Nat.le_refl _) _
 rw [hW0]
 obtain ⟨W1, hW1⟩ : ∃ W1, (W0.alloc (.deferred (some []))).alloc (.loop (It.apRec fn (.func (.func g) #[] lb) w.heap.size W0.heap.size .ready none)) = W1 := ⟨_, rfl⟩
 have hold : ∀ k, k < W0.heap.size → W1.heap[k]? = W0.heap[k]? := fun k hk => by
  rw [← hW1]; exact (Below.heap_alloc _ _ k (by simp; omega)).trans (Below.heap_alloc _ _ k hk)
 have hb1 : Below w.heap.size w W1 := by rw [← hW1]; exact (hb0.alloc hb0.size _).alloc (by have := hb0.size; simp; omega) _
 have hs1 : W1.heap.size = W0.heap.size + 2 := by rw [← hW1]; simp
 have hM : It.ApAt w fn (.func (.func g) #[] lb) w.heap.size (W0.heap.size + 1) W0.heap.size [] W1 :=
  ⟨⟨_, (hold w.heap.size (by omega)).trans hv0, ⟨rfl, .inl ⟨rfl, rfl⟩⟩, by simp⟩,
   by rw [← hW1]; have := World.alloc_heap_new (W0.alloc (.deferred (some []))) (.loop (It.apRec fn (.func (.func g) #[] lb) w.heap.size W0.heap.size .ready none)); rwa [World.size_alloc] at this,
   by rw [← hW1]; exact (Below.heap_alloc _ _ _ (by simp)).trans (World.alloc_heap_new W0 _), hb1⟩
 refine ⟨W0.heap.size + 1, [{ target := .collected W0.heap.size, args := #[] }], W1, { target := .fn (.func g) lb, args := #[.func (.yield (W0.heap.size + 1)) #[] #[]] }, W1, g,
  #[.func (.yield (W0.heap.size + 1)) #[] #[]] ++ lb, W1, ?_, ?_, ?_, ?_, fun _ => h1, ?_⟩
 ·rw [← hW1]; exact run_enterLoop_outer _ _ _ _ _
 ·simp [resolve, go_sem]
 ·intro f' hf'; simp [Target.leads] at hf'; subst hf'; exact hFg
 ·simp [invoke, go_sem, eg]
 ·refine (hseq (W0.heap.size + 1) (It.ApAt w fn (.func (.func g) #[] lb) w.heap.size (W0.heap.size + 1) W0.heap.size) W1 hb1 (It.ap_abides _ _ _ _ _ _ _ hb1.size)
     (fun pre x W hJ hl => It.apYield F (n - 1 - 1) w fn hfn _ w.heap.size (W0.heap.size + 1) W0.heap.size (by omega) (by omega) (by omega) (Nat.le_refl _) (by omega) N hN hNb pre x W hJ hl) hM).mono ?_
  rintro e W2 ⟨⟨v0, rfl⟩, ss, hS, h2⟩
  obtain ⟨v, hv, hrow, hnil⟩ := h2.box
  have hend := run_endLoop (P := Tryz.prog) h2.L (by simp [It.apRec])
  obtain ⟨W3, hW3⟩ : ∃ W3, W2.putObj (W0.heap.size + 1) (.loop { It.apRec fn (.func (.func g) #[] lb) w.heap.size W0.heap.size .ready none with state := .exhausted }) = W3 := ⟨_, rfl⟩
  rw [hW3] at hend
  have hg3 : W2.grownBy W3 (some (W0.heap.size + 1)) := by rw [← hW3]; exact grownBy_putObj_a _ _ _
  have hv3 : W3.heap[w.heap.size]? = some (.cells #[v] 25 (0, 0)) := by rw [← hW3]; exact (World.putObj_heap_other (by omega)).trans hv
  have hK3 : W3.heap[W0.heap.size]? = some (.deferred (some [])) := by rw [← hW3]; exact (World.putObj_heap_other (by omega)).trans h2.K
  have hrow3 := hrow.kept hg3 (ownsRow_ne_a hrow h2.L (fun cur e => by first | cases e | exact hne (Obj.cells.inj e).2.1))
  have hb3 : Below w.heap.size w W3 := h2.below.grown hg3 h2.below.size (fun k e => by cases e; omega)
  obtain ⟨hc3, hf3⟩ := cell_of_box_a hv3
  clear hW3
  refine ⟨none, W3, hend, ?_⟩
  gi_wp2
  rw [← hs0]
  refine ⟨by simp, .inl ⟨_, _, rfl, run_takeDeferred hK3, ?_⟩⟩
  exact ⟨_, results_tmp rfl _ _ _, v, ss, rfl, hS, hrow3.kept (grownBy_putObj_a _ _ _) (ownsRow_ne_a hrow3 hK3 (fun cur e => by first | cases e | exact hne (Obj.cells.inj e).2.1)), hnil, hb3.grown (grownBy_putObj_a _ _ _) hb3.size (fun k e => by cases e; omega)⟩
end Go.Proofs.YtnppimhlfcjghaaGreat
