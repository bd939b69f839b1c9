/- vote.Right, vote.Same; slash.Double, Around, Bad. -/
import Derived.Test.YtnppimhlfcjghaaLeaf
import Derived.Laws.StructEq
namespace Go.Proofs.Ytnppimhlfcjghaa
open Go.RowKit
set_option maxRecDepth 100000
set_option maxHeartbeats 4000000

theorem eqPt (w : World) (a b : Int) (c d : Int) : (binOp .eql 47 (.agg #[.int .i64 a, .int .u64 b]) (.agg #[.int .i64 c, .int .u64 d])).run Try.prog w = .ok (.bool (a == c && b == d)) w := by
  have u3 := Try.underlying3
  have u28 := Try.underlying28
  have a3 := Try.isAgg3
  have z3 := Try.sizeOf3
  have a28 := Try.isAgg28
  have z28 := Try.sizeOf28
  have hS : Try.prog.underlying 47 = some (.struct (Try.prog.fieldsOf 47)) := by kernel_rfl
  have hp : Try.prog.stoodInHeld 47 = false := by kernel_rfl
  rw [run_eql_struct, show (10000 : Nat) = 9999 + 1 from rfl, run_equalIn_struct w 9999 47 _ _ hS hp]
  simp only [Program.fieldsOf, Try.underlying47]
  go_simp
  by_cases h1 : a = c <;> by_cases h2 : b = d <;> simp [h1, h2]
theorem guardPt (w : World) (op : BinOp) (x y : Operand) (xs ys : Array Value) : (eqGuard op 47 x y (.agg xs) (.agg ys)).run Try.prog w = .ok () w := run_eqGuard_agg w op _ x y xs ys (by kernel_rfl)
theorem ptEq (p q : Pt) : (p == q) = (p.e == q.e && p.r == q.r) := by
  cases p; cases q
  rw [Bool.eq_iff_iff]
  simp
theorem Same_calls (w : World) (a b : Vt) (A1 : Option Addr) (k1 : Nat) (A2 : Option Addr) (k2 : Nat) :
    Calls Try.prog 75 #[.agg #[.int .i64 a.slot, .int .u64 a.head, .int .i64 a.src.e, .int .u64 a.src.r, .int .i64 a.tgt.e, .int .u64 a.tgt.r, .slice A1 a.who.length k1], .agg #[.int .i64 b.slot, .int .u64 b.head, .int .i64 b.src.e, .int .u64 b.src.r, .int .i64 b.tgt.e, .int .u64 b.tgt.r, .slice A2 b.who.length k2]] w fun e w' => e = .returned (.bool (sameB a b)) ∧ Below w.heap.size w w' := by
  have hg := guardPt
  have he := eqPt
  go_enter Try.func75, Try.ntmps75
  go_wp2
  all_goals
    go_ret
    refine ⟨ret_bool ?_, below_alloc (below_alloc (Below.refl _ _) _) _⟩
    show _ = sameB a b
    simp only [sameB]
    first
      | simp_all [ptEq]
theorem two_boxes (w : World) (a b : Vt) (A1 : Option Addr) (k1 : Nat) (A2 : Option Addr) (k2 : Nat) :
    (((w.alloc (.cells #[.int .i64 a.slot, .int .u64 a.head, .int .i64 a.src.e, .int .u64 a.src.r, .int .i64 a.tgt.e, .int .u64 a.tgt.r, .slice A1 a.who.length k1] 62)).alloc (.cells #[.int .i64 b.slot, .int .u64 b.head, .int .i64 b.src.e, .int .u64 b.src.r, .int .i64 b.tgt.e, .int .u64 b.tgt.r, .slice A2 b.who.length k2] 62)).heap[w.heap.size]? = some (.cells #[.int .i64 a.slot, .int .u64 a.head, .int .i64 a.src.e, .int .u64 a.src.r, .int .i64 a.tgt.e, .int .u64 a.tgt.r, .slice A1 a.who.length k1] 62 (0, 0))) ∧
    (((w.alloc (.cells #[.int .i64 a.slot, .int .u64 a.head, .int .i64 a.src.e, .int .u64 a.src.r, .int .i64 a.tgt.e, .int .u64 a.tgt.r, .slice A1 a.who.length k1] 62)).alloc (.cells #[.int .i64 b.slot, .int .u64 b.head, .int .i64 b.src.e, .int .u64 b.src.r, .int .i64 b.tgt.e, .int .u64 b.tgt.r, .slice A2 b.who.length k2] 62)).heap[w.heap.size + 1]? = some (.cells #[.int .i64 b.slot, .int .u64 b.head, .int .i64 b.src.e, .int .u64 b.src.r, .int .i64 b.tgt.e, .int .u64 b.tgt.r, .slice A2 b.who.length k2] 62 (0, 0))) ∧
    Below w.heap.size w ((w.alloc (.cells #[.int .i64 a.slot, .int .u64 a.head, .int .i64 a.src.e, .int .u64 a.src.r, .int .i64 a.tgt.e, .int .u64 a.tgt.r, .slice A1 a.who.length k1] 62)).alloc (.cells #[.int .i64 b.slot, .int .u64 b.head, .int .i64 b.src.e, .int .u64 b.src.r, .int .i64 b.tgt.e, .int .u64 b.tgt.r, .slice A2 b.who.length k2] 62)) ∧
    ((w.alloc (.cells #[.int .i64 a.slot, .int .u64 a.head, .int .i64 a.src.e, .int .u64 a.src.r, .int .i64 a.tgt.e, .int .u64 a.tgt.r, .slice A1 a.who.length k1] 62)).alloc (.cells #[.int .i64 b.slot, .int .u64 b.head, .int .i64 b.src.e, .int .u64 b.src.r, .int .i64 b.tgt.e, .int .u64 b.tgt.r, .slice A2 b.who.length k2] 62)).heap.size = w.heap.size + 2 :=
  ⟨blk_below (heap_new w _) (below_alloc (Below.refl _ _) _), heap_new1 w _ _, below_alloc (below_alloc (Below.refl _ _) _) _, by simp⟩
theorem vt7' {w : World} {P : Nat} {v : Vt} {A : Option Addr} {c : Nat} {T : TypeId} {f : Nat × Nat} (h : w.heap[P]? = some (.cells #[.int .i64 v.slot, .int .u64 v.head, .int .i64 v.src.e, .int .u64 v.src.r, .int .i64 v.tgt.e, .int .u64 v.tgt.r, .slice A v.who.length c] T f)) : w.cell? ⟨P, 0, none⟩ = some (.int .i64 v.slot) ∧ w.cell? ⟨P, 1, none⟩ = some (.int .u64 v.head) ∧ w.cell? ⟨P, 2, none⟩ = some (.int .i64 v.src.e) ∧ w.cell? ⟨P, 3, none⟩ = some (.int .u64 v.src.r) ∧
    w.cell? ⟨P, 4, none⟩ = some (.int .i64 v.tgt.e) ∧ w.cell? ⟨P, 5, none⟩ = some (.int .u64 v.tgt.r) ∧ w.cell? ⟨P, 6, none⟩ = some (.slice A v.who.length c) :=
  ⟨blk_cell h 0, blk_cell h 1, blk_cell h 2, blk_cell h 3, blk_cell h 4, blk_cell h 5, blk_cell h 6⟩
theorem Double_calls (w : World) (a b : Vt) (A1 : Option Addr) (k1 : Nat) (A2 : Option Addr) (k2 : Nat) :
    Calls Try.prog 66 #[.agg #[.int .i64 a.slot, .int .u64 a.head, .int .i64 a.src.e, .int .u64 a.src.r, .int .i64 a.tgt.e, .int .u64 a.tgt.r, .slice A1 a.who.length k1], .agg #[.int .i64 b.slot, .int .u64 b.head, .int .i64 b.src.e, .int .u64 b.src.r, .int .i64 b.tgt.e, .int .u64 b.tgt.r, .slice A2 b.who.length k2]] w fun e w' => e = .returned (.bool (doubleB a b)) ∧ Below w.heap.size w w' := by
  obtain ⟨h1, h2, h3, h4⟩ := two_boxes w a b A1 k1 A2 k2
  cases he : (a.tgt.e == b.tgt.e) with
  | false =>
    have HE : Hid (doubleB a b = false) := by show _ = _; rw [doubleB, he]; rfl
    go_enter Try.func66, Try.ntmps66
    go_wp2_with (go_at_call 75; refine (Same_calls _ a b A1 k1 A2 k2).mono ?_; rintro e w1 ⟨rfl, hb1⟩)
    go_ret
    exact ⟨by rw [HE.out]; rfl, h3⟩
  | true =>
    have HE : Hid (doubleB a b = !sameB a b) := by show _ = _; rw [doubleB, he]; rfl
    go_enter Try.func66, Try.ntmps66
    go_wp2_with (go_at_call 75; refine (Same_calls _ a b A1 k1 A2 k2).mono ?_; rintro e w1 ⟨rfl, hb1⟩)
    go_ret
    exact ⟨by rw [HE.out]; rfl, below_then h3 (by omega) hb1⟩
theorem Around_calls (w : World) (a b : Vt) (A1 : Option Addr) (k1 : Nat) (A2 : Option Addr) (k2 : Nat) :
    Calls Try.prog 67 #[.agg #[.int .i64 a.slot, .int .u64 a.head, .int .i64 a.src.e, .int .u64 a.src.r, .int .i64 a.tgt.e, .int .u64 a.tgt.r, .slice A1 a.who.length k1], .agg #[.int .i64 b.slot, .int .u64 b.head, .int .i64 b.src.e, .int .u64 b.src.r, .int .i64 b.tgt.e, .int .u64 b.tgt.r, .slice A2 b.who.length k2]] w fun e w' => e = .returned (.bool (aroundB a b)) ∧ Below w.heap.size w w' := by
  go_enter Try.func67, Try.ntmps67
  go_wp2
  all_goals
    go_ret
    refine ⟨ret_bool ?_, below_alloc (below_alloc (Below.refl _ _) _) _⟩
    show _ = aroundB a b
    simp only [aroundB]
    first
      | (rw [show decide (a.src.e < b.src.e) = true from by simp; omega]; rfl)
      | (rw [show decide (a.src.e < b.src.e) = false from by simp; omega]; rfl)
theorem Bad_calls (w : World) (a b : Vt) (A1 : Option Addr) (k1 : Nat) (A2 : Option Addr) (k2 : Nat) :
    Calls Try.prog 44 #[.agg #[.int .i64 a.slot, .int .u64 a.head, .int .i64 a.src.e, .int .u64 a.src.r, .int .i64 a.tgt.e, .int .u64 a.tgt.r, .slice A1 a.who.length k1], .agg #[.int .i64 b.slot, .int .u64 b.head, .int .i64 b.src.e, .int .u64 b.src.r, .int .i64 b.tgt.e, .int .u64 b.tgt.r, .slice A2 b.who.length k2]] w fun e w' => e = .returned (.bool (badB a b)) ∧ Below w.heap.size w w' := by
  obtain ⟨h1, h2, h3, h4⟩ := two_boxes w a b A1 k1 A2 k2
  have cD := fun W => Double_calls W a b A1 k1 A2 k2
  have cA := fun W => Around_calls W a b A1 k1 A2 k2
  have cB := fun W => Around_calls W b a A2 k2 A1 k1
  cases hd : doubleB a b with
  | true =>
    rw [hd] at cD
    have HE : Hid (badB a b = true) := by show _ = _; rw [badB, hd]; rfl
    go_enter Try.func44, Try.ntmps44
    go_wp2_with (go_at_call 66; refine (cD _).mono ?_; rintro e w1 ⟨rfl, hb1⟩)
    go_ret
    exact ⟨by rw [HE.out]; rfl, below_then h3 (by omega) hb1⟩
  | false =>
    rw [hd] at cD
    cases ha : aroundB a b with
    | true =>
      rw [ha] at cA
      have HE : Hid (badB a b = true) := by show _ = _; rw [badB, hd, ha]; rfl
      go_enter Try.func44, Try.ntmps44
      go_wp2_with (first
        | (go_at_call 66; refine (cD _).mono ?_; rintro e w1 ⟨rfl, hb1⟩; obtain ⟨x0, x1, x2, x3, x4, x5, x6⟩ := vt7' (blk_below h1 hb1); obtain ⟨y0, y1, y2, y3, y4, y5, y6⟩ := vt7' (blk_below h2 hb1))
        | (go_at_call 67; refine (cA _).mono ?_; rintro e w2 ⟨rfl, hb2⟩))
      go_ret
      exact ⟨by rw [HE.out]; rfl, below_then h3 (by omega) (below_trans hb1 hb2)⟩
    | false =>
      rw [ha] at cA
      have HE : Hid (badB a b = aroundB b a) := by show _ = _; rw [badB, hd, ha]; rfl
      have tok : True := trivial
      go_enter Try.func44, Try.ntmps44
      go_wp2_with (first
        | (go_at_call 66; refine (cD _).mono ?_; rintro e w1 ⟨rfl, hb1⟩; obtain ⟨x0, x1, x2, x3, x4, x5, x6⟩ := vt7' (blk_below h1 hb1); obtain ⟨y0, y1, y2, y3, y4, y5, y6⟩ := vt7' (blk_below h2 hb1))
        | (go_at_call 67; have _t := tok; refine (cA _).mono ?_; rintro e w2 ⟨rfl, hb2⟩; obtain ⟨u0, u1, u2, u3, u4, u5, u6⟩ := vt7' (blk_below (blk_below h1 hb1) hb2); obtain ⟨v0, v1, v2, v3, v4, v5, v6⟩ := vt7' (blk_below (blk_below h2 hb1) hb2); clear _t tok)
        | (go_at_call 67; refine (cB _).mono ?_; rintro e w3 ⟨rfl, hb3⟩))
      go_ret
      exact ⟨by rw [HE.out]; rfl, below_then h3 (by omega) (below_trans (below_trans hb1 hb2) hb3)⟩
end Go.Proofs.Ytnppimhlfcjghaa
